/- SL, part 6: maps with keys that are strings or integers: lookup, update, delete. No condition. -/
import Derived.Test.YtlplemdmegpoeaaGreatDoorB1
import GoSem.Instr.MapUpdate
import GoSem.Builtin.Delete
import Derived.MapKept
import Derived.Lib.ConvBytes
import Derived.Laws.BytesArg
import Derived.Laws.Strings
import Derived.Below
import Derived.Sort.KeysCollected
import Derived.Maps.Own
import Derived.Laws.BitsAllLaws
import Derived.Lib.BitFns
import Derived.KernelRfl
import Derived.Lib.AppendZeros
import Derived.Laws.RangeAny
import Derived.Laws.MakeOwn
import Derived.Laws.Externs
namespace Go.VC
set_option linter.unusedVariables false
set_option linter.unusedSimpArgs false
class KeyK (α:Type) [BEq α] where
 enc:α→Value
 desc:TypeDesc
 same:∀ a b,Instr.sameNow desc (enc a) (enc b)=some (a==b)
 bits:∀ a,Instr.sameBits 10000 (enc a) (enc a)=true
 eq:∀ a b:α,(a==b)=true→a=b
 check:∀ (P:Program) (em:Bool) (K:TypeId) (a:α) (w:World),P.underlying K=some desc→(Instr.checkKey em 10000 K (enc a)).run P w=.ok () w
instance:KeyK ByteArray where
 enc:=Value.string
 desc:=.string
 same a b:=rfl
 bits a:=by
  have:∀ n,Instr.sameBits n (.string a) (.string a)=(a==a):=fun n=>by cases n<;>rfl
  rw [this];exact (MapKept.bytes_beq a a).2 rfl
 eq a b h:=(MapKept.bytes_beq a b).1 h
 check P em K a w h:=by
  show (Instr.checkKey em (9999 + 1) K (.string a)).run P w=_
  unfold Instr.checkKey
  simp [run_underlying h]
variable {α:Type} [BEq α] [KeyK α]
abbrev En (α:Type):=α × Value × Nat
def mkE (e:En α):MapEntry:={ key:=KeyK.enc e.1,val:=e.2.1,born:=e.2.2 }
def getE (k:α):List (En α)→Option Value
 |[]=>none
 |e::es=>if k==e.1 then some e.2.1 else getE k es
def setE (k:α) (v:Value):List (En α)→List (En α)
 |[]=>[]
 |e::es=>if k==e.1 then (e.1,v,e.2.2)::es else e::setE k v es
def hasE (k:α) (es:List (En α)):Bool:=(getE k es).isSome
def putE (k:α) (v:Value) (es:List (En α)) (clock:Nat):List (En α):=if hasE k es then setE k v es else es++[(k,v,clock)]
def idxE (k:α):List (En α)→Nat→Option (Nat × Value)
 |[],_=>none
 |e::es,i=>if k==e.1 then some (i,e.2.1) else idxE k es (i + 1)
theorem findNow_eq (k:α):∀ (es:List (En α)) (i:Nat),Instr.findNow (KeyK.desc α) (KeyK.enc k) (es.map mkE) i=some (idxE k es i)
 |[],_=>rfl
 |e::es,i=>by
  rw [List.map_cons,Instr.findNow,mkE,KeyK.same,idxE]
  cases h:(k==e.1)
  ·simpa using findNow_eq k es (i + 1)
  ·rfl
omit [KeyK α] in
theorem idxE_val (k:α):∀ (es:List (En α)) (i:Nat),(idxE k es i).map (·.2)=getE k es
 |[],_=>rfl
 |e::es,i=>by
  rw [idxE,getE]
  cases h:(k==e.1)
  ·exact idxE_val k es (i + 1)
  ·rfl
theorem run_findKey {P:Program} {K:TypeId} (hK:P.underlying K=some (KeyK.desc α)) (k:α) (es:List (En α)) (w:World):
  (Instr.findKey K (KeyK.enc k) (es.map mkE)).run P w=.ok (idxE k es 0) w:=by
 unfold Instr.findKey
 simp [run_underlying hK,findNow_eq]
theorem run_keyThatStays {P:Program} (k:α) (w:World):(Instr.keyThatStays (KeyK.enc k) (KeyK.enc k)).run P w=.ok (KeyK.enc k) w:=by
 unfold Instr.keyThatStays
 rw [if_pos (KeyK.bits k)];rfl
theorem lookup_run {P:Program} {T K E:TypeId} (hT:P.underlying T=some (.map K E)) (hK:P.underlying K=some (KeyK.desc α)) {z:Value} (hz:∀ w,(zeroValue E).run P w=.ok z w)
  {w:World} {m clock:Nat} {es:List (En α)} (hm:w.heap[m]? =some (.map (es.map mkE).toArray clock)) (k:α) (c:Bool):
  (Instr.lookup T (.map (some m)) (KeyK.enc k) c).run P w=.ok (if c then .tuple #[(getE k es).getD z,.bool (hasE k es)] else (getE k es).getD z) w:=by
 have hv:=idxE_val k es 0
 have hck:=KeyK.check P (es.map mkE).toArray.isEmpty K k w hK
 have hfk:=run_findKey hK k es w
 unfold Instr.lookup
 cases hi:idxE k es 0 with
 |none=>
  rw [hi] at hv hfk
  simp only [Option.map_none] at hv
  simp only [Sem.run_bind,run_underlying hT,Result.andThen,MapKept.run_getObj_map hm,Sem.run_pure,hck,hfk,hz,hasE,←hv]
  rfl
 |some p=>
  rw [hi] at hv hfk
  simp only [Option.map_some] at hv
  simp only [Sem.run_bind,run_underlying hT,Result.andThen,MapKept.run_getObj_map hm,Sem.run_pure,hck,hfk,hasE,←hv]
  rfl
omit [KeyK α] in
theorem idxE_set (k:α):∀ (es:List (En α)) (i:Nat),(∀ p,idxE k es i=some p→i≤p.1)
 |[],i,p,h=>by cases h
 |e::es,i,p,h=>by
  rw [idxE] at h
  cases hk:(k==e.1)
  ·rw [hk] at h;have:=idxE_set k es (i + 1) p (by simpa using h);omega
  ·rw [hk] at h;simp at h;subst h;exact Nat.le_refl _
theorem modify_eq (k:α) (v:Value):∀ (es:List (En α)) (i:Nat) (p:Nat × Value),idxE k es i=some p→
  (es.map mkE).modify (p.1 - i) (fun e=>{ e with key:=KeyK.enc k,val:=v })=(setE k v es).map mkE
 |[],_,_,h=>by cases h
 |e::es,i,p,h=>by
  have hle:=idxE_set k (e::es) i p h
  rw [idxE] at h
  cases hk:(k==e.1)
  ·rw [hk] at h
   have h':idxE k es (i + 1)=some p:=by simpa using h
   have hle2:=idxE_set k es (i + 1) p h'
   obtain ⟨j,hj⟩:∃ j,p.1 - i=j + 1:=⟨p.1 - (i + 1),by omega⟩
   have ih:=modify_eq k v es (i + 1) p h'
   rw [show p.1 - (i + 1)=j by omega] at ih
   rw [hj,setE,hk]
   simp only [List.map_cons,List.modify_succ_cons,Bool.false_eq_true,if_false,List.cons.injEq,true_and]
   exact ih
  ·rw [hk] at h
   simp at h;subst h
   have:=KeyK.eq _ _ hk
   subst this
   rw [setE,hk]
   simp [mkE]
omit [KeyK α] in
theorem idxE_none (k:α) (es:List (En α)) (i:Nat):idxE k es i=none↔hasE k es=false:=by
 unfold hasE;rw [←idxE_val k es i];cases idxE k es i<;>simp
theorem idxE_lt (k:α):∀ (es:List (En α)) (i:Nat) (p:Nat × Value),idxE k es i=some p→p.1<i + es.length∧∃ e,(es.map mkE)[p.1 - i]? =some e∧e.key=KeyK.enc k
 |[],_,_,h=>by cases h
 |e::es,i,p,h=>by
  rw [idxE] at h
  cases hk:(k==e.1)
  ·rw [hk] at h
   have h':idxE k es (i + 1)=some p:=by simpa using h
   have hle2:=idxE_set k es (i + 1) p h'
   obtain ⟨h1,e',h2,h3⟩:=idxE_lt k es (i + 1) p h'
   refine ⟨by simp only [List.length_cons];omega,e',?_,h3⟩
   obtain ⟨j,hj⟩:∃ j,p.1 - i=j + 1:=⟨p.1 - (i + 1),by omega⟩
   rw [hj,List.map_cons,List.getElem?_cons_succ,show j=p.1 - (i + 1) by omega]
   exact h2
  ·rw [hk] at h
   simp at h;subst h
   refine ⟨by simp,mkE e,by simp,?_⟩
   rw [KeyK.eq _ _ hk];rfl
theorem update_run {P:Program} {T K E:TypeId} (hT:P.underlying T=some (.map K E)) (hK:P.underlying K=some (KeyK.desc α))
  {w:World} {m clock:Nat} {es:List (En α)} (hm:w.heap[m]? =some (.map (es.map mkE).toArray clock)) (k:α) (v:Value):
  (Instr.mapUpdate T (.map (some m)) (KeyK.enc k) v).run P w=.ok () (w.setBlock m (.map ((putE k v es clock).map mkE).toArray (if hasE k es then clock else clock + 1))):=by
 have hck:=KeyK.check P false K k w hK
 have hfk:=run_findKey hK k es w
 unfold Instr.mapUpdate
 cases hi:idxE k es 0 with
 |none=>
  have hn:=(idxE_none k es 0).1 hi
  rw [hi] at hfk
  simp only [Sem.run_bind,run_underlying hT,Result.andThen,MapKept.run_getObj_map hm,hck,hfk,MapKept.run_setObj_map _ hm,putE,hn,World.setBlock,Bool.false_eq_true,if_false]
  simp [mkE]
 |some p=>
  have hh:hasE k es=true:=by
   cases h:hasE k es
   ·rw [(idxE_none k es 0).2 h] at hi;cases hi
   ·rfl
  obtain ⟨_,e,he,hek⟩:=idxE_lt k es 0 p hi
  have hmod:=modify_eq k v es 0 p hi
  rw [Nat.sub_zero] at he hmod
  rw [hi] at hfk
  have hkey:(((es.map mkE).toArray[p.1]?).map (·.key)).getD (KeyK.enc k)=KeyK.enc k:=by
   have:(es.map mkE).toArray[p.1]? =some e:=by simpa using he
   rw [this];exact hek
  simp only [Sem.run_bind,run_underlying hT,Result.andThen,MapKept.run_getObj_map hm,hck,hfk,hkey,run_keyThatStays,MapKept.run_setObj_map _ hm,putE,hh,World.setBlock,if_true]
  congr 4
  apply Array.ext'
  rw [←hmod]
  simp
end Go.VC
/- SL, part 7: a map of one's own, by its keys and values; opening of what holds for some x. No condition. -/
namespace Go.VC
set_option linter.unusedVariables false
set_option linter.unusedSimpArgs false
variable {α:Type} [BEq α] [KeyK α]
def getM {β:Type} (k:α):List (α × β)→Option β
 |[]=>none
 |e::es=>if k==e.1 then some e.2 else getM k es
def setM {β:Type} (k:α) (v:β):List (α × β)→List (α × β)
 |[]=>[]
 |e::es=>if k==e.1 then (e.1,v)::es else e::setM k v es
def putM {β:Type} (k:α) (v:β) (es:List (α × β)):List (α × β):=if (getM k es).isSome then setM k v es else es++[(k,v)]
abbrev strip (es:List (En α)):List (α × Value):=es.map fun e=>(e.1,e.2.1)
omit [KeyK α] in
theorem getE_strip (k:α):∀ es:List (En α),getE k es=getM k (strip es)
 |[]=>rfl
 |e::es=>by rw [getE,strip,List.map_cons,getM,getE_strip k es]
omit [KeyK α] in
theorem hasE_strip (k:α) (es:List (En α)):hasE k es=(getM k (strip es)).isSome:=by unfold hasE;rw [getE_strip]
omit [KeyK α] in
theorem setE_strip (k:α) (v:Value):∀ es:List (En α),strip (setE k v es)=setM k v (strip es)
 |[]=>rfl
 |e::es=>by
  have ih:=setE_strip k v es
  unfold strip at *
  rw [List.map_cons,setE,setM]
  split
  ·simp
  ·simp [ih]
omit [KeyK α] in
theorem putE_strip (k:α) (v:Value) (es:List (En α)) (c:Nat):strip (putE k v es c)=putM k v (strip es):=by
 unfold putE putM
 rw [hasE_strip]
 split
 ·exact setE_strip k v es
 ·simp [strip]
def StampsOk (l:List (En α)) (c:Nat):Prop:=(∀ e∈l,e.2.2<c)∧(l.map (·.2.2)).Nodup
omit [KeyK α] in
theorem setE_stamps (k:α) (v:Value):∀ l:List (En α),(setE k v l).map (·.2.2)=l.map (·.2.2)
 |[]=>rfl
 |e::es=>by
  rw [setE]
  split
  ·rfl
  ·rw [List.map_cons,List.map_cons,setE_stamps k v es]
omit [KeyK α] in
theorem stamps_put {l:List (En α)} {c:Nat} (h:StampsOk l c) (k:α) (v:Value):StampsOk (putE k v l c) (if hasE k l then c else c + 1):=by
 unfold putE
 split
 ·refine ⟨fun e he=>?_,by rw [setE_stamps];exact h.2⟩
  have:e.2.2∈(setE k v l).map (·.2.2):=List.mem_map_of_mem he
  rw [setE_stamps] at this
  obtain ⟨x,hx,hxe⟩:=List.mem_map.1 this
  rw [←hxe];exact h.1 x hx
 ·refine ⟨fun e he=>?_,?_⟩
  ·rcases List.mem_append.1 he with he|he
   ·have:=h.1 e he;omega
   ·simp at he;subst he;simp
  ·rw [List.map_append,List.nodup_append]
   refine ⟨h.2,by simp,fun x hx y hy=>?_⟩
   simp at hy
   obtain ⟨e,he,rfl⟩:=List.mem_map.1 hx
   have:=h.1 e he
   omega
def MapAt (m:Nat) (es:List (α × Value)):HP:=fun h=>∃ (l:List (En α)) (c:Nat),strip l=es∧StampsOk l c∧h=Heap.one m (.map (l.map mkE).toArray c)
theorem MapAt.iff {R:Cx} {Hs:List HP} {w:World} {m:Nat} {es:List (α × Value)}:Sat R (MapAt m es::Hs) w↔∃ l c,strip l=es∧StampsOk l c∧Sat R (pts m (.map (l.map (mkE (α:=α))).toArray c)::Hs) w:=by
 constructor
 ·rintro ⟨a,⟨l,c,h1,h3,h2⟩,hd,hs⟩;exact ⟨l,c,h1,h3,a,h2,hd,hs⟩
 ·rintro ⟨l,c,h1,h3,a,h2,hd,hs⟩;exact ⟨a,⟨l,c,h1,h3,h2⟩,hd,hs⟩
structure MapT (P:Program) (T:TypeId) (α:Type) [BEq α] [KeyK α] (K E:TypeId) (z:Value):Prop where
 hT:P.underlying T=some (.map K E)
 hK:P.underlying K=some (KeyK.desc α)
 hz:∀ w,(zeroValue E).run P w=.ok z w
variable {P:Program} {R:Cx} {Hs:List HP} {w:World} {m:Nat} {es:List (α × Value)} {T K E:TypeId} {z:Value}
theorem MapAt.look (M:MapT P T α K E z) (hw:Sat R (MapAt m es::Hs) w) (k:α) (c:Bool):
  (Instr.lookup T (.map (some m)) (KeyK.enc k) c).run P w=.ok (if c then .tuple #[(getM k es).getD z,.bool (getM k es).isSome] else (getM k es).getD z) w:=by
 obtain ⟨l,clk,rfl,_,hp⟩:=MapAt.iff.1 hw
 rw [lookup_run M.hT M.hK M.hz hp.at k c,getE_strip,hasE_strip]
theorem MapAt.put (M:MapT P T α K E z) (hw:Sat R (MapAt m es::Hs) w) (k:α) (v:Value) {Q:World→Prop} (h:∀ w',Sat R (MapAt m (putM k v es)::Hs) w'→Q w'):
  ∃ w',(Instr.mapUpdate T (.map (some m)) (KeyK.enc k) v).run P w=.ok () w'∧Q w':=by
 obtain ⟨l,clk,rfl,hst,hp⟩:=MapAt.iff.1 hw
 refine ⟨_,update_run M.hT M.hK hp.at k v,h _ (MapAt.iff.2 ⟨putE k v l clk,_,putE_strip k v l clk,stamps_put hst k v,hp.setPts _⟩)⟩
theorem MapAt.new {o:Obj} (ho:o=.map #[] 0) (hw:Sat R (pts m o::Hs) w):Sat R (MapAt (α:=α) m []::Hs) w:=by
 subst ho
 exact MapAt.iff.2 ⟨[],0,rfl,⟨fun _ h=>(by cases h),List.nodup_nil⟩,hw⟩
section
variable {β:Type}
omit [KeyK α] in
theorem getM_app {k:α} {v:β}:∀ {a b:List (α × β)},getM k a=none→(k==k)=true→getM k (a++(k,v)::b)=some v
 |[],b,_,hk=>by simp [getM,hk]
 |e::a,b,h,hk=>by
  rw [getM] at h
  split at h
  ·cases h
  ·rename_i hne
   rw [List.cons_append,getM,if_neg hne]
   exact getM_app h hk
omit [KeyK α] in
theorem setM_app {k:α} {v v':β}:∀ {a b:List (α × β)},getM k a=none→(k==k)=true→setM k v' (a++(k,v)::b)=a++(k,v')::b
 |[],b,_,hk=>by simp [setM,hk]
 |e::a,b,h,hk=>by
  rw [getM] at h
  split at h
  ·cases h
  ·rename_i hne
   rw [List.cons_append,setM,if_neg hne,setM_app h hk];rfl
theorem getM_split {k:α} {v:β}:∀ {l:List (α × β)},getM k l=some v→∃ a b,l=a++(k,v)::b∧getM k a=none
 |[],h=>by cases h
 |e::l,h=>by
  rw [getM] at h
  split at h
  ·rename_i hk
   cases h
   have:=KeyK.eq _ _ hk
   subst this
   exact ⟨[],l,rfl,rfl⟩
  ·rename_i hne
   obtain ⟨a,b,rfl,ha⟩:=getM_split h
   exact ⟨e::a,b,rfl,by rw [getM,if_neg hne];exact ha⟩
omit [KeyK α] in
theorem getM_map {γ:Type} (f:β→γ) (k:α):∀ l:List (α × β),getM k (l.map fun e=>(e.1,f e.2))=(getM k l).map f
 |[]=>rfl
 |e::l=>by
  rw [List.map_cons,getM,getM,getM_map f k l]
  split<;>rfl
end
end Go.VC
/- SL, part 8: slices of any one-cell elements; bytes and strings. No condition. -/
namespace Go.VC
set_option linter.unusedVariables false
set_option linter.unusedSimpArgs false
variable {P:Program} {R:Cx} {Hs:List HP} {w:World} {s:Sl} {T:TypeId}
theorem Ro.idxK {kd:IntKind} {xs:List Int} {S:World→Prop} (hr:Ro R s (xs.map (Value.int kd))) (hS:∀ w,S w→Sat R Hs w) {k:Nat} (hk:k<xs.length) {F:Int→Prop} (h:F xs[k]):
  Rng (k:Int) s.len (NilP s.a fun a=>∃ t:Int,(At S (a.add (k:Int).toNat) [.int kd t])∧F t):=by
 obtain ⟨a,ha,hat⟩:=hr.addr (k:=k) (by simpa using hk)
 have hl:s.len=xs.length:=by have:=hr.len;simpa using this
 refine Rng.mk (by omega) (by omega) (NilP.mk ha ⟨xs[k],?_,h⟩)
 have:=hat hS
 simpa using this
theorem srcRo {t2 e':TypeId} (ht:P.underlying t2=some (.slice e')) {xs:List Value} (hw:Sat R Hs w) (hs:Ro R s xs) (h1:oneAll xs=true):Src P 1 t2 (.slice s.a s.len s.cap) xs.length xs w:=by
 have hl:s.len=xs.length:=hs.len
 by_cases hx:xs=[]
 ·subst hx
  obtain ⟨a,n,c⟩:=s
  simp only [List.length_nil] at hl
  subst hl
  cases a with
  |none=>exact Go.Src.ofNil _ ht _
  |some a=>exact Go.Src.ofSlice w ht _ 0 _ [] rfl (fun j u hj=>by simp at hj) (fun u hu=>by cases hu)
 ·obtain ⟨b,off,l,T,fr,ha,hb,hel⟩:=hs.mem hx
  obtain ⟨a,n,c⟩:=s
  simp only at ha hl
  subst ha hl
  refine Go.Src.ofSlice w ht _ _ _ _ (by simp) (fun j u hj=>?_) (fun u hu=>List.all_eq_true.1 h1 u hu)
  rw [add_off]
  have:=hw.of_ro hb
  simp only [World.cell?,this,Option.isSome_none,Bool.false_eq_true,if_false]
  exact hel j u hj
def bytesL (s:ByteArray):List Int:=s.data.toList.map fun b=>(b.toNat:Int)
def strOf (xs:List Int):ByteArray:=⟨(xs.map fun n=>UInt8.ofNat n.toNat).toArray⟩
theorem convS_ro {src dst:TypeId} (hs:P.underlying src=some (.slice T)) (he:P.underlying T=some (.int .u8)) (hd:P.underlying dst=some .string) {xs:List Int}
  (hw:Sat R Hs w) (hr:Ro R s (xs.map (Value.int .u8))):(convert src dst (.slice s.a s.len s.cap)).run P w=.ok (.string (strOf xs)) w:=by
 have hl:s.len=xs.length:=by have:=hr.len;simpa using this
 by_cases hx:xs=[]
 ·subst hx
  obtain ⟨a,n,c⟩:=s
  simp only [List.length_nil] at hl
  subst hl
  cases a with
  |none=>exact run_convert_bytes_nil w src T hs he _ _ dst hd
  |some a=>
   rw [run_convert_bytes_string w src dst T _ _ _ hs he hd,run_bytesToString w a 0 c [] (by simpa using run_loadCells_list (P:=P) w a [] (fun j v hj=>by simp at hj))]
   rfl
 ·obtain ⟨b,off,l,T',fr,ha,hb,hel⟩:=hr.mem (by simpa using hx)
  obtain ⟨a,n,c⟩:=s
  simp only at ha hl
  subst ha hl
  refine (run_convert_bytes_arg w src T hs he b off _ c xs rfl (fun i hi=>?_) dst hd).trans rfl
  have:=hw.of_ro hb
  simp only [World.cell?,this,Option.isSome_none,Bool.false_eq_true,if_false]
  refine hel i _ ?_
  simp [hi,List.getD]
theorem bytesL_strOf {xs:List Int} (h:∀ n∈xs,0≤n∧n<256):bytesL (strOf xs)=xs:=by
 unfold strOf bytesL
 simp only [List.map_map]
 conv=>rhs;rw [←List.map_id xs]
 apply List.map_congr_left
 intro x hx
 have:=h x hx
 simp
 omega
end Go.VC
/- SL, part 9: what a call of the library leaves that changes no block that lay before: a new row of cells. No condition. -/
namespace Go.VC
set_option linter.unusedVariables false
set_option linter.unusedSimpArgs false
open Go Go.RowKit
structure Keeps (w w':World):Prop where
 os:w'.os=w.os
 tape:w'.tape=w.tape
 output:w'.output=w.output
 block:∀ k,k<w.heap.size→w'.heap[k]? =w.heap[k]?
theorem Keeps.of_below {w w':World} (h:Below w.heap.size w w'):Keeps w w':=⟨h.os,h.tape,h.output,h.block⟩
theorem Sat.keeps:∀ {Hs:List HP} {R:Cx} {w w':World},Sat R Hs w→Keeps w w'→Sat R Hs w'
 |[],_,w,_,h,e=>⟨fun b o hb=>by
   have:=h.1 b o hb
   rw [e.block b (Array.getElem?_eq_some_iff.1 this).1];exact this,e.os.trans h.2.1,e.tape.trans h.2.2.1,e.output.trans h.2.2.2⟩
 |_::_,_,_,_,h,e=>let ⟨h',hH,hd,hs⟩:=h;⟨h',hH,hd,hs.keeps e⟩
theorem Sat.grewTo:∀ {Hs:List HP} {R:Cx} {w w':World} {b:Nat} {o:Obj},Sat R Hs w→Keeps w w'→w.heap.size≤b→w'.heap[b]? =some o→Sat (R.add (Heap.one b o)) Hs w'
 |[],R,w,w',b,o,h,e,hb,ho=>by
  refine ⟨fun i x hx=>?_,e.os.trans h.2.1,e.tape.trans h.2.2.1,e.output.trans h.2.2.2⟩
  simp only [Cx.m_add,Heap.add,Heap.one] at hx
  cases hr:R.m i with
  |some y=>
   rw [hr] at hx
   have:=h.1 i y hr
   rw [e.block i (Array.getElem?_eq_some_iff.1 this).1,this]
   exact hx
  |none=>
   rw [hr] at hx
   simp only at hx
   split at hx
   ·rename_i hi;subst hi;rw [ho];exact hx
   ·cases hx
 |H::Hs,R,w,w',b,o,h,e,hb,ho=>by
  have hR:R.m b=.none:=Sat.ro_lt h hb
  obtain ⟨a,hA,hd,hs⟩:=h
  have hadd:(R.add a).m b=.none:=Sat.ro_lt hs hb
  have ha:a b=.none:=by simpa [Cx.m_add,Heap.add,hR] using hadd
  have:=Sat.grewTo hs e hb ho
  have hdis:(Heap.one b o).dis a:=by
   intro i hi
   simp only [Heap.one]
   split
   ·rename_i h;subst h;exact absurd ha hi
   ·rfl
  refine ⟨a,hA,Cx.add_dis hd hdis,?_⟩
  rw [Cx.add_assoc,Heap.add_comm hdis,←Cx.add_assoc]
  exact this
theorem Sat.fresh {R:Cx} {Hs:List HP} {w w':World} {b:Nat} {o:Obj} (h:Sat R Hs w) (e:Keeps w w') (hb:w.heap.size≤b) (ho:w'.heap[b]? =some o):Sat R (pts b o::Hs) w':=
 Sat.lend.2 ⟨Sat.ro_lt h hb,Sat.grewTo h e hb ho⟩
theorem Sat.ownsRow {R:Cx} {Hs:List HP} {w w':World} {T:TypeId} {v:Value} {n:Nat} {xs:List Value} (h:Sat R Hs w) (e:Below w.heap.size w w') (hr:w'.ownsRow w.heap.size T 1 v n xs):
  ∃ s:Sl,v=.slice s.a s.len s.cap∧Sat R (Own s T xs::Hs) w':=by
 obtain ⟨hl,h1|⟨g,cap,cur,rfl,hg,hb,hn,hc,hcs,ht⟩⟩:=hr
 ·obtain ⟨rfl,rfl⟩:=h1
  have:xs=[]:=by simpa using hl
  subst this
  exact ⟨⟨none,0,0⟩,rfl,Own.nil (h.keeps (.of_below e))⟩
 ·rw [Nat.mul_one] at *
  have h2:=h.fresh (.of_below e) hg hb
  have e1:cur=(xs++cur.toList.drop n).toArray:=by
   apply Array.ext'
   rw [←ht];simp
  rw [e1] at h2
  have h3:=Own.of_pts h2
  refine ⟨_,?_,h3⟩
  have:(xs++cur.toList.drop n).length=cap:=by
   have e2:cur.toList.length=cap:=by rw [Array.length_toList];exact hcs
   rw [List.length_append,List.length_drop,e2,hl];omega
  simp only [this,hl]
end Go.VC
/- SL, part 10: slices whose elements are structs of n cells: one's own, or only read; elements, stores, append. No condition but bounds on lengths. -/
namespace Go.VC
set_option linter.unusedVariables false
set_option linter.unusedSimpArgs false
open Go Go.RowKit
variable {P:Program} {R:Cx} {Hs Rest:List HP} {w:World} {s:Sl} {T:TypeId} {n:Nat}
def Wid (n:Nat) (rows:List (List Value)):Prop:=∀ x∈rows,x.length=n
theorem Wid.nil {n:Nat}:Wid n []:=fun _ h=>by cases h
theorem Wid.app {n:Nat} {a b:List (List Value)} (ha:Wid n a) (hb:Wid n b):Wid n (a++b):=fun x hx=>(List.mem_append.1 hx).elim (ha x) (hb x)
theorem Wid.one {n:Nat} {x:List Value} (h:x.length=n):Wid n [x]:=fun y hy=>by simp at hy;rw [hy];exact h
theorem Wid.len {n:Nat}:∀ {rows:List (List Value)},Wid n rows→rows.flatten.length=rows.length * n
 |[],_=>by simp
 |x::rows,h=>by
  rw [List.flatten_cons,List.length_append,h x List.mem_cons_self,Wid.len (rows:=rows) (fun y hy=>h y (List.mem_cons_of_mem _ hy)),List.length_cons,Nat.add_mul]
  omega
theorem Wid.drop_flat {n:Nat}:∀ {rows:List (List Value)} (k:Nat),Wid n rows→rows.flatten.drop (k * n)=(rows.drop k).flatten
 |rows,0,_=>by simp
 |[],k + 1,_=>by simp
 |x::rows,k + 1,h=>by
  have hx:=h x List.mem_cons_self
  rw [List.flatten_cons,List.drop_succ_cons,←Wid.drop_flat (rows:=rows) k (fun y hy=>h y (List.mem_cons_of_mem _ hy)),List.drop_append]
  have e1:x.drop ((k + 1) * n)=[]:=List.drop_eq_nil_of_le (by rw [hx,Nat.add_mul];omega)
  have e2:(k + 1) * n - x.length=k * n:=by rw [hx,Nat.add_mul];omega
  rw [e1,e2,List.nil_append]
theorem Wid.take_flat {n:Nat} {rows:List (List Value)} (k:Nat) (h:Wid n rows):rows.flatten.take (k * n)=(rows.take k).flatten:=by
 by_cases hk:k≤rows.length
 ·have e:rows.flatten=(rows.take k).flatten++(rows.drop k).flatten:=by rw [←List.flatten_append,List.take_append_drop]
  rw [e,List.take_left']
  rw [Wid.len (fun x hx=>h x (List.mem_of_mem_take hx)),List.length_take,Nat.min_eq_left hk]
 ·rw [List.take_of_length_le (by rw [h.len];exact Nat.mul_le_mul_right _ (by omega)),List.take_of_length_le (by omega)]
theorem Wid.take {n k:Nat} {rows:List (List Value)} (h:Wid n rows):Wid n (rows.take k):=fun x hx=>h x (List.mem_of_mem_take hx)
theorem Wid.drop {n k:Nat} {rows:List (List Value)} (h:Wid n rows):Wid n (rows.drop k):=fun x hx=>h x (List.mem_of_mem_drop hx)
theorem Pre.app:∀ {vs a:List Value} (b:List Value),Pre vs a→Pre vs (a++b)
 |[],_,_,_=>trivial
 |_::_,_::_,b,h=>⟨h.1,Pre.app b h.2⟩
 |_::_,[],_,h=>h.elim
theorem Pre.len:∀ {vs a:List Value},Pre vs a→vs.length≤a.length
 |[],_,_=>Nat.zero_le _
 |_::_,_::_,h=>by simp only [List.length_cons];exact Nat.succ_le_succ (Pre.len h.2)
 |_::_,[],h=>h.elim
theorem Wid.pre {n k j:Nat} {rows:List (List Value)} (rest:List Value) (h:Wid n rows) (hk:k<rows.length) {vs:List Value} (hp:Pre vs (rows[k].drop j)):Pre vs ((rows.flatten++rest).drop (k * n + j)):=by
 cases vs with
 |nil=>trivial
 |cons v vs=>
  have hj:j<rows[k].length:=by
   have:=Pre.len hp;simp only [List.length_cons,List.length_drop] at this;omega
  have hx:rows[k].length=n:=h _ (List.getElem_mem _)
  have hle:k * n + j≤rows.flatten.length:=by
   rw [h.len]
   have:(k + 1) * n≤rows.length * n:=Nat.mul_le_mul_right _ (by omega)
   rw [Nat.add_mul] at this
   omega
  rw [List.drop_append_of_le_length hle,Nat.add_comm (k * n) j,←List.drop_drop]
  rw [Nat.add_comm] at hle
  rw [List.drop_drop,Nat.add_comm j,←List.drop_drop,h.drop_flat,List.drop_eq_getElem_cons hk,List.flatten_cons,List.drop_append_of_le_length (by omega),List.append_assoc]
  exact hp.app _
def OwnN (n:Nat) (s:Sl) (T:TypeId) (rows:List (List Value)):HP:=fun h=>
 Wid n rows∧((s=⟨none,0,0⟩∧rows=[]∧h=Heap.none)∨
  ∃ b rest fr cap,s=⟨some ⟨b,0,none⟩,rows.length,cap⟩∧(rows.flatten++rest).length=cap * n∧okFr (cap * n) fr∧h=Heap.one b (.cells (rows.flatten++rest).toArray T fr))
theorem OwnN.nil (h:Sat R Hs w):Sat R (OwnN n ⟨none,0,0⟩ T []::Hs) w:=
 ⟨Heap.none,⟨Wid.nil,.inl ⟨rfl,rfl,rfl⟩⟩,fun i hi=>absurd rfl hi,by rw [Cx.add_none];exact h⟩
theorem OwnN.of_pts {b cap:Nat} {fr:Nat × Nat} {rows:List (List Value)} {rest:List Value} (hwid:Wid n rows) (hl:(rows.flatten++rest).length=cap * n) (h:Sat R (pts b (.cells (rows.flatten++rest).toArray T fr)::Hs) w)
  (hf:okFr (cap * n) fr:=by first|assumption|exact Or.inl rfl):Sat R (OwnN n ⟨some ⟨b,0,none⟩,rows.length,cap⟩ T rows::Hs) w:=
 let ⟨a,ha,hd,hs⟩:=h;⟨a,⟨hwid,.inr ⟨b,rest,fr,cap,rfl,hl,hf,ha⟩⟩,hd,hs⟩
theorem OwnN.cases {rows:List (List Value)} (h:Sat R (OwnN n s T rows::Hs) w):Wid n rows∧
  ((s=⟨none,0,0⟩∧rows=[]∧Sat R Hs w)∨∃ b rest fr cap,s=⟨some ⟨b,0,none⟩,rows.length,cap⟩∧(rows.flatten++rest).length=cap * n∧okFr (cap * n) fr∧Sat R (pts b (.cells (rows.flatten++rest).toArray T fr)::Hs) w):=by
 obtain ⟨a,⟨hwid,ha⟩,hd,hs⟩:=h
 refine ⟨hwid,?_⟩
 rcases ha with ⟨h1,h2,rfl⟩|⟨b,rest,fr,cap,h1,h3,hf,rfl⟩
 ·rw [Cx.add_none] at hs;exact .inl ⟨h1,h2,hs⟩
 ·exact .inr ⟨b,rest,fr,cap,h1,h3,hf,_,rfl,hd,hs⟩
theorem OwnN.wid {rows:List (List Value)} (h:Sat R (OwnN n s T rows::Hs) w):Wid n rows:=(OwnN.cases h).1
theorem OwnN.len {rows:List (List Value)} (h:Sat R (OwnN n s T rows::Hs) w):s.len=rows.length:=by
 rcases (OwnN.cases h).2 with ⟨rfl,rfl,_⟩|⟨b,rest,fr,cap,rfl,_,_⟩<;>rfl
theorem OwnN.cap {rows:List (List Value)} (hn:0<n) (h:Sat R (OwnN n s T rows::Hs) w):s.len≤s.cap:=by
 have hwid:=(OwnN.cases h).1
 rcases (OwnN.cases h).2 with ⟨rfl,rfl,_⟩|⟨b,rest,fr,cap,rfl,hl,_⟩
 ·exact Nat.le_refl _
 ·rw [List.length_append,hwid.len] at hl
  simp only
  have:rows.length * n≤cap * n:=by omega
  exact Nat.le_of_mul_le_mul_right this hn
def ReadsN (n:Nat) (s:Sl) (rows:List (List Value)) (S:World→Prop):Prop:=
 s.len=rows.length∧∀ k (hk:k<rows.length),∃ b off,s.a=some ⟨b,off,none⟩∧∀ j vs,Pre vs (rows[k].drop j)→At S ⟨b,off + (k * n + j),none⟩ vs
theorem OwnN.reads {rows:List (List Value)} (hw:Sat R (OwnN n s T rows::Hs) w) {S:World→Prop} {Hs'} (hS:∀ w,S w→Sat R (OwnN n s T rows::Hs') w):ReadsN n s rows S:=by
 refine ⟨OwnN.len hw,fun k hk=>?_⟩
 obtain ⟨hwid,⟨_,rfl,_⟩|⟨b,rest,fr,cap,rfl,hl,_,_⟩⟩:=OwnN.cases hw
 ·simp at hk
 ·refine ⟨b,0,rfl,fun j vs hp w hw i v hv=>?_⟩
  obtain ⟨_,⟨h0,_,_⟩|⟨b',rest',fr',cap',he,_,_,h⟩⟩:=OwnN.cases (hS w hw)
  ·cases h0
  ·simp only [Sl.mk.injEq,Option.some.injEq,Addr.mk.injEq,and_true] at he
   obtain ⟨rfl,_⟩:=he
   have:=(Wid.pre rest' hwid hk hp).get i v hv
   rw [List.getElem?_drop] at this
   rw [add_off,Nat.zero_add,cell_of h.at,this]
theorem ReadsN.rng {S:World→Prop} {rows:List (List Value)} (h:ReadsN n s rows S) {k:Nat} (hk:k<rows.length) {F:Addr→Prop} (f:∀ b off,s.a=some ⟨b,off,none⟩→(∀ j vs,Pre vs (rows[k].drop j)→At S ⟨b,off + (k * n + j),none⟩ vs)→F ⟨b,off,none⟩):
  Rng (k:Int) s.len (NilP s.a F):=by
 obtain ⟨b,off,ha,hat⟩:=h.2 k hk
 have:=h.1
 exact Rng.mk (by omega) (by omega) (NilP.mk ha (f b off ha hat))
theorem elt_addr (b off k n j:Nat):(⟨(Addr.add ⟨b,off,none⟩ (mulS k n)).block,(Addr.add ⟨b,off,none⟩ (mulS k n)).off + j,none⟩:Addr)=⟨b,off + (k * n + j),none⟩:=by
 rw [add_off,mulS_eq];simp only [Addr.mk.injEq,and_true,true_and];omega
theorem elt_addr0 (b off k n:Nat):Addr.add ⟨b,off,none⟩ (mulS k n)=⟨b,off + (k * n + 0),none⟩:=by
 rw [add_off,mulS_eq];rfl
structure RoN (n:Nat) (R:Cx) (s:Sl) (rows:List (List Value)):Prop where
 wid:Wid n rows
 len:s.len=rows.length
 mem:rows≠[]→∃ b off l T fr,s.a=some ⟨b,off,none⟩∧R.m b=some (.cells l T fr)∧∀ (i:Nat) v,rows.flatten[i]? =some v→l[off + i]? =some v
theorem RoN.reads {rows:List (List Value)} (hr:RoN n R s rows) {S:World→Prop} {Hs'} (hS:∀ w,S w→Sat R Hs' w):ReadsN n s rows S:=by
 refine ⟨hr.len,fun k hk=>?_⟩
 obtain ⟨b,off,l,T,fr,ha,hb,hl⟩:=hr.mem (fun h=>by rw [h] at hk;simp at hk)
 refine ⟨b,off,ha,fun j vs hp w hw i v hv=>?_⟩
 have h1:=(Wid.pre [] hr.wid hk hp).get i v hv
 rw [List.append_nil,List.getElem?_drop] at h1
 have:=(hS w hw).of_ro hb
 rw [add_off]
 simp only [World.cell?,this,Option.isSome_none,Bool.false_eq_true,if_false]
 rw [Nat.add_assoc]
 exact hl _ _ h1
theorem OwnN.lend {rows:List (List Value)} (h:Sat R (OwnN n s T rows::Hs) w):
  ∃ R':Cx,RoN n R' s rows∧(∃ x,R'=R.add x)∧Sat R' Hs w∧∀ {Hs' w'},Sat R' Hs' w'→Sat R (OwnN n s T rows::Hs') w':=by
 obtain ⟨hwid,⟨rfl,rfl,h2⟩|⟨b,rest,fr,cap,rfl,hl,hf,h2⟩⟩:=OwnN.cases h
 ·exact ⟨R,⟨hwid,rfl,fun h=>absurd rfl h⟩,⟨Heap.none,(Cx.add_none R).symm⟩,h2,fun h=>OwnN.nil h⟩
 ·obtain ⟨hn,h3⟩:=Sat.lend.1 h2
  refine ⟨_,⟨hwid,rfl,fun _=>⟨b,0,_,T,fr,rfl,Cx.lent hn,fun i v hv=>?_⟩⟩,⟨_,rfl⟩,h3,fun h=>OwnN.of_pts hwid hl (Sat.lend.2 ⟨hn,h⟩)⟩
  obtain ⟨hi,rfl⟩:=List.getElem?_eq_some_iff.1 hv
  simp [List.getElem?_append_left hi]
theorem RoN.sub {rows:List (List Value)} (hr:RoN n R s rows) {l h m:Nat} (hlh:l≤h) (hh:h≤rows.length) (hm:m=l→h=l):RoN n R ⟨cutA s.a l m n,h - l,m - l⟩ ((rows.take h).drop l):=by
 have hwid:Wid n ((rows.take h).drop l):=hr.wid.take.drop
 refine ⟨hwid,by simp;omega,fun hne=>?_⟩
 have hlt:l<h:=by
  have:0<((rows.take h).drop l).length:=List.length_pos_iff.2 hne
  simp at this;omega
 obtain ⟨b,off,ls,T,fr,ha,hb,hl⟩:=hr.mem (fun h0=>by rw [h0] at hh;simp at hh;omega)
 refine ⟨b,off + l * n,ls,T,fr,?_,hb,fun i v hv=>?_⟩
 ·unfold cutA
  rw [if_neg (fun e=>by have:=hm e;omega),ha]
  simp [add_off]
 ·rw [Nat.add_assoc]
  refine hl _ _ ?_
  have e1:((rows.take h).drop l).flatten=(rows.flatten.take (h * n)).drop (l * n):=by
   rw [hr.wid.take_flat,hr.wid.take.drop_flat]
  rw [e1,List.getElem?_drop] at hv
  rw [List.getElem?_take] at hv
  split at hv
  ·exact hv
  ·cases hv
theorem RoN.take {rows:List (List Value)} (hr:RoN n R s rows) {h:Nat} (hh:h≤rows.length) (c:Nat):RoN n R ⟨s.a,h,c⟩ (rows.take h):=
 ⟨hr.wid.take,by simp;omega,fun hne=>by
  obtain ⟨b,off,ls,T,fr,ha,hb,hl⟩:=hr.mem (fun h0=>hne (by rw [h0];simp))
  refine ⟨b,off,ls,T,fr,ha,hb,fun i v hv=>hl _ _ ?_⟩
  rw [←hr.wid.take_flat,List.getElem?_take] at hv
  split at hv
  ·exact hv
  ·cases hv⟩
def elBN (P:Program) (T:TypeId) (n bytes:Nat):Bool:=
 match P.info? T with
 |some i=>match i.zero with
  |some z=>i.size==n && i.bytes==bytes && z.cells.size==n
  |none=>false
 |none=>false
structure ElN (P:Program) (t1 t2 T:TypeId) (n bytes:Nat):Prop where
 ht:P.underlying t1=some (.slice T)
 hk:∃ e',P.underlying t2=some (.slice e')
 hi:elBN P T n bytes=true
theorem elBN_out {P:Program} {T:TypeId} {n bytes:Nat} (h:elBN P T n bytes=true):∃ i z,P.info? T=some i∧i.zero=some z∧i.size=n∧i.bytes=bytes∧z.cells.size=n:=by
 unfold elBN at h
 split at h
 ·rename_i i hi
  split at h
  ·rename_i z hz
   simp only [Bool.and_eq_true,beq_iff_eq] at h
   exact ⟨i,z,hi,hz,h.1.1,h.1.2,h.2⟩
  ·cases h
 ·cases h
theorem appendN_rule {t1 t2 ty:TypeId} {bytes:Nat} (E:ElN P t1 t2 T n bytes) {rows ys:List (List Value)} {src:Value} {K:Sl→World→Prop}
  (hw:Sat R (OwnN n s T rows::Hs) w) (hs:Src P n t2 src ys.length ys.flatten w) (hy:Wid n ys) (hb:2 * (rows.length + ys.length) * bytes≤281474976710656) (hb':rows.length + ys.length≤9223372036854775807)
  (k:∀ s' w',Sat R (OwnN n s' T (rows++ys)::Hs) w'→K s' w'):
  ∃ w',∃ t:Sl,(Builtin.append_ #[t1,t2] ty #[.slice s.a s.len s.cap,src]).run P w=.ok (.slice t.a t.len t.cap) w'∧K t w':=by
 obtain ⟨i,z,hi,hz,hsize,hbytes,hzc⟩:=elBN_out E.hi
 have hs':Src P i.size t2 src ys.length ys.flatten w:=by rw [hsize];exact hs
 have hlen:=OwnN.len hw
 have hwid:=OwnN.wid hw
 have hwid2:=hwid.app hy
 generalize hcn:ys.length=c at *
 have fit:∀ cap,cap<rows.length + c→Builtin.nextslicecap (rows.length + c) cap * i.bytes≤281474976710656:=fun cap hc=>by
  have h2:Builtin.nextslicecap (rows.length + c) cap≤2 * (rows.length + c):=by
   unfold Builtin.nextslicecap
   split
   ·omega
   ·split
    ·omega
    ·have:=nextslicecap_le_wide hc
     unfold Builtin.nextslicecap at this
     rw [if_neg (by assumption),if_neg (by assumption)] at this
     omega
  rw [hbytes]
  exact Nat.le_trans (Nat.mul_le_mul_right _ h2) hb
 -- a new row
 have grow:∀ (base:Option Addr) (cap:Nat),cap<rows.length + c→(Builtin.firstCells i.size rows.length (.slice base rows.length cap)).run P w.drew=.ok rows.flatten.toArray w.drew→Sat R Hs w→
   ∃ w',∃ t:Sl,(Builtin.append_ #[t1,t2] ty #[.slice base rows.length cap,src]).run P w=.ok (.slice t.a t.len t.cap) w'∧K t w':=fun base cap hc hold hw=>by
  have hr:=run_append_grow_src w t1 t2 ty T i z E.ht hi hz base rows.length cap rows.flatten hold src c ys.flatten hs' hc (by omega) (fit cap hc)
  refine ⟨_,⟨some ⟨w.heap.size,0,none⟩,rows.length + c,grownCap w (rows.length + c) cap T⟩,hr,k _ _ ?_⟩
  have hz0:(Builtin.zeroCells z.cells (grownCap w (rows.length + c) cap T - (rows.length + c))).size=(grownCap w (rows.length + c) cap T - (rows.length + c)) * n:=by
   simp [Builtin.zeroCells,hzc]
  have hg:=grownCap_ge w (rows.length + c) cap T
  generalize hG:grownCap w (rows.length + c) cap T=G at *
  have ho':Obj.cells ((rows.flatten++ys.flatten).toArray++Builtin.zeroCells z.cells (G - (rows.length + c))) T=.cells ((rows++ys).flatten++(Builtin.zeroCells z.cells (G - (rows.length + c))).toList).toArray T (0,0):=by
   congr 1
   apply Array.ext';simp
  have:=Sat.alloc (Obj.cells ((rows.flatten++ys.flatten).toArray++Builtin.zeroCells z.cells (G - (rows.length + c))) T) (Sat.drew hw)
  rw [ho'] at this ⊢
  have hlenG:((rows++ys).flatten++(Builtin.zeroCells z.cells (G - (rows.length + c))).toList).length=G * n:=by
   have hz1:(Builtin.zeroCells z.cells (G - (rows.length + c))).toList.length=(G - (rows.length + c)) * n:=by rw [Array.length_toList];exact hz0
   rw [List.length_append,hz1,hwid2.len,List.length_append,hcn,←Nat.add_mul]
   congr 1;omega
  have h3:=OwnN.of_pts (cap:=G) hwid2 hlenG this
  have e:(⟨some ⟨w.drew.heap.size,0,none⟩,(rows++ys).length,G⟩:Sl)=⟨some ⟨w.heap.size,0,none⟩,rows.length + c,G⟩:=by
   simp only [List.length_append,World.size_drew,hcn]
  rw [e] at h3
  exact h3
 obtain ⟨_,⟨rfl,rfl,hz2⟩|⟨b,rest,fr,cap,rfl,hl,hfr,hp⟩⟩:=OwnN.cases hw
 ·by_cases hn0:c=0
  ·subst hn0
   have hy0:ys=[]:=List.length_eq_zero_iff.1 hcn
   subst hy0
   obtain ⟨e',he'⟩:=E.hk
   refine ⟨w,⟨none,0,0⟩,?_,k _ _ (by simpa using OwnN.nil hz2)⟩
   have hcz:=hs'.cells
   simp [Builtin.append_,run_underlying E.ht,run_underlying he',sizeOf,typeInfo,hi,hs'.len,hcz]
  ·exact grow none 0 (by simp;omega) (run_firstCells_none w.drew i.size 0 0 0) hz2
 ·have hl0:=hl
  rw [List.length_append,hwid.len] at hl
  by_cases hroom:rows.length + c≤cap
  ·have hat:=hp.at
   have hcapn:(rows.length + c) * n≤cap * n:=Nat.mul_le_mul_right _ hroom
   rw [Nat.add_mul] at hcapn
   have hyl:ys.flatten.length=c * n:=by rw [hy.len,hcn]
   have hr:=run_append_room_src w t1 t2 ty T i E.ht hi b 0 rows.length cap src c ys.flatten hs' hroom
    (fun j hj=>by
     rw [cell_of hat,hsize,List.getElem?_eq_getElem (by rw [hl0];omega)];rfl) (fun j hj=>frozen_no hat hfr (by rw [hsize];omega))
   refine ⟨_,⟨some ⟨b,0,none⟩,rows.length + c,cap⟩,hr,k _ _ ?_⟩
   have h2:=setCells_sat ys.flatten (rows.flatten++rest) (rows.length * n) w hp
   have e1:putL (rows.flatten++rest) (rows.length * n) ys.flatten=(rows++ys).flatten++rest.drop (c * n):=by
    rw [putL_eq _ _ _ (by rw [hyl,hl0];omega),List.take_left' hwid.len,hyl,←List.drop_drop,List.drop_left' hwid.len]
    simp
   rw [e1] at h2
   rw [hsize,Nat.zero_add]
   have h3:=OwnN.of_pts (cap:=cap) hwid2 (by rw [List.length_append,hwid2.len,List.length_append,hcn,List.length_drop,Nat.add_mul];omega) h2
   rw [List.length_append,hcn] at h3
   exact h3
  ·have hat:=hp.at
   refine grow (some ⟨b,0,none⟩) cap (by omega) ?_ hp.drop
   refine run_firstCells_some w.drew i.size rows.length ⟨b,0,none⟩ rows.length _ rows.flatten (by rw [hsize,hwid.len]) ?_
   intro j u hj
   rw [World.cell?_drew,add_off,cell_of hat,Nat.zero_add]
   obtain ⟨hlt,rfl⟩:=List.getElem?_eq_some_iff.1 hj
   simp [List.getElem?_append_left hlt]
theorem SrcN_one {t2:TypeId} (hk:∃ e',P.underlying t2=some (.slice e')) {b:Nat} {x:List Value} {fr:Nat × Nat} (c:Nat)
  (hw:Sat R Hs w) [t:TakeP b Hs (.cells x.toArray T fr) Rest] (hx:x.length=n) (h1:oneAll x=true):Src P n t2 (.slice (some ⟨b,0,none⟩) 1 c) [x].length [x].flatten w:=by
 obtain ⟨e',he'⟩:=hk
 refine Go.Src.ofSlice w he' _ 1 c _ (by simp [hx]) ?_ ?_
 ·intro j u hj
  have:=hw.look b
  rw [add_off,cell_of this];simpa using hj
 ·intro u hu;simp at hu;exact List.all_eq_true.1 h1 u hu
theorem srcRoN {t2:TypeId} (ht:∃ e',P.underlying t2=some (.slice e')) {rows:List (List Value)} (hw:Sat R Hs w) (hs:RoN n R s rows) (h1:oneAll rows.flatten=true):Src P n t2 (.slice s.a s.len s.cap) rows.length rows.flatten w:=by
 obtain ⟨e',ht⟩:=ht
 have hl:s.len=rows.length:=hs.len
 by_cases hx:rows=[]
 ·subst hx
  obtain ⟨a,n,c⟩:=s
  simp only [List.length_nil] at hl
  subst hl
  cases a with
  |none=>exact Go.Src.ofNil _ ht _
  |some a=>exact Go.Src.ofSlice w ht _ 0 _ [] (by simp) (fun j u hj=>by simp at hj) (fun u hu=>by cases hu)
 ·obtain ⟨b,off,l,T,fr,ha,hb,hel⟩:=hs.mem hx
  obtain ⟨a,n,c⟩:=s
  simp only at ha hl
  subst ha hl
  refine Go.Src.ofSlice w ht _ _ _ _ (by rw [hs.wid.len]) (fun j u hj=>?_) (fun u hu=>List.all_eq_true.1 h1 u hu)
  rw [add_off]
  have:=hw.of_ro hb
  simp only [World.cell?,this,Option.isSome_none,Bool.false_eq_true,if_false]
  exact hel j u hj
theorem pushN_rule {t1 t2 ty T':TypeId} {bytes:Nat} (E:ElN P t1 t2 T n bytes) {rows:List (List Value)} {x:List Value} {K:Sl→World→Prop}
  (hw:Sat R (OwnN n s T rows::Hs) w) (hx:x.length=n) (h1:oneAll x=true) (hb:2 * (rows.length + 1) * bytes≤281474976710656) (hb':rows.length + 1≤9223372036854775807)
  (k:∀ s' w',Sat R (OwnN n s' T (rows++[x])::Hs) w'→K s' w'):
  New (.cells x.toArray T' (0,0)) (fun b w=>∃ w',∃ t:Sl,(Builtin.append_ #[t1,t2] ty #[.slice s.a s.len s.cap,.slice (some ⟨b,0,none⟩) 1 1]).run P w=.ok (.slice t.a t.len t.cap) w'∧K t w') w:=by
 refine new_rule hw fun b w hw=>?_
 have hw:Sat R (pts b (.cells x.toArray T' (0,0))::OwnN n s T rows::Hs) w:=hw
 exact appendN_rule E hw.swap (SrcN_one E.hk 1 hw hx h1) (Wid.one hx) hb hb' fun s' w' h=>k s' w' h.swap.drop
theorem OwnN.empty {b:Nat} {fr:Nat × Nat} (h:Sat R (pts b (.cells #[] T fr)::Hs) w):Sat R (OwnN n ⟨some ⟨b,0,none⟩,0,0⟩ T []::Hs) w:=
 OwnN.of_pts (rows:=[]) (rest:=[]) (cap:=0) Wid.nil (by simp) h (.inr (by simp))
theorem appendN0_rule {t1 t2 ty:TypeId} {bytes b:Nat} {fr:Nat × Nat} (E:ElN P t1 t2 T n bytes) {ys:List (List Value)} {src:Value} {K:Sl→World→Prop}
  (hw:Sat R Hs w) [tk:TakeP b Hs (.cells ([]:List Value).toArray T fr) Rest] (hs:Src P n t2 src ys.length ys.flatten w) (hy:Wid n ys) (hb:2 * ys.length * bytes≤281474976710656) (hb':ys.length≤9223372036854775807)
  (k:∀ s' w',Sat R (OwnN n s' T ys::Rest) w'→K s' w'):
  ∃ w',∃ t:Sl,(Builtin.append_ #[t1,t2] ty #[.slice (some ⟨b,0,none⟩) 0 0,src]).run P w=.ok (.slice t.a t.len t.cap) w'∧K t w':=by
 have h2:=appendN_rule (ty:=ty) (s:=⟨some ⟨b,0,none⟩,0,0⟩) (K:=K) E (OwnN.empty (hw.takeP tk)) hs hy (by simpa using hb) (by simpa using hb') (by simpa using k)
 exact h2
structure Elt (n:Nat) (S:World→Prop) (a:Addr) (k:Nat) (row:List Value):Prop where
 f:∀ (j:Nat) {vs:List Value},Pre vs (row.drop j)→At S ⟨(Addr.add a (mulS (k:Int).toNat n)).block,(Addr.add a (mulS (k:Int).toNat n)).off + j,none⟩ vs
 z:∀ {vs:List Value},Pre vs row→At S (Addr.add a (mulS (k:Int).toNat n)) vs
 zz:∀ {vs:List Value},Pre vs row→At S (Addr.add (Addr.add a (mulS (k:Int).toNat n)) 0) vs
theorem elt_addr00 (b off k n:Nat):Addr.add (Addr.add ⟨b,off,none⟩ (mulS k n)) 0=⟨b,off + (k * n + 0),none⟩:=by
 rw [elt_addr0,add_off];rfl
theorem ReadsN.rngM {α:Type} {E:List α} {g:α→List Value} {S:World→Prop} (h:ReadsN n s (E.map g) S) {k:Nat} (hk:k<E.length) {F:Addr→Prop} (f:∀ a,s.a=some a→Elt n S a k (g E[k])→F a):Rng (k:Int) s.len (NilP s.a F):=by
 have hg:(E.map g)[k]'(by simpa using hk)=g E[k]:=by simp
 refine h.rng (k:=k) (by simpa using hk) fun b off ha hat=>f _ ha ⟨fun j vs hp=>?_,fun hp=>?_,fun hp=>?_⟩
 ·rw [Int.toNat_natCast,elt_addr];exact hat j _ (by rw [hg];exact hp)
 ·rw [Int.toNat_natCast,elt_addr0];exact hat 0 _ (by rw [hg];exact hp)
 ·rw [Int.toNat_natCast,elt_addr00];exact hat 0 _ (by rw [hg];exact hp)
theorem OwnN.readsM {rows:List (List Value)} (hw:Sat R Hs w) [t:Take (OwnN n s T rows) Hs Rest] {S:World→Prop} (hS:∀ w,S w→Sat R Hs w):ReadsN n s rows S:=
 OwnN.reads (hw.perm t.perm) fun w h=>(hS w h).perm t.perm
class Arr (Hs Hs':List HP):Prop where
 perm:Hs.Perm Hs'
instance (priority:=2000) Arr.refl {Hs:List HP}:Arr Hs Hs:=⟨List.Perm.refl _⟩
instance Arr.cons {A:HP} {Hs Rest Hs':List HP} [t:Take A Hs Rest] [r:Arr Rest Hs']:Arr Hs (A::Hs'):=⟨t.perm.trans (r.perm.cons A)⟩
theorem Sat.arr {Hs':List HP} (h:Sat R Hs w) [a:Arr Hs Hs']:Sat R Hs' w:=h.perm a.perm
theorem Br.d {p:Prop} {inst:Decidable p} {A B:Prop} (h:p→A) (h':¬ p→B):Br (@decide p inst) A B:=Br.mk (fun e=>h (of_decide_eq_true e)) (fun e=>h' (of_decide_eq_false e))
theorem Br.nd {p:Prop} {inst:Decidable p} {A B:Prop} (h:¬ p→A) (h':p→B):Br (!@decide p inst) A B:=Br.mk (fun e=>h (by simpa using e)) (fun e=>h' (by simpa using e))
theorem Br.e {x y:Int} {A B:Prop} (h:x=y→A) (h':¬ x=y→B):Br (x==y) A B:=Br.mk (fun e=>h (by simpa using e)) (fun e=>h' (by simpa using e))
theorem Br.ne {x y:Int} {A B:Prop} (h:¬ x=y→A) (h':x=y→B):Br (x !=y) A B:=Br.mk (fun e=>h (by simpa using e)) (fun e=>h' (by simpa using e))
theorem Br.nb {b:Bool} {A B:Prop} (h:b=false→A) (h':b=true→B):Br (!b) A B:=Br.mk (fun e=>h (by simpa using e)) (fun e=>h' (by simpa using e))
theorem str_eql (a b:ByteArray):(a.toList==b.toList)=decide (a=b):=by
 rw [ByteArray.toList_eq,ByteArray.toList_eq]
 by_cases h:a=b
 ·simp [h]
 ·have:a.data≠b.data:=fun h2=>h (by cases a;cases b;simp_all)
  simp [h,this]
theorem Br.sne {x y:ByteArray} {A B:Prop} (h:¬ x=y→A) (h':x=y→B):Br (!(x.toList==y.toList)) A B:=by rw [str_eql];exact Br.nd h h'
end Go.VC
/- Integers of other kinds: wrapping, bits, shifts, as the formulas ask for them. No condition but ranges. -/
namespace Go.VC
set_option linter.unusedVariables false
set_option linter.unusedSimpArgs false
theorem wrapU8 {x:Int} (h0:0≤x) (h1:x<256):IntKind.u8.wrap x=x:=by rw [IntKind.wrap_u8'];omega
theorem wrapU8m (x:Int):IntKind.u8.wrap x=x % 256:=IntKind.wrap_u8' x
theorem wrapU64 {x:Int} (h0:0≤x) (h1:x<18446744073709551616):IntKind.u64.wrap x=x:=by rw [IntKind.wrap_u64];omega
theorem bv_toNat (n x:Nat) (h:x<2 ^ n):(BitVec.ofInt n (x:Int)).toNat=x:=by
 rw [BitVec.toNat_ofInt]
 have:((x:Int) % (2 ^ n:Nat))=x:=Int.emod_eq_of_lt (by omega) (by exact_mod_cast h)
 rw [this];rfl
theorem orU64 {x y:Nat} (hx:x<18446744073709551616) (hy:y<18446744073709551616):bitI .or .u64 x y=((x|||y:Nat):Int):=by
 have e:(BitVec.ofInt 64 (x:Int)|||BitVec.ofInt 64 (y:Int)).toNat=x|||y:=by rw [BitVec.toNat_or,bv_toNat 64 x hx,bv_toNat 64 y hy]
 show IntKind.u64.wrap (((BitVec.ofInt 64 (x:Int)|||BitVec.ofInt 64 (y:Int)).toNat:Nat):Int)=_
 rw [e]
 have:x|||y<18446744073709551616:=Nat.or_lt_two_pow (n:=64) hx hy
 exact wrapU64 (by omega) (by omega)
theorem andU64 {x y:Nat} (hx:x<18446744073709551616) (hy:y<18446744073709551616):bitI .and .u64 x y=((x &&& y:Nat):Int):=by
 have e:(BitVec.ofInt 64 (x:Int) &&& BitVec.ofInt 64 (y:Int)).toNat=x &&& y:=by rw [BitVec.toNat_and,bv_toNat 64 x hx,bv_toNat 64 y hy]
 show IntKind.u64.wrap (((BitVec.ofInt 64 (x:Int) &&& BitVec.ofInt 64 (y:Int)).toNat:Nat):Int)=_
 rw [e]
 have:x &&& y<18446744073709551616:=Nat.and_lt_two_pow (n:=64) x hy
 exact wrapU64 (by omega) (by omega)
theorem or_byte (x y:Nat) (hy:y<256):x * 256|||y=x * 256 + y:=by
 have:=Nat.two_pow_add_eq_or_of_lt (i:=8) (b:=y) (by omega) x
 rw [Nat.mul_comm] at this
 exact this.symm
end Go.VC
/- SL, part 11: slices that are only read, as memory of one's own: lent, cut, given back. No condition. -/
namespace Go.VC
set_option linter.unusedVariables false
set_option linter.unusedSimpArgs false
variable {P:Program} {R:Cx} {Hs Rest:List HP} {w:World} {s:Sl}
structure SlR (h:Heap) (s:Sl) (xs:List Value):Prop where
 len:s.len=xs.length
 cap:s.len≤s.cap
 mem:xs≠[]→∃ b off l T fr,s.a=some ⟨b,off,none⟩∧h b=some (.cells l T fr)∧∀ (i:Nat) v,xs[i]? =some v→l[off + i]? =some v
def Reads (s:Sl) (xs:List Value):HP:=fun h=>SlR h s xs
theorem SlR.addR {h h':Heap} {xs:List Value} (hd:h'.dis h) (a:SlR h s xs):SlR (h'.add h) s xs:=
 ⟨a.len,a.cap,fun hx=>let ⟨b,off,l,T,fr,ha,hb,hl⟩:=a.mem hx;⟨b,off,l,T,fr,ha,by
  simp only [Heap.add,hd b (by rw [hb];simp)];exact hb,hl⟩⟩
theorem SlR.ro {xs:List Value} (a:SlR R.m s xs) (hb:xs.length≤9223372036854775807):Ro R s xs:=
 ⟨a.len,hb,a.mem⟩
theorem SlR.take {h:Heap} {xs:List Value} (a:SlR h s xs) {k:Nat} (hk:k≤xs.length):SlR h ⟨s.a,k,s.cap⟩ (xs.take k):=
 ⟨by simp;omega,by have:=a.len;have:=a.cap;simp only;omega,fun hx=>by
  obtain ⟨b,off,l,T,fr,ha,hb,hl⟩:=a.mem (fun h0=>hx (by rw [h0];simp))
  refine ⟨b,off,l,T,fr,ha,hb,fun i v hv=>hl i v ?_⟩
  rw [List.getElem?_take] at hv
  split at hv
  ·exact hv
  ·cases hv⟩
theorem SlR.drop {h:Heap} {xs:List Value} (a:SlR h s xs) {k:Nat} (hk:k≤xs.length):SlR h ⟨cutA s.a k s.cap 1,s.len - k,s.cap - k⟩ (xs.drop k):=by
 have hlen:=a.len
 have hcap:=a.cap
 refine ⟨by simp;omega,by simp only;omega,fun hx=>?_⟩
 obtain ⟨b,off,l,T,fr,ha,hb,hl⟩:=a.mem (fun h0=>hx (by rw [h0];simp))
 have hlt:0<(xs.drop k).length:=List.length_pos_iff.2 hx
 rw [List.length_drop] at hlt
 refine ⟨b,off + k,l,T,fr,?_,hb,fun i v hv=>?_⟩
 ·unfold cutA
  rw [if_neg (by omega),ha]
  simp [add_off]
 ·rw [List.getElem?_drop] at hv
  rw [Nat.add_assoc]
  exact hl _ _ hv
theorem Reads.lend {xs:List Value} (h:Sat R (Reads s xs::Hs) w):∃ x:Heap,R.dis x∧SlR (R.add x).m s xs∧Sat (R.add x) Hs w∧SlR x s xs:=by
 obtain ⟨x,hx,hd,hs⟩:=h
 exact ⟨x,hd,SlR.addR hd hx,hs,hx⟩
theorem Reads.back {xs:List Value} {x:Heap} (hd:R.dis x) (hx:SlR x s xs) (h:Sat (R.add x) Hs w):Sat R (Reads s xs::Hs) w:=⟨x,hx,hd,h⟩
theorem Own.reads {T:TypeId} {xs:List Value} (h:Sat R (Own s T xs::Hs) w):Sat R (Reads s xs::Hs) w:=by
 rcases Own.cases h with ⟨rfl,rfl,h2⟩|⟨b,rest,fr,rfl,hf,h2⟩
 ·exact ⟨Heap.none,⟨rfl,Nat.le_refl _,fun h=>absurd rfl h⟩,fun i hi=>absurd rfl hi,by rw [Cx.add_none];exact h2⟩
 ·obtain ⟨a,ha,hd,hs⟩:=h2
  refine ⟨a,⟨rfl,by simp,fun _=>⟨b,0,(xs++rest).toArray,T,fr,rfl,by rw [ha];simp [Heap.one],fun i v hv=>?_⟩⟩,hd,hs⟩
  obtain ⟨hi,rfl⟩:=List.getElem?_eq_some_iff.1 hv
  simp [List.getElem?_append_left hi]
theorem SlR.idxK {kd:IntKind} {xs:List Int} {S:World→Prop} (hr:SlR R.m s (xs.map (Value.int kd))) (hS:∀ w,S w→Sat R Hs w) {k:Nat} (hk:k<xs.length) {F:Int→Prop} (h:F xs[k]):
  Rng (k:Int) s.len (NilP s.a fun a=>∃ t:Int,(At S (a.add (k:Int).toNat) [.int kd t])∧F t):=by
 have hl:s.len=xs.length:=by have:=hr.len;simpa using this
 obtain ⟨b,off,l,T,fr,ha,hb,hel⟩:=hr.mem (by intro h0;rw [List.map_eq_nil_iff] at h0;rw [h0] at hk;simp at hk)
 refine Rng.mk (by omega) (by omega) (NilP.mk ha ⟨xs[k],fun w hw i v hv=>?_,h⟩)
 have hi:i=0:=by
  cases i with
  |zero=>rfl
  |succ i=>simp at hv
 subst hi
 simp only [List.getElem?_cons_zero,Option.some.injEq] at hv
 subst hv
 rw [Int.toNat_natCast,add_off,add_off]
 have:=(hS w hw).of_ro hb
 simp only [World.cell?,this,Option.isSome_none,Bool.false_eq_true,if_false]
 exact hel k _ (by simp [hk])
end Go.VC
/- Slices of bytes: Clone. No condition. -/
namespace Go.Proofs.YtlplemdmegpoeaaGreatDoor
set_option linter.unusedVariables false
set_option linter.unusedSimpArgs false
open Go Go.VC
variable {R:Cx} {Hs Rest:List HP} {w:World}
theorem _root_.Go.VC.Sat.re {A:HP} (B:HP) (h:Sat R (A::Hs) w) (e:A=B:=by rfl):Sat R (B::Hs) w:=e ▸ h
abbrev b8 (l:List Int):List Value:=l.map (Value.int .u8)
theorem elB8:El Tryz.prog 47 47 5 1:=⟨Tryz.underlying47,⟨_,Tryz.underlying47⟩,by kernel_rfl⟩
theorem one_b8 (xs:List Int):oneAll (b8 xs)=true:=by unfold oneAll;simp [Value.oneCell']
theorem clone_spec {s:Sl} {xs:List Int} (hs:Ro R s (b8 xs)) (hl:xs.length≤1099511627776) (hw:Sat R Hs w):
  Gets Tryz.prog 75 #[.slice s.a s.len s.cap] w fun r w'=>∃ t:Sl,r=.slice t.a t.len t.cap∧Sat R (Own t 5 (b8 xs)::Hs) w':=by
 apply call75
 refine Br.mk (fun h=>?_) (fun h=>?_)
 ·have hx:xs=[]:=by
   by_cases hx:b8 xs=[]
   ·simpa using hx
   ·obtain ⟨b,off,_,_,_,ha,_⟩:=hs.mem hx
    rw [ha] at h;cases h
  subst hx
  exact ⟨⟨none,0,0⟩,rfl,Own.nil hw⟩
 ·refine new_rule hw fun b w hw=>?_
  have h0:Sat R (Own ⟨some ⟨b,0,none⟩,0,0⟩ 5 []::Hs) w:=Own.of_pts (xs:=[]) (rest:=[]) hw
  have hsrc:Src Tryz.prog 1 47 (.slice s.a s.len s.cap) xs.length (b8 xs) w:=by
   have:=srcRo Tryz.underlying47 h0 hs (one_b8 xs)
   simpa using this
  have:=append_rule (ty:=47) (K:=fun t w'=>∃ u:Sl,Value.slice t.a t.len t.cap=.slice u.a u.len u.cap∧Sat R (Own u 5 (b8 xs)::Hs) w') elB8 h0 hsrc rfl (by simp;omega) (by simp;omega) fun t w hw=>⟨t,rfl,by simpa using hw⟩
  exact this
end Go.Proofs.YtlplemdmegpoeaaGreatDoor
/- Codes of numbers and of bytes, plain. No program. No condition. -/
namespace Go.VC
set_option linter.unusedVariables false
set_option linter.unusedSimpArgs false
def dig (n:Nat):List Int:=if h:n=0 then [] else dig (n / 256)++[((n % 256:Nat):Int)]
termination_by n
decreasing_by omega
theorem dig_zero:dig 0=[]:=by unfold dig;simp
theorem dig_pos {n:Nat} (h:n≠0):dig n=dig (n / 256)++[((n % 256:Nat):Int)]:=by
 conv=>lhs;unfold dig
 rw [dif_neg h]
def valI (acc:Int) (l:List Int):Int:=l.foldl (fun a b=>a * 256 + b) acc
theorem valI_nil (acc:Int):valI acc []=acc:=rfl
theorem valI_cons (acc b:Int) (l:List Int):valI acc (b::l)=valI (acc * 256 + b) l:=rfl
theorem valI_app (acc:Int) (a b:List Int):valI acc (a++b)=valI (valI acc a) b:=List.foldl_append
theorem valI_snoc (acc:Int) (a:List Int) (b:Int):valI acc (a++[b])=valI acc a * 256 + b:=by rw [valI_app];rfl
theorem valI_nn:∀ {l:List Int} {acc:Int},0≤acc→(∀ x∈l,0≤x∧x<256)→0≤valI acc l
 |[],_,h,_=>h
 |b::l,acc,h,hb=>by
  rw [valI_cons]
  have:=hb b List.mem_cons_self
  exact valI_nn (by omega) fun x hx=>hb x (List.mem_cons_of_mem _ hx)
theorem valI_lt:∀ {l:List Int} {acc:Int},0≤acc→(∀ x∈l,0≤x∧x<256)→valI acc l<(acc + 1) * 256 ^ l.length
 |[],acc,h,_=>by simp [valI];omega
 |b::l,acc,h,hb=>by
  rw [valI_cons]
  have h1:=hb b List.mem_cons_self
  have:=valI_lt (l:=l) (acc:=acc * 256 + b) (by omega) fun x hx=>hb x (List.mem_cons_of_mem _ hx)
  refine Int.lt_of_lt_of_le this ?_
  rw [List.length_cons,Int.pow_succ,Int.mul_comm (256 ^ l.length) 256,←Int.mul_assoc]
  exact Int.mul_le_mul_of_nonneg_right (by omega) (Int.le_of_lt (Int.pow_pos (by decide)))
theorem dig_val (n:Nat):valI 0 (dig n)=n:=by
 induction n using Nat.strongRecOn with
 |ind n ih=>
  by_cases h:n=0
  ·subst h;rw [dig_zero];rfl
  ·rw [dig_pos h,valI_snoc,ih (n / 256) (by omega)];omega
theorem dig_bd (n:Nat):∀ x∈dig n,0≤x∧x<256:=by
 induction n using Nat.strongRecOn with
 |ind n ih=>
  by_cases h:n=0
  ·subst h;rw [dig_zero];intro x hx;cases hx
  ·rw [dig_pos h]
   intro x hx
   rcases List.mem_append.1 hx with hx|hx
   ·exact ih (n / 256) (by omega) x hx
   ·simp at hx;omega
theorem dig_head (n:Nat):∀ x l,dig n=x::l→x≠0:=by
 induction n using Nat.strongRecOn with
 |ind n ih=>
  intro x l hx
  by_cases h:n=0
  ·subst h;rw [dig_zero] at hx;cases hx
  ·rw [dig_pos h] at hx
   by_cases h2:n / 256=0
   ·rw [h2,dig_zero] at hx
    simp at hx
    omega
   ·cases hd:dig (n / 256) with
    |nil=>rw [dig_pos h2] at hd;simp at hd
    |cons y l'=>
     rw [hd] at hx
     simp at hx
     obtain ⟨rfl,_⟩:=hx
     exact ih (n / 256) (by omega) _ _ hd
theorem dig_len_le:∀ (k n:Nat),n<256 ^ k→(dig n).length≤k
 |0,n,h=>by
  have:n=0:=by simpa using h
  subst this;rw [dig_zero];simp
 |k + 1,n,h=>by
  by_cases h0:n=0
  ·subst h0;rw [dig_zero];simp
  ·rw [dig_pos h0,List.length_append]
   have:=dig_len_le k (n / 256) (by rw [Nat.pow_succ] at h;exact Nat.div_lt_of_lt_mul (by rwa [Nat.mul_comm] at h))
   simp;omega
theorem dig_len8 {n:Nat} (h:n<18446744073709551616):(dig n).length≤8:=dig_len_le 8 n (by simpa using h)
theorem dig_width (n:Nat) (h:n<18446744073709551616):(Lib.bitLen n + 7) / 8=(dig n).length:=by
 induction n using Nat.strongRecOn with
 |ind n ih=>
  by_cases h0:n=0
  ·subst h0;rw [dig_zero];decide
  ·rw [dig_pos h0,List.length_append]
   by_cases h1:256≤n
   ·rw [Lib.bitLen_shift8 n h1 h,←ih (n / 256) (by omega) (by omega)]
    simp;omega
   ·have e:n / 256=0:=by omega
    rw [e,dig_zero]
    have h2:∀ m:Fin 256,m.val≠0→(Lib.bitLen m.val + 7) / 8=1:=by decide +kernel
    simpa using h2 ⟨n,by omega⟩ h0
theorem dig_drop:∀ (k n:Nat),k≤(dig n).length→(dig n).take ((dig n).length - k)=dig (n / 256 ^ k)
 |0,n,_=>by simp
 |k + 1,n,h=>by
  by_cases h0:n=0
  ·subst h0;rw [dig_zero] at h;simp at h
  ·rw [dig_pos h0] at h ⊢
   rw [List.length_append] at h ⊢
   simp only [List.length_cons,List.length_nil] at h ⊢
   have e:(dig (n / 256)).length + (0 + 1) - (k + 1)=(dig (n / 256)).length - k:=by omega
   rw [e,List.take_append_of_le_length (by omega),dig_drop k (n / 256) (by omega),Nat.div_div_eq_div_mul,Nat.pow_succ,Nat.mul_comm 256]
theorem dig_get {n k:Nat} (h:k<(dig n).length):(dig n)[(dig n).length - 1 - k]'(by omega)=((n / 256 ^ k % 256:Nat):Int):=by
 have h1:=dig_drop k n (by omega)
 have hn:n / 256 ^ k≠0:=by
  intro h0
  rw [h0,dig_zero] at h1
  have:=congrArg List.length h1
  simp at this;omega
 rw [dig_pos hn] at h1
 have h2:((dig n).take ((dig n).length - k)).getLast? =some ((n / 256 ^ k % 256:Nat):Int):=by rw [h1];simp
 rw [List.getLast?_eq_getElem?,List.length_take,Nat.min_eq_left (by omega),List.getElem?_take] at h2
 split at h2
 ·rw [List.getElem?_eq_some_iff] at h2
  obtain ⟨h3,h4⟩:=h2
  have e:(dig n).length - 1 - k=(dig n).length - k - 1:=by omega
  simp only [e]
  exact h4
 ·cases h2
def numB (n:Nat):List Int:=((dig n).length:Int)::dig n
def textB (b:List Int):List Int:=numB b.length++b
theorem numB_bd {n:Nat} (h:n<18446744073709551616):∀ x∈numB n,0≤x∧x<256:=by
 intro x hx
 rcases List.mem_cons.1 hx with rfl|hx
 ·have:=dig_len8 h;omega
 ·exact dig_bd n x hx
theorem numB_len {n:Nat} (h:n<18446744073709551616):(numB n).length≤9:=by
 have:=dig_len8 h;unfold numB;simp;omega
def parse (l:List Int):Option (Int × Bool × Nat):=
 match l with
 |[]=>none
 |k::rest=>
  let neg:=decide (16≤k)
  let w:=(if 16≤k then k - 16 else k).toNat
  if k<32∧w≤8∧w≤rest.length∧(w=0→k=0)∧(w≠0→rest.head?≠some 0) then some (valI 0 (rest.take w),neg,w + 1) else none
theorem parse_num {n:Nat} (h:n<18446744073709551616) (rest:List Int):parse (numB n++rest)=some ((n:Int),false,(numB n).length):=by
 have h8:=dig_len8 h
 unfold parse numB
 simp only [List.cons_append]
 have e1:¬ (16:Int)≤((dig n).length:Int):=by omega
 rw [if_neg e1]
 rw [if_pos]
 ·simp only [Int.toNat_natCast,List.take_left',dig_val,List.length_cons,Option.some.injEq,Prod.mk.injEq,and_true,true_and]
  simpa using e1
 ·refine ⟨by omega,by omega,by simp,fun h0=>by omega,fun h0=>?_⟩
  simp only [Int.toNat_natCast] at h0
  cases hd:dig n with
  |nil=>rw [hd] at h0;simp at h0
  |cons x l=>
   have:=dig_head n x l hd
   simp;exact this
theorem parse_bd {l:List Int} {n:Int} {neg:Bool} {k:Nat} (hb:∀ x∈l,0≤x∧x<256) (h:parse l=some (n,neg,k)):0≤n∧n<18446744073709551616∧1≤k∧k≤9∧k≤l.length:=by
 unfold parse at h
 split at h
 ·cases h
 ·rename_i c rest
  simp only at h
  generalize hw:(if 16≤c then c - 16 else c).toNat=w at h
  split at h
  ·rename_i hc
   obtain ⟨_,h8,hr,_,_⟩:=hc
   simp only [Option.some.injEq,Prod.mk.injEq] at h
   obtain ⟨rfl,_,rfl⟩:=h
   have hb2:∀ x∈rest.take w,0≤x∧x<256:=fun x hx=>hb x (List.mem_cons_of_mem _ (List.mem_of_mem_take hx))
   refine ⟨valI_nn (Int.le_refl _) hb2,?_,by omega,by omega,by simp;omega⟩
   refine Int.lt_of_lt_of_le (valI_lt (Int.le_refl _) hb2) ?_
   rw [List.length_take,Nat.min_eq_left hr,Int.zero_add,Int.one_mul]
   have h9:256 ^ w≤256 ^ 8:=Nat.pow_le_pow_right (by omega) h8
   have:((256 ^ w:Nat):Int)≤((256 ^ 8:Nat):Int):=Int.ofNat_le.2 h9
   rw [Int.natCast_pow] at this
   exact Int.le_trans this (by decide)
  ·cases h
structure Rd where
 bs:List Int
 bad:Bool
def rdNum (most:Int) (r:Rd):Int × Rd:=
 if r.bad then (0,r) else match parse r.bs with
 |some (n,neg,k)=>if neg=false∧n≤most then (n,⟨r.bs.drop k,false⟩) else (0,⟨r.bs,true⟩)
 |none=>(0,⟨r.bs,true⟩)
def rdText (most:Int) (r:Rd):List Int × Rd:=
 if r.bad then ([],r) else match parse r.bs with
 |some (n,neg,k)=>if neg=false∧0≤most∧n≤most∧n≤((r.bs.length:Int) - k) then (((r.bs.drop k).take n.toNat),⟨r.bs.drop (k + n.toNat),false⟩) else ([],⟨r.bs,true⟩)
 |none=>([],⟨r.bs,true⟩)
def rdWhole (r:Rd):Bool:=!r.bad && decide (r.bs.length=0)
end Go.VC
/- Package field: numbers and bytes as bytes. Condition: bounds on lengths. -/
namespace Go.Proofs.YtlplemdmegpoeaaGreatDoor
set_option linter.unusedVariables false
set_option linter.unusedSimpArgs false
open Go Go.VC
variable {R:Cx} {Hs Rest:List HP} {w:World}
theorem _root_.Go.VC.SlR.mono {h h':Heap} {s:Sl} {xs:List Value} (hs:∀ b o,h b=some o→h' b=some o) (a:SlR h s xs):SlR h' s xs:=
 ⟨a.len,a.cap,fun hx=>let ⟨b,off,l,T,fr,ha,hb,hl⟩:=a.mem hx;⟨b,off,l,T,fr,ha,hs _ _ hb,hl⟩⟩
abbrev amissP:List PanicEntry:=[⟨.iface 274 (.agg #[]),false,false⟩]
theorem must_c {b:Bool} {Q:Ending→World→Prop} (h1:b=true→Q (.returned (.tuple #[])) w) (h2:b=false→Q (.panicked amissP) w):Calls Tryz.prog 152 #[.bool b] w Q:=by
 have h:GetsX Tryz.prog 152 #[.bool b] w (fun ch w'=>b=false∧ch=amissP∧w'=w) (fun v w'=>b=true∧v=.tuple #[]∧w'=w):=by
  apply call152
  refine Br.nb (fun h=>?_) (fun h=>?_)
  ·exact ⟨h,rfl,rfl⟩
  ·exact ⟨h,rfl,rfl⟩
 refine h.use ?_ ?_
 ·rintro v w' ⟨hb,rfl,e⟩;rw [e];exact h1 hb
 ·rintro v w' ⟨hb,rfl,e⟩;rw [e];exact h2 hb
abbrev lp (l:Nat) (s:Sl):HP:=pts l (.cells [.slice s.a s.len s.cap].toArray 47 (0,0))
abbrev sdrop (s:Sl) (k:Nat):Sl:=⟨cutA s.a k s.cap 1,s.len - k,s.cap - k⟩
theorem take_spec {l:Nat} {s:Sl} {xs:List Value} {k:Nat} (hr:SlR R.m s xs) (hw:Sat R (lp l s::Hs) w):
  GetsX Tryz.prog 154 #[.pointer (some ⟨l,0,none⟩),.int .i64 k] w
   (fun ch w'=>xs.length<k∧ch=amissP∧Sat R (lp l s::Hs) w')
   (fun v w'=>k≤xs.length∧v=.slice s.a k s.cap∧Sat R (lp l (sdrop s k)::Hs) w'):=by
 have hlen:=hr.len
 have hcap:=hr.cap
 apply call154
 refine NilP.mk rfl ⟨s,At.own (eqS hw) (by exact ⟨rfl,trivial⟩),must_c (fun h=>.inl ⟨rfl,?_⟩) (fun h=>.inr ⟨_,rfl,?_⟩)⟩
 ·have h:=of_decide_eq_true h
  refine NilP.mk rfl ⟨s,At.own (eqS hw) (by exact ⟨rfl,trivial⟩),by omega,by omega,NilP.mk rfl ⟨s,At.own (eqS hw) (by exact ⟨rfl,trivial⟩),by omega,by omega,NilP.mk rfl ?_⟩⟩
  rw [Int.toNat_natCast]
  refine store_rule hw (by kernel_rfl) rfl (by simp [Value.cells]) fun w hw=>?_
  exact ⟨by omega,rfl,hw⟩
 ·have h:=of_decide_eq_false h
  exact ⟨by omega,rfl,hw⟩
theorem andn32:∀ c:Fin 32,bitI .andNot .u8 ((c.1:Nat):Int) 16=if 16≤((c.1:Nat):Int) then ((c.1:Nat):Int) - 16 else ((c.1:Nat):Int):=by decide +kernel
theorem andn {c:Int} (h0:0≤c) (h1:c<32):IntKind.i64.wrap (bitI .andNot .u8 c 16)=if 16≤c then c - 16 else c:=by
 obtain ⟨n,rfl⟩:=Int.eq_ofNat_of_zero_le h0
 have:=andn32 ⟨n,by omega⟩
 simp only at this
 rw [this]
 split<;>exact wrap64 (by omega) (by omega)
theorem shl8_or {n t:Int} (h0:0≤n) (h1:n<72057594037927936) (t0:0≤t) (t1:t<256):bitI .or .u64 (shlI .u64 n 8) (IntKind.u64.wrap t)=n * 256 + t:=by
 have e:shlI .u64 n 8=n * 256:=by
  show IntKind.u64.wrap (n * 2 ^ 8)=_
  rw [wrapU64 (by omega) (by omega)];omega
 rw [e,wrapU64 t0 (by omega)]
 obtain ⟨a,rfl⟩:=Int.eq_ofNat_of_zero_le h0
 obtain ⟨b,rfl⟩:=Int.eq_ofNat_of_zero_le t0
 have:=orU64 (x:=a * 256) (y:=b) (by omega) (by omega)
 rw [or_byte a b (by omega)] at this
 rw [show ((a * 256:Nat):Int)=(a:Int) * 256 from Int.natCast_mul a 256] at this
 rw [this]
 exact (Int.natCast_add (a * 256) b).trans (by rw [Int.natCast_mul];rfl)
abbrev widN (c:Int):Nat:=(if 16≤c then c - 16 else c).toNat
theorem fsize_spec {h:Heap} {l:Nat} {s:Sl} {bs:List Int} (hb:∀ x∈bs,0≤x∧x<256) (hsub:∀ b o,h b=some o→R.m b=some o) (hr0:SlR h s (b8 bs)) (hw:Sat R (lp l s::Hs) w):
  GetsX Tryz.prog 151 #[.pointer (some ⟨l,0,none⟩)] w
   (fun ch w'=>parse bs=none∧ch=amissP∧∃ s',Sat R (lp l s'::Hs) w')
   (fun v w'=>∃ n neg k s',parse bs=some (n,neg,k)∧v=.tuple #[.int .u64 n,.bool neg]∧SlR h s' (b8 (bs.drop k))∧Sat R (lp l s'::Hs) w'):=by
 have hr:SlR R.m s (b8 bs):=hr0.mono hsub
 apply call151
 refine (take_spec (k:=1) hr hw).use ?_ ?_
 rotate_left
 ·rintro _ w ⟨h,rfl,hw⟩
  refine .inr ⟨_,rfl,?_,rfl,s,hw⟩
  cases bs with
  |nil=>rfl
  |cons=>simp at h
 rintro _ w ⟨hlen,rfl,hw⟩
 cases bs with
 |nil=>simp at hlen
 |cons c rest=>
 have hc:=hb c List.mem_cons_self
 have hbr:∀ x∈rest,0≤x∧x<256:=fun x hx=>hb x (List.mem_cons_of_mem _ hx)
 refine .inl ⟨⟨s.a,1,s.cap⟩,rfl,?_⟩
 have hr1:SlR R.m ⟨s.a,1,s.cap⟩ (b8 [c]):=hr.take (k:=1) hlen
 have hrd:SlR R.m (sdrop s 1) (b8 rest):=hr.drop (k:=1) hlen
 have:=SlR.idxK (Hs:=lp l (sdrop s 1)::Hs) (S:=fun w'=>w'=w) hr1 (eqS hw) (k:=0) (by simp) (F:=fun t=>t=c) rfl
 obtain ⟨h0,h1,this⟩:=this.out
 obtain ⟨a,ha,t,hat,rfl⟩:=this.out
 refine Rng.mk h0 h1 (NilP.mk ha ⟨t,hat,?_⟩)
 have hsnone:∀ {p:Prop},¬ p→True:=fun _=>trivial
 refine ⟨fun w=>(t<32∧widN t≤8∧(widN t=0→t=0))∧Sat R (lp l (sdrop s 1)::Hs) w,?_,?_⟩
 ·have bad:(t<32∧widN t≤8∧widN t≤rest.length∧(widN t=0→t=0)∧(widN t≠0→rest.head?≠some 0)→False)→parse (t::rest)=none:=fun h=>by
   unfold parse;simp only;rw [if_neg h]
  refine Br.d (fun h=>?_) (fun h=>?_)
  ·rw [andn hc.1 h]
   refine Br.d (fun h2=>?_) (fun h2=>?_)
   ·refine Br.d (fun h3=>?_) (fun h3=>?_)
    ·exact must_c (fun _=>.inl ⟨rfl,⟨h,by unfold widN;omega,fun h4=>by unfold widN at h4;omega⟩,hw⟩) (fun h=>by cases h)
    ·refine must_c (fun h4=>.inl ⟨rfl,⟨h,by unfold widN;omega,fun h5=>?_⟩,hw⟩) (fun h4=>.inr ⟨_,rfl,bad ?_,rfl,_,hw⟩)
     ·simp only [ge_iff_le,Bool.not_eq_true',decide_eq_false_iff_not] at h4
      rw [if_neg h4] at h3;omega
     ·simp only [ge_iff_le,Bool.not_eq_false',decide_eq_true_eq] at h4
      rintro ⟨_,_,_,h5,_⟩
      rw [if_pos h4] at h3
      have:=h5 (by unfold widN;rw [if_pos h4];omega)
      omega
   ·exact must_c (fun h=>by cases h) (fun _=>.inr ⟨_,rfl,bad (by rintro ⟨_,h3,_⟩;unfold widN at h3;omega),rfl,_,hw⟩)
  ·exact must_c (fun h=>by cases h) (fun _=>.inr ⟨_,rfl,bad (by rintro ⟨h3,_⟩;exact h h3),rfl,_,hw⟩)
 clear hat ha h0 h1
 rintro _ w ⟨⟨h32,h8,hz⟩,hw⟩
 rw [andn hc.1 h32]
 have hwid:(if 16≤t then t - 16 else t)=((widN t:Nat):Int):=by
  unfold widN;rw [Int.toNat_of_nonneg];split<;>omega
 rw [hwid]
 generalize hW:widN t=W at *
 refine (take_spec (k:=W) hrd hw).use ?_ ?_
 rotate_left
 ·rintro _ w ⟨h,rfl,hw⟩
  refine .inr ⟨_,rfl,?_,rfl,_,hw⟩
  unfold parse;simp only;rw [if_neg]
  rintro ⟨_,_,h3,_⟩
  have:widN t≤rest.length:=h3
  simp at h;omega
 rintro _ w ⟨hl,rfl,hw⟩
 have hl:W≤rest.length:=by simpa using hl
 have hrt:SlR R.m ⟨(sdrop s 1).a,W,(sdrop s 1).cap⟩ (b8 (rest.take W)):=by have:=hrd.take (k:=W) (by simpa using hl);rwa [←List.map_take] at this
 have hlt:(rest.take W).length=W:=by simp;omega
 refine .inl ⟨⟨(sdrop s 1).a,W,(sdrop s 1).cap⟩,rfl,?_⟩
 refine ⟨fun n i w=>∃ k:Nat,i=k∧k≤W∧n=valI 0 (rest.take k)∧(k≠0→rest.head?≠some 0)∧Sat R (lp l (sdrop (sdrop s 1) W)::Hs) w,fun _ i _=>W - i.toNat,⟨0,rfl,Nat.zero_le _,rfl,fun h=>absurd rfl h,hw⟩,?_⟩
 rintro _ _ _ w ⟨k,rfl,hk,rfl,hh,hw⟩
 refine Br.d (fun h=>?_) (fun h=>?_)
 ·have hk2:k<W:=by have:((k:Nat):Int)<(W:Int):=h;omega
  have hkr:k<rest.length:=by omega
  have:=SlR.idxK (Hs:=lp l (sdrop (sdrop s 1) W)::Hs) (S:=fun w'=>w'=w) hrt (eqS hw) (k:=k) (by omega) (F:=fun t=>t=rest[k]) (by simp)
  obtain ⟨h0,h1,this⟩:=this.out
  obtain ⟨a,ha,x,hat,rfl⟩:=this.out
  refine Rng.mk h0 h1 (NilP.mk ha ⟨_,hat,?_⟩)
  have hx:=hbr rest[k] (List.getElem_mem _)
  have hvb:∀ x∈rest.take k,0≤x∧x<256:=fun x hx=>hbr x (List.mem_of_mem_take hx)
  have hv0:=valI_nn (acc:=0) (Int.le_refl _) hvb
  have hv1:valI 0 (rest.take k)<72057594037927936:=by
   refine Int.lt_of_lt_of_le (valI_lt (Int.le_refl _) hvb) ?_
   rw [List.length_take,Nat.min_eq_left (by omega),Int.zero_add,Int.one_mul]
   have h9:256 ^ k≤256 ^ 7:=Nat.pow_le_pow_right (by omega) (by omega)
   have:((256 ^ k:Nat):Int)≤((256 ^ 7:Nat):Int):=Int.ofNat_le.2 h9
   rw [Int.natCast_pow] at this
   exact Int.le_trans this (by decide)
  have hstep:∀ w,(rest.head?≠some 0)→Sat R (lp l (sdrop (sdrop s 1) W)::Hs) w→
    (∃ k':Nat,IntKind.i64.wrap ((k:Int) + 1)=k'∧k'≤W∧bitI .or .u64 (shlI .u64 (valI 0 (rest.take k)) 8) (IntKind.u64.wrap rest[k])=valI 0 (rest.take k')∧(k'≠0→rest.head?≠some 0)∧Sat R (lp l (sdrop (sdrop s 1) W)::Hs) w)∧W - (IntKind.i64.wrap ((k:Int) + 1)).toNat<W - (k:Int).toNat:=fun w h1 hw=>by
   rw [wrap64 (by omega) (by omega)]
   refine ⟨⟨k + 1,by omega,by omega,?_,fun _=>h1,hw⟩,by omega⟩
   rw [shl8_or hv0 hv1 hx.1 hx.2,List.take_succ_eq_append_getElem hkr,valI_snoc]
  refine Br.d (fun h3=>?_) (fun h3=>?_)
  ·exact must_c (fun _=>.inl ⟨rfl,hstep _ (hh (by omega)) hw⟩) (fun h=>by cases h)
  ·have hk0:k=0:=by omega
   subst hk0
   have hhead:rest.head? =some rest[0]:=by rw [List.head?_eq_getElem?,List.getElem?_eq_getElem hkr]
   refine must_c (fun h4=>.inl ⟨rfl,hstep _ ?_ hw⟩) (fun h4=>.inr ⟨_,rfl,?_,rfl,_,hw⟩)
   ·have h4:=of_decide_eq_true h4
    rw [hhead];intro h5;simp only [Option.some.injEq] at h5;omega
   ·have h4:=of_decide_eq_false h4
    unfold parse;simp only;rw [if_neg]
    rintro ⟨_,_,_,_,h5⟩
    have h6:widN t≠0:=by omega
    refine h5 h6 ?_
    rw [hhead];congr 1;omega
 ·have hkW:k=W:=by have:¬ ((k:Nat):Int)<(W:Int):=h;omega
  subst hkW
  refine ⟨valI 0 (rest.take k),decide (t ≥ 16),k + 1,sdrop (sdrop s 1) k,?_,rfl,?_,?_⟩
  ·unfold parse;simp only
   have e:(if 16≤t then t - 16 else t).toNat=k:=hW
   rw [e,if_pos ⟨h32,h8,hl,hz,hh⟩]
  ·have:=(hr0.drop (k:=1) hlen).drop (k:=k) (by simpa using hl)
   simpa using this
  ·exact hw
end Go.Proofs.YtlplemdmegpoeaaGreatDoor
/- Package field: Number; reading in general. Condition: none. -/
namespace Go.Proofs.YtlplemdmegpoeaaGreatDoor
set_option linter.unusedVariables false
set_option linter.unusedSimpArgs false
open Go Go.VC
variable {R:Cx} {Hs Rest:List HP} {w:World}
theorem shr_nat (n k:Nat) (hk:k≤64):shrI .u64 (n:Int) (k:Int)=((n / 2 ^ k:Nat):Int):=by
 have e:min ((k:Int).toNat) IntKind.u64.bits=k:=by rw [Int.toNat_natCast];exact Nat.min_eq_left hk
 unfold shrI
 rw [e,Int.fdiv_eq_ediv_of_nonneg _ (by exact Int.le_of_lt (Int.pow_pos (by decide)))]
 rw [show ((2:Int) ^ k)=((2 ^ k:Nat):Int) from (Int.natCast_pow 2 k).symm]
 exact (Int.natCast_ediv n (2 ^ k)).symm
theorem shr32 (n:Nat):shrI .u64 (n:Int) 32=((n / 4294967296:Nat):Int):=shr_nat n 32 (by omega)
theorem shr16 (n:Nat):shrI .u64 (n:Int) 16=((n / 65536:Nat):Int):=shr_nat n 16 (by omega)
theorem shr8 (n:Nat):shrI .u64 (n:Int) 8=((n / 256:Nat):Int):=shr_nat n 8 (by omega)
theorem len64_spec {n:Nat} (hn:n<18446744073709551616) (hw:Sat R Hs w):
  Gets Tryz.prog 205 #[.int .u64 n] w fun v w'=>v=.int .i64 (Lib.bitLen n:Nat)∧Sat R Hs w':=by
 apply call205
 refine ⟨fun x j w=>∃ m i:Nat,x=m∧j=i∧m<4294967296∧i≤32∧Lib.bitLen n=i + Lib.bitLen m∧Sat R Hs w,?_,?_⟩
 ·refine Br.d (fun h=>?_) (fun h=>?_)
  ·rw [shr32]
   exact ⟨n / 4294967296,32,rfl,rfl,by omega,by omega,Lib.bitLen_shift32 n (by omega) hn,hw⟩
  ·exact ⟨n,0,rfl,rfl,by omega,by omega,by omega,hw⟩
 rintro _ _ _ w ⟨m,i,rfl,rfl,hm,hi,he,hw⟩
 refine ⟨fun x j w=>∃ m i:Nat,x=m∧j=i∧m<65536∧i≤48∧Lib.bitLen n=i + Lib.bitLen m∧Sat R Hs w,?_,?_⟩
 ·refine Br.d (fun h=>?_) (fun h=>?_)
  ·rw [shr16,wrap64 (by omega) (by omega)]
   exact ⟨m / 65536,i + 16,rfl,by omega,by omega,by omega,by have:=Lib.bitLen_shift16 m (by omega) (by omega);omega,hw⟩
  ·exact ⟨m,i,rfl,rfl,by omega,by omega,he,hw⟩
 clear hm hi he hw
 rintro _ _ _ w ⟨m,i,rfl,rfl,hm,hi,he,hw⟩
 refine Br.d (fun h=>?_) (fun h=>?_)
 ·rw [shr8,wrapU8 (by omega) (by omega)]
  have h8:Lib.bitLen (m / 256)≤8:=Lib.bitLen_le8 ⟨m / 256,by omega⟩
  refine ⟨UInt8.ofNat (Lib.bitLen (m / 256)),by omega,?_,?_,hw⟩
  ·rw [Int.toNat_natCast]
   obtain ⟨q,hq⟩:∃ q:Fin 256,q.1=m / 256:=⟨⟨m / 256,by omega⟩,rfl⟩
   rw [←hq]
   clear hq h8 hw he hi hm h
   revert q
   decide +kernel
  ·have:(UInt8.ofNat (Lib.bitLen (m / 256))).toNat=Lib.bitLen (m / 256):=by simp;omega
   have h2:=Lib.bitLen_shift8 m (by omega) (by omega)
   rw [this,wrap64 (x:=((Lib.bitLen (m / 256):Nat):Int)) (by omega) (by omega),wrap64 (x:=(i:Int) + 8) (by omega) (by omega),wrap64 (by omega) (by omega)]
   congr 1;omega
 ·rw [wrapU8 (by omega) (by omega)]
  have h8:Lib.bitLen m≤8:=Lib.bitLen_le8 ⟨m,by omega⟩
  refine ⟨UInt8.ofNat (Lib.bitLen m),by omega,?_,?_,hw⟩
  ·rw [Int.toNat_natCast]
   obtain ⟨q,hq⟩:∃ q:Fin 256,q.1=m:=⟨⟨m,by omega⟩,rfl⟩
   rw [←hq]
   clear hq h8 hw he hi hm h
   revert q
   decide +kernel
  ·have:(UInt8.ofNat (Lib.bitLen m)).toNat=Lib.bitLen m:=by simp;omega
   rw [this,wrap64 (x:=((Lib.bitLen m:Nat):Int)) (by omega) (by omega),wrap64 (by omega) (by omega)]
   congr 1;omega
theorem number_spec {n:Nat} (hn:n<18446744073709551616) (hw:Sat R Hs w):
  Gets Tryz.prog 128 #[.int .u64 n] w fun v w'=>∃ t:Sl,v=.slice t.a t.len t.cap∧Sat R (Own t 5 (b8 (numB n))::Hs) w':=by
 apply call128
 refine (len64_spec hn hw).use ?_
 rintro _ w ⟨rfl,hw⟩
 refine ⟨_,rfl,?_⟩
 have hwid:=dig_width n hn
 have h8:=dig_len8 hn
 generalize hL:(dig n).length=L at *
 have e:IntKind.i64.wrap ((IntKind.i64.wrap (((Lib.bitLen n:Nat):Int) + 7)).tdiv 8)=(L:Int):=by
  rw [wrap64 (x:=((Lib.bitLen n:Nat):Int) + 7) (by omega) (by omega),Int.tdiv_eq_ediv_of_nonneg (by omega),wrap64 (by omega) (by omega)]
  omega
 rw [e,wrapU8 (by omega) (by omega)]
 refine new_rule hw fun b w hw=>?_
 have h0:Sat R (Own ⟨some ⟨b,0,none⟩,1,1⟩ 5 (b8 [(L:Int)])::Hs) w:=Own.of_pts (xs:=b8 [(L:Int)]) (rest:=[]) hw
 refine ⟨fun wd out w=>∃ k:Nat,wd=k∧k≤L∧Sat R (Own out 5 (b8 ((L:Int)::(dig n).take (L - k)))::Hs) w,fun wd _ _=>wd.toNat,⟨L,rfl,Nat.le_refl _,by simpa using h0⟩,?_⟩
 clear hw h0
 rintro _ _ out w ⟨k,rfl,hk,hw⟩
 refine Br.d (fun h=>?_) (fun h=>?_)
 ·have e1:IntKind.i64.wrap ((k:Int) - 1)=((k - 1:Nat):Int):=by rw [wrap64 (by omega) (by omega)];omega
  have e2:IntKind.i64.wrap (8 * ((k - 1:Nat):Int))=((8 * (k - 1):Nat):Int):=by rw [wrap64 (by omega) (by omega)];omega
  rw [e1,e2,shr_nat n _ (by omega)]
  refine Ge0.mk (by omega) ?_
  have hd:=dig_get (n:=n) (k:=k - 1) (by omega)
  have hlen:((L:Int)::(dig n).take (L - k)).length≤9:=by simp;omega
  refine push_rule elB8 hw (one_b8 _) rfl (by rw [List.length_map];omega) (by rw [List.length_map];omega) fun t w hw=>⟨⟨k - 1,rfl,by omega,?_⟩,by show ((k - 1:Nat):Int).toNat<(k:Int).toNat;omega⟩
  have e3:((L:Int)::(dig n).take (L - (k - 1)))=((L:Int)::(dig n).take (L - k))++[IntKind.u8.wrap ((n / 2 ^ (8 * (k - 1)):Nat):Int)]:=by
   have e4:L - (k - 1)=(L - k) + 1:=by omega
   rw [e4,List.take_succ_eq_append_getElem (by omega),List.cons_append]
   congr 3
   rw [wrapU8m,show (2:Nat) ^ (8 * (k - 1))=256 ^ (k - 1) from by rw [Nat.pow_mul],show ((n / 256 ^ (k - 1):Nat):Int) % 256=((n / 256 ^ (k - 1) % 256:Nat):Int) from (Int.natCast_emod _ _).symm,←hd]
   congr 1;omega
  rw [e3]
  simpa [b8] using hw
 ·have hk0:k=0:=by omega
  subst hk0
  refine ⟨out,rfl,?_⟩
  have:(dig n).take (L - 0)=dig n:=List.take_of_length_le (by omega)
  rw [this] at hw
  unfold numB
  rw [hL];exact hw
abbrev rdCells (s:Sl) (bad:Bool):Obj:=.cells [.slice s.a s.len s.cap,.bool bad].toArray 207 (0,0)
def RdAt (r:Nat) (rd:Rd):HP:=exs fun s:Sl=>Star [pts r (rdCells s rd.bad),Reads s (b8 rd.bs)]
theorem Sat.rd {r:Nat} {rd:Rd}:Sat R (RdAt r rd::Hs) w↔∃ s:Sl,Sat R (pts r (rdCells s rd.bad)::Reads s (b8 rd.bs)::Hs) w:=by
 unfold RdAt
 rw [Sat.exs]
 exact ⟨fun ⟨s,h⟩=>⟨s,Sat.star.1 h⟩,fun ⟨s,h⟩=>⟨s,Sat.star.2 h⟩⟩
abbrev brCell (r:Nat):Obj:=.cells [.pointer (some ⟨r,0,none⟩)].toArray 153 (0,0)
theorem leaveP {br r:Nat} {s:Sl} {bad:Bool} {Kr:World→Prop} (hw:Sat R (pts br (brCell r)::pts r (rdCells s bad)::Hs) w) (k:∀ w,Sat R (pts br (brCell r)::pts r (rdCells s true)::Hs) w→Kr w):
  LeaveF Tryz.prog 223 [.pointer (some ⟨br,0,none⟩)] (.panicking amissP) Kr w:=by
 unfold LeaveF
 refine CallsD.mono (callP223 (some ⟨br,0,none⟩) (.iface 274 (.agg #[])) Kr w ?_) ?_
 ·refine ⟨true,fun w' _=>by kernel_rfl,Br.t rfl ?_⟩
  refine NilP.mk rfl ⟨some ⟨r,0,none⟩,At.own (eqS hw) (by exact ⟨rfl,trivial⟩),NilP.mk rfl ?_⟩
  have hw:=hw.swap
  refine store_rule hw (by kernel_rfl) rfl (by simp [Value.cells]) fun w hw=>?_
  exact k w hw.swap
 ·rintro e v w' ⟨hy,rfl,hk⟩
  exact ⟨hy,rfl,hk⟩
theorem leaveR {br:Nat} {Kr:World→Prop} (k:Kr w):LeaveF Tryz.prog 223 [.pointer (some ⟨br,0,none⟩)] .returning Kr w:=by
 unfold LeaveF
 refine CallsD.mono (callR223 (some ⟨br,0,none⟩) Kr w ?_) ?_
 ·exact ⟨false,fun w' _=>by kernel_rfl,Br.f rfl k⟩
 ·rintro e v w' ⟨hy,rfl,hk⟩
  exact ⟨hy,rfl,hk⟩
theorem reading_spec {r:Nat} {rd:Rd} {one:Value} {α:Type} {f:α→List Int} {Hs1:α→List HP} {Hs2:List HP} {G:α→Prop} {N:Prop} (hw:Sat R (RdAt r rd::Hs) w)
  (hone:rd.bad=false→∀ (x:Heap) (l:Nat) (s:Sl) (A B:HP) (w:World),(∀ b o,x b=some o→(R.add x).m b=some o)→SlR x s (b8 rd.bs)→Sat (R.add x) (lp l s::A::B::Hs) w→
   CalW Tryz.prog cl one [.pointer (some ⟨l,0,none⟩)] w fun e w'=>
    (e=.returned (.tuple #[])∧∃ y s',G y∧SlR x s' (b8 (f y))∧Sat (R.add x) (lp l s'::A::B::Hs1 y) w')∨
    (e=.panicked amissP∧N∧∃ s',Sat (R.add x) (lp l s'::A::B::Hs2) w')):
  Gets Tryz.prog 149 #[.pointer (some ⟨r,0,none⟩),one] w fun v w'=>v=.tuple #[]∧
   ((rd.bad=true∧Sat R (RdAt r rd::Hs) w')∨(rd.bad=false∧∃ y,G y∧Sat R (RdAt r ⟨f y,false⟩::Hs1 y) w')∨(rd.bad=false∧N∧Sat R (RdAt r ⟨rd.bs,true⟩::Hs2) w')):=by
 obtain ⟨s,hw⟩:=Sat.rd.1 hw
 apply call149
 refine new_rule hw fun br w hw=>?_
 refine ⟨_,At.own (eqS hw) (by exact ⟨rfl,trivial⟩),NilP.mk rfl ?_⟩
 refine ⟨_,At.own (eqS hw) (by exact ⟨rfl,trivial⟩),must_c (fun h=>.inl ⟨rfl,?_⟩) (fun h=>.inr ⟨_,rfl,?_⟩)⟩
 ·have hbad:rd.bad=false:=by simpa using h
  refine ⟨_,At.own (eqS hw) (by exact ⟨rfl,trivial⟩),NilP.mk rfl ?_⟩
  refine ⟨_,At.own (eqS hw) (by exact ⟨rfl,trivial⟩),?_⟩
  refine new_rule hw fun l w hw=>?_
  have hw:Sat R (pts l (.cells [.slice none 0 0].toArray 47 (0,0))::pts br (brCell r)::pts r (rdCells s rd.bad)::Reads s (b8 rd.bs)::Hs) w:=hw
  refine store_rule hw (by kernel_rfl) rfl (by simp [Value.cells]) fun w hw=>?_
  have hw:Sat R (lp l s::pts br (brCell r)::pts r (rdCells s rd.bad)::Reads s (b8 rd.bs)::Hs) w:=hw
  have hw:Sat R (Reads s (b8 rd.bs)::lp l s::pts br (brCell r)::pts r (rdCells s rd.bad)::Hs) w:=hw.arr
  obtain ⟨x,hd,_,hx,hs⟩:=Reads.lend hw
  have hsub:∀ b o,x b=some o→(R.add x).m b=some o:=fun b o hb=>by
   have:=hd b (by rw [hb];simp)
   simp only [Cx.add,Heap.add,this,hb]
  refine CalW.mono (hone hbad x l s _ _ w hsub hs hx) ?_
  rintro e w' (⟨rfl,bs',s',hg,hs',hw⟩|⟨rfl,hn,s',hw⟩)
  ·refine .inl ⟨rfl,?_⟩
   have hw:Sat (R.add x) (pts br (brCell r)::pts r (rdCells s rd.bad)::lp l s'::Hs1 bs') w':=hw.arr
   refine ⟨_,At.own (eqS hw) (by exact ⟨rfl,trivial⟩),?_⟩
   refine ⟨_,At.own (eqS hw) (by exact ⟨rfl,trivial⟩),NilP.mk rfl ?_⟩
   have hw:Sat (R.add x) (pts r (rdCells s rd.bad)::lp l s'::pts br (brCell r)::Hs1 bs') w':=hw.arr
   refine store_rule hw (by kernel_rfl) rfl (by simp [Value.cells]) fun w hw=>?_
   refine leaveR ⟨rfl,.inr (.inl ⟨hbad,bs',hg,?_⟩)⟩
   have hw:Sat (R.add x) (pts r (rdCells s' rd.bad)::lp l s'::pts br (brCell r)::Hs1 bs') w:=hw
   rw [hbad] at hw
   have hw:Sat (R.add x) (pts r (rdCells s' false)::Hs1 bs') w:=hw.cons fun _ h=>h.drop.drop
   refine Sat.rd.2 ⟨s',?_⟩
   exact (Reads.back hd hs' hw).swap
  ·refine .inr ⟨_,rfl,?_⟩
   have hw:Sat (R.add x) (pts br (brCell r)::pts r (rdCells s rd.bad)::lp l s'::Hs2) w':=hw.arr
   refine leaveP hw fun w hw=>⟨rfl,.inr (.inr ⟨hbad,hn,?_⟩)⟩
   have hw:Sat (R.add x) (pts r (rdCells s true)::Hs2) w:=hw.drop.cons fun _ h=>h.drop
   refine Sat.rd.2 ⟨s,?_⟩
   exact (Reads.back hd hs hw).swap
 ·have hbad:rd.bad=true:=by simpa using h
  have hw:Sat R (pts br (brCell r)::pts r (rdCells s rd.bad)::Reads s (b8 rd.bs)::Hs) w:=hw
  refine leaveP hw fun w hw=>⟨rfl,.inl ⟨hbad,?_⟩⟩
  rw [←hbad] at hw
  exact Sat.rd.2 ⟨s,hw.drop⟩
end Go.Proofs.YtlplemdmegpoeaaGreatDoor
/- Package field: a reader's New, Number, Whole. Condition: bounds on lengths. -/
namespace Go.Proofs.YtlplemdmegpoeaaGreatDoor
set_option linter.unusedVariables false
set_option linter.unusedSimpArgs false
open Go Go.VC
variable {R:Cx} {Hs Rest:List HP} {w:World}
theorem CalW.mk {g:FuncId} {captured:Array Value} {args:List Value} {Q:Ending→World→Prop} (hc:cl g=true) (h:Calls Tryz.prog g (args++captured.toList).toArray w Q):CalW Tryz.prog cl (.func (.func g) #[] captured) args w Q:=by
 unfold CalW
 simp only [hc]
 exact h
theorem fnew_spec {s:Sl} {bs:List Int} (hs:Ro R s (b8 bs)) (hl:bs.length≤1099511627776) (hw:Sat R Hs w):
  Gets Tryz.prog 91 #[.slice s.a s.len s.cap] w fun v w'=>∃ r,v=.pointer (some ⟨r,0,none⟩)∧Sat R (RdAt r ⟨bs,false⟩::Hs) w':=by
 apply call91
 refine (clone_spec hs hl hw).use ?_
 rintro _ w ⟨t,rfl,hw⟩
 refine ⟨t,rfl,?_⟩
 have hw:=Own.reads hw
 refine new_rule hw fun r w hw=>⟨r,rfl,Sat.rd.2 ⟨t,hw⟩⟩
theorem whole_spec {r:Nat} {rd:Rd} (hw:Sat R (RdAt r rd::Hs) w):
  Gets Tryz.prog 96 #[.pointer (some ⟨r,0,none⟩)] w fun v w'=>v=.bool (rdWhole rd)∧Sat R (RdAt r rd::Hs) w':=by
 obtain ⟨s,hw⟩:=Sat.rd.1 hw
 have hsl:s.len=rd.bs.length:=by
  obtain ⟨x,_,_,_,hx⟩:=Reads.lend hw.swap
  have:=hx.len;simpa using this
 apply call96
 refine NilP.mk rfl ⟨rd.bad,At.own (eqS hw) (by exact ⟨rfl,trivial⟩),Br.nb (fun h=>?_) (fun h=>?_)⟩
 ·refine NilP.mk rfl ?_
  refine ⟨s,At.own (eqS hw) (by exact ⟨rfl,trivial⟩),?_,Sat.rd.2 ⟨s,hw⟩⟩
  unfold rdWhole
  rw [h,hsl]
  congr 1
  simp only [Bool.not_false,Bool.true_and]
  cases rd.bs with
  |nil=>rfl
  |cons=>simp;omega
 ·refine ⟨?_,Sat.rd.2 ⟨s,hw⟩⟩
  unfold rdWhole
  rw [h];rfl
theorem num1_spec {h:Heap} {l bm bo:Nat} {s:Sl} {bs:List Int} {most:Int} (hb:∀ x∈bs,0≤x∧x<256) (hsub:∀ b o,h b=some o→R.m b=some o) (hr:SlR h s (b8 bs))
  (hw:Sat R (lp l s::pts bo (.cells [.int .u64 0].toArray 141 (0,0))::pts bm (.cells [.int .u64 most].toArray 141 (0,0))::Hs) w):
  GetsX Tryz.prog 150 #[.pointer (some ⟨l,0,none⟩),.pointer (some ⟨bm,0,none⟩),.pointer (some ⟨bo,0,none⟩)] w
   (fun ch w'=>ch=amissP∧(∀ n k,parse bs=some (n,false,k)→¬ n≤most)∧∃ s',Sat R (lp l s'::pts bo (.cells [.int .u64 0].toArray 141 (0,0))::pts bm (.cells [.int .u64 most].toArray 141 (0,0))::Hs) w')
   (fun v w'=>v=.tuple #[]∧∃ n k s',parse bs=some (n,false,k)∧n≤most∧SlR h s' (b8 (bs.drop k))∧
    Sat R (lp l s'::pts bo (.cells [.int .u64 n].toArray 141 (0,0))::pts bm (.cells [.int .u64 most].toArray 141 (0,0))::Hs) w'):=by
 apply call150
 refine (fsize_spec hb hsub hr hw).use ?_ ?_
 rotate_left
 ·rintro _ w ⟨hp,rfl,s',hw⟩
  refine .inr ⟨_,rfl,rfl,?_,s',hw⟩
  intro n k h;rw [hp] at h;cases h
 rintro _ w ⟨n,neg,k,s',hp,rfl,hs',hw⟩
 refine .inl ⟨n,neg,rfl,Br.nb (fun h=>?_) (fun h=>?_)⟩
 ·subst h
  have hw2:Sat R (pts bm (.cells [.int .u64 most].toArray 141 (0,0))::lp l s'::pts bo (.cells [.int .u64 0].toArray 141 (0,0))::Hs) w:=hw.arr
  refine NilP.mk rfl ?_
  refine ⟨most,At.own (eqS hw) (by exact ⟨rfl,trivial⟩),must_c (fun h=>.inl ⟨rfl,?_⟩) (fun h=>.inr ⟨_,rfl,rfl,?_,s',hw⟩)⟩
  ·have h:=of_decide_eq_true h
   have hw:Sat R (pts bo (.cells [.int .u64 0].toArray 141 (0,0))::lp l s'::pts bm (.cells [.int .u64 most].toArray 141 (0,0))::Hs) w:=hw.swap
   refine store_rule hw (by kernel_rfl) rfl (by simp [Value.cells]) fun w hw=>?_
   exact ⟨rfl,n,k,s',hp,h,hs',hw.swap⟩
  ·have h:=of_decide_eq_false h
   intro n' k' hp'
   rw [hp] at hp'
   simp only [Option.some.injEq,Prod.mk.injEq,true_and] at hp'
   rw [←hp'.1];exact h
 ·subst h
  refine must_c (fun h=>by cases h) (fun _=>.inr ⟨_,rfl,rfl,?_,s',hw⟩)
  intro n' k' hp'
  rw [hp] at hp'
  simp at hp'
theorem rnum_spec {r:Nat} {rd:Rd} {most:Int} (hb:∀ x∈rd.bs,0≤x∧x<256) (hw:Sat R (RdAt r rd::Hs) w):
  Gets Tryz.prog 93 #[.pointer (some ⟨r,0,none⟩),.int .u64 most] w fun v w'=>v=.int .u64 (rdNum most rd).1∧Sat R (RdAt r (rdNum most rd).2::Hs) w':=by
 apply call93
 refine new_rule hw fun bm w hw=>new_rule hw fun bo w hw=>?_
 have hw:Sat R (pts bo (.cells [.int .u64 0].toArray 141 (0,0))::pts bm (.cells [.int .u64 most].toArray 141 (0,0))::RdAt r rd::Hs) w:=hw
 refine store_rule hw (by kernel_rfl) rfl (by simp [Value.cells]) fun w hw=>?_
 have hw:=hw.re (pts bo (.cells [.int .u64 0].toArray 141 (0,0)))
 have hw:Sat R (RdAt r rd::pts bo (.cells [.int .u64 0].toArray 141 (0,0))::pts bm (.cells [.int .u64 most].toArray 141 (0,0))::Hs) w:=hw.arr
 refine (reading_spec (α:=Int × Nat) (f:=fun y=>rd.bs.drop y.2) (G:=fun y=>parse rd.bs=some (y.1,false,y.2)∧y.1≤most) (N:=∀ n k,parse rd.bs=some (n,false,k)→¬ n≤most)
  (Hs1:=fun y=>pts bo (.cells [.int .u64 y.1].toArray 141 (0,0))::pts bm (.cells [.int .u64 most].toArray 141 (0,0))::Hs)
  (Hs2:=pts bo (.cells [.int .u64 0].toArray 141 (0,0))::pts bm (.cells [.int .u64 most].toArray 141 (0,0))::Hs) hw ?_).use ?_
 ·intro _ x l s A B w hsub hs hw
  refine CalW.mk (by kernel_rfl) ?_
  have hw2:Sat (R.add x) (lp l s::pts bo (.cells [.int .u64 0].toArray 141 (0,0))::pts bm (.cells [.int .u64 most].toArray 141 (0,0))::A::B::Hs) w:=hw.arr
  refine (num1_spec (h:=x) hb hsub hs hw2).use ?_ ?_
  ·rintro _ w ⟨rfl,n,k,s',hp,hn,hs',hw⟩
   exact .inl ⟨rfl,(n,k),s',⟨hp,hn⟩,hs',hw.arr⟩
  ·rintro _ w ⟨rfl,hn,s',hw⟩
   exact .inr ⟨rfl,hn,s',hw.arr⟩
 ·rintro _ w ⟨rfl,h⟩
  refine ⟨rfl,?_⟩
  rcases h with ⟨hbad,hw⟩|⟨hbad,⟨n,k⟩,⟨hp,hn⟩,hw⟩|⟨hbad,hno,hw⟩
  ·have hw:Sat R (pts bo (.cells [.int .u64 0].toArray 141 (0,0))::RdAt r rd::pts bm (.cells [.int .u64 most].toArray 141 (0,0))::Hs) w:=hw.swap
   refine ⟨0,At.own (eqS hw) (by exact ⟨rfl,trivial⟩),?_⟩
   unfold rdNum
   rw [if_pos hbad]
   exact ⟨rfl,hw.drop.cons fun _ h=>h.drop⟩
  ·have hw:Sat R (pts bo (.cells [.int .u64 n].toArray 141 (0,0))::RdAt r ⟨rd.bs.drop k,false⟩::pts bm (.cells [.int .u64 most].toArray 141 (0,0))::Hs) w:=hw.swap
   refine ⟨n,At.own (eqS hw) (by exact ⟨rfl,trivial⟩),?_⟩
   unfold rdNum
   rw [if_neg (by rw [hbad];simp),hp]
   simp only
   rw [if_pos (by simpa using hn)]
   exact ⟨rfl,hw.drop.cons fun _ h=>h.drop⟩
  ·have hw:Sat R (pts bo (.cells [.int .u64 0].toArray 141 (0,0))::RdAt r ⟨rd.bs,true⟩::pts bm (.cells [.int .u64 most].toArray 141 (0,0))::Hs) w:=hw.swap
   refine ⟨0,At.own (eqS hw) (by exact ⟨rfl,trivial⟩),?_⟩
   have e:rdNum most rd=(0,⟨rd.bs,true⟩):=by
    unfold rdNum
    rw [if_neg (by rw [hbad];simp)]
    cases hp:parse rd.bs with
    |none=>rfl
    |some p=>
     obtain ⟨n,neg,k⟩:=p
     simp only
     rw [if_neg]
     rintro ⟨rfl,h⟩
     exact hno n k hp h
   rw [e]
   exact ⟨rfl,hw.drop.cons fun _ h=>h.drop⟩
theorem rdNum_bd {most:Int} {rd:Rd} (hb:∀ x∈rd.bs,0≤x∧x<256):∀ x∈(rdNum most rd).2.bs,0≤x∧x<256:=by
 unfold rdNum
 split
 ·exact hb
 ·split
  ·split
   ·exact fun x hx=>hb x (List.mem_of_mem_drop hx)
   ·exact hb
  ·exact hb
theorem rdNum_val {most:Int} {rd:Rd} (hb:∀ x∈rd.bs,0≤x∧x<256) (hm:0≤most):0≤(rdNum most rd).1∧(rdNum most rd).1≤most:=by
 unfold rdNum
 split
 ·exact ⟨Int.le_refl _,hm⟩
 ·split
  ·rename_i n neg k hp
   split
   ·rename_i h;exact ⟨(parse_bd hb hp).1,h.2⟩
   ·exact ⟨Int.le_refl _,hm⟩
  ·exact ⟨Int.le_refl _,hm⟩
end Go.Proofs.YtlplemdmegpoeaaGreatDoor

/- SL, part 13: appends of integers; new arrays as slices of one's own. Condition: bounds on lengths. -/
namespace Go.VC
set_option linter.unusedVariables false
set_option linter.unusedSimpArgs false
variable {P:Program} {R:Cx} {Hs Rest:List HP} {w:World} {s t:Sl} {T T2:TypeId}
theorem oneAll_k (k:IntKind) (xs:List Int):oneAll (xs.map (Value.int k))=true:=by
 induction xs with
 |nil=>rfl
 |cons x xs ih=>simp only [List.map_cons,oneAll,List.all_cons,Bool.and_eq_true];exact ⟨rfl,ih⟩
theorem own_lit {b n:Nat} {l:List Value} {fr:Nat × Nat} (hw:Sat R (pts b (.cells l.toArray T fr)::Hs) w) (hn:n=l.length:=by rfl) (hf:okFr l.length fr:=by first|assumption|exact Or.inl rfl):Sat R (Own ⟨some ⟨b,0,none⟩,n,n⟩ T l::Hs) w:=by
 subst hn
 have:=Own.of_pts (xs:=l) (rest:=[]) (by simpa using hw) (by simpa using hf)
 simpa using this
theorem appendRI {t1 t2 ty e':TypeId} {bytes n:Nat} {k:IntKind} (E:El P t1 t2 T bytes) {xs ys:List Int} {K:Sl→World→Prop} (h2:P.underlying t2=some (.slice e'))
  (hw:Sat R (Own s T (xs.map (Value.int k))::Hs) w) (hy:Ro R t (ys.map (Value.int k))) (hn:xs.length + ys.length≤n) (hb:2 * n * bytes≤281474976710656) (hb':n≤9223372036854775807)
  (kk:∀ s' w',Sat R (Own s' T ((xs++ys).map (Value.int k))::Hs) w'→K s' w'):
  ∃ w',∃ t':Sl,(Builtin.append_ #[t1,t2] ty #[.slice s.a s.len s.cap,.slice t.a t.len t.cap]).run P w=.ok (.slice t'.a t'.len t'.cap) w'∧K t' w':=by
 have hsrc:Src P 1 t2 (.slice t.a t.len t.cap) ys.length (ys.map (Value.int k)) w:=by
  have:=srcRo h2 hw hy (oneAll_k _ _)
  simpa using this
 refine append_rule E (s:=s) hw hsrc (oneAll_k _ _) ?_ (by rw [List.length_map];omega) fun s2 w hw=>kk s2 w (by simpa using hw)
 rw [List.length_map]
 have:2 * (xs.length + ys.length) * bytes≤2 * n * bytes:=Nat.mul_le_mul_right _ (by omega)
 omega
theorem appendOO {t1 t2 ty e':TypeId} {bytes n:Nat} {k:IntKind} (E:El P t1 t2 T bytes) {xs ys:List Int} {K:Sl→World→Prop} (h2:P.underlying t2=some (.slice e'))
  (hw:Sat R (Own s T (xs.map (Value.int k))::Own t T2 (ys.map (Value.int k))::Hs) w) (hn:xs.length + ys.length≤n) (hb:2 * n * bytes≤281474976710656) (hb':n≤9223372036854775807)
  (kk:∀ s' w',Sat R (Own s' T ((xs++ys).map (Value.int k))::Own t T2 (ys.map (Value.int k))::Hs) w'→K s' w'):
  ∃ w',∃ t':Sl,(Builtin.append_ #[t1,t2] ty #[.slice s.a s.len s.cap,.slice t.a t.len t.cap]).run P w=.ok (.slice t'.a t'.len t'.cap) w'∧K t' w':=by
 obtain ⟨R',hr,_,hw,back⟩:=Own.lend hw.swap (by rw [List.length_map];omega)
 exact appendRI E h2 hw hr hn hb hb' fun s' w' hw=>kk s' w' (back hw).swap
theorem Ro.ix {k:IntKind} {xs:List Int} {S:World→Prop} {i:Int} (hr:Ro R s (xs.map (Value.int k))) (hS:∀ w,S w→Sat R Hs w) (j:Nat) (hi:i=j) (hj:j<xs.length) {F:Int→Prop} (h:F xs[j]):
  Rng i s.len (NilP s.a fun a=>∃ t:Int,(At S (a.add i.toNat) [.int k t])∧F t):=by
 subst hi
 exact hr.idxK hS hj h
theorem SlR.ix {k:IntKind} {xs:List Int} {S:World→Prop} {i:Int} (hr:SlR R.m s (xs.map (Value.int k))) (hS:∀ w,S w→Sat R Hs w) (j:Nat) (hi:i=j) (hj:j<xs.length) {F:Int→Prop} (h:F xs[j]):
  Rng i s.len (NilP s.a fun a=>∃ t:Int,(At S (a.add i.toNat) [.int k t])∧F t):=by
 subst hi
 exact hr.idxK hS hj h
end Go.VC
/- SL, part 14: memory of one's own, made into memory that is only read, for good. No condition. -/
namespace Go.VC
set_option linter.unusedVariables false
set_option linter.unusedSimpArgs false
variable {P:Program} {R R' R'':Cx} {Hs Rest:List HP} {w:World} {s:Sl} {T:TypeId}
structure Cx.Ext (R R':Cx):Prop where
 m:∀ b o,R.m b=some o→R'.m b=some o
 like:R'.like R
theorem Cx.Ext.refl:R.Ext R:=⟨fun _ _ h=>h,rfl,rfl,rfl⟩
theorem Cx.Ext.trans (h:R.Ext R') (h':R'.Ext R''):R.Ext R'':=
 ⟨fun b o hb=>h'.m b o (h.m b o hb),h.like.1.trans h'.like.1,h.like.2.1.trans h'.like.2.1,h.like.2.2.trans h'.like.2.2⟩
theorem Cx.Ext.add {h:Heap}:R.Ext (R.add h):=⟨fun b o hb=>by simp only [Cx.add,Heap.add,hb],rfl,rfl,rfl⟩
theorem Cx.Ext.back (h:R.Ext R') (hw:Sat R' Hs w):Sat R Hs w:=Sat.ro_of h.m h.like hw
theorem Cx.Ext.roN {n:Nat} {xs:List (List Value)} (h:R.Ext R') (a:RoN n R s xs):RoN n R' s xs:=
 ⟨a.wid,a.len,fun hx=>let ⟨b,off,l,T,fr,h1,h2,h3⟩:=a.mem hx;⟨b,off,l,T,fr,h1,h.m _ _ h2,h3⟩⟩
theorem Cx.Ext.slR {xs:List Value} (h:R.Ext R') (a:SlR R.m s xs):SlR R'.m s xs:=
 ⟨a.len,a.cap,fun hx=>let ⟨b,off,l,T,fr,h1,h2,h3⟩:=a.mem hx;⟨b,off,l,T,fr,h1,h.m _ _ h2,h3⟩⟩
theorem Reads.leak {xs:List Value} (h:Sat R (Reads s xs::Hs) w):∃ R':Cx,R.Ext R'∧SlR R'.m s xs∧Sat R' Hs w:=by
 obtain ⟨x,_,h1,h2,_⟩:=Reads.lend h
 exact ⟨_,.add,h1,h2⟩
theorem Own.leak {xs:List Value} (h:Sat R (Own s T xs::Hs) w):∃ R':Cx,R.Ext R'∧SlR R'.m s xs∧Sat R' Hs w:=Reads.leak (Own.reads h)
theorem OwnN.leak {n:Nat} {rows:List (List Value)} (h:Sat R (OwnN n s T rows::Hs) w):∃ R':Cx,R.Ext R'∧RoN n R' s rows∧Sat R' Hs w:=by
 obtain ⟨R',h1,⟨x,rfl⟩,h2,_⟩:=OwnN.lend h
 exact ⟨_,.add,h1,h2⟩
end Go.VC
/- The formulas of functions of this seat's translation, printed by a program of mine off the translation; each is proved equal to 'fnF' of the function's body, so it is enough for the call. No condition. -/
namespace Go.Proofs.YtlplemdmegpoeaaGreatDoor
open Go Go.VC
set_option linter.unusedVariables false
set_option maxRecDepth 10000
def B166 (c:Sl) (K:Value→World→Prop) (w:World):Prop:=
 Br c.a.isNone
 (K (.slice none 0 0) w)
 (New (.cells #[] 3 (0,0)) (fun e f=>
 ∃ d:World,∃ b:Sl,((Builtin.append_ #[30,30] 30 #[.slice ((some ⟨e,0,none⟩)) 0 0,.slice c.a c.len c.cap]).run Tryz.prog f=.ok (.slice b.a b.len b.cap) d)∧
 K (.slice b.a b.len b.cap) d) w)
theorem call166 (b:Sl) (K:Value→World→Prop) (w:World) (h:B166 b K w):Gets Tryz.prog 166 #[.slice b.a b.len b.cap] w K:=cq (sk:=.leaf) h Tryz.func166
def B212 (b:Sl) (e:Value) (K:Value→World→Prop) (w:World):Prop:=
 Calls Tryz.prog 272 #[.slice b.a b.len b.cap,e] w fun d f=>
 ∃ c:Int,(d=.returned (.int .i64 c))∧
 K (.bool (decide (c ≥ 0))) f
theorem call212 (b:Sl) (c:Value) (K:Value→World→Prop) (w:World) (h:B212 b c K w):Gets Tryz.prog 212 #[.slice b.a b.len b.cap,c] w K:=cq (sk:=.leaf) h Tryz.func212
def B272 (e:Sl) (m:Value) (K:Value→World→Prop) (w:World):Prop:=
 ∃ (d:Int→World→Prop) (j:Int→World→Nat),(d 0 w)∧∀ (o:Env) (b:Int) (c:World),d b c→
 Br (decide (b<(↑e.len:Int)))
 (Rng b e.len (NilP e.a fun k=>
 ∃ g:Int,(At (fun n=>n=c) (Addr.add k b.toNat) [.int .i64 g])∧
 CalW Tryz.prog cl m [.int .i64 g] c fun l f=>
 ∃ i:Bool,(l=.returned (.bool i))∧
 Br i
 (K (.int .i64 b) f)
 ((d (IntKind.i64.wrap (b + 1)) f)∧j (IntKind.i64.wrap (b + 1)) f<j b c)))
 (K (.int .i64 ((-1))) c)
def sk272:Sk:=(.seq .leaf (.seq (.seq .leaf (.block (.loop [8] [(.int .i64)] [4,5,8,9,10,11,12,13,14,15,16,17,18] .leaf))) .leaf))
theorem call272 (b:Sl) (c:Value) (K:Value→World→Prop) (w:World) (h:B272 b c K w):Gets Tryz.prog 272 #[.slice b.a b.len b.cap,c] w K:=cq (sk:=sk272) h Tryz.func272
def B249 (b:Sl) (d:Int) (c:Sl) (K:Value→World→Prop) (w:World):Prop:=
 ((0:Int)≤d)∧
 ((d:Int)≤(↑b.len:Int))∧
 Br ((↑c.len:Int)==0)
 (K (.slice b.a b.len b.cap) w)
 (Br (d==(↑b.len:Int))
 (∃ i:World,∃ f:Sl,((Builtin.append_ #[30,30] 30 #[.slice b.a b.len b.cap,.slice c.a c.len c.cap]).run Tryz.prog w=.ok (.slice f.a f.len f.cap) i)∧
 K (.slice f.a f.len f.cap) i)
 (Br (decide (IntKind.i64.wrap ((↑b.len:Int) + (↑c.len:Int))>(↑b.cap:Int)))
 (((0:Int)≤d)∧
 ((d:Int)≤(↑b.cap:Int))∧
 ∃ k:World,∃ e:Sl,((Builtin.append_ #[30,3] 30 #[.slice b.a d.toNat b.cap,.int .i64 (IntKind.i64.wrap (IntKind.i64.wrap ((↑b.len:Int) + (↑c.len:Int)) - d))]).run Tryz.prog w=.ok (.slice e.a e.len e.cap) k)∧
 ((0:Int)≤d)∧
 ((d:Int)≤(↑e.len:Int))∧
 ∃ l:World,∃ s:Int,((Builtin.copy_ #[30,30] 3 #[.slice (cutA e.a d.toNat e.cap 1) (e.len - d.toNat) (e.cap - d.toNat),.slice c.a c.len c.cap]).run Tryz.prog k=.ok (.int .i64 s) l)∧
 Drw l fun C z=>
 ((0:Int)≤IntKind.i64.wrap (d + (↑c.len:Int)))∧
 ((IntKind.i64.wrap (d + (↑c.len:Int)):Int)≤(↑e.len:Int))∧
 ((0:Int)≤d)∧
 ((d:Int)≤(↑b.len:Int))∧
 ∃ m:World,∃ t:Int,((Builtin.copy_ #[30,30] 3 #[.slice (cutA e.a (IntKind.i64.wrap (d + (↑c.len:Int))).toNat e.cap 1) (e.len - (IntKind.i64.wrap (d + (↑c.len:Int))).toNat) (e.cap - (IntKind.i64.wrap (d + (↑c.len:Int))).toNat),.slice (cutA b.a d.toNat b.cap 1) (b.len - d.toNat) (b.cap - d.toNat)]).run Tryz.prog z=.ok (.int .i64 t) m)∧
 K (.slice e.a e.len e.cap) m)
 (((0:Int)≤IntKind.i64.wrap ((↑b.len:Int) + (↑c.len:Int)))∧
 ((IntKind.i64.wrap ((↑b.len:Int) + (↑c.len:Int)):Int)≤(↑b.cap:Int))∧
 ((0:Int)≤IntKind.i64.wrap (d + (↑c.len:Int)))∧
 ((IntKind.i64.wrap (d + (↑c.len:Int)):Int)≤(↑(IntKind.i64.wrap ((↑b.len:Int) + (↑c.len:Int))).toNat:Int))∧
 Ext Tryz.prog 282 #[.slice c.a c.len c.cap,.slice (cutA b.a (IntKind.i64.wrap (d + (↑c.len:Int))).toNat b.cap 1) ((IntKind.i64.wrap ((↑b.len:Int) + (↑c.len:Int))).toNat - (IntKind.i64.wrap (d + (↑c.len:Int))).toNat) (b.cap - (IntKind.i64.wrap (d + (↑c.len:Int))).toNat)] w fun q n=>
 ∃ g:Bool,(q=.returned (.bool g))∧
 Br (!g)
 (Drw n fun D A=>
 ((0:Int)≤IntKind.i64.wrap (d + (↑c.len:Int)))∧
 ((IntKind.i64.wrap (d + (↑c.len:Int)):Int)≤(↑(IntKind.i64.wrap ((↑b.len:Int) + (↑c.len:Int))).toNat:Int))∧
 ((0:Int)≤d)∧
 ((d:Int)≤(↑(IntKind.i64.wrap ((↑b.len:Int) + (↑c.len:Int))).toNat:Int))∧
 ∃ o:World,∃ u:Int,((Builtin.copy_ #[30,30] 3 #[.slice (cutA b.a (IntKind.i64.wrap (d + (↑c.len:Int))).toNat b.cap 1) ((IntKind.i64.wrap ((↑b.len:Int) + (↑c.len:Int))).toNat - (IntKind.i64.wrap (d + (↑c.len:Int))).toNat) (b.cap - (IntKind.i64.wrap (d + (↑c.len:Int))).toNat),.slice (cutA b.a d.toNat b.cap 1) ((IntKind.i64.wrap ((↑b.len:Int) + (↑c.len:Int))).toNat - d.toNat) (b.cap - d.toNat)]).run Tryz.prog A=.ok (.int .i64 u) o)∧
 ((0:Int)≤d)∧
 ((d:Int)≤(↑(IntKind.i64.wrap ((↑b.len:Int) + (↑c.len:Int))).toNat:Int))∧
 ∃ p:World,∃ v:Int,((Builtin.copy_ #[30,30] 3 #[.slice (cutA b.a d.toNat b.cap 1) ((IntKind.i64.wrap ((↑b.len:Int) + (↑c.len:Int))).toNat - d.toNat) (b.cap - d.toNat),.slice c.a c.len c.cap]).run Tryz.prog o=.ok (.int .i64 v) p)∧
 K (.slice b.a ((IntKind.i64.wrap ((↑b.len:Int) + (↑c.len:Int))).toNat) b.cap) p)
 (((0:Int)≤(↑b.len:Int))∧
 (((↑b.len:Int):Int)≤(↑(IntKind.i64.wrap ((↑b.len:Int) + (↑c.len:Int))).toNat:Int))∧
 ∃ j:World,∃ x:Int,((Builtin.copy_ #[30,30] 3 #[.slice (cutA b.a (↑b.len:Int).toNat b.cap 1) ((IntKind.i64.wrap ((↑b.len:Int) + (↑c.len:Int))).toNat - (↑b.len:Int).toNat) (b.cap - (↑b.len:Int).toNat),.slice c.a c.len c.cap]).run Tryz.prog n=.ok (.int .i64 x) j)∧
 ((0:Int)≤d)∧
 ((d:Int)≤(↑(IntKind.i64.wrap ((↑b.len:Int) + (↑c.len:Int))).toNat:Int))∧
 Calls Tryz.prog 283 #[.slice (cutA b.a d.toNat b.cap 1) ((IntKind.i64.wrap ((↑b.len:Int) + (↑c.len:Int))).toNat - d.toNat) (b.cap - d.toNat),.int .i64 ((↑c.len:Int))] j fun r y=>
 (r=.returned (.tuple #[]))∧
 K (.slice b.a ((IntKind.i64.wrap ((↑b.len:Int) + (↑c.len:Int))).toNat) b.cap) y))))
theorem call249 (b:Sl) (d:Int) (c:Sl) (K:Value→World→Prop) (w:World) (h:B249 b d c K w):Gets Tryz.prog 249 #[.slice b.a b.len b.cap,.int .i64 d,.slice c.a c.len c.cap] w K:=cq (sk:=.leaf) h Tryz.func249
def B248 (e:Sl) (k:Int) (K:Value→World→Prop) (w:World):Prop:=
 ∃ (g:Int→Int→World→Prop) (j:Int→Int→World→Nat),(g 0 ((↑e.len:Int)) w)∧∀ (A:Env) (b:Int) (c:Int) (d:World),g b c d→
 Br (decide (b<c))
 (Rng (IntKind.i64.wrap (shrI IntKind.u64 (IntKind.u64.wrap (IntKind.i64.wrap (b + c))) 1)) e.len (NilP e.a fun s=>
 ∃ l:Int,(At (fun f=>f=d) (Addr.add s ((IntKind.i64.wrap (shrI IntKind.u64 (IntKind.u64.wrap (IntKind.i64.wrap (b + c))) 1)).toNat)) [.int .i64 l])∧
 Calls Tryz.prog 267 #[.int .i64 l,.int .i64 k] d fun v i=>
 ∃ m:Bool,(v=.returned (.bool m))∧
 Br m
 ((g (IntKind.i64.wrap (IntKind.i64.wrap (shrI IntKind.u64 (IntKind.u64.wrap (IntKind.i64.wrap (b + c))) 1) + 1)) c i)∧j (IntKind.i64.wrap (IntKind.i64.wrap (shrI IntKind.u64 (IntKind.u64.wrap (IntKind.i64.wrap (b + c))) 1) + 1)) c i<j b c d)
 ((g b (IntKind.i64.wrap (shrI IntKind.u64 (IntKind.u64.wrap (IntKind.i64.wrap (b + c))) 1)) i)∧j b (IntKind.i64.wrap (shrI IntKind.u64 (IntKind.u64.wrap (IntKind.i64.wrap (b + c))) 1)) i<j b c d)))
 (Br (decide (b<(↑e.len:Int)))
 (Rng b e.len (NilP e.a fun t=>
 ∃ n:Int,(At (fun f=>f=d) (Addr.add t b.toNat) [.int .i64 n])∧
 Br (n==k)
 (K (.tuple #[.int .i64 b,.bool true]) d)
 (Rng b e.len (NilP e.a fun u=>
 ∃ o:Int,(At (fun f=>f=d) (Addr.add u b.toNat) [.int .i64 o])∧
 Calls Tryz.prog 281 #[.int .i64 o] d fun x r=>
 ∃ p:Bool,(x=.returned (.bool p))∧
 Br p
 (Calls Tryz.prog 281 #[.int .i64 k] r fun y z=>
 ∃ q:Bool,(y=.returned (.bool q))∧
 K (.tuple #[.int .i64 b,.bool q]) z)
 (K (.tuple #[.int .i64 b,.bool false]) r)))))
 (K (.tuple #[.int .i64 b,.bool false]) d))
def sk248:Sk:=(.seq .leaf (.seq .leaf (.seq .leaf (.seq (.block (.loop [7,8] [(.int .i64),(.int .i64)] [7,8,9,13,14,15,16,17,18,19,20,21,22,23,24,25,26,27,28,29,30] .leaf)) .leaf))))
theorem call248 (b:Sl) (c:Int) (K:Value→World→Prop) (w:World) (h:B248 b c K w):Gets Tryz.prog 248 #[.slice b.a b.len b.cap,.int .i64 c] w K:=cq (sk:=sk248) h Tryz.func248
def B267 (a:Int) (b:Int) (K:Value→World→Prop) (w:World):Prop:=
 Calls Tryz.prog 278 #[.int .i64 a] w fun g e=>
 ∃ c:Bool,(g=.returned (.bool c))∧
 Br c
 (Calls Tryz.prog 278 #[.int .i64 b] e fun i f=>
 ∃ d:Bool,(i=.returned (.bool d))∧
 Br (!d)
 (K (.bool true) f)
 (K (.bool (decide (a<b))) f))
 (K (.bool (decide (a<b))) e)
theorem call267 (a:Int) (b:Int) (K:Value→World→Prop) (w:World) (h:B267 a b K w):Gets Tryz.prog 267 #[.int .i64 a,.int .i64 b] w K:=cq (sk:=.leaf) h Tryz.func267
def B281 (a:Int) (K:Value→World→Prop) (w:World):Prop:=
 K (.bool (a !=a)) w
theorem call281 (a:Int) (K:Value→World→Prop) (w:World) (h:B281 a K w):Gets Tryz.prog 281 #[.int .i64 a] w K:=cq (sk:=.leaf) h Tryz.func281
def B278 (a:Int) (K:Value→World→Prop) (w:World):Prop:=
 K (.bool (a !=a)) w
theorem call278 (a:Int) (K:Value→World→Prop) (w:World) (h:B278 a K w):Gets Tryz.prog 278 #[.int .i64 a] w K:=cq (sk:=.leaf) h Tryz.func278
def B165 (s:Int) (j:Sl) (K:Value→World→Prop) (w:World):Prop:=
 New (.cells #[.int .i64 s,.slice j.a j.len j.cap] 37 (0,0)) (fun d c=>
 ∃ o:Int,(At (fun b=>b=c) ⟨d,0,none⟩ [.int .i64 o])∧
 Br (decide (o<1))
 (K (.bool false) c)
 (∃ p:Int,(At (fun b=>b=c) ⟨d,0,none⟩ [.int .i64 p])∧
 Br (decide (p>60))
 (K (.bool false) c)
 (∃ g:Sl,(At (fun b=>b=c) ⟨d,0 + 1,none⟩ [.slice g.a g.len g.cap])∧
 Br (decide ((↑g.len:Int)<1))
 (K (.bool false) c)
 (∃ i:Sl,(At (fun b=>b=c) ⟨d,0 + 1,none⟩ [.slice i.a i.len i.cap])∧
 Br (decide ((↑i.len:Int)>4))
 (K (.bool false) c)
 (∃ e:Sl,(At (fun b=>b=c) ⟨d,0 + 1,none⟩ [.slice e.a e.len e.cap])∧
 Calls Tryz.prog 212 #[.slice e.a e.len e.cap,.func (.func 237) #[] #[]] c fun q k=>
 ∃ l:Bool,(q=.returned (.bool l))∧
 Br l
 (K (.bool false) k)
 (∃ m:Int,∃ f:Sl,(At (fun b=>b=k) ⟨d,0,none⟩ [.int .i64 m,.slice f.a f.len f.cap])∧
 Calls Tryz.prog 236 #[.agg #[.int .i64 m,.slice f.a f.len f.cap]] k fun r t=>
 ∃ n:Int,(r=.returned (.int .i64 n))∧
 K (.bool (decide (n≤10))) t)))))) w
theorem call165 (c:Int) (b:Sl) (K:Value→World→Prop) (w:World) (h:B165 c b K w):Gets Tryz.prog 165 #[.agg #[.int .i64 c,.slice b.a b.len b.cap]] w K:=cq (sk:=.leaf) h Tryz.func165
def B237 (a:Int) (K:Value→World→Prop) (w:World):Prop:=
 Br (decide (a<1))
 (K (.bool true) w)
 (K (.bool (decide (a>10))) w)
theorem call237 (a:Int) (K:Value→World→Prop) (w:World) (h:B237 a K w):Gets Tryz.prog 237 #[.int .i64 a] w K:=cq (sk:=.leaf) h Tryz.func237
def B236 (o:Int) (g:Sl) (K:Value→World→Prop) (w:World):Prop:=
 New (.cells #[.int .i64 o,.slice g.a g.len g.cap] 37 (0,0)) (fun n k=>
 ∃ c:Sl,(At (fun j=>j=k) ⟨n,0 + 1,none⟩ [.slice c.a c.len c.cap])∧
 ∃ (f:Int→Int→World→Prop) (l:Int→Int→World→Nat),(f 0 0 k)∧∀ (p:Env) (e:Int) (b:Int) (d:World),f e b d→
 Br (decide (b<(↑c.len:Int)))
 (Rng b c.len (NilP c.a fun m=>
 ∃ i:Int,(At (fun j=>j=d) (Addr.add m b.toNat) [.int .i64 i])∧
 (f (IntKind.i64.wrap (e + i)) (IntKind.i64.wrap (b + 1)) d)∧l (IntKind.i64.wrap (e + i)) (IntKind.i64.wrap (b + 1)) d<l e b d))
 (K (.int .i64 e) d)) w
def sk236:Sk:=(.seq .leaf (.seq .leaf (.seq (.seq .leaf (.block (.loop [3,9] [(.int .i64),(.int .i64)] [3,5,9,10,11,12,13,14,15,16] .leaf))) .leaf)))
theorem call236 (c:Int) (b:Sl) (K:Value→World→Prop) (w:World) (h:B236 c b K w):Gets Tryz.prog 236 #[.agg #[.int .i64 c,.slice b.a b.len b.cap]] w K:=cq (sk:=sk236) h Tryz.func236
def B164 (r:Int) (f:Sl) (K:Value→World→Prop) (w:World):Prop:=
 New (.cells #[.int .i64 r,.slice f.a f.len f.cap] 37 (0,0)) (fun e m=>
 ∃ g:Int,∃ b:Sl,(At (fun s=>s=m) ⟨e,0,none⟩ [.int .i64 g,.slice b.a b.len b.cap])∧
 Calls Tryz.prog 165 #[.agg #[.int .i64 g,.slice b.a b.len b.cap]] m fun p n=>
 ∃ i:Bool,(p=.returned (.bool i))∧
 Br (!i)
 (K (.int .i64 0) n)
 (Drw n fun d t=>
 ∃ j:Int,(At d ⟨e,0,none⟩ [.int .i64 j])∧
 ∃ k:Int,∃ c:Sl,(At d ⟨e,0,none⟩ [.int .i64 k,.slice c.a c.len c.cap])∧
 Calls Tryz.prog 236 #[.agg #[.int .i64 k,.slice c.a c.len c.cap]] t fun q o=>
 ∃ l:Int,(q=.returned (.int .i64 l))∧
 (d o)∧
 K (.int .i64 (IntKind.i64.wrap (j * l))) o)) w
theorem call164 (c:Int) (b:Sl) (K:Value→World→Prop) (w:World) (h:B164 c b K w):Gets Tryz.prog 164 #[.agg #[.int .i64 c,.slice b.a b.len b.cap]] w K:=cq (sk:=.leaf) h Tryz.func164
def B234 (a:Int) (K:Value→World→Prop) (w:World):Prop:=
 Br (decide (a ≥ 0))
 (K (.bool (decide (a≤10000))) w)
 (K (.bool false) w)
theorem call234 (a:Int) (K:Value→World→Prop) (w:World) (h:B234 a K w):Gets Tryz.prog 234 #[.int .i64 a] w K:=cq (sk:=.leaf) h Tryz.func234
def B201 (c:Sl) (k:Sl) (t:Value) (K:Value→World→Prop) (w:World):Prop:=
 ∃ (s:World→Prop),(Br (decide ((↑c.len:Int)<1))
 (K (.bool false) w)
 (Br (decide ((↑c.len:Int)>8))
 (K (.bool false) w)
 (Br ((↑k.len:Int) !=(↑c.len:Int))
 (K (.bool false) w)
 (s  w))))∧
 ∀ (Z:Env)  (E:World),s  E→
 ∃ (n:Int→Bool→Int→World→Prop) (o:Int→Bool→Int→World→Nat),(n 0 true (IntKind.i64.wrap ((↑c.len:Int) - 1)) E)∧∀ (aa:Env) (d:Int) (j:Bool) (b:Int) (l:World),n d j b l→
 Br (decide (b ≥ 0))
 (∃ (p:World→Prop),(Drw l fun i Y=>
 Rng b c.len (NilP c.a fun H=>
 ∃ u:Int,(At i (Addr.add H b.toNat) [.int .i64 u])∧
 Calls Tryz.prog 234 #[.int .i64 u] Y fun T r=>
 ∃ v:Bool,(T=.returned (.bool v))∧
 (i r)∧
 Br (!v)
 (K (.bool false) r)
 (Rng b k.len (NilP k.a fun I=>
 ∃ x:Int,(At i (Addr.add I b.toNat) [.int .i64 x])∧
 Calls Tryz.prog 234 #[.int .i64 x] r fun U m=>
 ∃ y:Bool,(U=.returned (.bool y))∧
 (i m)∧
 Br (!y)
 (K (.bool false) m)
 (Br (decide (b>0))
 (Rng b c.len (NilP c.a fun J=>
 ∃ z:Int,(At i (Addr.add J b.toNat) [.int .i64 z])∧
 Rng (IntKind.i64.wrap (b - 1)) c.len (NilP c.a fun L=>
 ∃ A:Int,(At i (Addr.add L ((IntKind.i64.wrap (b - 1)).toNat)) [.int .i64 A])∧
 Br (decide (z>A))
 (K (.bool false) m)
 (p  m))))
 (p  m))))))∧
 ∀ (ab:Env)  (g:World),p  g→
 Rng b k.len (NilP k.a fun M=>
 ∃ e:Int,(At (fun f=>f=g) (Addr.add M b.toNat) [.int .i64 e])∧
 Br j
 (Rng b c.len (NilP c.a fun N=>
 ∃ q:Int,(At (fun f=>f=g) (Addr.add N b.toNat) [.int .i64 q])∧
 Rng b c.len (NilP c.a fun O=>
 ∃ C:Int,(At (fun f=>f=g) (Addr.add O b.toNat) [.int .i64 C])∧
 CalW Tryz.prog cl t [.int .i64 b,.int .i64 (IntKind.i64.wrap (C - IntKind.i64.wrap (d + e)))] g fun V F=>
 (V=.returned (.tuple #[]))∧
 (n (IntKind.i64.wrap (d + e)) (decide (IntKind.i64.wrap (d + e)≤q)) (IntKind.i64.wrap (b - 1)) F)∧o (IntKind.i64.wrap (d + e)) (decide (IntKind.i64.wrap (d + e)≤q)) (IntKind.i64.wrap (b - 1)) F<o d j b l)))
 (Rng b c.len (NilP c.a fun Q=>
 ∃ D:Int,(At (fun f=>f=g) (Addr.add Q b.toNat) [.int .i64 D])∧
 CalW Tryz.prog cl t [.int .i64 b,.int .i64 (IntKind.i64.wrap (D - IntKind.i64.wrap (d + e)))] g fun X G=>
 (X=.returned (.tuple #[]))∧
 (n (IntKind.i64.wrap (d + e)) false (IntKind.i64.wrap (b - 1)) G)∧o (IntKind.i64.wrap (d + e)) false (IntKind.i64.wrap (b - 1)) G<o d j b l))))
 (K (.bool j) l)
def sk201:Sk:=(.seq .leaf (.cut [] [] [6,10,11,12,13,14,15,16,17,18,19,20,21,22,23,24] .leaf (.seq .leaf (.seq (.seq .leaf (.block (.loop [7,8,9] [(.int .i64),.bool,(.int .i64)] [6,7,8,9,28,29,30,31,32,33,34,35,36,37,38,39,40,41,42,43,44,45,46,47,48,49,50,51,52,53,54,55,56,57,58,59,60,61,62,63,64,65,66,67,68,69,70,71,72,73,74,75,76,77,78,79,80,81,82,83,84,85] (.seq .leaf (.seq (.block (.cut [] [] [6,32,33,34,35,36,37,38,39,40,41,42,43,44,45,46,47,48,49,50,51,52,53,54,55,56,57,58,59,60,61] .leaf .leaf)) .leaf))))) .leaf))))
theorem call201 (b:Sl) (c:Sl) (d:Value) (K:Value→World→Prop) (w:World) (h:B201 b c d K w):Gets Tryz.prog 201 #[.slice b.a b.len b.cap,.slice c.a c.len c.cap,d] w K:=cq (sk:=sk201) h Tryz.func201
def B226 (b:Sl) (c:Sl) (K:Value→World→Prop) (w:World):Prop:=
 Calls Tryz.prog 201 #[.slice b.a b.len b.cap,.slice c.a c.len c.cap,.func (.func 273) #[] #[]] w fun e f=>
 ∃ d:Bool,(e=.returned (.bool d))∧
 K (.bool d) f
theorem call226 (b:Sl) (c:Sl) (K:Value→World→Prop) (w:World) (h:B226 b c K w):Gets Tryz.prog 226 #[.slice b.a b.len b.cap,.slice c.a c.len c.cap] w K:=cq (sk:=.leaf) h Tryz.func226
def B273 (a:Int) (b:Int) (K:Value→World→Prop) (w:World):Prop:=
 K (.tuple #[]) w
theorem call273 (a:Int) (b:Int) (K:Value→World→Prop) (w:World) (h:B273 a b K w):Gets Tryz.prog 273 #[.int .i64 a,.int .i64 b] w K:=cq (sk:=.leaf) h Tryz.func273
def B123 (d:Sl) (g:Sl) (n:Int) (K:Value→World→Prop) (w:World):Prop:=
 New (.cells #[.int .i64 n] 3 (0,0)) (fun e p=>
 New (.cells #[.int .i64 0] 3 (0,0)) (fun f q=>
 ∃ m:World,((Instr.storeAt 3 (.pointer ((some ⟨f,0,none⟩))) (.int .i64 10000)).run Tryz.prog q=.ok () m)∧
 Calls Tryz.prog 201 #[.slice d.a d.len d.cap,.slice g.a g.len g.cap,.func (.func 202) #[] #[.pointer ((some ⟨e,0,none⟩)),.pointer ((some ⟨f,0,none⟩))]] m fun o b=>
 ∃ i:Bool,(o=.returned (.bool i))∧
 Br (!i)
 (K (.tuple #[.int .i64 0,.int .i64 1]) b)
 (∃ j:Int,(At (fun c=>c=b) ⟨e,0,none⟩ [.int .i64 j])∧
 Br (decide (j<0))
 (K (.tuple #[.int .i64 0,.int .i64 1]) b)
 (∃ k:Int,(At (fun c=>c=b) ⟨e,0,none⟩ [.int .i64 k])∧
 Br (decide (k ≥ (↑d.len:Int)))
 (K (.tuple #[.int .i64 0,.int .i64 1]) b)
 (∃ l:Int,(At (fun c=>c=b) ⟨f,0,none⟩ [.int .i64 l])∧
 K (.tuple #[.int .i64 l,.int .i64 0]) b)))) p) w
theorem call123 (b:Sl) (c:Sl) (d:Int) (K:Value→World→Prop) (w:World) (h:B123 b c d K w):Gets Tryz.prog 123 #[.slice b.a b.len b.cap,.slice c.a c.len c.cap,.int .i64 d] w K:=cq (sk:=.leaf) h Tryz.func123
def B202 (k:Int) (d:Int) (j:Option Addr) (c:Option Addr) (K:Value→World→Prop) (w:World):Prop:=
 NilP j fun g=>
 ∃ e:Int,(At (fun b=>b=w) g [.int .i64 e])∧
 Br (decide (k≤e))
 (NilP c fun i=>
 ∃ a:Int,(At (fun b=>b=w) i [.int .i64 a])∧
 ∃ f:World,((Instr.storeAt 3 (.pointer c) (.int .i64 (if d<a then d else a))).run Tryz.prog w=.ok () f)∧
 K (.tuple #[]) f)
 (K (.tuple #[]) w)
theorem call202 (c:Int) (d:Int) (a:Option Addr) (b:Option Addr) (K:Value→World→Prop) (w:World) (h:B202 c d a b K w):Gets Tryz.prog 202 #[.int .i64 c,.int .i64 d,.pointer a,.pointer b] w K:=cq (sk:=.leaf) h Tryz.func202
def B168 (f:Sl) (b:Sl) (g:Int) (e:Int) (K:Value→World→Prop) (w:World):Prop:=
 Calls Tryz.prog 123 #[.slice f.a f.len f.cap,.slice b.a b.len b.cap,.int .i64 g] w fun k d=>
 ∃ i:Int,∃ j:Int,(k=.returned (.tuple #[.int .i64 i,.int .i64 j]))∧
 Br (j !=0)
 (K (.tuple #[.slice none 0 0,.int .i64 1]) d)
 (Br (decide (e<1))
 (K (.tuple #[.slice none 0 0,.int .i64 1]) d)
 (Br (decide (e>10000))
 (K (.tuple #[.slice none 0 0,.int .i64 1]) d)
 (Br (decide (e>i))
 (K (.tuple #[.slice none 0 0,.int .i64 3]) d)
 (Calls Tryz.prog 238 #[.slice b.a b.len b.cap,.int .i64 g,.int .i64 e] d fun l m=>
 ∃ c:Sl,(l=.returned (.slice c.a c.len c.cap))∧
 K (.tuple #[.slice c.a c.len c.cap,.int .i64 0]) m))))
theorem call168 (b:Sl) (c:Sl) (d:Int) (e:Int) (K:Value→World→Prop) (w:World) (h:B168 b c d e K w):Gets Tryz.prog 168 #[.slice b.a b.len b.cap,.slice c.a c.len c.cap,.int .i64 d,.int .i64 e] w K:=cq (sk:=.leaf) h Tryz.func168
def B238 (d:Sl) (c:Int) (l:Int) (K:Value→World→Prop) (w:World):Prop:=
 Calls Tryz.prog 166 #[.slice d.a d.len d.cap] w fun k f=>
 ∃ b:Sl,(k=.returned (.slice b.a b.len b.cap))∧
 Rng c b.len (NilP b.a fun i=>
 ∃ e:Int,(At (fun m=>m=f) (Addr.add i c.toNat) [.int .i64 e])∧
 Rng c b.len (NilP b.a fun j=>
 ∃ g:World,((Instr.storeAt 3 (.pointer ((some (Addr.add j c.toNat)))) (.int .i64 (IntKind.i64.wrap (e + l)))).run Tryz.prog f=.ok () g)∧
 K (.slice b.a b.len b.cap) g))
theorem call238 (b:Sl) (c:Int) (d:Int) (K:Value→World→Prop) (w:World) (h:B238 b c d K w):Gets Tryz.prog 238 #[.slice b.a b.len b.cap,.int .i64 c,.int .i64 d] w K:=cq (sk:=.leaf) h Tryz.func238
end Go.Proofs.YtlplemdmegpoeaaGreatDoor
/- The formulas of functions of this seat's translation, printed by a program of mine off the translation; each is proved equal to 'fnF' of the function's body, so it is enough for the call. No condition. -/
namespace Go.Proofs.YtlplemdmegpoeaaGreatDoor
open Go Go.VC
set_option linter.unusedVariables false
set_option maxRecDepth 10000
def B167 (g:Int) (ah:Int) (n:Sl) (b:Sl) (K:Value→World→Prop) (w:World):Prop:=
 New (.cells #[.int .i64 ah,.slice n.a n.len n.cap] 37 (0,0)) (fun O ai=>
 Drw ai fun c t=>
 ∃ f:Int,∃ d:Sl,(At c ⟨O,0,none⟩ [.int .i64 f,.slice d.a d.len d.cap])∧
 (∃ m:World,∃ e:Sl,((Instr.makeSlice 30 (.int .i64 ((↑b.len:Int))) (.int .i64 ((↑b.len:Int)))).run Tryz.prog t=.ok (.slice e.a e.len e.cap) m)∧
 (c m)∧
 (New (.map #[] 0) (fun Q H=>
 (c H)∧
 New (.map #[] 0) (fun X I=>
 (c I)∧
 New (.cells #[.int .i64 g,.int .i64 f,.slice d.a d.len d.cap,.slice b.a b.len b.cap,.slice e.a e.len e.cap,.map ((some Q)),.map ((some X))] 186 (0,0)) (fun ab J=>
 (c J)∧
 K (.pointer ((some ⟨ab,0,none⟩))) J) I) H) m)∧
 New (.map #[] 0) (fun Y L=>
 (c L)∧
 New (.map #[] 0) (fun T M=>
 (c M)∧
 New (.cells #[.int .i64 g,.int .i64 f,.slice d.a d.len d.cap,.slice b.a b.len b.cap,.slice e.a e.len e.cap,.map ((some T)),.map ((some Y))] 186 (0,0)) (fun ac N=>
 (c N)∧
 K (.pointer ((some ⟨ac,0,none⟩))) N) M) L) m)∧
 (New (.map #[] 0) (fun v o=>
 (c o)∧
 (∃ p:World,∃ i:Sl,((Instr.makeSlice 30 (.int .i64 ((↑b.len:Int))) (.int .i64 ((↑b.len:Int)))).run Tryz.prog o=.ok (.slice i.a i.len i.cap) p)∧
 (c p)∧
 New (.map #[] 0) (fun Z y=>
 (c y)∧
 New (.cells #[.int .i64 g,.int .i64 f,.slice d.a d.len d.cap,.slice b.a b.len b.cap,.slice i.a i.len i.cap,.map ((some v)),.map ((some Z))] 186 (0,0)) (fun ad z=>
 (c z)∧
 K (.pointer ((some ⟨ad,0,none⟩))) z) y) p)∧
 New (.map #[] 0) (fun aa A=>
 (c A)∧
 ∃ q:World,∃ j:Sl,((Instr.makeSlice 30 (.int .i64 ((↑b.len:Int))) (.int .i64 ((↑b.len:Int)))).run Tryz.prog A=.ok (.slice j.a j.len j.cap) q)∧
 (c q)∧
 New (.cells #[.int .i64 g,.int .i64 f,.slice d.a d.len d.cap,.slice b.a b.len b.cap,.slice j.a j.len j.cap,.map ((some v)),.map ((some aa))] 186 (0,0)) (fun ae C=>
 (c C)∧
 K (.pointer ((some ⟨ae,0,none⟩))) C) q) o) t)∧
 New (.map #[] 0) (fun x r=>
 (c r)∧
 (∃ s:World,∃ k:Sl,((Instr.makeSlice 30 (.int .i64 ((↑b.len:Int))) (.int .i64 ((↑b.len:Int)))).run Tryz.prog r=.ok (.slice k.a k.len k.cap) s)∧
 (c s)∧
 New (.map #[] 0) (fun U D=>
 (c D)∧
 New (.cells #[.int .i64 g,.int .i64 f,.slice d.a d.len d.cap,.slice b.a b.len b.cap,.slice k.a k.len k.cap,.map ((some U)),.map ((some x))] 186 (0,0)) (fun af E=>
 (c E)∧
 K (.pointer ((some ⟨af,0,none⟩))) E) D) s)∧
 New (.map #[] 0) (fun V F=>
 (c F)∧
 ∃ u:World,∃ l:Sl,((Instr.makeSlice 30 (.int .i64 ((↑b.len:Int))) (.int .i64 ((↑b.len:Int)))).run Tryz.prog F=.ok (.slice l.a l.len l.cap) u)∧
 (c u)∧
 New (.cells #[.int .i64 g,.int .i64 f,.slice d.a d.len d.cap,.slice b.a b.len b.cap,.slice l.a l.len l.cap,.map ((some V)),.map ((some x))] 186 (0,0)) (fun ag G=>
 (c G)∧
 K (.pointer ((some ⟨ag,0,none⟩))) G) u) r) t) w
theorem call167 (e:Int) (d:Int) (b:Sl) (c:Sl) (K:Value→World→Prop) (w:World) (h:B167 e d b c K w):Gets Tryz.prog 167 #[.int .i64 e,.agg #[.int .i64 d,.slice b.a b.len b.cap],.slice c.a c.len c.cap] w K:=cq (sk:=.leaf) h Tryz.func167
def B101 (f:Option Addr) (g:Int) (r:Int) (s:Int) (K:Value→World→Prop) (w:World):Prop:=
 NilP f fun m=>
 ∃ t:Option Nat,(At (fun b=>b=w) ⟨m.block,m.off + 5,none⟩ [.map t])∧
 ∃ D:Option Addr,∃ u:Bool,(∀ b,(fun b=>b=w) b→((Instr.lookup 183 (.map t) (.int .i64 g) true)).run Tryz.prog b=.ok (.tuple #[.pointer D,.bool u]) b)∧
 ∃ (k:World→Prop),(Br (decide (g<1))
 (K (.int .i64 1) w)
 (Br (decide (g>28629151))
 (K (.int .i64 1) w)
 (Br u
 (K (.int .i64 7) w)
 (k  w))))∧
 ∀ (G:Env)  (x:World),k  x→
 Drw x fun l E=>
 NilP f fun n=>
 ∃ c:Sl,(At l ⟨n.block,n.off + 3,none⟩ [.slice c.a c.len c.cap])∧
 NilP f fun o=>
 ∃ d:Sl,(At l ⟨o.block,o.off + 4,none⟩ [.slice d.a d.len d.cap])∧
 Calls Tryz.prog 168 #[.slice c.a c.len c.cap,.slice d.a d.len d.cap,.int .i64 r,.int .i64 s] E fun C y=>
 ∃ e:Sl,∃ i:Int,(C=.returned (.tuple #[.slice e.a e.len e.cap,.int .i64 i]))∧
 Br (i==0)
 (NilP f fun p=>
 ∃ j:World,((Instr.storeAt 30 (.pointer ((some ⟨p.block,p.off + 4,none⟩))) (.slice e.a e.len e.cap)).run Tryz.prog y=.ok () j)∧
 NilP f fun q=>
 ∃ v:Option Nat,(At (fun b=>b=j) ⟨q.block,q.off + 5,none⟩ [.map v])∧
 New (.cells #[.int .i64 g,.int .i64 r,.int .i64 s,.slice none 0 0] 197 (0,0)) (fun A F=>
 ∃ z:World,((Instr.mapUpdate 183 (.map v) (.int .i64 g) (.pointer ((some ⟨A,0,none⟩)))).run Tryz.prog F=.ok () z)∧
 K (.int .i64 i) z) j)
 (K (.int .i64 i) y)
def sk101:Sk:=(.seq .leaf (.seq .leaf (.cut [] [] [8,22,23,24,25,26,27,28,29,30] .leaf .leaf)))
theorem call101 (b:Option Addr) (d:Int) (a:Int) (c:Int) (K:Value→World→Prop) (w:World) (h:B101 b d a c K w):Gets Tryz.prog 101 #[.pointer b,.int .i64 d,.int .i64 a,.int .i64 c] w K:=cq (sk:=sk101) h Tryz.func101
def B178 (y:Option Addr) (e:Option Addr) (f:Int) (K:Value→World→Prop) (w:World):Prop:=
 NilP e fun j=>
 ∃ b:Sl,(At (fun g=>g=w) ⟨j.block,j.off + 3,none⟩ [.slice b.a b.len b.cap])∧
 Calls Tryz.prog 248 #[.slice b.a b.len b.cap,.int .i64 f] w fun v q=>
 ∃ n:Int,∃ z:Bool,(v=.returned (.tuple #[.int .i64 n,.bool z]))∧
 NilP e fun k=>
 ∃ c:Sl,(At (fun g=>g=q) ⟨k.block,k.off + 3,none⟩ [.slice c.a c.len c.cap])∧
 New (.cells #[.int .i64 f] 3 (0,0)) (fun u A=>
 Calls Tryz.prog 249 #[.slice c.a c.len c.cap,.int .i64 n,.slice ((some ⟨u,0,none⟩)) 1 1] A fun x C=>
 ∃ d:Sl,(x=.returned (.slice d.a d.len d.cap))∧
 NilP e fun l=>
 ∃ r:World,((Instr.storeAt 30 (.pointer ((some ⟨l.block,l.off + 3,none⟩))) (.slice d.a d.len d.cap)).run Tryz.prog C=.ok () r)∧
 Drw r fun i D=>
 NilP y fun m=>
 ∃ o:Option Nat,(At i ⟨m.block,m.off + 6,none⟩ [.map o])∧
 NilP e fun t=>
 ∃ p:Int,(At i (Addr.add t 0) [.int .i64 p])∧
 ∃ s:World,((Instr.mapUpdate 184 (.map o) (.int .i64 f) (.int .i64 p)).run Tryz.prog D=.ok () s)∧
 K (.tuple #[]) s) q
theorem call178 (a:Option Addr) (b:Option Addr) (c:Int) (K:Value→World→Prop) (w:World) (h:B178 a b c K w):Gets Tryz.prog 178 #[.pointer a,.pointer b,.int .i64 c] w K:=cq (sk:=.leaf) h Tryz.func178
def B160 (c:Option Addr) (K:Value→World→Prop) (w:World):Prop:=
 NilP c fun b=>
 ∃ a:Int,(At (fun d=>d=w) (Addr.add b 0) [.int .i64 a])∧
 K (.int .i64 a) w
theorem call160 (a:Option Addr) (K:Value→World→Prop) (w:World) (h:B160 a K w):Gets Tryz.prog 160 #[.pointer a] w K:=cq (sk:=.leaf) h Tryz.func160
def B55 (j:Option Addr) (K:Value→World→Prop) (w:World):Prop:=
 NilP j fun o=>
 ∃ f:Sl,(At (fun v=>v=w) ⟨o.block,o.off + 3,none⟩ [.slice f.a f.len f.cap])∧
 ∃ q:World,∃ b:Sl,((Instr.makeSlice 30 (.int .i64 ((↑f.len:Int))) (.int .i64 ((↑f.len:Int)))).run Tryz.prog w=.ok (.slice b.a b.len b.cap) q)∧
 ∃ (i:Int→World→Prop) (r:Int→World→Nat),(i 0 q)∧∀ (z:Env) (c:Int) (g:World),i c g→
 Br (decide (c<(↑b.len:Int)))
 (Drw g fun l x=>
 NilP j fun m=>
 ∃ d:Sl,(At l ⟨m.block,m.off + 3,none⟩ [.slice d.a d.len d.cap])∧
 NilP j fun n=>
 ∃ e:Sl,(At l ⟨n.block,n.off + 4,none⟩ [.slice e.a e.len e.cap])∧
 Calls Tryz.prog 123 #[.slice d.a d.len d.cap,.slice e.a e.len e.cap,.int .i64 c] x fun t y=>
 ∃ p:Int,∃ u:Int,(t=.returned (.tuple #[.int .i64 p,.int .i64 u]))∧
 Rng c b.len (NilP b.a fun s=>
 ∃ k:World,((Instr.storeAt 3 (.pointer ((some (Addr.add s c.toNat)))) (.int .i64 p)).run Tryz.prog y=.ok () k)∧
 (i (IntKind.i64.wrap (c + 1)) k)∧r (IntKind.i64.wrap (c + 1)) k<r c g))
 (K (.slice b.a b.len b.cap) g)
def sk55:Sk:=(.seq .leaf (.seq .leaf (.seq (.seq .leaf (.block (.loop [13] [(.int .i64)] [4,13,14,15,16,17,18,19,20,21,22,23,24,25,26,27,28,29,30,31,32] .leaf))) .leaf)))
theorem call55 (a:Option Addr) (K:Value→World→Prop) (w:World) (h:B55 a K w):Gets Tryz.prog 55 #[.pointer a] w K:=cq (sk:=sk55) h Tryz.func55
def B134 (t:Option Addr) (K:Value→World→Prop) (w:World):Prop:=
 NilP t fun s=>
 ∃ u:Option Nat,(At (fun b=>b=w) ⟨s.block,s.off + 5,none⟩ [.map u])∧
 Calls Tryz.prog 209 #[.map u] w fun M Q=>
 ∃ v:Value,(M=.returned (v))∧
 Calls Tryz.prog 61 #[v] Q fun N T=>
 ∃ f:Sl,(N=.returned (.slice f.a f.len f.cap))∧
 ∃ (n:Sl→Int→World→Prop) (H:Sl→Int→World→Nat),(n ⟨none,0,0⟩ 0 T)∧∀ (Y:Env) (c:Sl) (e:Int) (d:World),n c e d→
 Br (decide (e<(↑f.len:Int)))
 (Rng e f.len (NilP f.a fun I=>
 ∃ x:Int,(At (fun b=>b=d) (Addr.add I e.toNat) [.int .i64 x])∧
 NilP t fun r=>
 ∃ y:Option Nat,(At (fun b=>b=d) ⟨r.block,r.off + 5,none⟩ [.map y])∧
 ∃ z:Option Addr,(∀ b,(fun b=>b=d) b→((Instr.lookup 183 (.map y) (.int .i64 x) false)).run Tryz.prog b=.ok (.pointer z) b)∧
 NilP z fun J=>
 ∃ A:Int,∃ C:Int,∃ D:Int,∃ g:Sl,(At (fun b=>b=d) J [.int .i64 A,.int .i64 C,.int .i64 D,.slice g.a g.len g.cap])∧
 New (.cells #[.int .i64 0,.int .i64 0,.int .i64 0,.slice none 0 0] 197 (0,0)) (fun m U=>
 ∃ o:World,((Instr.storeAt 197 (.pointer ((some ⟨m,0,none⟩))) (.agg #[.int .i64 A,.int .i64 C,.int .i64 D,.slice g.a g.len g.cap])).run Tryz.prog U=.ok () o)∧
 ∃ i:Sl,(At (fun b=>b=o) ⟨m,0 + 3,none⟩ [.slice i.a i.len i.cap])∧
 Calls Tryz.prog 166 #[.slice i.a i.len i.cap] o fun O V=>
 ∃ j:Sl,(O=.returned (.slice j.a j.len j.cap))∧
 ∃ p:World,((Instr.storeAt 30 (.pointer ((some ⟨m,0 + 3,none⟩))) (.slice j.a j.len j.cap)).run Tryz.prog V=.ok () p)∧
 ∃ E:Int,∃ F:Int,∃ G:Int,∃ k:Sl,(At (fun b=>b=p) ⟨m,0,none⟩ [.int .i64 E,.int .i64 F,.int .i64 G,.slice k.a k.len k.cap])∧
 New (.cells #[.int .i64 E,.int .i64 F,.int .i64 G,.slice k.a k.len k.cap] 197 (0,0)) (fun L X=>
 ∃ q:World,∃ l:Sl,((Builtin.append_ #[177,177] 177 #[.slice c.a c.len c.cap,.slice ((some ⟨L,0,none⟩)) 1 1]).run Tryz.prog X=.ok (.slice l.a l.len l.cap) q)∧
 (n l (IntKind.i64.wrap (e + 1)) q)∧H l (IntKind.i64.wrap (e + 1)) q<H c e d) p) d))
 (K (.slice c.a c.len c.cap) d)
def sk134:Sk:=(.seq .leaf (.seq .leaf (.seq (.seq .leaf (.block (.loop [3,14] [.sl,(.int .i64)] [3,5,6,14,15,16,17,18,19,20,21,22,23,24,25,26,27,28,29,30,31,32,33,34] .leaf))) .leaf)))
theorem call134 (a:Option Addr) (K:Value→World→Prop) (w:World) (h:B134 a K w):Gets Tryz.prog 134 #[.pointer a] w K:=cq (sk:=sk134) h Tryz.func134
def B64 (e:Option Addr) (K:Value→World→Prop) (w:World):Prop:=
 New (.cells #[.slice none 0 0] 47 (0,0)) (fun y am=>
 New (.cells #[.nilFunc] 113 (0,0)) (fun c aq=>
 ∃ V:World,((Instr.storeAt 113 (.pointer ((some ⟨c,0,none⟩))) (.func (.func 132) #[] #[.pointer ((some ⟨y,0,none⟩))])).run Tryz.prog aq=.ok () V)∧
 Drw V fun o ar=>
 ∃ z:Value,(At o ⟨c,0,none⟩ [z])∧
 NilP e fun aa=>
 ∃ A:Int,(At o (Addr.add aa 0) [.int .i64 A])∧
 NilP e fun t=>
 ∃ C:Int,(At o ⟨t.block,t.off + 1,none⟩ [.int .i64 C])∧
 New (.cells #[.int .i64 A,.int .i64 C] 3 (0,0)) (fun ac X=>
 (o X)∧
 CalW Tryz.prog cl z [.slice ((some ⟨ac,0,none⟩)) 2 2] X fun af s=>
 (af=.returned (.tuple #[]))∧
 (o s)∧
 NilP e fun u=>
 ∃ f:Sl,(At (fun b=>b=s) ⟨u.block,u.off + 1 + 1,none⟩ [.slice f.a f.len f.cap])∧
 Calls Tryz.prog 133 #[.slice f.a f.len f.cap,.pointer ((some ⟨c,0,none⟩))] s fun ag Y=>
 (ag=.returned (.tuple #[]))∧
 NilP e fun v=>
 ∃ g:Sl,(At (fun b=>b=Y) ⟨v.block,v.off + 3,none⟩ [.slice g.a g.len g.cap])∧
 Calls Tryz.prog 133 #[.slice g.a g.len g.cap,.pointer ((some ⟨c,0,none⟩))] Y fun ah au=>
 (ah=.returned (.tuple #[]))∧
 Drw au fun p av=>
 ∃ D:Value,(At p ⟨c,0,none⟩ [D])∧
 NilP e fun x=>
 ∃ E:Option Nat,(At p ⟨x.block,x.off + 5,none⟩ [.map E])∧
 ∃ F:Int,(∀ b,p b→((Builtin.len_ #[183] 3 #[.map E])).run Tryz.prog b=.ok (.int .i64 F) b)∧
 New (.cells #[.int .i64 F] 3 (0,0)) (fun ad O=>
 (p O)∧
 CalW Tryz.prog cl D [.slice ((some ⟨ad,0,none⟩)) 1 1] O fun ai Q=>
 (ai=.returned (.tuple #[]))∧
 (p Q)∧
 Calls Tryz.prog 134 #[.pointer e] Q fun aj an=>
 ∃ i:Sl,(aj=.returned (.slice i.a i.len i.cap))∧
 ∃ (r:Int→World→Prop) (Z:Int→World→Nat),(r 0 an)∧∀ (aw:Env) (d:Int) (m:World),r d m→
 Br (decide (d<(↑i.len:Int)))
 (Rng d i.len (NilP i.a fun ab=>
 ∃ G:Int,∃ H:Int,∃ I:Int,∃ j:Sl,(At (fun b=>b=m) (Addr.add ab (mulS d.toNat 4)) [.int .i64 G,.int .i64 H,.int .i64 I,.slice j.a j.len j.cap])∧
 New (.cells #[.int .i64 0,.int .i64 0,.int .i64 0,.slice none 0 0] 197 (0,0)) (fun q ao=>
 ∃ n:World,((Instr.storeAt 197 (.pointer ((some ⟨q,0,none⟩))) (.agg #[.int .i64 G,.int .i64 H,.int .i64 I,.slice j.a j.len j.cap])).run Tryz.prog ao=.ok () n)∧
 ∃ J:Value,(At (fun b=>b=n) ⟨c,0,none⟩ [J])∧
 ∃ L:Int,(At (fun b=>b=n) ⟨q,0,none⟩ [.int .i64 L])∧
 ∃ M:Int,(At (fun b=>b=n) ⟨q,0 + 1,none⟩ [.int .i64 M])∧
 ∃ N:Int,(At (fun b=>b=n) ⟨q,0 + 2,none⟩ [.int .i64 N])∧
 New (.cells #[.int .i64 L,.int .i64 M,.int .i64 N] 3 (0,0)) (fun ae ap=>
 CalW Tryz.prog cl J [.slice ((some ⟨ae,0,none⟩)) 3 3] ap fun ak T=>
 (ak=.returned (.tuple #[]))∧
 ∃ k:Sl,(At (fun b=>b=T) ⟨q,0 + 3,none⟩ [.slice k.a k.len k.cap])∧
 Calls Tryz.prog 133 #[.slice k.a k.len k.cap,.pointer ((some ⟨c,0,none⟩))] T fun al U=>
 (al=.returned (.tuple #[]))∧
 (r (IntKind.i64.wrap (d + 1)) U)∧Z (IntKind.i64.wrap (d + 1)) U<Z d m) n) m))
 (∃ l:Sl,(At (fun b=>b=m) ⟨y,0,none⟩ [.slice l.a l.len l.cap])∧
 K (.slice l.a l.len l.cap) m)) av) ar) am) w
def sk64:Sk:=(.seq .leaf (.seq .leaf (.seq .leaf (.seq .leaf (.seq .leaf (.seq .leaf (.seq .leaf (.seq .leaf (.seq (.seq .leaf (.block (.loop [46] [(.int .i64)] [7,46,47,48,49,50,51,52,53,54,55,56,57,58,59,60,61,62,63] .leaf))) .leaf)))))))))
theorem call64 (a:Option Addr) (K:Value→World→Prop) (w:World) (h:B64 a K w):Gets Tryz.prog 64 #[.pointer a] w K:=cq (sk:=sk64) h Tryz.func64
def B132 (i:Sl) (l:Option Addr) (K:Value→World→Prop) (w:World):Prop:=
 ∃ (g:Int→World→Prop) (p:Int→World→Nat),(g 0 w)∧∀ (v:Env) (b:Int) (f:World),g b f→
 Br (decide (b<(↑i.len:Int)))
 (Rng b i.len (NilP i.a fun r=>
 ∃ m:Int,(At (fun t=>t=f) (Addr.add r b.toNat) [.int .i64 m])∧
 Drw f fun k u=>
 NilP l fun q=>
 ∃ c:Sl,(At k q [.slice c.a c.len c.cap])∧
 Calls Tryz.prog 128 #[.int .u64 (IntKind.u64.wrap m)] u fun s n=>
 ∃ d:Sl,(s=.returned (.slice d.a d.len d.cap))∧
 (k n)∧
 ∃ o:World,∃ e:Sl,((Builtin.append_ #[47,47] 47 #[.slice c.a c.len c.cap,.slice d.a d.len d.cap]).run Tryz.prog n=.ok (.slice e.a e.len e.cap) o)∧
 ∃ j:World,((Instr.storeAt 47 (.pointer l) (.slice e.a e.len e.cap)).run Tryz.prog o=.ok () j)∧
 (g (IntKind.i64.wrap (b + 1)) j)∧p (IntKind.i64.wrap (b + 1)) j<p b f))
 (K (.tuple #[]) f)
def sk132:Sk:=(.seq .leaf (.block (.loop [7] [(.int .i64)] [4,7,8,9,10,11,12,13,14,15,16] .leaf)))
theorem call132 (b:Sl) (c:Option Addr) (K:Value→World→Prop) (w:World) (h:B132 b c K w):Gets Tryz.prog 132 #[.slice b.a b.len b.cap,.pointer c] w K:=cq (sk:=sk132) h Tryz.func132
def B133 (b:Sl) (d:Option Addr) (K:Value→World→Prop) (w:World):Prop:=
 NilP d fun i=>
 ∃ e:Value,(At (fun c=>c=w) i [e])∧
 New (.cells #[.int .i64 ((↑b.len:Int))] 3 (0,0)) (fun k n=>
 CalW Tryz.prog cl e [.slice ((some ⟨k,0,none⟩)) 1 1] n fun l g=>
 (l=.returned (.tuple #[]))∧
 NilP d fun j=>
 ∃ f:Value,(At (fun c=>c=g) j [f])∧
 CalW Tryz.prog cl f [.slice b.a b.len b.cap] g fun m o=>
 (m=.returned (.tuple #[]))∧
 K (.tuple #[]) o) w
theorem call133 (b:Sl) (c:Option Addr) (K:Value→World→Prop) (w:World) (h:B133 b c K w):Gets Tryz.prog 133 #[.slice b.a b.len b.cap,.pointer c] w K:=cq (sk:=.leaf) h Tryz.func133
def B158 (I:Sl) (K:Value→World→Prop) (w:World):Prop:=
 Calls Tryz.prog 91 #[.slice I.a I.len I.cap] w fun ck c7=>
 ∃ az:Option Addr,(ck=.returned (.pointer az))∧
 New (.cells #[.pointer none] 153 (0,0)) (fun J da=>
 ∃ bv:World,((Instr.storeAt 153 (.pointer ((some ⟨J,0,none⟩))) (.pointer az)).run Tryz.prog da=.ok () bv)∧
 New (.cells #[.nilFunc] 103 (0,0)) (fun g dc=>
 ∃ b9:World,((Instr.storeAt 103 (.pointer ((some ⟨g,0,none⟩))) (.func (.func 224) #[] #[.pointer ((some ⟨J,0,none⟩))])).run Tryz.prog dc=.ok () b9)∧
 Drw b9 fun A de=>
 ∃ a0:Value,(At A ⟨g,0,none⟩ [a0])∧
 ∃ a2:Value,(At A ⟨g,0,none⟩ [a2])∧
 CalW Tryz.prog cl a0 [.int .i64 9999] de fun cm ca=>
 ∃ a1:Int,(cm=.returned (.int .i64 a1))∧
 (A ca)∧
 CalW Tryz.prog cl a2 [.int .i64 60] ca fun cx cb=>
 ∃ a3:Int,(cx=.returned (.int .i64 a3))∧
 (A cb)∧
 Calls Tryz.prog 167 #[.int .i64 a1,.agg #[.int .i64 a3,.slice none 0 0],.slice none 0 0] cb fun c0 cc=>
 ∃ d:Option Addr,(c0=.returned (.pointer d))∧
 (A cc)∧
 Calls Tryz.prog 225 #[.int .i64 4,.int .i64 10,.pointer ((some ⟨g,0,none⟩))] cc fun c1 c8=>
 ∃ n:Sl,(c1=.returned (.slice n.a n.len n.cap))∧
 NilP d fun ad=>
 ∃ bl:World,((Instr.storeAt 30 (.pointer ((some ⟨ad.block,ad.off + 1 + 1,none⟩))) (.slice n.a n.len n.cap)).run Tryz.prog c8=.ok () bl)∧
 Calls Tryz.prog 225 #[.int .i64 8,.int .i64 10000,.pointer ((some ⟨g,0,none⟩))] bl fun c2 c9=>
 ∃ o:Sl,(c2=.returned (.slice o.a o.len o.cap))∧
 NilP d fun ae=>
 ∃ U:World,((Instr.storeAt 30 (.pointer ((some ⟨ae.block,ae.off + 3,none⟩))) (.slice o.a o.len o.cap)).run Tryz.prog c9=.ok () U)∧
 NilP d fun af=>
 ∃ D:Sl,(At (fun c=>c=U) ⟨af.block,af.off + 3,none⟩ [.slice D.a D.len D.cap])∧
 ∃ bm:World,∃ p:Sl,((Instr.makeSlice 30 (.int .i64 ((↑D.len:Int))) (.int .i64 ((↑D.len:Int)))).run Tryz.prog U=.ok (.slice p.a p.len p.cap) bm)∧
 NilP d fun ag=>
 ∃ bn:World,((Instr.storeAt 30 (.pointer ((some ⟨ag.block,ag.off + 4,none⟩))) (.slice p.a p.len p.cap)).run Tryz.prog bm=.ok () bn)∧
 ∃ (y:Bool→World→Prop),(Drw bn fun f bo=>
 NilP d fun ch=>
 ∃ a4:Int,(At f (Addr.add ch 0) [.int .i64 a4])∧
 Br (decide (a4>0))
 (NilP d fun ah=>
 ∃ a5:Int,∃ q:Sl,(At f ⟨ah.block,ah.off + 1,none⟩ [.int .i64 a5,.slice q.a q.len q.cap])∧
 Calls Tryz.prog 165 #[.agg #[.int .i64 a5,.slice q.a q.len q.cap]] bo fun c3 V=>
 ∃ a6:Bool,(c3=.returned (.bool a6))∧
 (f V)∧
 Br a6
 (NilP d fun ai=>
 ∃ r:Sl,(At f ⟨ai.block,ai.off + 3,none⟩ [.slice r.a r.len r.cap])∧
 NilP d fun aj=>
 ∃ s:Sl,(At f ⟨aj.block,aj.off + 4,none⟩ [.slice s.a s.len s.cap])∧
 Calls Tryz.prog 226 #[.slice r.a r.len r.cap,.slice s.a s.len s.cap] V fun c4 X=>
 ∃ a7:Bool,(c4=.returned (.bool a7))∧
 (f X)∧
 Br a7
 (NilP d fun ak=>
 ∃ E:Sl,(At f ⟨ak.block,ak.off + 3,none⟩ [.slice E.a E.len E.cap])∧
 Rng 0 E.len (NilP E.a fun ci=>
 ∃ a8:Int,(At f (Addr.add ci 0) [.int .i64 a8])∧
 NilP d fun al=>
 ∃ a9:Int,∃ t:Sl,(At f ⟨al.block,al.off + 1,none⟩ [.int .i64 a9,.slice t.a t.len t.cap])∧
 Calls Tryz.prog 164 #[.agg #[.int .i64 a9,.slice t.a t.len t.cap]] X fun c5 bp=>
 ∃ ba:Int,(c5=.returned (.int .i64 ba))∧
 (f bp)∧
 y (a8==ba) bp))
 (y false X))
 (y false V))
 (y false bo))∧
 ∀ (df:Env) (ar:Bool) (Y:World),y ar Y→
 ∃ bb:Value,(At (fun c=>c=Y) ⟨g,0,none⟩ [bb])∧
 CalW Tryz.prog cl bb [.int .i64 600] Y fun c6 db=>
 ∃ bc:Int,(c6=.returned (.int .i64 bc))∧
 ∃ (x:Bool→Int→Int→World→Prop) (v:Bool→Int→Int→World→Nat),(x ar 0 0 db)∧∀ (dg:Env) (l:Bool) (C:Int) (e:Int) (k:World),x l C e k→
 Br (decide (e<bc))
 (∃ (z:Option Addr→World→Prop),(Drw k fun b bq=>
 ∃ Q:Value,(At b ⟨g,0,none⟩ [Q])∧
 ∃ H:Value,(At b ⟨g,0,none⟩ [H])∧
 ∃ F:Value,(At b ⟨g,0,none⟩ [F])∧
 (CalW Tryz.prog cl Q [.int .i64 28629151] bq fun cn Z=>
 ∃ G:Int,(cn=.returned (.int .i64 G))∧
 (b Z)∧
 (CalW Tryz.prog cl H [.int .i64 8] Z fun co aa=>
 ∃ T:Int,(co=.returned (.int .i64 T))∧
 (b aa)∧
 (CalW Tryz.prog cl F [.int .i64 600] aa fun cp br=>
 ∃ bg:Int,(cp=.returned (.int .i64 bg))∧
 (b br)∧
 New (.cells #[.int .i64 0,.int .i64 0,.int .i64 0,.slice none 0 0] 197 (0,0)) (fun an bs=>
 (b bs)∧
 ∃ bt:World,((Instr.storeAt 197 (.pointer ((some ⟨an,0,none⟩))) (.agg #[.int .i64 G,.int .i64 T,.int .i64 bg,.slice none 0 0])).run Tryz.prog bs=.ok () bt)∧
 z ((some ⟨an,0,none⟩)) bt) br)∧
 New (.cells #[.int .i64 0,.int .i64 0,.int .i64 0,.slice none 0 0] 197 (0,0)) (fun ao bu=>
 (b bu)∧
 CalW Tryz.prog cl F [.int .i64 600] bu fun cq bw=>
 ∃ bh:Int,(cq=.returned (.int .i64 bh))∧
 (b bw)∧
 ∃ bx:World,((Instr.storeAt 197 (.pointer ((some ⟨ao,0,none⟩))) (.agg #[.int .i64 G,.int .i64 T,.int .i64 bh,.slice none 0 0])).run Tryz.prog bw=.ok () bx)∧
 z ((some ⟨ao,0,none⟩)) bx) aa)∧
 New (.cells #[.int .i64 0,.int .i64 0,.int .i64 0,.slice none 0 0] 197 (0,0)) (fun ap bz=>
 (b bz)∧
 CalW Tryz.prog cl H [.int .i64 8] bz fun cr b0=>
 ∃ be:Int,(cr=.returned (.int .i64 be))∧
 (b b0)∧
 CalW Tryz.prog cl F [.int .i64 600] b0 fun cs b1=>
 ∃ bi:Int,(cs=.returned (.int .i64 bi))∧
 (b b1)∧
 ∃ b2:World,((Instr.storeAt 197 (.pointer ((some ⟨ap,0,none⟩))) (.agg #[.int .i64 G,.int .i64 be,.int .i64 bi,.slice none 0 0])).run Tryz.prog b1=.ok () b2)∧
 z ((some ⟨ap,0,none⟩)) b2) Z)∧
 New (.cells #[.int .i64 0,.int .i64 0,.int .i64 0,.slice none 0 0] 197 (0,0)) (fun aq b3=>
 (b b3)∧
 CalW Tryz.prog cl Q [.int .i64 28629151] b3 fun ct b4=>
 ∃ bd:Int,(ct=.returned (.int .i64 bd))∧
 (b b4)∧
 CalW Tryz.prog cl H [.int .i64 8] b4 fun cu b5=>
 ∃ bf:Int,(cu=.returned (.int .i64 bf))∧
 (b b5)∧
 CalW Tryz.prog cl F [.int .i64 600] b5 fun cv b6=>
 ∃ bj:Int,(cv=.returned (.int .i64 bj))∧
 (b b6)∧
 ∃ b7:World,((Instr.storeAt 197 (.pointer ((some ⟨aq,0,none⟩))) (.agg #[.int .i64 bd,.int .i64 bf,.int .i64 bj,.slice none 0 0])).run Tryz.prog b6=.ok () b7)∧
 z ((some ⟨aq,0,none⟩)) b7) bq)∧
 ∀ (dh:Env) (j:Option Addr) (b8:World),z j b8→
 Calls Tryz.prog 225 #[.int .i64 600,.int .i64 600,.pointer ((some ⟨g,0,none⟩))] b8 fun cw dd=>
 ∃ u:Sl,(cw=.returned (.slice u.a u.len u.cap))∧
 NilP j fun am=>
 ∃ i:World,((Instr.storeAt 30 (.pointer ((some ⟨am.block,am.off + 3,none⟩))) (.slice u.a u.len u.cap)).run Tryz.prog dd=.ok () i)∧
 Br l
 (NilP j fun cj=>
 ∃ bk:Int,(At (fun c=>c=i) (Addr.add cj 0) [.int .i64 bk])∧
 Br (decide (bk>C))
 (NilP j fun cd=>
 ∃ au:Int,∃ av:Int,∃ aw:Int,∃ m:Sl,(At (fun c=>c=i) cd [.int .i64 au,.int .i64 av,.int .i64 aw,.slice m.a m.len m.cap])∧
 Calls Tryz.prog 227 #[.pointer d,.agg #[.int .i64 au,.int .i64 av,.int .i64 aw,.slice m.a m.len m.cap]] i fun cy ab=>
 ∃ L:Bool,(cy=.returned (.bool L))∧
 NilP j fun ce=>
 ∃ M:Int,(At (fun c=>c=ab) (Addr.add ce 0) [.int .i64 M])∧
 (x L M (IntKind.i64.wrap (e + 1)) ab)∧v L M (IntKind.i64.wrap (e + 1)) ab<v l C e k)
 (NilP j fun cf=>
 ∃ N:Int,(At (fun c=>c=i) (Addr.add cf 0) [.int .i64 N])∧
 (x false N (IntKind.i64.wrap (e + 1)) i)∧v false N (IntKind.i64.wrap (e + 1)) i<v l C e k))
 (NilP j fun cg=>
 ∃ O:Int,(At (fun c=>c=i) (Addr.add cg 0) [.int .i64 O])∧
 (x false O (IntKind.i64.wrap (e + 1)) i)∧v false O (IntKind.i64.wrap (e + 1)) i<v l C e k))
 (∃ ax:Option Addr,(At (fun c=>c=k) ⟨J,0,none⟩ [.pointer ax])∧
 Calls Tryz.prog 96 #[.pointer ax] k fun cz ac=>
 ∃ ay:Bool,(cz=.returned (.bool ay))∧
 Br (!ay)
 (K (.tuple #[.pointer none,.int .i64 6]) ac)
 (Br (!l)
 (K (.tuple #[.pointer none,.int .i64 6]) ac)
 (K (.tuple #[.pointer d,.int .i64 0]) ac)))) bv) c7
def sk158:Sk:=(.seq .leaf (.seq .leaf (.seq .leaf (.seq .leaf (.seq .leaf (.seq .leaf (.seq .leaf (.seq .leaf (.cut [8] [.bool] [8,41,42,43,44,45,46,47,48,49,50,51,52,53,54,55,56,57,58,59,60,61,62,63,64,65,66,67,68,69,70,71,72,73,74,75,76,77] .leaf (.seq .leaf (.seq (.seq .leaf (.block (.loop [8,9,80] [.bool,(.int .i64),(.int .i64)] [8,9,10,80,81,82,83,84,85,86,87,88,89,90,91,92,93,94,95,96,97,98,99,100,101,102,103,104,105,106] (.seq .leaf (.seq .leaf (.seq (.block (.cut [10] [.ptr] [10,82,83,84,85,86,87,88] .leaf .leaf)) .leaf)))))) .leaf)))))))))))
theorem call158 (b:Sl) (K:Value→World→Prop) (w:World) (h:B158 b K w):Gets Tryz.prog 158 #[.slice b.a b.len b.cap] w K:=cq (sk:=sk158) h Tryz.func158
def B224 (f:Int) (d:Option Addr) (K:Value→World→Prop) (w:World):Prop:=
 NilP d fun c=>
 ∃ a:Option Addr,(At (fun g=>g=w) c [.pointer a])∧
 Calls Tryz.prog 93 #[.pointer a,.int .u64 (IntKind.u64.wrap f)] w fun e i=>
 ∃ b:Int,(e=.returned (.int .u64 b))∧
 K (.int .i64 (IntKind.i64.wrap b)) i
theorem call224 (b:Int) (a:Option Addr) (K:Value→World→Prop) (w:World) (h:B224 b a K w):Gets Tryz.prog 224 #[.int .i64 b,.pointer a] w K:=cq (sk:=.leaf) h Tryz.func224
def B225 (v:Int) (u:Int) (j:Option Addr) (K:Value→World→Prop) (w:World):Prop:=
 NilP j fun q=>
 ∃ m:Value,(At (fun g=>g=w) q [m])∧
 CalW Tryz.prog cl m [.int .i64 v] w fun s x=>
 ∃ n:Int,(s=.returned (.int .i64 n))∧
 ∃ (f:Sl→Int→World→Prop) (o:Sl→Int→World→Nat),(f ⟨none,0,0⟩ 0 x)∧∀ (A:Env) (b:Sl) (c:Int) (e:World),f b c e→
 Br (decide (c<n))
 (NilP j fun p=>
 ∃ k:Value,(At (fun g=>g=e) p [k])∧
 CalW Tryz.prog cl k [.int .i64 u] e fun t y=>
 ∃ l:Int,(t=.returned (.int .i64 l))∧
 New (.cells #[.int .i64 l] 3 (0,0)) (fun r z=>
 ∃ i:World,∃ d:Sl,((Builtin.append_ #[30,30] 30 #[.slice b.a b.len b.cap,.slice ((some ⟨r,0,none⟩)) 1 1]).run Tryz.prog z=.ok (.slice d.a d.len d.cap) i)∧
 (f d (IntKind.i64.wrap (c + 1)) i)∧o d (IntKind.i64.wrap (c + 1)) i<o b c e) y)
 (K (.slice b.a b.len b.cap) e)
def sk225:Sk:=(.seq .leaf (.seq .leaf (.seq (.seq .leaf (.block (.loop [6,10] [.sl,(.int .i64)] [6,10,11,12,13,14,15,16,17,18] .leaf))) .leaf)))
theorem call225 (c:Int) (b:Int) (a:Option Addr) (K:Value→World→Prop) (w:World) (h:B225 c b a K w):Gets Tryz.prog 225 #[.int .i64 c,.int .i64 b,.pointer a] w K:=cq (sk:=sk225) h Tryz.func225
def B227 (j:Option Addr) (Y:Int) (Z:Int) (aa:Int) (p:Sl) (K:Value→World→Prop) (w:World):Prop:=
 New (.cells #[.int .i64 Y,.int .i64 Z,.int .i64 aa,.slice p.a p.len p.cap] 197 (0,0)) (fun d n=>
 ∃ (t:World→Prop),(∃ z:Int,(At (fun b=>b=n) ⟨d,0,none⟩ [.int .i64 z])∧
 ∃ A:Int,(At (fun b=>b=n) ⟨d,0 + 1,none⟩ [.int .i64 A])∧
 ∃ C:Int,(At (fun b=>b=n) ⟨d,0 + 2,none⟩ [.int .i64 C])∧
 Calls Tryz.prog 101 #[.pointer j,.int .i64 z,.int .i64 A,.int .i64 C] n fun U k=>
 ∃ D:Int,(U=.returned (.int .i64 D))∧
 Br (D !=0)
 (K (.bool false) k)
 (∃ m:Sl,(At (fun b=>b=k) ⟨d,0 + 3,none⟩ [.slice m.a m.len m.cap])∧
 ∃ E:Int,(At (fun b=>b=k) ⟨d,0 + 2,none⟩ [.int .i64 E])∧
 Br (decide ((↑m.len:Int)>E))
 (K (.bool false) k)
 (t  k)))∧
 ∀ (ad:Env)  (r:World),t  r→
 ∃ g:Sl,(At (fun b=>b=r) ⟨d,0 + 3,none⟩ [.slice g.a g.len g.cap])∧
 ∃ (o:Int→Int→World→Prop) (Q:Int→Int→World→Nat),(o ((-1)) 0 r)∧∀ (ae:Env) (q:Int) (e:Int) (c:World),o q e c→
 Br (decide (e<(↑g.len:Int)))
 (Rng e g.len (NilP g.a fun T=>
 ∃ f:Int,(At (fun b=>b=c) (Addr.add T e.toNat) [.int .i64 f])∧
 ∃ (u:World→Prop),(NilP j fun v=>
 ∃ F:Option Nat,(At (fun b=>b=c) ⟨v.block,v.off + 6,none⟩ [.map F])∧
 ∃ ab:Int,∃ G:Bool,(∀ b,(fun b=>b=c) b→((Instr.lookup 184 (.map F) (.int .i64 f) true)).run Tryz.prog b=.ok (.tuple #[.int .i64 ab,.bool G]) b)∧
 Br G
 (K (.bool false) c)
 (Br (decide (f≤q))
 (K (.bool false) c)
 (NilP j fun x=>
 ∃ H:Int,∃ i:Sl,(At (fun b=>b=c) ⟨x.block,x.off + 1,none⟩ [.int .i64 H,.slice i.a i.len i.cap])∧
 Calls Tryz.prog 164 #[.agg #[.int .i64 H,.slice i.a i.len i.cap]] c fun V N=>
 ∃ I:Int,(V=.returned (.int .i64 I))∧
 Br (decide (f ≥ I))
 (K (.bool false) N)
 (u  N))))∧
 ∀ (af:Env)  (O:World),u  O→
 Drw O fun l ac=>
 NilP j fun y=>
 ∃ J:Option Nat,(At l ⟨y.block,y.off + 5,none⟩ [.map J])∧
 ∃ L:Int,(At l ⟨d,0,none⟩ [.int .i64 L])∧
 ∃ M:Option Addr,(∀ b,l b→((Instr.lookup 183 (.map J) (.int .i64 L) false)).run Tryz.prog b=.ok (.pointer M) b)∧
 Calls Tryz.prog 178 #[.pointer j,.pointer M,.int .i64 f] ac fun X s=>
 (X=.returned (.tuple #[]))∧
 (l s)∧
 (o f (IntKind.i64.wrap (e + 1)) s)∧Q f (IntKind.i64.wrap (e + 1)) s<Q q e c))
 (K (.bool true) c)) w
def sk227:Sk:=(.seq .leaf (.cut [] [] [4,10,11,12,13,14,15,16,17,18,19,20,21,22,23,24,25,26] .leaf (.seq .leaf (.seq (.seq .leaf (.block (.loop [5,30] [(.int .i64),(.int .i64)] [4,5,7,8,9,30,31,32,33,34,35,36,37,38,39,40,41,42,43,44,45,46,47,48,49,50,51,52,53,54,55,56,57,58,59,60,61,62,63,64,65,66,67,68,69] (.seq .leaf (.seq .leaf (.seq (.block (.seq .leaf (.cut [] [] [4,8,9,34,35,36,37,38,39,40,41,42,43,44,45,46,47,48,49,50,51,52,53,54,55,56,57] .leaf .leaf))) .leaf)))))) .leaf))))
theorem call227 (c:Option Addr) (d:Int) (e:Int) (f:Int) (b:Sl) (K:Value→World→Prop) (w:World) (h:B227 c d e f b K w):Gets Tryz.prog 227 #[.pointer c,.agg #[.int .i64 d,.int .i64 e,.int .i64 f,.slice b.a b.len b.cap]] w K:=cq (sk:=sk227) h Tryz.func227
end Go.Proofs.YtlplemdmegpoeaaGreatDoor
/- The formulas of functions of this seat's translation, printed by a program of mine off the translation; each is proved equal to 'fnF' of the function's body, so it is enough for the call. No condition. -/
namespace Go.Proofs.YtlplemdmegpoeaaGreatDoor
open Go Go.VC
set_option linter.unusedVariables false
set_option maxRecDepth 10000
def B256 (o:Int) (j:Sl) (K:Value→World→Prop) (w:World):Prop:=
 New (.cells #[.int .i64 o,.slice j.a j.len j.cap] 37 (0,0)) (fun l p=>
 ∃ (i:Int→Int→World→Prop) (m:Int→Int→World→Nat),(i 0 0 p)∧∀ (q:Env) (d:Int) (c:Int) (b:World),i d c b→
 ∃ g:Sl,(At (fun f=>f=b) ⟨l,0 + 1,none⟩ [.slice g.a g.len g.cap])∧
 Br (decide (c<(↑g.len:Int)))
 (∃ e:Sl,(At (fun f=>f=b) ⟨l,0 + 1,none⟩ [.slice e.a e.len e.cap])∧
 Rng c e.len (NilP e.a fun n=>
 ∃ k:Int,(At (fun f=>f=b) (Addr.add n c.toNat) [.int .i64 k])∧
 (i (IntKind.i64.wrap (d + k)) (IntKind.i64.wrap (c + 1)) b)∧m (IntKind.i64.wrap (d + k)) (IntKind.i64.wrap (c + 1)) b<m d c b))
 (K (.int .i64 d) b)) w
def sk256:Sk:=(.seq .leaf (.seq .leaf (.seq (.seq .leaf (.block (.loop [3,4] [(.int .i64),(.int .i64)] [3,4,5,6,7,8,9,10,11,12,13,14,15,16,17,18] .leaf))) .leaf)))
theorem call256 (c:Int) (b:Sl) (K:Value→World→Prop) (w:World) (h:B256 c b K w):Gets Tryz.prog 256 #[.agg #[.int .i64 c,.slice b.a b.len b.cap]] w K:=cq (sk:=sk256) h Tryz.func256
def B184 (D:Int) (o:Sl) (K:Value→World→Prop) (w:World):Prop:=
 New (.cells #[.int .i64 D,.slice o.a o.len o.cap] 37 (0,0)) (fun f e=>
 ∃ (p:World→Prop),(∃ u:Int,(At (fun b=>b=e) ⟨f,0,none⟩ [.int .i64 u])∧
 Br (decide (u<1))
 (K (.bool false) e)
 (∃ v:Int,(At (fun b=>b=e) ⟨f,0,none⟩ [.int .i64 v])∧
 Br (decide (v>60))
 (K (.bool false) e)
 (∃ k:Sl,(At (fun b=>b=e) ⟨f,0 + 1,none⟩ [.slice k.a k.len k.cap])∧
 Br (decide ((↑k.len:Int)<1))
 (K (.bool false) e)
 (∃ l:Sl,(At (fun b=>b=e) ⟨f,0 + 1,none⟩ [.slice l.a l.len l.cap])∧
 Br (decide ((↑l.len:Int)>4))
 (K (.bool false) e)
 (p  e)))))∧
 ∀ (F:Env)  (x:World),p  x→
 ∃ (n:Int→World→Prop) (y:Int→World→Nat),(n 0 x)∧∀ (G:Env) (d:Int) (c:World),n d c→
 ∃ m:Sl,(At (fun b=>b=c) ⟨f,0 + 1,none⟩ [.slice m.a m.len m.cap])∧
 Br (decide (d<(↑m.len:Int)))
 (∃ i:Sl,(At (fun b=>b=c) ⟨f,0 + 1,none⟩ [.slice i.a i.len i.cap])∧
 Rng d i.len (NilP i.a fun z=>
 ∃ q:Int,(At (fun b=>b=c) (Addr.add z d.toNat) [.int .i64 q])∧
 Br (decide (q<1))
 (K (.bool false) c)
 (∃ j:Sl,(At (fun b=>b=c) ⟨f,0 + 1,none⟩ [.slice j.a j.len j.cap])∧
 Rng d j.len (NilP j.a fun A=>
 ∃ r:Int,(At (fun b=>b=c) (Addr.add A d.toNat) [.int .i64 r])∧
 Br (decide (r>10))
 (K (.bool false) c)
 ((n (IntKind.i64.wrap (d + 1)) c)∧y (IntKind.i64.wrap (d + 1)) c<y d c)))))
 (∃ s:Int,∃ g:Sl,(At (fun b=>b=c) ⟨f,0,none⟩ [.int .i64 s,.slice g.a g.len g.cap])∧
 Calls Tryz.prog 256 #[.agg #[.int .i64 s,.slice g.a g.len g.cap]] c fun C E=>
 ∃ t:Int,(C=.returned (.int .i64 t))∧
 K (.bool (decide (t≤10))) E)) w
def sk184:Sk:=(.seq .leaf (.cut [] [] [2,4,5,6,7,8,9,10,11,12,13,14,15,16,17,18,19,20,21,22,23] .leaf (.seq (.seq .leaf (.block (.loop [3] [(.int .i64)] [2,3,24,25,26,27,28,29,30,31,32,33,34,35,36,37,38,39,40,41,42,43,44] .leaf))) .leaf)))
theorem call184 (c:Int) (b:Sl) (K:Value→World→Prop) (w:World) (h:B184 c b K w):Gets Tryz.prog 184 #[.agg #[.int .i64 c,.slice b.a b.len b.cap]] w K:=cq (sk:=sk184) h Tryz.func184
def B186 (r:Int) (f:Sl) (K:Value→World→Prop) (w:World):Prop:=
 New (.cells #[.int .i64 r,.slice f.a f.len f.cap] 37 (0,0)) (fun e m=>
 ∃ j:Int,∃ c:Sl,(At (fun s=>s=m) ⟨e,0,none⟩ [.int .i64 j,.slice c.a c.len c.cap])∧
 Calls Tryz.prog 184 #[.agg #[.int .i64 j,.slice c.a c.len c.cap]] m fun p n=>
 ∃ k:Bool,(p=.returned (.bool k))∧
 Br (!k)
 (K (.int .i64 0) n)
 (Drw n fun d t=>
 ∃ l:Int,(At d ⟨e,0,none⟩ [.int .i64 l])∧
 ∃ g:Int,∃ b:Sl,(At d ⟨e,0,none⟩ [.int .i64 g,.slice b.a b.len b.cap])∧
 Calls Tryz.prog 256 #[.agg #[.int .i64 g,.slice b.a b.len b.cap]] t fun q o=>
 ∃ i:Int,(q=.returned (.int .i64 i))∧
 (d o)∧
 K (.int .i64 (IntKind.i64.wrap (l * i))) o)) w
theorem call186 (c:Int) (b:Sl) (K:Value→World→Prop) (w:World) (h:B186 c b K w):Gets Tryz.prog 186 #[.agg #[.int .i64 c,.slice b.a b.len b.cap]] w K:=cq (sk:=.leaf) h Tryz.func186
def B260 (c:Sl) (K:Value→World→Prop) (w:World):Prop:=
 ∃ (j:World→Prop),(Br (decide ((↑c.len:Int)<1))
 (K (.bool false) w)
 (Br (decide ((↑c.len:Int)>8))
 (K (.bool false) w)
 (j  w)))∧
 ∀ (t:Env)  (o:World),j  o→
 ∃ (f:Int→World→Prop) (i:Int→World→Nat),(f 0 o)∧∀ (u:Env) (b:Int) (e:World),f b e→
 Br (decide (b<(↑c.len:Int)))
 (Drw e fun g d=>
 Rng b c.len (NilP c.a fun p=>
 ∃ k:Int,(At g (Addr.add p b.toNat) [.int .i64 k])∧
 Br (decide (k<0))
 (K (.bool false) d)
 (Rng b c.len (NilP c.a fun q=>
 ∃ l:Int,(At g (Addr.add q b.toNat) [.int .i64 l])∧
 Br (decide (l>10000))
 (K (.bool false) d)
 (Br (decide (b>0))
 (Rng b c.len (NilP c.a fun r=>
 ∃ m:Int,(At g (Addr.add r b.toNat) [.int .i64 m])∧
 Rng (IntKind.i64.wrap (b - 1)) c.len (NilP c.a fun s=>
 ∃ n:Int,(At g (Addr.add s ((IntKind.i64.wrap (b - 1)).toNat)) [.int .i64 n])∧
 Br (decide (m>n))
 (K (.bool false) d)
 ((f (IntKind.i64.wrap (b + 1)) d)∧i (IntKind.i64.wrap (b + 1)) d<i b e))))
 ((f (IntKind.i64.wrap (b + 1)) d)∧i (IntKind.i64.wrap (b + 1)) d<i b e))))))
 (K (.bool true) e)
def sk260:Sk:=(.seq .leaf (.cut [] [] [2,4,5,6,7,8,9,10,11] .leaf (.seq (.seq .leaf (.block (.loop [3] [(.int .i64)] [2,3,12,13,14,15,16,17,18,19,20,21,22,23,24,25,26,27,28,29,30,31,32,33,34,35,36,37,38,39,40,41,42,43,44,45] .leaf))) .leaf)))
theorem call260 (b:Sl) (K:Value→World→Prop) (w:World) (h:B260 b K w):Gets Tryz.prog 260 #[.slice b.a b.len b.cap] w K:=cq (sk:=sk260) h Tryz.func260
def B204 (f:Sl) (k:Int) (K:Value→World→Prop) (w:World):Prop:=
 ∃ (e:Int→Int→World→Prop) (i:Int→Int→World→Nat),(e 0 k w)∧∀ (m:Env) (d:Int) (b:Int) (c:World),e d b c→
 Br (decide (b<(↑f.len:Int)))
 (Rng b f.len (NilP f.a fun j=>
 ∃ g:Int,(At (fun l=>l=c) (Addr.add j b.toNat) [.int .i64 g])∧
 (e (IntKind.i64.wrap (d + g)) (IntKind.i64.wrap (b + 1)) c)∧i (IntKind.i64.wrap (d + g)) (IntKind.i64.wrap (b + 1)) c<i d b c))
 (K (.int .i64 d) c)
def sk204:Sk:=(.seq .leaf (.seq .leaf (.seq (.seq .leaf (.block (.loop [5,6] [(.int .i64),(.int .i64)] [5,6,8,9,10,11,12,13,14,15,16,17,18,19] .leaf))) .leaf)))
theorem call204 (b:Sl) (c:Int) (K:Value→World→Prop) (w:World) (h:B204 b c K w):Gets Tryz.prog 204 #[.slice b.a b.len b.cap,.int .i64 c] w K:=cq (sk:=sk204) h Tryz.func204
def B203 (f:Sl) (c:Sl) (K:Value→World→Prop) (w:World):Prop:=
 Calls Tryz.prog 260 #[.slice f.a f.len f.cap] w fun C m=>
 ∃ t:Bool,(C=.returned (.bool t))∧
 ∃ (n:World→Prop),(Br (!t)
 (K (.bool false) m)
 (Br ((↑c.len:Int) !=(↑f.len:Int))
 (K (.bool false) m)
 (n  m)))∧
 ∀ (F:Env)  (u:World),n  u→
 ∃ (j:Int→World→Prop) (v:Int→World→Nat),(j 0 u)∧∀ (G:Env) (b:Int) (d:World),j b d→
 Br (decide (b<(↑c.len:Int)))
 (Rng b c.len (NilP c.a fun y=>
 ∃ p:Int,(At (fun l=>l=d) (Addr.add y b.toNat) [.int .i64 p])∧
 Br (decide (p<0))
 (K (.bool false) d)
 (Rng b c.len (NilP c.a fun z=>
 ∃ q:Int,(At (fun l=>l=d) (Addr.add z b.toNat) [.int .i64 q])∧
 Br (decide (q>10000))
 (K (.bool false) d)
 ((j (IntKind.i64.wrap (b + 1)) d)∧v (IntKind.i64.wrap (b + 1)) d<v b d)))))
 (∃ (k:Int→World→Prop) (x:Int→World→Nat),(k 0 d)∧∀ (H:Env) (e:Int) (g:World),k e g→
 Br (decide (e<(↑f.len:Int)))
 (Drw g fun o E=>
 Rng e f.len (NilP f.a fun A=>
 ∃ s:Int,(At o (Addr.add A e.toNat) [.int .i64 s])∧
 Calls Tryz.prog 204 #[.slice c.a c.len c.cap,.int .i64 e] E fun D i=>
 ∃ r:Int,(D=.returned (.int .i64 r))∧
 (o i)∧
 Br (decide (r>s))
 (K (.bool false) i)
 ((k (IntKind.i64.wrap (e + 1)) i)∧x (IntKind.i64.wrap (e + 1)) i<x e g)))
 (K (.bool true) g))
def sk203:Sk:=(.seq .leaf (.seq .leaf (.cut [] [] [4,10,11,12,13,14,15,16,17,18] .leaf (.seq (.seq .leaf (.block (.loop [6] [(.int .i64)] [4,6,19,20,21,22,23,24,25,26,27,28,29,30,31,32,33,34,35,36] .leaf))) (.seq (.seq .leaf (.block (.loop [7] [(.int .i64)] [4,7,37,38,39,40,41,42,43,44,45,46,47,48,49,50] .leaf))) .leaf)))))
theorem call203 (b:Sl) (c:Sl) (K:Value→World→Prop) (w:World) (h:B203 b c K w):Gets Tryz.prog 203 #[.slice b.a b.len b.cap,.slice c.a c.len c.cap] w K:=cq (sk:=sk203) h Tryz.func203
def B196 (e:Sl) (j:Int) (K:Value→World→Prop) (w:World):Prop:=
 ∃ (d:Int→World→Prop) (g:Int→World→Nat),(d 0 w)∧∀ (l:Env) (b:Int) (c:World),d b c→
 Br (decide (b<(↑e.len:Int)))
 (Rng b e.len (NilP e.a fun i=>
 ∃ f:Int,(At (fun k=>k=c) (Addr.add i b.toNat) [.int .i64 f])∧
 Br (f==j)
 (K (.bool true) c)
 ((d (IntKind.i64.wrap (b + 1)) c)∧g (IntKind.i64.wrap (b + 1)) c<g b c)))
 (K (.bool false) c)
def sk196:Sk:=(.seq .leaf (.seq (.seq .leaf (.block (.loop [5] [(.int .i64)] [4,5,6,7,8,9,10,11,12,13,14,15,16,17] .leaf))) .leaf))
theorem call196 (b:Sl) (c:Int) (K:Value→World→Prop) (w:World) (h:B196 b c K w):Gets Tryz.prog 196 #[.slice b.a b.len b.cap,.int .i64 c] w K:=cq (sk:=sk196) h Tryz.func196
def B137 (n:Int) (K:Value→World→Prop) (w:World):Prop:=
 ∃ (g:Int→Sl→World→Prop) (k:Int→Sl→World→Nat),(g n ⟨none,0,0⟩ w)∧∀ (q:Env) (c:Int) (b:Sl) (f:World),g c b f→
 Br (decide (c>0))
 (New (.cells #[.int .u8 (IntKind.u8.wrap (c.tmod 256))] 5 (0,0)) (fun m o=>
 ∃ i:World,∃ e:Sl,((Builtin.append_ #[47,47] 47 #[.slice ((some ⟨m,0,none⟩)) 1 1,.slice b.a b.len b.cap]).run Tryz.prog o=.ok (.slice e.a e.len e.cap) i)∧
 (g (IntKind.u64.wrap (c.tdiv 256)) e i)∧k (IntKind.u64.wrap (c.tdiv 256)) e i<k c b f) f)
 (New (.cells #[.int .u8 (IntKind.u8.wrap (↑b.len:Int))] 5 (0,0)) (fun l p=>
 ∃ j:World,∃ d:Sl,((Builtin.append_ #[47,47] 47 #[.slice ((some ⟨l,0,none⟩)) 1 1,.slice b.a b.len b.cap]).run Tryz.prog p=.ok (.slice d.a d.len d.cap) j)∧
 K (.slice d.a d.len d.cap) j) f)
def sk137:Sk:=(.seq .leaf (.seq .leaf (.seq (.block (.loop [0,3] [(.int .u64),.sl] [0,3,4,5,6,7,8,9,10,11,12,13] .leaf)) .leaf)))
theorem call137 (a:Int) (K:Value→World→Prop) (w:World) (h:B137 a K w):Gets Tryz.prog 137 #[.int .u64 a] w K:=cq (sk:=sk137) h Tryz.func137
def B143 (b:Option Addr) (K:Value→World→Prop) (w:World):Prop:=
 ∃ (E:World→Prop),(Drw w fun t D=>
 NilP b fun F=>
 ∃ N:Bool,(At t ⟨F.block,F.off + 2,none⟩ [.bool N])∧
 Br N
 (K (.tuple #[.int .u64 0,.bool false,.int .i64 0]) D)
 (NilP b fun G=>
 ∃ O:Int,(At t ⟨G.block,G.off + 1,none⟩ [.int .i64 O])∧
 NilP b fun ad=>
 ∃ o:Sl,(At t (Addr.add ad 0) [.slice o.a o.len o.cap])∧
 Br (decide (O ≥ (↑o.len:Int)))
 (K (.tuple #[.int .u64 0,.bool false,.int .i64 0]) D)
 (E  D)))∧
 ∀ (am:Env)  (V:World),E  V→
 Drw V fun u X=>
 NilP b fun ae=>
 ∃ k:Sl,(At u (Addr.add ae 0) [.slice k.a k.len k.cap])∧
 NilP b fun H=>
 ∃ y:Int,(At u ⟨H.block,H.off + 1,none⟩ [.int .i64 y])∧
 Rng y k.len (NilP k.a fun af=>
 ∃ g:Int,(At u (Addr.add af y.toNat) [.int .u8 g])∧
 ∃ (s:Int→World→Prop),(Br (decide (IntKind.i64.wrap g ≥ 16))
 (s (IntKind.i64.wrap (IntKind.i64.wrap g - 16)) X)
 (s (IntKind.i64.wrap g) X))∧
 ∀ (an:Env) (e:Int) (Y:World),s e Y→
 ∃ (i:World→Prop),(Drw Y fun d c=>
 Br (decide (e>8))
 (K (.tuple #[.int .u64 0,.bool false,.int .i64 0]) c)
 (NilP b fun I=>
 ∃ Q:Int,(At d ⟨I.block,I.off + 1,none⟩ [.int .i64 Q])∧
 NilP b fun ag=>
 ∃ p:Sl,(At d (Addr.add ag 0) [.slice p.a p.len p.cap])∧
 Br (decide (IntKind.i64.wrap (IntKind.i64.wrap (Q + 1) + e)>(↑p.len:Int)))
 (K (.tuple #[.int .u64 0,.bool false,.int .i64 0]) c)
 (Br (decide (IntKind.i64.wrap g ≥ 16))
 (Br (e==0)
 (K (.tuple #[.int .u64 0,.bool false,.int .i64 0]) c)
 (Br (decide (e>0))
 (NilP b fun ah=>
 ∃ l:Sl,(At d (Addr.add ah 0) [.slice l.a l.len l.cap])∧
 NilP b fun J=>
 ∃ z:Int,(At d ⟨J.block,J.off + 1,none⟩ [.int .i64 z])∧
 Rng (IntKind.i64.wrap (z + 1)) l.len (NilP l.a fun aj=>
 ∃ T:Int,(At d (Addr.add aj ((IntKind.i64.wrap (z + 1)).toNat)) [.int .u8 T])∧
 Br (T==0)
 (K (.tuple #[.int .u64 0,.bool false,.int .i64 0]) c)
 (i  c)))
 (i  c)))
 (Br (decide (e>0))
 (NilP b fun ai=>
 ∃ m:Sl,(At d (Addr.add ai 0) [.slice m.a m.len m.cap])∧
 NilP b fun L=>
 ∃ A:Int,(At d ⟨L.block,L.off + 1,none⟩ [.int .i64 A])∧
 Rng (IntKind.i64.wrap (A + 1)) m.len (NilP m.a fun ak=>
 ∃ U:Int,(At d (Addr.add ak ((IntKind.i64.wrap (A + 1)).toNat)) [.int .u8 U])∧
 Br (U==0)
 (K (.tuple #[.int .u64 0,.bool false,.int .i64 0]) c)
 (i  c)))
 (i  c)))))∧
 ∀ (ao:Env)  (Z:World),i  Z→
 ∃ (r:Int→Int→World→Prop) (ab:Int→Int→World→Nat),(r 0 0 Z)∧∀ (ap:Env) (j:Int) (f:Int) (q:World),r j f q→
 Br (decide (f<e))
 (Drw q fun v aa=>
 NilP b fun al=>
 ∃ n:Sl,(At v (Addr.add al 0) [.slice n.a n.len n.cap])∧
 NilP b fun M=>
 ∃ C:Int,(At v ⟨M.block,M.off + 1,none⟩ [.int .i64 C])∧
 Rng (IntKind.i64.wrap (IntKind.i64.wrap (C + 1) + f)) n.len (NilP n.a fun ac=>
 ∃ x:Int,(At v (Addr.add ac ((IntKind.i64.wrap (IntKind.i64.wrap (C + 1) + f)).toNat)) [.int .u8 x])∧
 (r (IntKind.u64.wrap (IntKind.u64.wrap (j * 256) + IntKind.u64.wrap x)) (IntKind.i64.wrap (f + 1)) aa)∧ab (IntKind.u64.wrap (IntKind.u64.wrap (j * 256) + IntKind.u64.wrap x)) (IntKind.i64.wrap (f + 1)) aa<ab j f q))
 (K (.tuple #[.int .u64 j,.bool (decide (IntKind.i64.wrap g ≥ 16)),.int .i64 (IntKind.i64.wrap (e + 1))]) q))
def sk143:Sk:=(.seq .leaf (.cut [] [] [2,3,4,9,10,11,12,13,14,15,16,17,18,19,20,21,22,23,24] .leaf (.seq .leaf (.seq .leaf (.cut [5] [(.int .i64)] [5,38,39,40] .leaf (.cut [] [] [2,3,4,41,42,43,44,45,46,47,48,49,50,51,52,53,54,55,56,57,58,59,60,61,62,63,64,65,66,67,68,69,70,71,72,73,74,75,76,77,78,79,80,81,82] .leaf (.seq .leaf (.seq (.seq .leaf (.block (.loop [7,8] [(.int .u64),(.int .i64)] [7,8,83,84,85,86,87,88,89,90,91,92,93,94,95,96,97,98,99,100,101,102,103,104] .leaf))) .leaf))))))))
theorem call143 (a:Option Addr) (K:Value→World→Prop) (w:World) (h:B143 a K w):Gets Tryz.prog 143 #[.pointer a] w K:=cq (sk:=sk143) h Tryz.func143
def B77 (a:Option Addr) (t:Int) (K:Value→World→Prop) (w:World):Prop:=
 Calls Tryz.prog 143 #[.pointer a] w fun s b=>
 ∃ c:Int,∃ m:Bool,∃ d:Int,(s=.returned (.tuple #[.int .u64 c,.bool m,.int .i64 d]))∧
 ∃ (f:World→Prop),(Br (d==0)
 (NilP a fun g=>
 ∃ o:World,((Instr.storeAt 4 (.pointer ((some ⟨g.block,g.off + 2,none⟩))) (.bool true)).run Tryz.prog b=.ok () o)∧
 K (.int .u64 0) o)
 (Br m
 (NilP a fun i=>
 ∃ p:World,((Instr.storeAt 4 (.pointer ((some ⟨i.block,i.off + 2,none⟩))) (.bool true)).run Tryz.prog b=.ok () p)∧
 K (.int .u64 0) p)
 (Br (decide (c>t))
 (NilP a fun j=>
 ∃ q:World,((Instr.storeAt 4 (.pointer ((some ⟨j.block,j.off + 2,none⟩))) (.bool true)).run Tryz.prog b=.ok () q)∧
 K (.int .u64 0) q)
 (f  b))))∧
 ∀ (v:Env)  (e:World),f  e→
 NilP a fun k=>
 ∃ n:Int,(At (fun u=>u=e) ⟨k.block,k.off + 1,none⟩ [.int .i64 n])∧
 NilP a fun l=>
 ∃ r:World,((Instr.storeAt 3 (.pointer ((some ⟨l.block,l.off + 1,none⟩))) (.int .i64 (IntKind.i64.wrap (n + d)))).run Tryz.prog e=.ok () r)∧
 K (.int .u64 c) r
def sk77:Sk:=(.seq .leaf (.seq .leaf (.cut [] [] [4,14,15,16,17,18,19,20,21,22,23,24,25,26] .leaf .leaf)))
theorem call77 (b:Option Addr) (a:Int) (K:Value→World→Prop) (w:World) (h:B77 b a K w):Gets Tryz.prog 77 #[.pointer b,.int .u64 a] w K:=cq (sk:=sk77) h Tryz.func77
def B80 (d:Option Addr) (K:Value→World→Prop) (w:World):Prop:=
 Drw w fun c j=>
 NilP d fun f=>
 ∃ i:Bool,(At c ⟨f.block,f.off + 2,none⟩ [.bool i])∧
 Br (!i)
 (NilP d fun e=>
 ∃ g:Int,(At c ⟨e.block,e.off + 1,none⟩ [.int .i64 g])∧
 NilP d fun k=>
 ∃ b:Sl,(At c (Addr.add k 0) [.slice b.a b.len b.cap])∧
 K (.bool (g==(↑b.len:Int))) j)
 (K (.bool false) j)
theorem call80 (a:Option Addr) (K:Value→World→Prop) (w:World) (h:B80 a K w):Gets Tryz.prog 80 #[.pointer a] w K:=cq (sk:=.leaf) h Tryz.func80
end Go.Proofs.YtlplemdmegpoeaaGreatDoor
/- The formulas of functions of this seat's translation, printed by a program of mine off the translation; each is proved equal to 'fnF' of the function's body, so it is enough for the call. No condition. -/
namespace Go.Proofs.YtlplemdmegpoeaaGreatDoor
open Go Go.VC
set_option linter.unusedVariables false
set_option maxRecDepth 10000
def B127 (e:Option Addr) (K:Value→World→Prop) (w:World):Prop:=
 NilP e fun z=>
 ∃ j:Sl,(At (fun p=>p=w) ⟨z.block,z.off + 3,none⟩ [.slice j.a j.len j.cap])∧
 ∃ D:World,∃ c:Sl,((Instr.makeSlice 30 (.int .i64 ((↑j.len:Int))) (.int .i64 ((↑j.len:Int)))).run Tryz.prog w=.ok (.slice c.a c.len c.cap) D)∧
 ∃ (m:Int→World→Prop) (E:Int→World→Nat),(m 0 D)∧∀ (I:Env) (b:Int) (k:World),m b k→
 NilP e fun r=>
 ∃ l:Sl,(At (fun p=>p=k) ⟨r.block,r.off + 4,none⟩ [.slice l.a l.len l.cap])∧
 Br (decide (b<(↑l.len:Int)))
 (Drw k fun d H=>
 NilP e fun s=>
 ∃ f:Sl,(At d ⟨s.block,s.off + 4,none⟩ [.slice f.a f.len f.cap])∧
 Rng b f.len (NilP f.a fun t=>
 ∃ n:Int,(At d ⟨(t.add (mulS b.toNat 4)).block,(t.add (mulS b.toNat 4)).off + 1,none⟩ [.int .i64 n])∧
 NilP e fun u=>
 ∃ g:Sl,(At d ⟨u.block,u.off + 4,none⟩ [.slice g.a g.len g.cap])∧
 Rng b g.len (NilP g.a fun v=>
 ∃ o:Int,(At d ⟨(v.add (mulS b.toNat 4)).block,(v.add (mulS b.toNat 4)).off + 1,none⟩ [.int .i64 o])∧
 Rng o c.len (NilP c.a fun F=>
 ∃ A:Int,(At d (Addr.add F o.toNat) [.int .i64 A])∧
 NilP e fun x=>
 ∃ i:Sl,(At d ⟨x.block,x.off + 4,none⟩ [.slice i.a i.len i.cap])∧
 Rng b i.len (NilP i.a fun y=>
 ∃ C:Int,(At d ⟨(y.add (mulS b.toNat 4)).block,(y.add (mulS b.toNat 4)).off + 2,none⟩ [.int .i64 C])∧
 Rng n c.len (NilP c.a fun G=>
 ∃ q:World,((Instr.storeAt 3 (.pointer ((some (Addr.add G n.toNat)))) (.int .i64 (IntKind.i64.wrap (A + C)))).run Tryz.prog H=.ok () q)∧
 (m (IntKind.i64.wrap (b + 1)) q)∧E (IntKind.i64.wrap (b + 1)) q<E b k))))))
 (K (.slice c.a c.len c.cap) k)
def sk127:Sk:=(.seq .leaf (.seq .leaf (.seq (.seq .leaf (.block (.loop [4] [(.int .i64)] [4,11,12,13,14,15,16,17,18,19,20,21,22,23,24,25,26,27,28,29,30,31,32,33,34,35,36,37,38,39,40,41,42,43,44,45,46,47,48,49] .leaf))) .leaf)))
theorem call127 (a:Option Addr) (K:Value→World→Prop) (w:World) (h:B127 a K w):Gets Tryz.prog 127 #[.pointer a] w K:=cq (sk:=sk127) h Tryz.func127
def B219 (g:Option Addr) (s:Int) (r:Int) (K:Value→World→Prop) (w:World):Prop:=
 Calls Tryz.prog 77 #[.pointer g,.int .u64 s] w fun p u=>
 ∃ k:Int,(p=.returned (.int .u64 k))∧
 ∃ (f:Sl→Int→World→Prop) (n:Sl→Int→World→Nat),(f ⟨none,0,0⟩ 0 u)∧∀ (y:Env) (b:Sl) (d:Int) (c:World),f b d c→
 Br (decide (d<k))
 (NilP g fun j=>
 ∃ l:Bool,(At (fun t=>t=c) ⟨j.block,j.off + 2,none⟩ [.bool l])∧
 Br (!l)
 (Calls Tryz.prog 77 #[.pointer g,.int .u64 r] c fun q v=>
 ∃ m:Int,(q=.returned (.int .u64 m))∧
 New (.cells #[.int .i64 (IntKind.i64.wrap m)] 3 (0,0)) (fun o x=>
 ∃ i:World,∃ e:Sl,((Builtin.append_ #[30,30] 30 #[.slice b.a b.len b.cap,.slice ((some ⟨o,0,none⟩)) 1 1]).run Tryz.prog x=.ok (.slice e.a e.len e.cap) i)∧
 (f e (IntKind.u64.wrap (d + 1)) i)∧n e (IntKind.u64.wrap (d + 1)) i<n b d c) v)
 (K (.slice b.a b.len b.cap) c))
 (K (.slice b.a b.len b.cap) c)
def sk219:Sk:=(.seq .leaf (.seq .leaf (.seq .leaf (.seq (.seq .leaf (.block (.loop [8,9] [.sl,(.int .u64)] [8,9,13,14,15,16,17,18,19,20,21,22,23,24,25,26,27,28,29,30,31] .leaf))) .leaf))))
theorem call219 (c:Option Addr) (b:Int) (a:Int) (K:Value→World→Prop) (w:World) (h:B219 c b a K w):Gets Tryz.prog 219 #[.pointer c,.int .u64 b,.int .u64 a] w K:=cq (sk:=sk219) h Tryz.func219
def B144 (p:Sl) (K:Value→World→Prop) (w:World):Prop:=
 New (.cells #[.slice p.a p.len p.cap,.int .i64 0,.bool false] 140 (0,0)) (fun b ak=>
 Calls Tryz.prog 77 #[.pointer ((some ⟨b,0,none⟩)),.int .u64 9999] ak fun Y ar=>
 ∃ u:Int,(Y=.returned (.int .u64 u))∧
 Calls Tryz.prog 77 #[.pointer ((some ⟨b,0,none⟩)),.int .u64 60] ar fun Z au=>
 ∃ v:Int,(Z=.returned (.int .u64 v))∧
 New (.cells #[.int .i64 (IntKind.i64.wrap u),.int .i64 (IntKind.i64.wrap v),.slice none 0 0,.slice none 0 0,.slice none 0 0] 179 (0,0)) (fun c av=>
 Calls Tryz.prog 219 #[.pointer ((some ⟨b,0,none⟩)),.int .u64 4,.int .u64 10] av fun ab aw=>
 ∃ d:Sl,(ab=.returned (.slice d.a d.len d.cap))∧
 ∃ T:World,((Instr.storeAt 30 (.pointer ((some ⟨c,0 + 1 + 1,none⟩))) (.slice d.a d.len d.cap)).run Tryz.prog aw=.ok () T)∧
 Calls Tryz.prog 219 #[.pointer ((some ⟨b,0,none⟩)),.int .u64 8,.int .u64 10000] T fun ac ax=>
 ∃ e:Sl,(ac=.returned (.slice e.a e.len e.cap))∧
 ∃ U:World,((Instr.storeAt 30 (.pointer ((some ⟨c,0 + 3,none⟩))) (.slice e.a e.len e.cap)).run Tryz.prog ax=.ok () U)∧
 Calls Tryz.prog 77 #[.pointer ((some ⟨b,0,none⟩)),.int .u64 600] U fun ad ay=>
 ∃ x:Int,(ad=.returned (.int .u64 x))∧
 ∃ (o:World→Prop),(∃ (n:Int→World→Prop) (V:Int→World→Nat),(n 0 ay)∧∀ (az:Env) (l:Int) (k:World),n l k→
 ∃ (t:World→Prop),(Br (decide (l<x))
 (∃ y:Bool,(At (fun aj=>aj=k) ⟨b,0 + 2,none⟩ [.bool y])∧
 Br (!y)
 (t  k)
 (o  k))
 (o  k))∧
 ∀ (a0:Env)  (I:World),t  I→
 Calls Tryz.prog 77 #[.pointer ((some ⟨b,0,none⟩)),.int .u64 28629151] I fun ae al=>
 ∃ z:Int,(ae=.returned (.int .u64 z))∧
 Calls Tryz.prog 77 #[.pointer ((some ⟨b,0,none⟩)),.int .u64 8] al fun af am=>
 ∃ A:Int,(af=.returned (.int .u64 A))∧
 Calls Tryz.prog 77 #[.pointer ((some ⟨b,0,none⟩)),.int .u64 600] am fun ag an=>
 ∃ C:Int,(ag=.returned (.int .u64 C))∧
 New (.cells #[.int .i64 0,.int .i64 0,.int .i64 0,.slice none 0 0] 197 (0,0)) (fun q ao=>
 ∃ J:World,((Instr.storeAt 197 (.pointer ((some ⟨q,0,none⟩))) (.agg #[.int .i64 (IntKind.i64.wrap z),.int .i64 (IntKind.i64.wrap A),.int .i64 (IntKind.i64.wrap C),.slice none 0 0])).run Tryz.prog ao=.ok () J)∧
 Calls Tryz.prog 219 #[.pointer ((some ⟨b,0,none⟩)),.int .u64 600,.int .u64 600] J fun ah ap=>
 ∃ f:Sl,(ah=.returned (.slice f.a f.len f.cap))∧
 ∃ L:World,((Instr.storeAt 30 (.pointer ((some ⟨q,0 + 3,none⟩))) (.slice f.a f.len f.cap)).run Tryz.prog ap=.ok () L)∧
 Drw L fun m aq=>
 ∃ g:Sl,(At m ⟨c,0 + 4,none⟩ [.slice g.a g.len g.cap])∧
 ∃ D:Int,∃ E:Int,∃ F:Int,∃ i:Sl,(At m ⟨q,0,none⟩ [.int .i64 D,.int .i64 E,.int .i64 F,.slice i.a i.len i.cap])∧
 New (.cells #[.int .i64 D,.int .i64 E,.int .i64 F,.slice i.a i.len i.cap] 197 (0,0)) (fun X M=>
 (m M)∧
 ∃ r:World,∃ j:Sl,((Builtin.append_ #[177,177] 177 #[.slice g.a g.len g.cap,.slice ((some ⟨X,0,none⟩)) 1 1]).run Tryz.prog M=.ok (.slice j.a j.len j.cap) r)∧
 (m r)∧
 ∃ s:World,((Instr.storeAt 177 (.pointer ((some ⟨c,0 + 4,none⟩))) (.slice j.a j.len j.cap)).run Tryz.prog r=.ok () s)∧
 (n (IntKind.u64.wrap (l + 1)) s)∧V (IntKind.u64.wrap (l + 1)) s<V l k) aq) an)∧
 ∀ (a1:Env)  (N:World),o  N→
 Calls Tryz.prog 80 #[.pointer ((some ⟨b,0,none⟩))] N fun ai O=>
 ∃ G:Bool,(ai=.returned (.bool G))∧
 Br G
 (Calls Tryz.prog 220 #[.pointer ((some ⟨c,0,none⟩))] O fun aa Q=>
 ∃ H:Bool,(aa=.returned (.bool H))∧
 Br (!H)
 (K (.tuple #[.pointer none,.int .i64 6]) Q)
 (K (.tuple #[.pointer ((some ⟨c,0,none⟩)),.int .i64 0]) Q))
 (K (.tuple #[.pointer none,.int .i64 6]) O)) au) w
def sk144:Sk:=(.seq .leaf (.seq .leaf (.seq .leaf (.seq .leaf (.seq .leaf (.seq .leaf (.cut [] [] [7,8,36,37,38,39,40,41,42,43,44,45,46,47,48,49,50,51,52,53,54,55,56,57,58,59,60,61,62,63,64,65,66,67,68,69,70] (.seq .leaf (.block (.loop [7] [(.int .u64)] [7,8,36,37,38,39,40,41,42,43,44,45,46,47,48,49,50,51,52,53,54,55,56,57,58,59,60,61,62,63,64,65,66,67,68,69,70] (.cut [] [] [36,37,38,39,40,41,42,43,44,45] .leaf .leaf)))) .leaf)))))))
theorem call144 (b:Sl) (K:Value→World→Prop) (w:World) (h:B144 b K w):Gets Tryz.prog 144 #[.slice b.a b.len b.cap] w K:=cq (sk:=sk144) h Tryz.func144
def B220 (g:Option Addr) (K:Value→World→Prop) (w:World):Prop:=
 NilP g fun af=>
 ∃ ax:Int,∃ p:Sl,(At (fun b=>b=w) ⟨af.block,af.off + 1,none⟩ [.int .i64 ax,.slice p.a p.len p.cap])∧
 Calls Tryz.prog 184 #[.agg #[.int .i64 ax,.slice p.a p.len p.cap]] w fun b5 bl=>
 ∃ a0:Bool,(b5=.returned (.bool a0))∧
 NilP g fun ah=>
 ∃ s:Sl,(At (fun b=>b=bl) ⟨ah.block,ah.off + 3,none⟩ [.slice s.a s.len s.cap])∧
 Calls Tryz.prog 260 #[.slice s.a s.len s.cap] bl fun b6 cg=>
 ∃ a6:Bool,(b6=.returned (.bool a6))∧
 ∃ (ad:World→Prop),(Drw cg fun v U=>
 NilP g fun bz=>
 ∃ a7:Int,(At v (Addr.add bz 0) [.int .i64 a7])∧
 Br (decide (a7<1))
 (K (.bool false) U)
 (Br (!a0)
 (K (.bool false) U)
 (Br (!a6)
 (K (.bool false) U)
 (NilP g fun aj=>
 ∃ G:Sl,(At v ⟨aj.block,aj.off + 3,none⟩ [.slice G.a G.len G.cap])∧
 Rng 0 G.len (NilP G.a fun b0=>
 ∃ a8:Int,(At v (Addr.add b0 0) [.int .i64 a8])∧
 NilP g fun ak=>
 ∃ a9:Int,∃ t:Sl,(At v ⟨ak.block,ak.off + 1,none⟩ [.int .i64 a9,.slice t.a t.len t.cap])∧
 Calls Tryz.prog 186 #[.agg #[.int .i64 a9,.slice t.a t.len t.cap]] U fun b7 ac=>
 ∃ ba:Int,(b7=.returned (.int .i64 ba))∧
 (v ac)∧
 Br (a8 !=ba)
 (K (.bool false) ac)
 (ad  ac))))))∧
 ∀ (cj:Env)  (bp:World),ad  bp→
 ∃ (X:Sl→Int→World→Prop) (br:Sl→Int→World→Nat),(X ⟨none,0,0⟩ 0 bp)∧∀ (ck:Env) (Z:Sl) (i:Int) (n:World),X Z i n→
 NilP g fun al=>
 ∃ O:Sl,(At (fun b=>b=n) ⟨al.block,al.off + 4,none⟩ [.slice O.a O.len O.cap])∧
 Br (decide (i<(↑O.len:Int)))
 (NilP g fun am=>
 ∃ H:Sl,(At (fun b=>b=n) ⟨am.block,am.off + 4,none⟩ [.slice H.a H.len H.cap])∧
 Rng i H.len (NilP H.a fun b1=>
 ∃ bb:Int,∃ bc:Int,∃ bd:Int,∃ u:Sl,(At (fun b=>b=n) (Addr.add b1 (mulS i.toNat 4)) [.int .i64 bb,.int .i64 bc,.int .i64 bd,.slice u.a u.len u.cap])∧
 New (.cells #[.int .i64 0,.int .i64 0,.int .i64 0,.slice none 0 0] 197 (0,0)) (fun d ci=>
 ∃ bq:World,((Instr.storeAt 197 (.pointer ((some ⟨d,0,none⟩))) (.agg #[.int .i64 bb,.int .i64 bc,.int .i64 bd,.slice u.a u.len u.cap])).run Tryz.prog ci=.ok () bq)∧
 ∃ (Y:World→Prop),(Drw bq fun e j=>
 ∃ be:Int,(At e ⟨d,0,none⟩ [.int .i64 be])∧
 Br (decide (be<1))
 (K (.bool false) j)
 (Br (decide (i>0))
 (∃ bf:Int,(At e ⟨d,0,none⟩ [.int .i64 bf])∧
 NilP g fun an=>
 ∃ I:Sl,(At e ⟨an.block,an.off + 4,none⟩ [.slice I.a I.len I.cap])∧
 Rng (IntKind.i64.wrap (i - 1)) I.len (NilP I.a fun b2=>
 ∃ bg:Int,(At e (Addr.add (Addr.add b2 (mulS (IntKind.i64.wrap (i - 1)).toNat 4)) 0) [.int .i64 bg])∧
 Br (decide (bf≤bg))
 (K (.bool false) j)
 (∃ bh:Int,(At e ⟨d,0 + 1,none⟩ [.int .i64 bh])∧
 NilP g fun ao=>
 ∃ Q:Sl,(At e ⟨ao.block,ao.off + 3,none⟩ [.slice Q.a Q.len Q.cap])∧
 Br (decide (bh ≥ (↑Q.len:Int)))
 (K (.bool false) j)
 (∃ bj:Int,(At e ⟨d,0 + 2,none⟩ [.int .i64 bj])∧
 Br (decide (bj<1))
 (K (.bool false) j)
 (∃ L:Sl,(At e ⟨d,0 + 3,none⟩ [.slice L.a L.len L.cap])∧
 ∃ aq:Int,(At e ⟨d,0 + 2,none⟩ [.int .i64 aq])∧
 Br (decide ((↑L.len:Int)>aq))
 (K (.bool false) j)
 (Y  j))))))
 (∃ bi:Int,(At e ⟨d,0 + 1,none⟩ [.int .i64 bi])∧
 NilP g fun ap=>
 ∃ T:Sl,(At e ⟨ap.block,ap.off + 3,none⟩ [.slice T.a T.len T.cap])∧
 Br (decide (bi ≥ (↑T.len:Int)))
 (K (.bool false) j)
 (∃ bk:Int,(At e ⟨d,0 + 2,none⟩ [.int .i64 bk])∧
 Br (decide (bk<1))
 (K (.bool false) j)
 (∃ M:Sl,(At e ⟨d,0 + 3,none⟩ [.slice M.a M.len M.cap])∧
 ∃ ar:Int,(At e ⟨d,0 + 2,none⟩ [.int .i64 ar])∧
 Br (decide ((↑M.len:Int)>ar))
 (K (.bool false) j)
 (Y  j))))))∧
 ∀ (cl:Env)  (bm:World),Y  bm→
 ∃ (J:Sl→Int→World→Prop) (V:Sl→Int→World→Nat),(J Z 0 bm)∧∀ (cm:Env) (f:Sl) (c:Int) (k:World),J f c k→
 ∃ N:Sl,(At (fun b=>b=k) ⟨d,0 + 3,none⟩ [.slice N.a N.len N.cap])∧
 Br (decide (c<(↑N.len:Int)))
 (∃ x:Sl,(At (fun b=>b=k) ⟨d,0 + 3,none⟩ [.slice x.a x.len x.cap])∧
 Rng c x.len (NilP x.a fun bs=>
 ∃ au:Int,(At (fun b=>b=k) (Addr.add bs c.toNat) [.int .i64 au])∧
 Calls Tryz.prog 196 #[.slice f.a f.len f.cap,.int .i64 au] k fun b8 cc=>
 ∃ av:Bool,(b8=.returned (.bool av))∧
 Drw cc fun m bn=>
 Br av
 (K (.bool false) bn)
 (∃ y:Sl,(At m ⟨d,0 + 3,none⟩ [.slice y.a y.len y.cap])∧
 Rng c y.len (NilP y.a fun bt=>
 ∃ aw:Int,(At m (Addr.add bt c.toNat) [.int .i64 aw])∧
 NilP g fun ag=>
 ∃ ay:Int,∃ o:Sl,(At m ⟨ag.block,ag.off + 1,none⟩ [.int .i64 ay,.slice o.a o.len o.cap])∧
 Calls Tryz.prog 186 #[.agg #[.int .i64 ay,.slice o.a o.len o.cap]] bn fun b9 l=>
 ∃ az:Int,(b9=.returned (.int .i64 az))∧
 (m l)∧
 Br (decide (aw ≥ az))
 (K (.bool false) l)
 (Br (decide (c>0))
 (∃ z:Sl,(At m ⟨d,0 + 3,none⟩ [.slice z.a z.len z.cap])∧
 Rng c z.len (NilP z.a fun bu=>
 ∃ a1:Int,(At m (Addr.add bu c.toNat) [.int .i64 a1])∧
 ∃ A:Sl,(At m ⟨d,0 + 3,none⟩ [.slice A.a A.len A.cap])∧
 Rng (IntKind.i64.wrap (c - 1)) A.len (NilP A.a fun bv=>
 ∃ a2:Int,(At m (Addr.add bv ((IntKind.i64.wrap (c - 1)).toNat)) [.int .i64 a2])∧
 Br (decide (a1≤a2))
 (K (.bool false) l)
 (∃ C:Sl,(At (fun b=>b=l) ⟨d,0 + 3,none⟩ [.slice C.a C.len C.cap])∧
 Rng c C.len (NilP C.a fun bw=>
 ∃ a3:Int,(At (fun b=>b=l) (Addr.add bw c.toNat) [.int .i64 a3])∧
 New (.cells #[.int .i64 a3] 3 (0,0)) (fun b3 cd=>
 ∃ aa:World,∃ E:Sl,((Builtin.append_ #[30,30] 30 #[.slice f.a f.len f.cap,.slice ((some ⟨b3,0,none⟩)) 1 1]).run Tryz.prog cd=.ok (.slice E.a E.len E.cap) aa)∧
 (J E (IntKind.i64.wrap (c + 1)) aa)∧V E (IntKind.i64.wrap (c + 1)) aa<V f c k) l)))))
 (∃ D:Sl,(At (fun b=>b=l) ⟨d,0 + 3,none⟩ [.slice D.a D.len D.cap])∧
 Rng c D.len (NilP D.a fun bx=>
 ∃ a4:Int,(At (fun b=>b=l) (Addr.add bx c.toNat) [.int .i64 a4])∧
 New (.cells #[.int .i64 a4] 3 (0,0)) (fun b4 ce=>
 ∃ ab:World,∃ F:Sl,((Builtin.append_ #[30,30] 30 #[.slice f.a f.len f.cap,.slice ((some ⟨b4,0,none⟩)) 1 1]).run Tryz.prog ce=.ok (.slice F.a F.len F.cap) ab)∧
 (J F (IntKind.i64.wrap (c + 1)) ab)∧V F (IntKind.i64.wrap (c + 1)) ab<V f c k) l)))))))
 ((X f (IntKind.i64.wrap (i + 1)) k)∧br f (IntKind.i64.wrap (i + 1)) k<br Z i n)) n))
 (Drw n fun ae cf=>
 NilP g fun ai=>
 ∃ q:Sl,(At ae ⟨ai.block,ai.off + 3,none⟩ [.slice q.a q.len q.cap])∧
 Calls Tryz.prog 127 #[.pointer g] cf fun ca bo=>
 ∃ r:Sl,(ca=.returned (.slice r.a r.len r.cap))∧
 (ae bo)∧
 Calls Tryz.prog 203 #[.slice q.a q.len q.cap,.slice r.a r.len r.cap] bo fun cb ch=>
 ∃ a5:Bool,(cb=.returned (.bool a5))∧
 K (.bool a5) ch)
def sk220:Sk:=(.seq .leaf (.seq .leaf (.seq .leaf (.cut [] [] [2,20,21,22,23,24,25,26,27,28,29,30,31,32,33,34,35,36,37,38,39,40,41,42,43,44,45,46] .leaf (.seq .leaf (.seq (.seq .leaf (.block (.loop [5,6] [.sl,(.int .i64)] [2,5,6,7,8,9,47,48,49,50,51,52,53,54,55,56,57,58,59,60,61,62,63,64,65,66,67,68,69,70,71,72,73,74,75,76,77,78,79,80,81,82,83,84,85,86,87,88,89,90,91,92,93,94,95,96,97,98,99,100,101,102,103,104,105,106,107,108,109,110,111,112,113,114,115,116,117,118,119,120,121,122,123,124,125,126,127,128,129,130,131,132,133,134,135,136,137,138,139,140,141,142,143,144,145,146,147,148,149,150,151,152,153,154,155,156,157,158,159,160] (.seq .leaf (.seq (.block (.seq .leaf (.cut [] [] [2,63,64,65,66,67,68,69,70,71,72,73,74,75,76,77,78,79,80,81,82,83,84,85,86,87,88,89,90,91,92,93,94,95,96,97,98,99,100,101,102,103,104,105,106] .leaf (.seq .leaf (.block (.loop [5,8] [.sl,(.int .i64)] [2,5,8,9,107,108,109,110,111,112,113,114,115,116,117,118,119,120,121,122,123,124,125,126,127,128,129,130,131,132,133,134,135,136,137,138,139,140,141,142,143,144,145,146,147,148,149,150,151,152,153,154,155,156,157,158,159,160] .leaf)))))) .leaf))))) .leaf))))))
theorem call220 (a:Option Addr) (K:Value→World→Prop) (w:World) (h:B220 a K w):Gets Tryz.prog 220 #[.pointer a] w K:=cq (sk:=sk220) h Tryz.func220
end Go.Proofs.YtlplemdmegpoeaaGreatDoor
/- The formulas of functions of this seat's translation, printed by a program of mine off the translation; each is proved equal to 'fnF' of the function's body, so it is enough for the call. No condition. -/
namespace Go.Proofs.YtlplemdmegpoeaaGreatDoor
open Go Go.VC
set_option linter.unusedVariables false
set_option maxRecDepth 10000
def B78 (b:Option Addr) (A:Int) (K:Value→World→Prop) (w:World):Prop:=
 Calls Tryz.prog 143 #[.pointer b] w fun Q U=>
 ∃ k:Int,∃ C:Bool,∃ c:Int,(Q=.returned (.tuple #[.int .u64 k,.bool C,.int .i64 c]))∧
 ∃ (o:World→Prop),(Drw U fun p g=>
 Br (c==0)
 (NilP b fun r=>
 ∃ F:World,((Instr.storeAt 4 (.pointer ((some ⟨r.block,r.off + 2,none⟩))) (.bool true)).run Tryz.prog g=.ok () F)∧
 K (.slice none 0 0) F)
 (Br C
 (NilP b fun s=>
 ∃ G:World,((Instr.storeAt 4 (.pointer ((some ⟨s.block,s.off + 2,none⟩))) (.bool true)).run Tryz.prog g=.ok () G)∧
 K (.slice none 0 0) G)
 (Br (decide (A<0))
 (NilP b fun t=>
 ∃ H:World,((Instr.storeAt 4 (.pointer ((some ⟨t.block,t.off + 2,none⟩))) (.bool true)).run Tryz.prog g=.ok () H)∧
 K (.slice none 0 0) H)
 (Br (decide (k>IntKind.u64.wrap A))
 (NilP b fun u=>
 ∃ I:World,((Instr.storeAt 4 (.pointer ((some ⟨u.block,u.off + 2,none⟩))) (.bool true)).run Tryz.prog g=.ok () I)∧
 K (.slice none 0 0) I)
 (NilP b fun M=>
 ∃ l:Sl,(At p (Addr.add M 0) [.slice l.a l.len l.cap])∧
 NilP b fun q=>
 ∃ D:Int,(At p ⟨q.block,q.off + 1,none⟩ [.int .i64 D])∧
 Br (decide (k>IntKind.u64.wrap (IntKind.i64.wrap (IntKind.i64.wrap ((↑l.len:Int) - D) - c))))
 (NilP b fun v=>
 ∃ J:World,((Instr.storeAt 4 (.pointer ((some ⟨v.block,v.off + 2,none⟩))) (.bool true)).run Tryz.prog g=.ok () J)∧
 K (.slice none 0 0) J)
 (o  g))))))∧
 ∀ (X:Env)  (n:World),o  n→
 NilP b fun x=>
 ∃ d:Int,(At (fun T=>T=n) ⟨x.block,x.off + 1,none⟩ [.int .i64 d])∧
 NilP b fun y=>
 ∃ L:World,((Instr.storeAt 3 (.pointer ((some ⟨y.block,y.off + 1,none⟩))) (.int .i64 (IntKind.i64.wrap (IntKind.i64.wrap (d + c) + IntKind.i64.wrap k)))).run Tryz.prog n=.ok () L)∧
 Drw L fun j V=>
 NilP b fun N=>
 ∃ e:Sl,(At j (Addr.add N 0) [.slice e.a e.len e.cap])∧
 NilP b fun z=>
 ∃ i:Int,(At j ⟨z.block,z.off + 1,none⟩ [.int .i64 i])∧
 ((0:Int)≤i)∧
 ((i:Int)≤(↑e.cap:Int))∧
 ((0:Int)≤IntKind.i64.wrap (d + c))∧
 ((IntKind.i64.wrap (d + c):Int)≤(↑i.toNat:Int))∧
 New (.cells #[] 5 (0,0)) (fun O E=>
 (j E)∧
 ∃ m:World,∃ f:Sl,((Builtin.append_ #[47,47] 47 #[.slice ((some ⟨O,0,none⟩)) 0 0,.slice (cutA e.a (IntKind.i64.wrap (d + c)).toNat e.cap 1) (i.toNat - (IntKind.i64.wrap (d + c)).toNat) (e.cap - (IntKind.i64.wrap (d + c)).toNat)]).run Tryz.prog E=.ok (.slice f.a f.len f.cap) m)∧
 (j m)∧
 K (.slice f.a f.len f.cap) m) V
def sk78:Sk:=(.seq .leaf (.seq .leaf (.cut [] [] [4,15,16,17,18,19,20,21,22,23,24,25,26,27,28,29,30,31,32,33,34,35,36,37,38,39,40,41,42,43,44,45,46,47,48,49] .leaf .leaf)))
theorem call78 (b:Option Addr) (a:Int) (K:Value→World→Prop) (w:World) (h:B78 b a K w):Gets Tryz.prog 78 #[.pointer b,.int .i64 a] w K:=cq (sk:=sk78) h Tryz.func78
end Go.Proofs.YtlplemdmegpoeaaGreatDoor

/- Packages seat and reference 13: layouts. Condition: none. -/
namespace Go.Proofs.YtlplemdmegpoeaaGreatDoor
set_option linter.unusedVariables false
set_option linter.unusedSimpArgs false
open Go Go.VC
variable {R:Cx} {Hs Rest:List HP} {w:World}
theorem sum_app:∀ a b:List Int,(a++b).sum=a.sum + b.sum
 |[],b=>by simp
 |x::a,b=>by simp only [List.cons_append,List.sum_cons,sum_app a b];omega
theorem sum_take {g:List Int} {j:Nat} (h:j<g.length):(g.take (j + 1)).sum=(g.take j).sum + g[j]:=by
 rw [List.take_add_one,List.getElem?_eq_getElem h,sum_app]
 simp
theorem sum_bd {g:List Int} (h:∀ x∈g,0≤x∧x≤10):0≤g.sum∧g.sum≤10 * g.length:=by
 induction g with
 |nil=>simp
 |cons a g ih=>
  have:=ih fun x hx=>h x (List.mem_cons_of_mem _ hx)
  have:=h a List.mem_cons_self
  simp only [List.sum_cons,List.length_cons]
  omega
def grpsOk (g:List Int):Bool:=g.all fun x=>decide (1≤x∧x≤10)
def layOk (n:Int) (g:List Int):Bool:=decide (1≤n∧n≤60∧1≤g.length∧g.length≤4) && (grpsOk g && decide (g.sum≤10))
def layN (n:Int) (g:List Int):Int:=if layOk n g then n * g.sum else 0
theorem layOk_iff {n:Int} {g:List Int}:layOk n g=true↔(1≤n∧n≤60∧1≤g.length∧g.length≤4)∧(∀ x∈g,1≤x∧x≤10)∧g.sum≤10:=by
 simp [layOk,grpsOk]
theorem layN_ok {n:Int} {g:List Int} (h:layOk n g=true):layN n g=n * g.sum:=by unfold layN;rw [if_pos h]
theorem mul_bd {a b:Int} (h0:0≤a) (h1:a≤60) (h2:0≤b) (h3:b≤10):0≤a * b∧a * b≤600:=
 ⟨Int.mul_nonneg h0 h2,by have:=Int.mul_le_mul h1 h3 h2 (by omega);omega⟩
theorem layN_bd (n:Int) (g:List Int):0≤layN n g∧layN n g≤600:=by
 unfold layN
 split
 ·rename_i h
  obtain ⟨h1,h2,h3⟩:=layOk_iff.1 h
  have:=sum_bd (fun x hx=>by have:=h2 x hx;omega) (g:=g)
  exact mul_bd (by omega) (by omega) (by omega) (by omega)
 ·omega
abbrev layC (n:Int) (s:Sl):Obj:=.cells [.int .i64 n,.slice s.a s.len s.cap].toArray 37 (0,0)
theorem across_spec {n:Int} {s:Sl} {g:List Int} (hs:RoI R s g) (hg:∀ x∈g,0≤x∧x≤10) (hl:g.length≤4) (hw:Sat R Hs w):
  Gets Tryz.prog 236 #[.agg #[.int .i64 n,.slice s.a s.len s.cap]] w fun v w'=>v=.int .i64 g.sum∧Sat R Hs w':=by
 have hlen:=hs.len
 apply call236
 refine new_rule hw fun p w hw=>?_
 have hw:Sat R (pts p (layC n s)::Hs) w:=hw
 refine ⟨s,At.own (eqS hw) (by exact ⟨rfl,trivial⟩),?_⟩
 refine ⟨fun m i w=>∃ j:Nat,i=j∧j≤g.length∧m=(g.take j).sum∧Sat R (pts p (layC n s)::Hs) w,fun _ i _=>g.length - i.toNat,⟨0,rfl,by omega,by simp,hw⟩,?_⟩
 clear hw
 rintro _ _ _ w ⟨j,rfl,hj,rfl,hw⟩
 refine Br.d (fun h=>?_) (fun h=>?_)
 ·have hj2:j<g.length:=by omega
  refine hs.idx (eqS hw) hj2 ?_
  have hb:=sum_bd (fun x hx=>hg x (List.mem_of_mem_take hx)) (g:=g.take j)
  have hb2:(g.take j).length≤4:=by rw [List.length_take];omega
  have hx:=hg g[j] (List.getElem_mem _)
  rw [wrap64 (x:=(j:Int) + 1) (by omega) (by omega),wrap64 (by omega) (by omega)]
  exact ⟨⟨j + 1,by omega,by omega,(sum_take hj2).symm,hw⟩,by dsimp only;omega⟩
 ·rw [List.take_of_length_le (by omega)]
  exact ⟨rfl,hw.drop⟩
theorem racross_spec {n:Int} {s:Sl} {g:List Int} (hs:RoI R s g) (hg:∀ x∈g,0≤x∧x≤10) (hl:g.length≤4) (hw:Sat R Hs w):
  Gets Tryz.prog 256 #[.agg #[.int .i64 n,.slice s.a s.len s.cap]] w fun v w'=>v=.int .i64 g.sum∧Sat R Hs w':=by
 have hlen:=hs.len
 apply call256
 refine new_rule hw fun p w hw=>?_
 have hw:Sat R (pts p (layC n s)::Hs) w:=hw
 refine ⟨fun m i w=>∃ j:Nat,i=j∧j≤g.length∧m=(g.take j).sum∧Sat R (pts p (layC n s)::Hs) w,fun _ i _=>g.length - i.toNat,⟨0,rfl,by omega,by simp,hw⟩,?_⟩
 clear hw
 rintro _ _ _ w ⟨j,rfl,hj,rfl,hw⟩
 refine ⟨s,At.own (eqS hw) (by exact ⟨rfl,trivial⟩),Br.d (fun h=>?_) (fun h=>?_)⟩
 ·have hj2:j<g.length:=by omega
  refine ⟨s,At.own (eqS hw) (by exact ⟨rfl,trivial⟩),hs.idx (eqS hw) hj2 ?_⟩
  have hb:=sum_bd (fun x hx=>hg x (List.mem_of_mem_take hx)) (g:=g.take j)
  have hb2:(g.take j).length≤4:=by rw [List.length_take];omega
  have hx:=hg g[j] (List.getElem_mem _)
  rw [wrap64 (x:=(j:Int) + 1) (by omega) (by omega),wrap64 (by omega) (by omega)]
  exact ⟨⟨j + 1,by omega,by omega,(sum_take hj2).symm,hw⟩,by dsimp only;omega⟩
 ·rw [List.take_of_length_le (by omega)]
  exact ⟨rfl,hw.drop⟩
theorem idxF_spec {s:Sl} {l:List Int} {f:Value} {p:Int→Bool} (hs:RoI R s l) (hf:∀ x w,Sat R Hs w→CalW Tryz.prog cl f [.int .i64 x] w fun e w'=>e=.returned (.bool (p x))∧Sat R Hs w') (hw:Sat R Hs w):
  Gets Tryz.prog 272 #[.slice s.a s.len s.cap,f] w fun v w'=>(∃ n:Int,v=.int .i64 n∧(l.any p=true↔0≤n))∧Sat R Hs w':=by
 have hlen:=hs.len
 have hbd:=hs.bound
 apply call272
 refine ⟨fun i w=>∃ j:Nat,i=j∧j≤l.length∧(l.take j).any p=false∧Sat R Hs w,fun i _=>l.length - i.toNat,⟨0,rfl,by omega,by simp,hw⟩,?_⟩
 clear hw
 rintro _ _ w ⟨j,rfl,hj,hn,hw⟩
 refine Br.d (fun h=>?_) (fun h=>?_)
 ·have hj2:j<l.length:=by omega
  refine hs.idx (eqS hw) hj2 ?_
  refine (hf l[j] _ hw).mono ?_
  rintro _ w ⟨rfl,hw⟩
  refine ⟨_,rfl,Br.mk (fun h=>⟨⟨j,rfl,⟨fun _=>by omega,fun _=>List.any_eq_true.2 ⟨_,List.getElem_mem _,h⟩⟩⟩,hw⟩) (fun h=>?_)⟩
  rw [wrap64 (by omega) (by omega)]
  refine ⟨⟨j + 1,by omega,by omega,?_,hw⟩,by dsimp only;omega⟩
  rw [List.take_add_one,List.getElem?_eq_getElem hj2,List.any_append,hn]
  simp [h]
 ·refine ⟨⟨-1,rfl,⟨fun h2=>?_,fun h2=>by omega⟩⟩,hw⟩
  rw [List.take_of_length_le (by omega)] at hn
  rw [hn] at h2;cases h2
theorem contF_spec {s:Sl} {l:List Int} {f:Value} {p:Int→Bool} (hs:RoI R s l) (hf:∀ x w,Sat R Hs w→CalW Tryz.prog cl f [.int .i64 x] w fun e w'=>e=.returned (.bool (p x))∧Sat R Hs w') (hw:Sat R Hs w):
  Gets Tryz.prog 212 #[.slice s.a s.len s.cap,f] w fun v w'=>v=.bool (l.any p)∧Sat R Hs w':=by
 apply call212
 refine (idxF_spec hs hf hw).use ?_
 rintro _ w ⟨⟨n,rfl,h⟩,hw⟩
 refine ⟨n,rfl,?_,hw⟩
 congr 1
 rw [Bool.eq_iff_iff,decide_eq_true_iff]
 exact h.symm
theorem odd_spec {g:Int} (hw:Sat R Hs w):Gets Tryz.prog 237 #[.int .i64 g] w fun v w'=>v=.bool (!decide (1≤g∧g≤10))∧Sat R Hs w':=by
 apply call237
 refine Br.d (fun h=>⟨?_,hw⟩) (fun h=>⟨?_,hw⟩)
 ·rw [decide_eq_false (by omega)];rfl
 ·congr 1
  rw [←decide_not,decide_eq_decide];omega
theorem layOk_no {n:Int} {g:List Int} (h:¬ ((1≤n∧n≤60∧1≤g.length∧g.length≤4)∧(∀ x∈g,1≤x∧x≤10)∧g.sum≤10)):layOk n g=false:=by
 rw [←Bool.not_eq_true,layOk_iff];exact h
theorem right_spec {n:Int} {s:Sl} {g:List Int} (hs:RoI R s g) (hw:Sat R Hs w):
  Gets Tryz.prog 165 #[.agg #[.int .i64 n,.slice s.a s.len s.cap]] w fun v w'=>v=.bool (layOk n g)∧Sat R Hs w':=by
 have hlen:=hs.len
 apply call165
 refine new_rule hw fun p w hw=>?_
 have hw:Sat R (pts p (layC n s)::Hs) w:=hw
 refine ⟨n,At.own (eqS hw) (by exact ⟨rfl,trivial⟩),Br.d (fun h1=>⟨by rw [layOk_no (fun h=>by omega)],hw.drop⟩) (fun h1=>?_)⟩
 refine ⟨n,At.own (eqS hw) (by exact ⟨rfl,trivial⟩),Br.d (fun h2=>⟨by rw [layOk_no (fun h=>by omega)],hw.drop⟩) (fun h2=>?_)⟩
 refine ⟨s,At.own (eqS hw) (by exact ⟨rfl,trivial⟩),Br.d (fun h3=>⟨by rw [layOk_no (fun h=>by omega)],hw.drop⟩) (fun h3=>?_)⟩
 refine ⟨s,At.own (eqS hw) (by exact ⟨rfl,trivial⟩),Br.d (fun h4=>⟨by rw [layOk_no (fun h=>by omega)],hw.drop⟩) (fun h4=>?_)⟩
 refine ⟨s,At.own (eqS hw) (by exact ⟨rfl,trivial⟩),?_⟩
 refine (contF_spec (p:=fun x=>!decide (1≤x∧x≤10)) hs (fun x w hw=>CalW.mk (by kernel_rfl) ((odd_spec hw).use fun v w' h=>⟨by rw [h.1],h.2⟩)) hw).use ?_
 rintro _ w ⟨rfl,hw⟩
 refine ⟨_,rfl,Br.mk (fun h5=>⟨?_,hw.drop⟩) (fun h5=>?_)⟩
 ·rw [layOk_no (fun h=>?_)]
  obtain ⟨x,hx,hx2⟩:=List.any_eq_true.1 h5
  have:=h.2.1 x hx
  rw [decide_eq_true this] at hx2;cases hx2
 have hg:∀ x∈g,1≤x∧x≤10:=fun x hx=>by
  by_cases h:1≤x∧x≤10
  ·exact h
  ·have:(g.any fun x=>!decide (1≤x∧x≤10))=true:=List.any_eq_true.2 ⟨x,hx,by rw [decide_eq_false h];rfl⟩
   rw [h5] at this;cases this
 refine ⟨n,s,At.own (eqS hw) (by exact ⟨rfl,rfl,trivial⟩),?_⟩
 refine (across_spec hs (fun x hx=>by have:=hg x hx;omega) (by omega) hw).use ?_
 rintro _ w ⟨rfl,hw⟩
 refine ⟨_,rfl,?_,hw.drop⟩
 congr 1
 rw [Bool.eq_iff_iff,decide_eq_true_iff,layOk_iff]
 exact ⟨fun h=>⟨⟨by omega,by omega,by omega,by omega⟩,hg,h⟩,fun h=>h.2.2⟩
theorem rright_spec {n:Int} {s:Sl} {g:List Int} (hs:RoI R s g) (hw:Sat R Hs w):
  Gets Tryz.prog 184 #[.agg #[.int .i64 n,.slice s.a s.len s.cap]] w fun v w'=>v=.bool (layOk n g)∧Sat R Hs w':=by
 have hlen:=hs.len
 have hbd:=hs.bound
 apply call184
 refine new_rule hw fun p w hw=>?_
 have hw:Sat R (pts p (layC n s)::Hs) w:=hw
 refine ⟨fun w=>(1≤n∧n≤60∧1≤g.length∧g.length≤4)∧Sat R (pts p (layC n s)::Hs) w,?_,?_⟩
 ·refine ⟨n,At.own (eqS hw) (by exact ⟨rfl,trivial⟩),Br.d (fun h1=>⟨by rw [layOk_no (fun h=>by omega)],hw.drop⟩) (fun h1=>?_)⟩
  refine ⟨n,At.own (eqS hw) (by exact ⟨rfl,trivial⟩),Br.d (fun h2=>⟨by rw [layOk_no (fun h=>by omega)],hw.drop⟩) (fun h2=>?_)⟩
  refine ⟨s,At.own (eqS hw) (by exact ⟨rfl,trivial⟩),Br.d (fun h3=>⟨by rw [layOk_no (fun h=>by omega)],hw.drop⟩) (fun h3=>?_)⟩
  refine ⟨s,At.own (eqS hw) (by exact ⟨rfl,trivial⟩),Br.d (fun h4=>⟨by rw [layOk_no (fun h=>by omega)],hw.drop⟩) (fun h4=>⟨⟨by omega,by omega,by omega,by omega⟩,hw⟩)⟩
 clear hw
 rintro _ w ⟨h0,hw⟩
 refine ⟨fun i w=>∃ j:Nat,i=j∧j≤g.length∧(∀ x∈g.take j,1≤x∧x≤10)∧Sat R (pts p (layC n s)::Hs) w,fun i _=>g.length - i.toNat,⟨0,rfl,by omega,by simp,hw⟩,?_⟩
 clear hw
 rintro _ _ w ⟨j,rfl,hj,hn,hw⟩
 refine ⟨s,At.own (eqS hw) (by exact ⟨rfl,trivial⟩),Br.d (fun h=>?_) (fun h=>?_)⟩
 ·have hj2:j<g.length:=by omega
  have no:¬ (1≤g[j]∧g[j]≤10)→layOk n g=false:=fun h=>layOk_no fun h2=>h (h2.2.1 _ (List.getElem_mem _))
  refine ⟨s,At.own (eqS hw) (by exact ⟨rfl,trivial⟩),hs.idx (eqS hw) hj2 ?_⟩
  refine Br.d (fun h1=>⟨by rw [no (by omega)],hw.drop⟩) (fun h1=>?_)
  refine ⟨s,At.own (eqS hw) (by exact ⟨rfl,trivial⟩),hs.idx (eqS hw) hj2 ?_⟩
  refine Br.d (fun h2=>⟨by rw [no (by omega)],hw.drop⟩) (fun h2=>?_)
  rw [wrap64 (by omega) (by omega)]
  refine ⟨⟨j + 1,by omega,by omega,?_,hw⟩,by dsimp only;omega⟩
  rw [List.take_add_one,List.getElem?_eq_getElem hj2]
  intro x hx
  simp only [Option.toList_some,List.mem_append,List.mem_singleton] at hx
  rcases hx with hx|rfl
  ·exact hn x hx
  ·omega
 ·rw [List.take_of_length_le (by omega)] at hn
  refine ⟨n,s,At.own (eqS hw) (by exact ⟨rfl,rfl,trivial⟩),?_⟩
  refine (racross_spec hs (fun x hx=>by have:=hn x hx;omega) (by omega) hw).use ?_
  rintro _ w ⟨rfl,hw⟩
  refine ⟨_,rfl,?_,hw.drop⟩
  congr 1
  rw [Bool.eq_iff_iff,decide_eq_true_iff,layOk_iff]
  exact ⟨fun h=>⟨h0,hn,h⟩,fun h=>h.2.2⟩
theorem count_spec {n:Int} {s:Sl} {g:List Int} (hs:RoI R s g) (hw:Sat R Hs w):
  Gets Tryz.prog 164 #[.agg #[.int .i64 n,.slice s.a s.len s.cap]] w fun v w'=>v=.int .i64 (layN n g)∧Sat R Hs w':=by
 apply call164
 refine new_rule hw fun p w hw=>?_
 have hw:Sat R (pts p (layC n s)::Hs) w:=hw
 refine ⟨n,s,At.own (eqS hw) (by exact ⟨rfl,rfl,trivial⟩),?_⟩
 refine (right_spec hs hw).use ?_
 rintro _ w ⟨rfl,hw⟩
 refine ⟨_,rfl,Br.nb (fun h=>⟨?_,hw.drop⟩) (fun h=>?_)⟩
 ·unfold layN;rw [h];rfl
 obtain ⟨h1,h2,h3⟩:=layOk_iff.1 h
 refine drw_rule hw fun w hw=>?_
 refine ⟨n,At.own selfS (by exact ⟨rfl,trivial⟩),n,s,At.own selfS (by exact ⟨rfl,rfl,trivial⟩),?_⟩
 refine (across_spec hs (fun x hx=>by have:=h2 x hx;omega) (by omega) hw).use ?_
 rintro _ w ⟨rfl,hw⟩
 have hb:=layN_bd n g
 rw [layN_ok h] at hb ⊢
 refine ⟨_,rfl,hw,?_,hw.drop⟩
 rw [wrap64 (by omega) (by omega)]
theorem rcount_spec {n:Int} {s:Sl} {g:List Int} (hs:RoI R s g) (hw:Sat R Hs w):
  Gets Tryz.prog 186 #[.agg #[.int .i64 n,.slice s.a s.len s.cap]] w fun v w'=>v=.int .i64 (layN n g)∧Sat R Hs w':=by
 apply call186
 refine new_rule hw fun p w hw=>?_
 have hw:Sat R (pts p (layC n s)::Hs) w:=hw
 refine ⟨n,s,At.own (eqS hw) (by exact ⟨rfl,rfl,trivial⟩),?_⟩
 refine (rright_spec hs hw).use ?_
 rintro _ w ⟨rfl,hw⟩
 refine ⟨_,rfl,Br.nb (fun h=>⟨?_,hw.drop⟩) (fun h=>?_)⟩
 ·unfold layN;rw [h];rfl
 obtain ⟨h1,h2,h3⟩:=layOk_iff.1 h
 refine drw_rule hw fun w hw=>?_
 refine ⟨n,At.own selfS (by exact ⟨rfl,trivial⟩),n,s,At.own selfS (by exact ⟨rfl,rfl,trivial⟩),?_⟩
 refine (racross_spec hs (fun x hx=>by have:=h2 x hx;omega) (by omega) hw).use ?_
 rintro _ w ⟨rfl,hw⟩
 have hb:=layN_bd n g
 rw [layN_ok h] at hb ⊢
 refine ⟨_,rfl,hw,?_,hw.drop⟩
 rw [wrap64 (by omega) (by omega)]
theorem has_spec {s:Sl} {l:List Int} {k:Int} (hs:RoI R s l) (hw:Sat R Hs w):
  Gets Tryz.prog 196 #[.slice s.a s.len s.cap,.int .i64 k] w fun v w'=>v=.bool (decide (k∈l))∧Sat R Hs w':=by
 have hlen:=hs.len
 have hbd:=hs.bound
 apply call196
 refine ⟨fun i w=>∃ j:Nat,i=j∧j≤l.length∧k ∉ l.take j∧Sat R Hs w,fun i _=>l.length - i.toNat,⟨0,rfl,by omega,by simp,hw⟩,?_⟩
 clear hw
 rintro _ _ w ⟨j,rfl,hj,hn,hw⟩
 refine Br.d (fun h=>?_) (fun h=>?_)
 ·have hj2:j<l.length:=by omega
  refine hs.idx (eqS hw) hj2 ?_
  refine Br.e (fun h=>⟨?_,hw⟩) (fun h=>?_)
  ·rw [decide_eq_true (show k∈l by rw [←h];exact List.getElem_mem _)]
  rw [wrap64 (by omega) (by omega)]
  refine ⟨⟨j + 1,by omega,by omega,?_,hw⟩,by dsimp only;omega⟩
  rw [List.take_add_one,List.getElem?_eq_getElem hj2]
  simp only [Option.toList_some,List.mem_append,List.mem_singleton,not_or]
  exact ⟨hn,fun h2=>h h2.symm⟩
 ·rw [List.take_of_length_le (by omega)] at hn
  exact ⟨by rw [decide_eq_false hn],hw⟩
end Go.Proofs.YtlplemdmegpoeaaGreatDoor





/- SL, part 15: new rows of so many zeros; elements of any one cell. Condition: bounds on lengths. -/
namespace Go.VC
set_option linter.unusedVariables false
set_option linter.unusedSimpArgs false
variable {P:Program} {R:Cx} {Hs Rest:List HP} {w:World} {s:Sl} {T:TypeId}
theorem make_rule {t:TypeId} {bytes n:Nat} {kl kc:IntKind} {z:Value} {K:Sl→World→Prop} (ht:P.underlying t=some (.slice T)) (hi:elB P T bytes=true) (hv:∀ w,(zeroValue T).run P w=.ok z w) (h1:z.cells=#[z])
  (hn:bytes * n≤281474976710656) (h63:n≤9223372036854775807) (hw:Sat R Hs w) (k:∀ s' w',Sat R (Own s' T (List.replicate n z)::Hs) w'→K s' w'):
  ∃ w',∃ t':Sl,(Instr.makeSlice t (.int kl (n:Int)) (.int kc (n:Int))).run P w=.ok (.slice t'.a t'.len t'.cap) w'∧K t' w':=by
 obtain ⟨i,z',hi,hz,hs,hb,hc⟩:=elB_out hi
 have hzz:z'=z:=by
  have:=hv w
  simp [zeroValue,hi,hz,typeInfo] at this
  exact this
 subst hzz
 have hb':(i.bytes:Int) * (n:Int)≤281474976710656:=by
  rw [hb]
  have h:((bytes * n:Nat):Int)≤281474976710656:=by omega
  rwa [Int.natCast_mul] at h
 have hr:=run_make (P:=P) w t T i z' ht hi hz kl kc n n (by omega) (Int.le_refl _) hb' (by omega)
 simp only [Int.toNat_natCast,hs,Nat.mul_one,h1] at hr
 refine ⟨_,⟨some ⟨w.heap.size,0,none⟩,n,n⟩,hr,k _ _ ?_⟩
 have e:madeCells #[z'] n=(List.replicate n z').toArray:=by
  apply Array.ext
  ·simp [size_madeCells]
  ·intro j h1 h2
   simp [madeCells,Nat.mod_one]
 rw [e]
 exact own_lit (hw.alloc _) (by simp)
theorem Own.ix {kd:IntKind} {xs:List Int} {S:World→Prop} {Hs':List HP} {i:Int} (hw:Sat R (Own s T (xs.map (Value.int kd))::Hs) w) (hS:∀ w,S w→Sat R (Own s T (xs.map (Value.int kd))::Hs') w) (k:Nat) (hi:i=k) (hk:k<xs.length) {F:Int→Prop} (h:F xs[k]):
  Rng i s.len (NilP s.a fun a=>∃ t:Int,(At S (a.add i.toNat) [.int kd t])∧F t):=by
 subst hi;exact Own.idx hw hS hk h
end Go.VC
/- Seats side by side: packages seat and reference 13. Condition: none. -/
namespace Go.Proofs.YtlplemdmegpoeaaGreatDoor
set_option linter.unusedVariables false
set_option linter.unusedSimpArgs false
open Go Go.VC
variable {R:Cx} {Hs Rest:List HP} {w:World}
theorem elI8:El Tryz.prog 30 30 3 8:=⟨Tryz.underlying30,⟨_,Tryz.underlying30⟩,by kernel_rfl⟩
end Go.Proofs.YtlplemdmegpoeaaGreatDoor
/- Seats side by side: reference 13. Condition: none. -/
namespace Go.Proofs.YtlplemdmegpoeaaGreatDoor
set_option linter.unusedVariables false
set_option linter.unusedSimpArgs false
open Go Go.VC
variable {R:Cx} {Hs Rest:List HP} {w:World}
theorem _root_.Go.VC.Sat.imp {A B:HP} (h:∀ m,A m→B m) (hw:Sat R (A::Hs) w):Sat R (B::Hs) w:=let ⟨m,a,b,c⟩:=hw;⟨m,h m a,b,c⟩
end Go.Proofs.YtlplemdmegpoeaaGreatDoor
/- Classes and limits: package nest. Condition: none. -/
namespace Go.Proofs.YtlplemdmegpoeaaGreatDoor
set_option linter.unusedVariables false
set_option linter.unusedSimpArgs false
open Go Go.VC
variable {R:Cx} {Hs Rest:List HP} {w:World}
def inR (x:Int):Bool:=decide (0≤x∧x≤10000)
def limOk (l:List Int):Bool:=decide (1≤l.length∧l.length≤8) && decide (∀ k,k<l.length→(0≤l.getD k 0∧l.getD k 0≤10000)∧(0<k→l.getD k 0≤l.getD (k - 1) 0))
def fromN (sold:List Int) (k:Nat):Int:=(sold.drop k).sum
def nestOk (lim sold:List Int):Bool:=limOk lim && (decide (sold.length=lim.length) && decide (∀ k,k<lim.length→(0≤sold.getD k 0∧sold.getD k 0≤10000)∧fromN sold k≤lim.getD k 0))
def mnF (x:Nat→Int):Nat→Int
 |0=>10000
 |k + 1=>if x k<mnF x k then x k else mnF x k
def roomF (lim sold:List Int) (k:Nat):Int:=lim.getD k 0 - fromN sold k
def leftT (lim sold:List Int) (c:Int):Int × Int:=if nestOk lim sold=true∧0≤c∧c<lim.length then (mnF (roomF lim sold) (c.toNat + 1),0) else (0,1)
def sellT (lim sold:List Int) (c many:Int):List Int × Int:=
 if (leftT lim sold c).2≠0∨many<1∨many>10000 then ([],1) else if many>(leftT lim sold c).1 then ([],3)
 else (sold.set c.toNat (sold.getD c.toNat 0 + many),0)
def IsMn (x:Nat→Int) (a b:Nat) (L:Int):Prop:=L≤10000∧(∀ k,a≤k→k<b→L≤x k)∧(L=10000∨∃ k,a≤k∧k<b∧L=x k)
theorem mnF_is (x:Nat→Int):∀ k,IsMn x 0 k (mnF x k)
 |0=>⟨by simp [mnF],fun k h0 h1=>by omega,.inl rfl⟩
 |k + 1=>by
  obtain ⟨h1,h2,h3⟩:=mnF_is x k
  unfold mnF
  split
  ·exact ⟨by omega,fun j a b=>by
    by_cases hj:j=k
    ·rw [hj];exact Int.le_refl _
    ·have:=h2 j a (by omega);omega,.inr ⟨k,by omega,by omega,rfl⟩⟩
  ·refine ⟨h1,fun j a b=>?_,?_⟩
   ·by_cases hj:j=k
    ·rw [hj];omega
    ·exact h2 j a (by omega)
   ·rcases h3 with h3|⟨j,a,b,c⟩
    ·exact .inl h3
    ·exact .inr ⟨j,a,by omega,c⟩
theorem IsMn.eq {x:Nat→Int} {a b:Nat} {L L':Int} (h:IsMn x a b L) (h':IsMn x a b L'):L=L':=by
 obtain ⟨h1,h2,h3⟩:=h
 obtain ⟨h1',h2',h3'⟩:=h'
 have a1:L≤L':=by
  rcases h3' with h|⟨k,k1,k2,k3⟩
  ·omega
  ·rw [k3];exact h2 k k1 k2
 have a2:L'≤L:=by
  rcases h3 with h|⟨k,k1,k2,k3⟩
  ·omega
  ·rw [k3];exact h2' k k1 k2
 omega
theorem IsMn.step {x:Nat→Int} {a b:Nat} {L:Int} (h:IsMn x (a + 1) b L) (hab:a<b):IsMn x a b (if x a<L then x a else L):=by
 obtain ⟨h1,h2,h3⟩:=h
 split
 ·exact ⟨by omega,fun k k1 k2=>by
   by_cases hk:k=a
   ·rw [hk];exact Int.le_refl _
   ·have:=h2 k (by omega) k2;omega,.inr ⟨a,by omega,hab,rfl⟩⟩
 ·refine ⟨h1,fun k k1 k2=>?_,?_⟩
  ·by_cases hk:k=a
   ·rw [hk];omega
   ·exact h2 k (by omega) k2
  ·rcases h3 with h|⟨k,k1,k2,k3⟩
   ·exact .inl h
   ·exact .inr ⟨k,by omega,k2,k3⟩
theorem IsMn.skip {x:Nat→Int} {a b:Nat} {L:Int} (h:IsMn x (a + 1) b L) (hab:¬ a<b):IsMn x a b L:=by
 obtain ⟨h1,h2,h3⟩:=h
 refine ⟨h1,fun k k1 k2=>by omega,?_⟩
 rcases h3 with h|⟨k,k1,k2,k3⟩
 ·exact .inl h
 ·omega
theorem fromN_step {sold:List Int} {k:Nat} (h:k<sold.length):fromN sold k=sold[k] + fromN sold (k + 1):=by
 unfold fromN;rw [List.drop_eq_getElem_cons h,List.sum_cons]
theorem fromN_end {sold:List Int} {k:Nat} (h:sold.length≤k):fromN sold k=0:=by
 unfold fromN;rw [List.drop_eq_nil_of_le h];rfl
theorem fromN_bd {sold:List Int} (h:∀ x∈sold,0≤x∧x≤10000):∀ k,0≤fromN sold k∧fromN sold k≤10000 * (sold.length - k:Nat):=by
 intro k
 unfold fromN
 rw [←List.length_drop]
 have:∀ x∈sold.drop k,0≤x∧x≤10000:=fun x hx=>h x (List.mem_of_mem_drop hx)
 generalize sold.drop k=l at *
 induction l with
 |nil=>simp
 |cons a l ih=>
  have:=ih fun x hx=>this x (List.mem_cons_of_mem _ hx)
  have:=‹∀ x∈a::l,0≤x∧x≤10000› a List.mem_cons_self
  simp only [List.sum_cons,List.length_cons];omega
theorem getD_lt {l:List Int} {k:Nat} (h:k<l.length):l.getD k 0=l[k]:=by rw [List.getD_eq_getElem?_getD,List.getElem?_eq_getElem h];rfl
theorem limOk_iff {l:List Int}:limOk l=true↔(1≤l.length∧l.length≤8)∧∀ k (h:k<l.length),(0≤l[k]∧l[k]≤10000)∧(0<k→l[k]≤l.getD (k - 1) 0):=by
 unfold limOk
 rw [Bool.and_eq_true,decide_eq_true_iff,decide_eq_true_iff]
 constructor
 ·rintro ⟨h1,h2⟩
  exact ⟨h1,fun k h=>by have:=h2 k h;rw [getD_lt h] at this;exact this⟩
 ·rintro ⟨h1,h2⟩
  exact ⟨h1,fun k h=>by rw [getD_lt h];exact h2 k h⟩
theorem nestOk_iff {lim sold:List Int}:nestOk lim sold=true↔limOk lim=true∧sold.length=lim.length∧∀ k,k<lim.length→(0≤sold.getD k 0∧sold.getD k 0≤10000)∧fromN sold k≤lim.getD k 0:=by
 unfold nestOk
 rw [Bool.and_eq_true,Bool.and_eq_true,decide_eq_true_iff,decide_eq_true_iff]
theorem nestOk_no {lim sold:List Int} (h:¬ (limOk lim=true∧sold.length=lim.length∧∀ k,k<lim.length→(0≤sold.getD k 0∧sold.getD k 0≤10000)∧fromN sold k≤lim.getD k 0)):nestOk lim sold=false:=by
 rw [←Bool.not_eq_true,nestOk_iff];exact h
theorem within_spec {x:Int} (hw:Sat R Hs w):Gets Tryz.prog 234 #[.int .i64 x] w fun v w'=>v=.bool (inR x)∧Sat R Hs w':=by
 apply call234
 unfold inR
 refine Br.d (fun h=>⟨?_,hw⟩) (fun h=>⟨?_,hw⟩)
 ·congr 1;rw [decide_eq_decide];omega
 ·rw [decide_eq_false (by omega)]
theorem lefts_spec {sl ss:Sl} {lim sold:List Int} {ask:Value} {A:Nat→List HP} (hl:RoI R sl lim) (hs:RoI R ss sold)
  (hask:∀ j w,j<lim.length→Sat R (A (j + 1)) w→CalW Tryz.prog cl ask [.int .i64 j,.int .i64 (roomF lim sold j)] w fun e w'=>e=.returned (.tuple #[])∧Sat R (A j) w')
  (hw:Sat R (A lim.length) w):
  Gets Tryz.prog 201 #[.slice sl.a sl.len sl.cap,.slice ss.a ss.len ss.cap,ask] w fun v w'=>v=.bool (nestOk lim sold)∧∃ j,Sat R (A j) w'∧(nestOk lim sold=true→j=0):=by
 have hll:=hl.len
 have hsl:=hs.len
 have hlb:=hl.bound
 have hsb:=hs.bound
 apply call201
 have no:∀ j w,Sat R (A j) w→nestOk lim sold=false→Value.bool false=.bool (nestOk lim sold)∧∃ j,Sat R (A j) w∧(nestOk lim sold=true→j=0):=fun j w h e=>⟨by rw [e],j,h,fun h=>by rw [e] at h;cases h⟩
 have nl:¬ (1≤lim.length∧lim.length≤8)→nestOk lim sold=false:=fun h=>nestOk_no fun h2=>h (limOk_iff.1 h2.1).1
 refine ⟨fun w=>(1≤lim.length∧lim.length≤8∧sold.length=lim.length)∧Sat R (A lim.length) w,?_,?_⟩
 ·refine Br.d (fun h=>no _ _ hw (nl (by omega))) (fun h1=>Br.d (fun h=>no _ _ hw (nl (by omega))) (fun h2=>Br.ne (fun h=>no _ _ hw (nestOk_no fun h3=>by omega)) (fun h3=>⟨⟨by omega,by omega,by omega⟩,hw⟩)))
 clear hw
 rintro _ w ⟨⟨h1,h2,h3⟩,hw⟩
 refine ⟨fun sum fine i w=>∃ j:Nat,i=(j:Int) - 1∧j≤lim.length∧sum=fromN sold j∧(∀ x∈sold.drop j,0≤x∧x≤10000)∧
   (∀ k (h:k<lim.length),j≤k→(0≤lim[k]∧lim[k]≤10000)∧(0<k→lim[k]≤lim.getD (k - 1) 0))∧fine=decide (∀ k,k<lim.length→j≤k→fromN sold k≤lim.getD k 0)∧Sat R (A j) w,
  fun _ _ i _=>(i + 1).toNat,⟨lim.length,?_,by omega,?_,?_,fun k h h'=>by omega,?_,hw⟩,?_⟩
 ·rw [hll,wrap64 (by omega) (by omega)]
 ·rw [fromN_end (by omega)]
 ·rw [List.drop_eq_nil_of_le (by omega)];simp
 ·rw [decide_eq_true];intro k h h';omega
 clear hw
 rintro _ _ fine _ w ⟨j,rfl,hj,rfl,hsm,hlm,rfl,hw⟩
 refine Br.d (fun h=>?_) (fun h=>?_)
 ·obtain ⟨i,rfl⟩:∃ i,j=i + 1:=⟨j - 1,by omega⟩
  rw [show ((i + 1:Nat):Int) - 1=(i:Int) by omega]
  have hil:i<lim.length:=by omega
  have his:i<sold.length:=by omega
  have nlim:¬ ((0≤lim[i]∧lim[i]≤10000)∧(0<i→lim[i]≤lim.getD (i - 1) 0))→nestOk lim sold=false:=fun h=>nestOk_no fun h2=>h ((limOk_iff.1 h2.1).2 i hil)
  have nsold:¬ (0≤sold[i]∧sold[i]≤10000)→nestOk lim sold=false:=fun h=>nestOk_no fun h2=>h (by have:=(h2.2.2 i hil).1;rw [getD_lt his] at this;exact this)
  refine ⟨fun w=>(inR lim[i]=true∧inR sold[i]=true∧(0<i→lim[i]≤lim.getD (i - 1) 0))∧Sat R (A (i + 1)) w,?_,?_⟩
  ·refine drw_rule hw fun w hw=>?_
   refine Ro.ix hl selfS i rfl hil ?_
   refine (within_spec hw).use ?_
   rintro _ w ⟨rfl,hw⟩
   refine ⟨_,rfl,hw,Br.nb (fun h=>no _ _ hw (nlim fun h2=>by unfold inR at h;have:=of_decide_eq_false h;omega)) (fun h4=>?_)⟩
   refine Ro.ix hs selfS i rfl his ?_
   refine (within_spec hw).use ?_
   rintro _ w ⟨rfl,hw⟩
   refine ⟨_,rfl,hw,Br.nb (fun h=>no _ _ hw (nsold fun h2=>by unfold inR at h;have:=of_decide_eq_false h;omega)) (fun h5=>?_)⟩
   refine Br.d (fun h6=>?_) (fun h6=>⟨⟨h4,h5,fun h=>by omega⟩,hw⟩)
   refine Ro.ix hl selfS i rfl hil ?_
   refine Ro.ix hl selfS (i - 1) (by rw [wrap64 (by omega) (by omega)];omega) (by omega) ?_
   refine Br.d (fun h7=>no _ _ hw (nlim fun h8=>?_)) (fun h7=>⟨⟨h4,h5,fun _=>by rw [getD_lt (by omega)];omega⟩,hw⟩)
   have:=h8.2 (by omega)
   rw [getD_lt (by omega)] at this;omega
  clear hw
  rintro _ w ⟨⟨h4,h5,h6⟩,hw⟩
  have h4:=of_decide_eq_true h4
  have h5:=of_decide_eq_true h5
  have hsm':∀ x∈sold.drop i,0≤x∧x≤10000:=fun x hx=>by
   rw [List.drop_eq_getElem_cons his] at hx
   rcases List.mem_cons.1 hx with rfl|hx
   ·exact h5
   ·exact hsm x hx
  have hfs:=fromN_step his
  have hfb:0≤fromN sold (i + 1)∧fromN sold (i + 1)≤80000:=by
   have:=fromN_bd (sold:=sold.drop (i + 1)) hsm 0
   unfold fromN at this ⊢
   rw [List.drop_zero] at this
   rw [List.length_drop] at this
   omega
  have hroom:IntKind.i64.wrap (lim[i] - fromN sold i)=roomF lim sold i:=by
   rw [wrap64 (by omega) (by omega)]
   unfold roomF;rw [getD_lt hil]
  have hsum:IntKind.i64.wrap (fromN sold (i + 1) + sold[i])=fromN sold i:=by rw [wrap64 (by omega) (by omega)];omega
  have hk:IntKind.i64.wrap ((i:Int) - 1)=(i:Int) - 1:=wrap64 (by omega) (by omega)
  have fin:∀ w,Sat R (A i) w→∀ b:Bool,b=(decide (∀ k,k<lim.length→i + 1≤k→fromN sold k≤lim.getD k 0) && decide (fromN sold i≤lim[i]))→
    (∃ j:Nat,(i:Int) - 1=(j:Int) - 1∧j≤lim.length∧fromN sold i=fromN sold j∧(∀ x∈sold.drop j,0≤x∧x≤10000)∧
     (∀ k (h:k<lim.length),j≤k→(0≤lim[k]∧lim[k]≤10000)∧(0<k→lim[k]≤lim.getD (k - 1) 0))∧b=decide (∀ k,k<lim.length→j≤k→fromN sold k≤lim.getD k 0)∧Sat R (A j) w)∧((i:Int) - 1 + 1).toNat<((i:Int) + 1).toNat:=fun w hw b hb=>by
   refine ⟨⟨i,rfl,by omega,rfl,hsm',fun k h h'=>?_,?_,hw⟩,by omega⟩
   ·by_cases hki:k=i
    ·subst hki;exact ⟨h4,h6⟩
    ·exact hlm k h (by omega)
   ·rw [hb,←Bool.decide_and,decide_eq_decide]
    constructor
    ·rintro ⟨a,b⟩ k c d
     by_cases hki:k=i
     ·subst hki;rw [getD_lt hil];exact b
     ·exact a k c (by omega)
    ·intro a
     exact ⟨fun k c d=>a k c (by omega),by have:=a i hil (by omega);rw [getD_lt hil] at this;exact this⟩
  refine Ro.ix hs (eqS hw) i rfl his ?_
  rw [hsum,hk]
  refine Br.d (fun h7=>?_) (fun h7=>?_)
  ·refine Ro.ix hl (eqS hw) i rfl hil (Ro.ix hl (eqS hw) i rfl hil ?_)
   rw [hroom]
   refine (hask i w hil hw).mono ?_
   rintro _ w ⟨rfl,hw⟩
   exact ⟨rfl,fin w hw _ (by rw [decide_eq_true h7];rfl)⟩
  ·refine Ro.ix hl (eqS hw) i rfl hil ?_
   rw [hroom]
   refine (hask i w hil hw).mono ?_
   rintro _ w ⟨rfl,hw⟩
   exact ⟨rfl,fin w hw _ (by rw [decide_eq_false h7];rfl)⟩
 ·obtain rfl:j=0:=by omega
  have e:nestOk lim sold=decide (∀ k,k<lim.length→0≤k→fromN sold k≤lim.getD k 0):=by
   rw [Bool.eq_iff_iff,nestOk_iff,decide_eq_true_iff]
   constructor
   ·intro h k h4 _;exact (h.2.2 k h4).2
   ·intro h
    refine ⟨limOk_iff.2 ⟨⟨h1,h2⟩,fun k h4=>hlm k h4 (by omega)⟩,h3,fun k h4=>⟨?_,h k h4 (by omega)⟩⟩
    rw [getD_lt (by omega)]
    exact hsm _ (by rw [List.drop_zero];exact List.getElem_mem _)
  exact ⟨by rw [e],0,hw,fun _=>rfl⟩
end Go.Proofs.YtlplemdmegpoeaaGreatDoor
/- Classes and limits: package nest, reference 14: what is left, selling, giving back. Condition: none. -/
namespace Go.Proofs.YtlplemdmegpoeaaGreatDoor
set_option linter.unusedVariables false
set_option linter.unusedSimpArgs false
open Go Go.VC
variable {R:Cx} {Hs Rest:List HP} {w:World}
theorem nright_spec {sl ss:Sl} {lim sold:List Int} (hl:RoI R sl lim) (hs:RoI R ss sold) (hw:Sat R Hs w):
  Gets Tryz.prog 226 #[.slice sl.a sl.len sl.cap,.slice ss.a ss.len ss.cap] w fun v w'=>v=.bool (nestOk lim sold)∧Sat R Hs w':=by
 apply call226
 refine (lefts_spec (A:=fun _=>Hs) hl hs (fun j w _ hw=>CalW.mk (by kernel_rfl) (Gets.use (Q:=fun v w'=>v=.tuple #[]∧Sat R Hs w') (call273 _ _ _ _ ⟨rfl,hw⟩) fun v w' h=>⟨by rw [h.1],h.2⟩)) hw).use ?_
 rintro _ w ⟨rfl,_,hw,_⟩
 exact ⟨_,rfl,rfl,hw⟩
def leastH (b:Nat) (x:Nat→Int) (j c:Nat):HP:=fun h=>∃ L,IsMn x j c L∧pts b (.cells [.int .i64 L].toArray 3 (0,0)) h
theorem leastH_out {b j c:Nat} {x:Nat→Int} (hw:Sat R (leastH b x j c::Hs) w):∃ L,IsMn x j c L∧Sat R (pts b (.cells [.int .i64 L].toArray 3 (0,0))::Hs) w:=
 let ⟨h,⟨L,hL,hp⟩,hd,hs⟩:=hw
 ⟨L,hL,h,hp,hd,hs⟩
theorem leastH_in {b j c:Nat} {x:Nat→Int} {L:Int} (hL:IsMn x j c L) (hw:Sat R (pts b (.cells [.int .i64 L].toArray 3 (0,0))::Hs) w):Sat R (leastH b x j c::Hs) w:=
 Sat.imp (fun _ h=>⟨L,hL,h⟩) hw
theorem left1_spec {bc bl:Nat} {c:Int} {x:Nat→Int} {j:Nat} (hw:Sat R (leastH bl x (j + 1) (c + 1).toNat::pts bc (.cells [.int .i64 c].toArray 3 (0,0))::Hs) w):
  Gets Tryz.prog 202 #[.int .i64 j,.int .i64 (x j),.pointer (some ⟨bc,0,none⟩),.pointer (some ⟨bl,0,none⟩)] w fun v w'=>v=.tuple #[]∧Sat R (leastH bl x j (c + 1).toNat::pts bc (.cells [.int .i64 c].toArray 3 (0,0))::Hs) w':=by
 obtain ⟨L,hL,hw⟩:=leastH_out hw
 apply call202
 refine NilP.mk rfl ⟨c,At.own (eqS hw) (by exact ⟨rfl,trivial⟩),Br.d (fun h=>?_) (fun h=>⟨rfl,leastH_in (hL.skip (by omega)) hw⟩)⟩
 refine NilP.mk rfl ⟨L,At.own (eqS hw) (by exact ⟨rfl,trivial⟩),?_⟩
 refine store_rule hw (by kernel_rfl) rfl (by simp [Value.cells]) fun w hw=>?_
 exact ⟨rfl,leastH_in (hL.step (by omega)) hw⟩
theorem left_spec {sl ss:Sl} {lim sold:List Int} {c:Int} (hl:RoI R sl lim) (hs:RoI R ss sold) (hw:Sat R Hs w):
  Gets Tryz.prog 123 #[.slice sl.a sl.len sl.cap,.slice ss.a ss.len ss.cap,.int .i64 c] w fun v w'=>v=.tuple #[.int .i64 (leftT lim sold c).1,.int .i64 (leftT lim sold c).2]∧Sat R Hs w':=by
 have hll:=hl.len
 have hlb:=hl.bound
 have no:¬ (nestOk lim sold=true∧0≤c∧c<lim.length)→leftT lim sold c=(0,1):=fun h=>by unfold leftT;rw [if_neg h]
 apply call123
 refine new_rule hw fun bc w hw=>?_
 refine new_rule hw fun bl w hw=>?_
 have hw:Sat R (pts bl (.cells [.int .i64 0].toArray 3 (0,0))::pts bc (.cells [.int .i64 c].toArray 3 (0,0))::Hs) w:=hw
 refine store_rule hw (by kernel_rfl) rfl (by simp [Value.cells]) fun w hw=>?_
 have hw:Sat R (pts bl (.cells [.int .i64 10000].toArray 3 (0,0))::pts bc (.cells [.int .i64 c].toArray 3 (0,0))::Hs) w:=hw
 by_cases hc:c<lim.length
 ·have h0:IsMn (roomF lim sold) lim.length (c + 1).toNat 10000:=⟨by omega,fun k h1 h2=>by omega,.inl rfl⟩
  refine (lefts_spec (A:=fun j=>leastH bl (roomF lim sold) j (c + 1).toNat::pts bc (.cells [.int .i64 c].toArray 3 (0,0))::Hs) hl hs (fun j w _ hw=>CalW.mk (by kernel_rfl) ((left1_spec hw).use fun v w' h=>⟨by rw [h.1],h.2⟩)) (leastH_in h0 hw)).use ?_
  rintro _ w ⟨rfl,j,hw,hj⟩
  refine ⟨_,rfl,Br.nb (fun h=>⟨?_,hw.drop.drop⟩) (fun h1=>?_)⟩
  ·rw [no (fun h2=>by rw [h] at h2;cases h2.1)]
  obtain rfl:=hj h1
  obtain ⟨L,hL,hw⟩:=leastH_out hw
  refine ⟨c,At.own (eqS hw) (by exact ⟨rfl,trivial⟩),Br.d (fun h=>⟨by rw [no (fun h2=>by omega)],hw.drop.drop⟩) (fun h2=>?_)⟩
  refine ⟨c,At.own (eqS hw) (by exact ⟨rfl,trivial⟩),Br.d (fun h=>⟨by rw [no (fun h2=>by omega)],hw.drop.drop⟩) (fun h3=>?_)⟩
  refine ⟨L,At.own (eqS hw) (by exact ⟨rfl,trivial⟩),?_,hw.drop.drop⟩
  have e:leftT lim sold c=(mnF (roomF lim sold) (c.toNat + 1),0):=by unfold leftT;rw [if_pos ⟨h1,by omega,hc⟩]
  rw [e,show c.toNat + 1=(c + 1).toNat by omega]
  rw [hL.eq (mnF_is _ _)]
 ·have h0:IsMn (fun _=>0) 0 0 10000:=⟨by omega,fun k h1 h2=>by omega,.inl rfl⟩
  refine (lefts_spec (A:=fun j=>exs (fun L=>pts bl (.cells [.int .i64 L].toArray 3 (0,0)))::pts bc (.cells [.int .i64 c].toArray 3 (0,0))::Hs) hl hs (fun j w _ hw=>CalW.mk (by kernel_rfl) ?_) (Sat.exs.2 ⟨10000,hw⟩)).use ?_
  ·obtain ⟨L,hw⟩:=Sat.exs.1 hw
   refine Gets.use (Q:=fun v w'=>v=.tuple #[]∧Sat R (exs (fun L=>pts bl (.cells [.int .i64 L].toArray 3 (0,0)))::pts bc (.cells [.int .i64 c].toArray 3 (0,0))::Hs) w') (call202 _ _ _ _ _ _ ?_) fun v w' h=>⟨by rw [h.1],h.2⟩
   refine NilP.mk rfl ⟨c,At.own (eqS hw) (by exact ⟨rfl,trivial⟩),Br.d (fun h=>?_) (fun h=>⟨rfl,Sat.exs.2 ⟨L,hw⟩⟩)⟩
   refine NilP.mk rfl ⟨L,At.own (eqS hw) (by exact ⟨rfl,trivial⟩),?_⟩
   refine store_rule hw (by kernel_rfl) rfl (by simp [Value.cells]) fun w hw=>?_
   exact ⟨rfl,Sat.exs.2 ⟨_,hw⟩⟩
  rintro _ w ⟨rfl,j,hw,hj⟩
  obtain ⟨L,hw⟩:=Sat.exs.1 hw
  have e:=no (fun h2=>by omega)
  refine ⟨_,rfl,Br.nb (fun h=>⟨by rw [e],hw.drop.drop⟩) (fun h1=>?_)⟩
  refine ⟨c,At.own (eqS hw) (by exact ⟨rfl,trivial⟩),Br.d (fun h=>⟨by rw [e],hw.drop.drop⟩) (fun h2=>?_)⟩
  refine ⟨c,At.own (eqS hw) (by exact ⟨rfl,trivial⟩),Br.d (fun h=>⟨by rw [e],hw.drop.drop⟩) (fun h3=>by omega)⟩
theorem cloneI_spec {s:Sl} {l:List Int} (hs:RoI R s l) (hl:l.length≤1000000000) (hw:Sat R Hs w):
  Gets Tryz.prog 166 #[.slice s.a s.len s.cap] w fun v w'=>∃ t:Sl,v=.slice t.a t.len t.cap∧Sat R (Own t 3 (l.map (Value.int .i64))::Hs) w':=by
 apply call166
 refine Br.mk (fun h=>?_) (fun h=>?_)
 ·have hnil:l=[]:=by
   by_cases hn:l=[]
   ·exact hn
   ·obtain ⟨b,off,l',T,fr,ha,_⟩:=hs.mem (by simpa using hn)
    rw [ha] at h;cases h
  subst hnil
  exact ⟨⟨none,0,0⟩,rfl,Own.nil hw⟩
 ·refine new_rule hw fun b w hw=>?_
  have hw:Sat R (Own ⟨some ⟨b,0,none⟩,0,0⟩ 3 (([]:List Int).map (Value.int .i64))::Hs) w:=own_lit hw
  refine appendRI elI8 (s:=⟨some ⟨b,0,none⟩,0,0⟩) (n:=1000000000) Tryz.underlying30 hw hs (by simpa using hl) (by omega) (by omega) fun t w hw=>?_
  exact ⟨t,rfl,hw⟩
theorem more_spec {s:Sl} {l:List Int} {c many:Int} (hs:RoI R s l) (hl:l.length≤1000) (hc:0≤c) (hc2:c<l.length) (hb:∀ x∈l,0≤x∧x≤10000) (hm: -10000≤many∧many≤10000) (hw:Sat R Hs w):
  Gets Tryz.prog 238 #[.slice s.a s.len s.cap,.int .i64 c,.int .i64 many] w fun v w'=>∃ t:Sl,v=.slice t.a t.len t.cap∧Sat R (Own t 3 ((l.set c.toNat (l.getD c.toNat 0 + many)).map (Value.int .i64))::Hs) w':=by
 obtain ⟨k,rfl⟩:=Int.eq_ofNat_of_zero_le hc
 have hk:k<l.length:=by omega
 have hx:=hb l[k] (List.getElem_mem _)
 apply call238
 refine (cloneI_spec hs (by omega) hw).use ?_
 rintro _ w ⟨t,rfl,hw⟩
 refine ⟨t,rfl,?_⟩
 refine Own.ix hw (eqS hw) k rfl hk ?_
 refine Own.store (by kernel_rfl) hw hk fun w hw=>?_
 rw [wrap64 (by omega) (by omega)] at hw
 rw [Int.toNat_natCast,getD_lt hk]
 exact ⟨t,rfl,hw⟩
theorem nest_sold {lim sold:List Int} (h:nestOk lim sold=true):(∀ x∈sold,0≤x∧x≤10000)∧sold.length=lim.length∧lim.length≤8:=by
 obtain ⟨h1,h2,h3⟩:=nestOk_iff.1 h
 obtain ⟨⟨_,h4⟩,_⟩:=limOk_iff.1 h1
 refine ⟨fun x hx=>?_,h2,h4⟩
 obtain ⟨k,hk,rfl⟩:=List.getElem_of_mem hx
 have:=(h3 k (by omega)).1
 rw [getD_lt hk] at this;exact this
theorem left_ok {lim sold:List Int} {c:Int} (h:(leftT lim sold c).2=0):nestOk lim sold=true∧0≤c∧c<lim.length:=by
 unfold leftT at h
 split at h
 ·assumption
 ·simp at h
theorem sell_spec {sl ss:Sl} {lim sold:List Int} {c many:Int} (hl:RoI R sl lim) (hs:RoI R ss sold) (hw:Sat R Hs w):
  Gets Tryz.prog 168 #[.slice sl.a sl.len sl.cap,.slice ss.a ss.len ss.cap,.int .i64 c,.int .i64 many] w fun v w'=>∃ t:Sl,v=.tuple #[.slice t.a t.len t.cap,.int .i64 (sellT lim sold c many).2]∧Sat R (Own t 3 ((sellT lim sold c many).1.map (Value.int .i64))::Hs) w':=by
 apply call168
 refine (left_spec hl hs hw).use ?_
 rintro _ w ⟨rfl,hw⟩
 have bad:((leftT lim sold c).2≠0∨many<1∨many>10000)→∃ t:Sl,Value.tuple #[.slice none 0 0,.int .i64 1]=.tuple #[.slice t.a t.len t.cap,.int .i64 (sellT lim sold c many).2]∧Sat R (Own t 3 ((sellT lim sold c many).1.map (Value.int .i64))::Hs) w:=fun h=>by
  unfold sellT;rw [if_pos h];exact ⟨⟨none,0,0⟩,rfl,Own.nil hw⟩
 refine ⟨_,_,rfl,Br.ne (fun h=>bad (.inl h)) (fun h1=>Br.d (fun h=>bad (.inr (.inl h))) (fun h2=>Br.d (fun h=>bad (.inr (.inr h))) (fun h3=>?_)))⟩
 have e:sellT lim sold c many=if many>(leftT lim sold c).1 then ([],3) else (sold.set c.toNat (sold.getD c.toNat 0 + many),0):=by
  unfold sellT;rw [if_neg (by omega)]
 rw [e]
 obtain ⟨n1,n2,n3⟩:=left_ok h1
 obtain ⟨n4,n5,n6⟩:=nest_sold n1
 refine Br.d (fun h=>?_) (fun h=>?_)
 ·rw [if_pos h];exact ⟨⟨none,0,0⟩,rfl,Own.nil hw⟩
 ·rw [if_neg h]
  refine (more_spec hs (by omega) n2 (by omega) n4 ⟨by omega,by omega⟩ hw).use ?_
  rintro _ w ⟨t,rfl,hw⟩
  exact ⟨t,rfl,t,rfl,hw⟩
end Go.Proofs.YtlplemdmegpoeaaGreatDoor
/- Classes and limits: reference 14. Condition: none. -/
namespace Go.Proofs.YtlplemdmegpoeaaGreatDoor
set_option linter.unusedVariables false
set_option linter.unusedSimpArgs false
open Go Go.VC
variable {R:Cx} {Hs Rest:List HP} {w:World}
theorem rlim_spec {sl:Sl} {lim:List Int} (hl:RoI R sl lim) (hw:Sat R Hs w):
  Gets Tryz.prog 260 #[.slice sl.a sl.len sl.cap] w fun v w'=>v=.bool (limOk lim)∧Sat R Hs w':=by
 have hll:=hl.len
 have hlb:=hl.bound
 have no:¬ ((1≤lim.length∧lim.length≤8)∧∀ k (h:k<lim.length),(0≤lim[k]∧lim[k]≤10000)∧(0<k→lim[k]≤lim.getD (k - 1) 0))→Value.bool false=.bool (limOk lim):=fun h=>by
  have:limOk lim=false:=by rw [←Bool.not_eq_true,limOk_iff];exact h
  rw [this]
 apply call260
 refine ⟨fun w=>(1≤lim.length∧lim.length≤8)∧Sat R Hs w,Br.d (fun h=>⟨no (fun h2=>by omega),hw⟩) (fun h1=>Br.d (fun h=>⟨no (fun h2=>by omega),hw⟩) (fun h2=>⟨⟨by omega,by omega⟩,hw⟩)),?_⟩
 clear hw
 rintro _ w ⟨h0,hw⟩
 refine ⟨fun i w=>∃ j:Nat,i=j∧j≤lim.length∧(∀ k (h:k<lim.length),k<j→(0≤lim[k]∧lim[k]≤10000)∧(0<k→lim[k]≤lim.getD (k - 1) 0))∧Sat R Hs w,fun i _=>lim.length - i.toNat,⟨0,rfl,by omega,fun k h h'=>by omega,hw⟩,?_⟩
 clear hw
 rintro _ _ w ⟨j,rfl,hj,hn,hw⟩
 refine Br.d (fun h=>?_) (fun h=>⟨by rw [limOk_iff.2 ⟨h0,fun k hk=>hn k hk (by omega)⟩],hw⟩)
 have hj2:j<lim.length:=by omega
 refine drw_rule hw fun w hw=>?_
 refine Ro.ix hl selfS j rfl hj2 ?_
 refine Br.d (fun h=>⟨no (fun h2=>by have:=(h2.2 j hj2).1;omega),hw⟩) (fun h1=>?_)
 refine Ro.ix hl selfS j rfl hj2 ?_
 refine Br.d (fun h=>⟨no (fun h2=>by have:=(h2.2 j hj2).1;omega),hw⟩) (fun h2=>?_)
 have next:(0<j→lim[j]≤lim.getD (j - 1) 0)→(∃ j':Nat,IntKind.i64.wrap ((j:Int) + 1)=j'∧j'≤lim.length∧(∀ k (h:k<lim.length),k<j'→(0≤lim[k]∧lim[k]≤10000)∧(0<k→lim[k]≤lim.getD (k - 1) 0))∧Sat R Hs w)∧lim.length - (IntKind.i64.wrap ((j:Int) + 1)).toNat<lim.length - (j:Int).toNat:=fun h3=>by
  rw [wrap64 (by omega) (by omega)]
  refine ⟨⟨j + 1,by omega,by omega,fun k hk hk2=>?_,hw⟩,by omega⟩
  by_cases hkj:k=j
  ·subst hkj;exact ⟨⟨by omega,by omega⟩,h3⟩
  ·exact hn k hk (by omega)
 refine Br.d (fun h3=>?_) (fun h3=>next fun h=>by omega)
 refine Ro.ix hl selfS j rfl hj2 ?_
 refine Ro.ix hl selfS (j - 1) (by rw [wrap64 (by omega) (by omega)];omega) (by omega) ?_
 refine Br.d (fun h4=>⟨no (fun h2=>?_),hw⟩) (fun h4=>next fun _=>by rw [getD_lt (by omega)];omega)
 have:=(h2.2 j hj2).2 (by omega)
 rw [getD_lt (by omega)] at this;omega
theorem rfrom_spec {ss:Sl} {sold:List Int} {k:Nat} (hs:RoI R ss sold) (hb:∀ x∈sold,0≤x∧x≤10000) (hlen:sold.length≤1000) (hk:k≤1000) (hw:Sat R Hs w):
  Gets Tryz.prog 204 #[.slice ss.a ss.len ss.cap,.int .i64 k] w fun v w'=>v=.int .i64 (fromN sold k)∧Sat R Hs w':=by
 have hsl:=hs.len
 have hfb:=fromN_bd hb
 apply call204
 refine ⟨fun n i w=>∃ j:Nat,i=j∧k≤j∧(j≤k∨j≤sold.length)∧n + fromN sold j=fromN sold k∧Sat R Hs w,fun _ i _=>sold.length - i.toNat,⟨k,rfl,by omega,.inl (by omega),by omega,hw⟩,?_⟩
 clear hw
 rintro n _ _ w ⟨j,rfl,hj,hj2,hn,hw⟩
 refine Br.d (fun h=>?_) (fun h=>?_)
 ·have hj3:j<sold.length:=by omega
  have hst:=fromN_step hj3
  have hx:=hb sold[j] (List.getElem_mem _)
  have h1:=hfb (j + 1)
  have h2:=hfb k
  have h3:=hfb j
  refine Ro.ix hs (eqS hw) j rfl hj3 ?_
  rw [wrap64 (x:=(j:Int) + 1) (by omega) (by omega),wrap64 (by omega) (by omega)]
  exact ⟨⟨j + 1,by omega,by omega,.inr (by omega),by omega,hw⟩,by dsimp only;omega⟩
 ·rw [fromN_end (show sold.length≤j by omega)] at hn
  exact ⟨by rw [←hn];congr 1;omega,hw⟩
theorem rnright_spec {sl ss:Sl} {lim sold:List Int} (hl:RoI R sl lim) (hs:RoI R ss sold) (hw:Sat R Hs w):
  Gets Tryz.prog 203 #[.slice sl.a sl.len sl.cap,.slice ss.a ss.len ss.cap] w fun v w'=>v=.bool (nestOk lim sold)∧Sat R Hs w':=by
 have hll:=hl.len
 have hsl:=hs.len
 have no:¬ (limOk lim=true∧sold.length=lim.length∧∀ k,k<lim.length→(0≤sold.getD k 0∧sold.getD k 0≤10000)∧fromN sold k≤lim.getD k 0)→Value.bool false=.bool (nestOk lim sold):=fun h=>by rw [nestOk_no h]
 apply call203
 refine (rlim_spec hl hw).use ?_
 rintro _ w ⟨rfl,hw⟩
 refine ⟨_,rfl,fun w=>(limOk lim=true∧sold.length=lim.length)∧Sat R Hs w,Br.nb (fun h=>⟨no (fun h2=>by rw [h] at h2;cases h2.1),hw⟩) (fun h1=>Br.ne (fun h=>⟨no (fun h2=>by omega),hw⟩) (fun h2=>⟨⟨h1,by omega⟩,hw⟩)),?_⟩
 clear hw
 rintro _ w ⟨⟨h1,h2⟩,hw⟩
 have h8:=(limOk_iff.1 h1).1.2
 refine ⟨fun i w=>∃ j:Nat,i=j∧j≤sold.length∧(∀ k,k<j→0≤sold.getD k 0∧sold.getD k 0≤10000)∧Sat R Hs w,fun i _=>sold.length - i.toNat,⟨0,rfl,by omega,fun k h=>by omega,hw⟩,?_⟩
 clear hw
 rintro _ _ w ⟨j,rfl,hj,hn,hw⟩
 refine Br.d (fun h=>?_) (fun h=>?_)
 ·have hj2:j<sold.length:=by omega
  have nn:¬ (0≤sold[j]∧sold[j]≤10000)→Value.bool false=.bool (nestOk lim sold):=fun h=>no fun h3=>h (by have:=(h3.2.2 j (by omega)).1;rw [getD_lt hj2] at this;exact this)
  refine Ro.ix hs (eqS hw) j rfl hj2 ?_
  refine Br.d (fun h=>⟨nn (by omega),hw⟩) (fun h3=>?_)
  refine Ro.ix hs (eqS hw) j rfl hj2 ?_
  refine Br.d (fun h=>⟨nn (by omega),hw⟩) (fun h4=>?_)
  rw [wrap64 (by omega) (by omega)]
  refine ⟨⟨j + 1,by omega,by omega,fun k hk=>?_,hw⟩,by dsimp only;omega⟩
  by_cases hkj:k=j
  ·subst hkj;rw [getD_lt hj2];omega
  ·exact hn k (by omega)
 have hjs:sold.length≤j:=by omega
 have hsb:∀ x∈sold,0≤x∧x≤10000:=fun x hx=>by
  obtain ⟨k,hk,rfl⟩:=List.getElem_of_mem hx
  have:=hn k (by omega)
  rw [getD_lt hk] at this;exact this
 refine ⟨fun i w=>∃ j:Nat,i=j∧j≤lim.length∧(∀ k,k<j→fromN sold k≤lim.getD k 0)∧Sat R Hs w,fun i _=>lim.length - i.toNat,⟨0,rfl,by omega,fun k h=>by omega,hw⟩,?_⟩
 clear hw h
 rintro _ _ w ⟨i,rfl,hi,hni,hw⟩
 refine Br.d (fun h=>?_) (fun h=>?_)
 ·have hi2:i<lim.length:=by omega
  refine drw_rule hw fun w hw=>?_
  refine Ro.ix hl selfS i rfl hi2 ?_
  refine (rfrom_spec hs hsb (by omega) (by omega) hw).use ?_
  rintro _ w ⟨rfl,hw⟩
  refine ⟨_,rfl,hw,Br.d (fun h=>⟨no (fun h3=>?_),hw⟩) (fun h3=>?_)⟩
  ·have:=(h3.2.2 i hi2).2
   rw [getD_lt hi2] at this;omega
  ·rw [wrap64 (by omega) (by omega)]
   refine ⟨⟨i + 1,by omega,by omega,fun k hk=>?_,hw⟩,by dsimp only;omega⟩
   by_cases hki:k=i
   ·subst hki;rw [getD_lt hi2];omega
   ·exact hni k (by omega)
 ·refine ⟨?_,hw⟩
  rw [nestOk_iff.2 ⟨h1,h2,fun k hk=>⟨hn k (by omega),hni k (by omega)⟩⟩]
end Go.Proofs.YtlplemdmegpoeaaGreatDoor

/- Floats, plain, part 2. No program. No condition. -/
namespace Go.VC
set_option linter.unusedVariables false
set_option linter.unusedSimpArgs false
open Ieee
theorem dbl_least:double.leastPlace=-1074:=by decide
theorem dbl_binade:double.binade=4503599627370496:=by decide
theorem dbl_inf:double.infRung=2047 * 4503599627370496:=by decide
theorem dbl_sign:double.signWeight=9223372036854775808:=by decide
end Go.VC

/- A part of some seats: package fare and reference 03. Condition: none. -/
namespace Go.Proofs.YtlplemdmegpoeaaGreatDoor
set_option linter.unusedVariables false
set_option linter.unusedSimpArgs false
open Go Go.VC Ieee
variable {R:Cx} {Hs Rest:List HP} {w:World}
theorem cmp_gt (t1 t2:Operand) (T:TypeId) (x y:Nat) (w:World):((do eqGuard BinOp.gtr T t1 t2 (.float .f64 x) (.float .f64 y);binOp BinOp.gtr T (.float .f64 x) (.float .f64 y):Sem Value)).run Tryz.prog w=.ok (.bool (double.order x y==some .gt)) w:=by
 simp [eqGuard,binOp,Op.floatCmp,FloatKind.format]
theorem cmp_ne (t1 t2:Operand) (T:TypeId) (x y:Nat) (w:World):((do eqGuard BinOp.neq T t1 t2 (.float .f64 x) (.float .f64 y);binOp BinOp.neq T (.float .f64 x) (.float .f64 y):Sem Value)).run Tryz.prog w=.ok (.bool (double.order x y !=some .eq)) w:=by
 simp [eqGuard,binOp,Op.floatCmp,FloatKind.format]
end Go.Proofs.YtlplemdmegpoeaaGreatDoor
/- The limits that parts give: package nest, reference 14. Condition: none. -/
namespace Go.Proofs.YtlplemdmegpoeaaGreatDoor
set_option linter.unusedVariables false
set_option linter.unusedSimpArgs false
open Go Go.VC
variable {R:Cx} {Hs Rest:List HP} {w:World}
abbrev intsI (l:List Int):List Value:=l.map (Value.int .i64)
end Go.Proofs.YtlplemdmegpoeaaGreatDoor
/- Sorted numbers: package slices. Condition: none. -/
namespace Go.Proofs.YtlplemdmegpoeaaGreatDoor
set_option linter.unusedVariables false
set_option linter.unusedSimpArgs false
open Go Go.VC
variable {R:Cx} {Hs Rest:List HP} {w:World}
def Rise (l:List Int):Prop:=∀ i j (hj:j<l.length),(hij:i<j)→l[i]<l[j]
def insS (n:Int):List Int→List Int
 |[]=>[n]
 |x::l=>if x<n then x::insS n l else n::x::l
theorem insS_at {n:Int}:∀ {l:List Int} {p:Nat},p≤l.length→(∀ k (h:k<l.length),k<p→l[k]<n)→(∀ k (h:k<l.length),p≤k→n≤l[k])→insS n l=l.take p++n::l.drop p
 |[],p,hp,_,_=>by
  obtain rfl:p=0:=by simpa using hp
  rfl
 |x::l,0,_,_,h2=>by
  have:=h2 0 (by simp) (by omega)
  simp only [List.getElem_cons_zero] at this
  unfold insS
  rw [if_neg (by omega)];rfl
 |x::l,p + 1,hp,h1,h2=>by
  have h0:=h1 0 (by simp) (by omega)
  simp only [List.getElem_cons_zero] at h0
  unfold insS
  rw [if_pos h0,insS_at (p:=p) (by simpa using hp) (fun k h hk=>by have:=h1 (k + 1) (by simpa using h) (by omega);simpa using this) (fun k h hk=>by have:=h2 (k + 1) (by simpa using h) (by omega);simpa using this)]
  rfl
theorem half_eq {a b:Nat} (h:a + b≤1000000000000000000):IntKind.i64.wrap (shrI .u64 (IntKind.u64.wrap (IntKind.i64.wrap ((a:Int) + b))) 1)=((a + b) / 2:Nat):=by
 rw [wrap64 (x:=(a:Int) + b) (by omega) (by omega),IntKind.wrap_u64]
 have e:shrI .u64 (((a:Int) + b) % 18446744073709551616) 1=(((a + b) / 2:Nat):Int):=by
  unfold shrI
  show Int.fdiv _ 2=_
  rw [Int.fdiv_eq_ediv_of_nonneg _ (by omega)]
  omega
 rw [e,wrap64 (by omega) (by omega)]
theorem isNaN_spec {x:Int} (hw:Sat R Hs w):Gets Tryz.prog 281 #[.int .i64 x] w fun v w'=>v=.bool false∧Sat R Hs w':=by
 apply call281
 exact ⟨by simp,hw⟩
theorem cNaN_spec {x:Int} (hw:Sat R Hs w):Gets Tryz.prog 278 #[.int .i64 x] w fun v w'=>v=.bool false∧Sat R Hs w':=by
 apply call278
 exact ⟨by simp,hw⟩
theorem less_spec {x y:Int} (hw:Sat R Hs w):Gets Tryz.prog 267 #[.int .i64 x,.int .i64 y] w fun v w'=>v=.bool (decide (x<y))∧Sat R Hs w':=by
 apply call267
 refine (cNaN_spec hw).use ?_
 rintro _ w ⟨rfl,hw⟩
 exact ⟨_,rfl,Br.f rfl ⟨rfl,hw⟩⟩
theorem bsearch_spec {s:Sl} {l:List Int} {n:Int} (hs:RoI R s l) (hr:Rise l) (hl:l.length≤1000000000) (hw:Sat R Hs w):
  Gets Tryz.prog 248 #[.slice s.a s.len s.cap,.int .i64 n] w fun v w'=>∃ (p:Nat) (b:Bool),v=.tuple #[.int .i64 p,.bool b]∧p≤l.length∧(∀ k (h:k<l.length),k<p→l[k]<n)∧(∀ k (h:k<l.length),p≤k→n≤l[k])∧Sat R Hs w':=by
 have hlen:=hs.len
 apply call248
 refine ⟨fun i j w=>∃ a b:Nat,i=a∧j=b∧a≤b∧b≤l.length∧(∀ k (h:k<l.length),k<a→l[k]<n)∧(∀ k (h:k<l.length),b≤k→n≤l[k])∧Sat R Hs w,fun i j _=>j.toNat - i.toNat,⟨0,l.length,rfl,by rw [hlen],by omega,by omega,fun k _ h=>by omega,fun k h h'=>by omega,hw⟩,?_⟩
 clear hw
 rintro _ _ _ w ⟨a,b,rfl,rfl,hab,hb,h1,h2,hw⟩
 rw [half_eq (by omega)]
 refine Br.d (fun h=>?_) (fun h=>?_)
 ·have hm:(a + b) / 2<l.length:=by omega
  refine Ro.ix hs (eqS hw) ((a + b) / 2) rfl hm ?_
  refine (less_spec hw).use ?_
  rintro _ w ⟨rfl,hw⟩
  refine ⟨_,rfl,Br.d (fun h3=>?_) (fun h3=>?_)⟩
  ·rw [show IntKind.i64.wrap ((((a + b) / 2:Nat):Int) + 1)=(((a + b) / 2 + 1:Nat):Int) from wrap64 (by omega) (by omega)]
   refine ⟨⟨(a + b) / 2 + 1,b,rfl,rfl,by omega,hb,fun k hk hk2=>?_,h2,hw⟩,by dsimp only;omega⟩
   by_cases hkm:k=(a + b) / 2
   ·subst hkm;exact h3
   ·have:=hr k ((a + b) / 2) hm (by omega);omega
  ·refine ⟨⟨a,(a + b) / 2,rfl,rfl,by omega,by omega,h1,fun k hk hk2=>?_,hw⟩,by dsimp only;omega⟩
   by_cases hkm:k=(a + b) / 2
   ·subst hkm;omega
   ·have:=hr ((a + b) / 2) k hk (by omega);omega
 ·obtain rfl:a=b:=by omega
  have fin:∀ (t:Bool) w,Sat R Hs w→∃ (p:Nat) (b:Bool),Value.tuple #[.int .i64 a,.bool t]=.tuple #[.int .i64 p,.bool b]∧p≤l.length∧(∀ k (h:k<l.length),k<p→l[k]<n)∧(∀ k (h:k<l.length),p≤k→n≤l[k])∧Sat R Hs w:=fun t w hw=>⟨a,t,rfl,hb,h1,h2,hw⟩
  refine Br.d (fun h3=>?_) (fun h3=>fin _ _ hw)
  have ha:a<l.length:=by omega
  refine Ro.ix hs (eqS hw) a rfl ha ?_
  refine Br.e (fun h4=>fin _ _ hw) (fun h4=>?_)
  refine Ro.ix hs (eqS hw) a rfl ha ?_
  refine (isNaN_spec hw).use ?_
  rintro _ w ⟨rfl,hw⟩
  exact ⟨_,rfl,Br.f rfl (fin _ _ hw)⟩
end Go.Proofs.YtlplemdmegpoeaaGreatDoor
/- SL, part 16: copy; append of zeros to the head of a slice of one's own, where there is no room. Condition: bounds on lengths. -/
namespace Go.VC
set_option linter.unusedVariables false
set_option linter.unusedSimpArgs false
variable {P:Program} {R:Cx} {Hs Rest:List HP} {w:World} {s:Sl} {T:TypeId}
theorem copy_rule {dT sT ty elem:TypeId} {b o dLen dCap sLen sCap:Nat} {a:Addr} {cs l:List Value} {fr:Nat × Nat} {K:Int→World→Prop} (hu:P.underlying dT=some (.slice elem)) (hs:(P.info? elem).map (·.size)=some 1)
  (hw:Sat R (pts b (.cells l.toArray T fr)::Hs) w) (hfr:okFr l.length fr) (hn:cs.length=Nat.min sLen dLen) (hfit:o + cs.length≤l.length) (hsrc:∀ j v,cs[j]? =some v→w.cell? (a.add j)=some v) (h1:oneAll cs=true)
  (k:∀ t w',Sat R (pts b (.cells (putL l o cs).toArray T fr)::Hs) w'→K t w'):
  ∃ w',∃ t:Int,(Builtin.copy_ #[dT,sT] ty #[.slice (some ⟨b,o,none⟩) dLen dCap,.slice (some a) sLen sCap]).run P w=.ok (.int .i64 t) w'∧K t w':=by
 have hat:=hw.at
 have hr:=run_copy_cells (P:=P) w dT sT ty elem b o dLen dCap a sLen sCap cs hu hs hn hsrc (fun j hj=>by rw [cell_of hat];simp;omega) (fun j hj=>frozen_no hat hfr (by omega)) (fun v hv=>List.all_eq_true.1 h1 v hv)
 exact ⟨_,_,hr,k _ _ (setCells_sat cs l o w hw)⟩
theorem zerosGrow_rule {t1 t2 ty:TypeId} {bytes k n:Nat} {kd kn:IntKind} {z:Value} {xs:List Value} {K:Sl→World→Prop} (ht:P.underlying t1=some (.slice T)) (htn:P.underlying t2=some (.int kn)) (hi:elB P T bytes=true)
  (h0:0<n) (hk:k<xs.length) (hc:s.cap<k + n) (hb:2 * (k + n) * bytes≤281474976710656) (hb':k + n≤9223372036854775807) (hw:Sat R (Own s T xs::Hs) w)
  (h:∀ t w' ys,ys.length=n→Sat R (Own t T (xs.take k++ys)::Own s T xs::Hs) w'→K t w'):
  ∃ w',∃ t:Sl,(Builtin.append_ #[t1,t2] ty #[.slice s.a k s.cap,.int kd n]).run P w=.ok (.slice t.a t.len t.cap) w'∧K t w':=by
 obtain ⟨i,z,hi,hz,hsize,hbytes,hzc⟩:=elB_out hi
 rcases Own.cases hw with ⟨_,rfl,_⟩|⟨b,rest,fr,rfl,hfr,hp⟩
 ·simp at hk
 have hat:=hp.at
 dsimp only at hc ⊢
 have hcap:Builtin.nextslicecap (k + n) (xs++rest).length * i.bytes≤281474976710656:=by
  have h2:Builtin.nextslicecap (k + n) (xs++rest).length≤2 * (k + n):=by
   unfold Builtin.nextslicecap
   split
   ·omega
   ·split
    ·omega
    ·have:=nextslicecap_le_wide hc
     unfold Builtin.nextslicecap at this
     rw [if_neg (by assumption),if_neg (by assumption)] at this
     omega
  rw [hbytes]
  exact Nat.le_trans (Nat.mul_le_mul_right _ h2) hb
 have hold:(Builtin.firstCells i.size k (.slice (some ⟨b,0,none⟩) k (xs++rest).length)).run P w.drew=.ok (xs.take k).toArray w.drew:=by
  refine run_firstCells_some w.drew i.size k ⟨b,0,none⟩ k _ (xs.take k) (by rw [hsize,List.length_take];omega) ?_
  intro j u hj
  rw [World.cell?_drew,add_off,cell_of hat,Nat.zero_add]
  obtain ⟨hlt,rfl⟩:=List.getElem?_eq_some_iff.1 hj
  rw [List.length_take] at hlt
  rw [List.getElem?_append_left (by omega),List.getElem?_eq_getElem (by omega),List.getElem_take]
 have hwr:IntKind.i64.wrap (n:Int)=n:=by rw [IntKind.wrap_i64];omega
 have hn:¬ (k + n≤(xs++rest).length):=by omega
 have h63':¬ (9223372036854775807<((k:Int) + (n:Int))):=by omega
 have h48':¬ (281474976710656<Builtin.nextslicecap (k + n) (xs++rest).length * i.bytes):=by omega
 have h48i:¬ (281474976710656<(n:Int) * (i.bytes:Int)):=by
  rw [←Int.natCast_mul,hbytes]
  have:n * bytes≤2 * (k + n) * bytes:=Nat.mul_le_mul_right _ (by omega)
  omega
 have hneg:¬ ((n:Int)<0):=by omega
 have hn0:n≠0:=by omega
 have hns:¬ (n * i.size=0):=by rw [hsize];omega
 have hg:=grownCap_ge w (k + n) (xs++rest).length T
 have hr:(Builtin.append_ #[t1,t2] ty #[.slice (some ⟨b,0,none⟩) k (xs++rest).length,.int kd n]).run P w=
   .ok (.slice (some ⟨w.heap.size,0,none⟩) (k + n) (grownCap w (k + n) (xs++rest).length T)) (w.drew.alloc (.cells ((xs.take k).toArray++Builtin.zeroCells z.cells n++Builtin.zeroCells z.cells (grownCap w (k + n) (xs++rest).length T - (k + n))) T)):=by
  simp only [List.length_append] at hn h48' hold ⊢
  simp [Builtin.append_,run_underlying ht,run_underlying htn,sizeOf,typeInfo,zeroValue,hi,hz,asInt,asIntOf,hwr,hn,hneg,hns,h63',h48',h48i,Question.forced,hold,newRow,grownCap]
 have hzs:∀ m,(Builtin.zeroCells z.cells m).size=m:=fun m=>by simp [Builtin.zeroCells,hzc]
 refine ⟨_,⟨some ⟨w.heap.size,0,none⟩,k + n,grownCap w (k + n) (xs++rest).length T⟩,hr,h _ _ (Builtin.zeroCells z.cells n).toList (by rw [Array.length_toList,hzs]) ?_⟩
 have h3:=Sat.alloc (Obj.cells ((xs.take k).toArray++Builtin.zeroCells z.cells n++Builtin.zeroCells z.cells (grownCap w (k + n) (xs++rest).length T - (k + n))) T) (Sat.drew hp)
 have e:Obj.cells ((xs.take k).toArray++Builtin.zeroCells z.cells n++Builtin.zeroCells z.cells (grownCap w (k + n) (xs++rest).length T - (k + n))) T=.cells ((xs.take k++(Builtin.zeroCells z.cells n).toList)++(Builtin.zeroCells z.cells (grownCap w (k + n) (xs++rest).length T - (k + n))).toList).toArray T (0,0):=by
  congr 1
  apply Array.ext';simp
 rw [e] at h3 ⊢
 have h4:=Own.of_pts (Sat.swap h3) hfr
 have h5:=Own.of_pts (Sat.swap h4)
 have e2:(⟨some ⟨w.drew.heap.size,0,none⟩,(xs.take k++(Builtin.zeroCells z.cells n).toList).length,((xs.take k++(Builtin.zeroCells z.cells n).toList)++(Builtin.zeroCells z.cells (grownCap w (k + n) (xs++rest).length T - (k + n))).toList).length⟩:Sl)=⟨some ⟨w.heap.size,0,none⟩,k + n,grownCap w (k + n) (xs++rest).length T⟩:=by
  have:(xs.take k).length=k:=by rw [List.length_take];omega
  simp only [List.length_append,Array.length_toList,hzs,World.size_drew,this] at hg ⊢
  congr 1
  omega
 rw [e2] at h5
 exact h5
end Go.VC
