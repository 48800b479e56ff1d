/- SL, part 6: maps with keys that are strings or integers: lookup, update, delete. No condition. -/
import Derived.Test.YtflgboncpbmikaaGreatDoorB1
import GoSem.Instr.MapUpdate
import GoSem.Builtin.Delete
import Derived.MapKept
import Derived.Lib.ConvBytes
import Derived.Laws.BytesArg
import Derived.Laws.Strings
import Derived.Below
import Derived.Sort.KeysCollected
import Derived.Maps.Own
import Derived.Laws.BitsAllLaws
import Derived.Lib.BitFns
import Derived.KernelRfl
import Derived.Lib.AppendZeros
import Derived.Laws.RangeAny
import Derived.Laws.MakeOwn
namespace Go.VC
set_option linter.unusedVariables false
set_option linter.unusedSimpArgs false
class KeyK (α:Type) [BEq α] where
 enc:α→Value
 desc:TypeDesc
 same:∀ a b,Instr.sameNow desc (enc a) (enc b)=some (a==b)
 bits:∀ a,Instr.sameBits 10000 (enc a) (enc a)=true
 eq:∀ a b:α,(a==b)=true→a=b
 check:∀ (P:Program) (em:Bool) (K:TypeId) (a:α) (w:World),P.underlying K=some desc→(Instr.checkKey em 10000 K (enc a)).run P w=.ok () w
instance:KeyK ByteArray where
 enc:=Value.string
 desc:=.string
 same a b:=rfl
 bits a:=by
  have:∀ n,Instr.sameBits n (.string a) (.string a)=(a==a):=fun n=>by cases n<;>rfl
  rw [this];exact (MapKept.bytes_beq a a).2 rfl
 eq a b h:=(MapKept.bytes_beq a b).1 h
 check P em K a w h:=by
  show (Instr.checkKey em (9999 + 1) K (.string a)).run P w=_
  unfold Instr.checkKey
  simp [run_underlying h]
variable {α:Type} [BEq α] [KeyK α]
abbrev En (α:Type):=α × Value × Nat
def mkE (e:En α):MapEntry:={ key:=KeyK.enc e.1,val:=e.2.1,born:=e.2.2 }
def getE (k:α):List (En α)→Option Value
 |[]=>none
 |e::es=>if k==e.1 then some e.2.1 else getE k es
def setE (k:α) (v:Value):List (En α)→List (En α)
 |[]=>[]
 |e::es=>if k==e.1 then (e.1,v,e.2.2)::es else e::setE k v es
def delE (k:α):List (En α)→List (En α)
 |[]=>[]
 |e::es=>if k==e.1 then es else e::delE k es
def hasE (k:α) (es:List (En α)):Bool:=(getE k es).isSome
def putE (k:α) (v:Value) (es:List (En α)) (clock:Nat):List (En α):=if hasE k es then setE k v es else es++[(k,v,clock)]
def idxE (k:α):List (En α)→Nat→Option (Nat × Value)
 |[],_=>none
 |e::es,i=>if k==e.1 then some (i,e.2.1) else idxE k es (i + 1)
theorem findNow_eq (k:α):∀ (es:List (En α)) (i:Nat),Instr.findNow (KeyK.desc α) (KeyK.enc k) (es.map mkE) i=some (idxE k es i)
 |[],_=>rfl
 |e::es,i=>by
  rw [List.map_cons,Instr.findNow,mkE,KeyK.same,idxE]
  cases h:(k==e.1)
  ·simpa using findNow_eq k es (i + 1)
  ·rfl
omit [KeyK α] in
theorem idxE_val (k:α):∀ (es:List (En α)) (i:Nat),(idxE k es i).map (·.2)=getE k es
 |[],_=>rfl
 |e::es,i=>by
  rw [idxE,getE]
  cases h:(k==e.1)
  ·exact idxE_val k es (i + 1)
  ·rfl
theorem run_findKey {P:Program} {K:TypeId} (hK:P.underlying K=some (KeyK.desc α)) (k:α) (es:List (En α)) (w:World):
  (Instr.findKey K (KeyK.enc k) (es.map mkE)).run P w=.ok (idxE k es 0) w:=by
 unfold Instr.findKey
 simp [run_underlying hK,findNow_eq]
theorem run_keyThatStays {P:Program} (k:α) (w:World):(Instr.keyThatStays (KeyK.enc k) (KeyK.enc k)).run P w=.ok (KeyK.enc k) w:=by
 unfold Instr.keyThatStays
 rw [if_pos (KeyK.bits k)];rfl
theorem lookup_run {P:Program} {T K E:TypeId} (hT:P.underlying T=some (.map K E)) (hK:P.underlying K=some (KeyK.desc α)) {z:Value} (hz:∀ w,(zeroValue E).run P w=.ok z w)
  {w:World} {m clock:Nat} {es:List (En α)} (hm:w.heap[m]? =some (.map (es.map mkE).toArray clock)) (k:α) (c:Bool):
  (Instr.lookup T (.map (some m)) (KeyK.enc k) c).run P w=.ok (if c then .tuple #[(getE k es).getD z,.bool (hasE k es)] else (getE k es).getD z) w:=by
 have hv:=idxE_val k es 0
 have hck:=KeyK.check P (es.map mkE).toArray.isEmpty K k w hK
 have hfk:=run_findKey hK k es w
 unfold Instr.lookup
 cases hi:idxE k es 0 with
 |none=>
  rw [hi] at hv hfk
  simp only [Option.map_none] at hv
  simp only [Sem.run_bind,run_underlying hT,Result.andThen,MapKept.run_getObj_map hm,Sem.run_pure,hck,hfk,hz,hasE,←hv]
  rfl
 |some p=>
  rw [hi] at hv hfk
  simp only [Option.map_some] at hv
  simp only [Sem.run_bind,run_underlying hT,Result.andThen,MapKept.run_getObj_map hm,Sem.run_pure,hck,hfk,hasE,←hv]
  rfl
omit [KeyK α] in
theorem idxE_set (k:α):∀ (es:List (En α)) (i:Nat),(∀ p,idxE k es i=some p→i≤p.1)
 |[],i,p,h=>by cases h
 |e::es,i,p,h=>by
  rw [idxE] at h
  cases hk:(k==e.1)
  ·rw [hk] at h;have:=idxE_set k es (i + 1) p (by simpa using h);omega
  ·rw [hk] at h;simp at h;subst h;exact Nat.le_refl _
theorem modify_eq (k:α) (v:Value):∀ (es:List (En α)) (i:Nat) (p:Nat × Value),idxE k es i=some p→
  (es.map mkE).modify (p.1 - i) (fun e=>{ e with key:=KeyK.enc k,val:=v })=(setE k v es).map mkE
 |[],_,_,h=>by cases h
 |e::es,i,p,h=>by
  have hle:=idxE_set k (e::es) i p h
  rw [idxE] at h
  cases hk:(k==e.1)
  ·rw [hk] at h
   have h':idxE k es (i + 1)=some p:=by simpa using h
   have hle2:=idxE_set k es (i + 1) p h'
   obtain ⟨j,hj⟩:∃ j,p.1 - i=j + 1:=⟨p.1 - (i + 1),by omega⟩
   have ih:=modify_eq k v es (i + 1) p h'
   rw [show p.1 - (i + 1)=j by omega] at ih
   rw [hj,setE,hk]
   simp only [List.map_cons,List.modify_succ_cons,Bool.false_eq_true,if_false,List.cons.injEq,true_and]
   exact ih
  ·rw [hk] at h
   simp at h;subst h
   have:=KeyK.eq _ _ hk
   subst this
   rw [setE,hk]
   simp [mkE]
theorem erase_eq (k:α):∀ (es:List (En α)) (i:Nat) (p:Nat × Value),idxE k es i=some p→(es.map mkE).eraseIdx (p.1 - i)=(delE k es).map mkE
 |[],_,_,h=>by cases h
 |e::es,i,p,h=>by
  rw [idxE] at h
  cases hk:(k==e.1)
  ·rw [hk] at h
   have h':idxE k es (i + 1)=some p:=by simpa using h
   have hle2:=idxE_set k es (i + 1) p h'
   obtain ⟨j,hj⟩:∃ j,p.1 - i=j + 1:=⟨p.1 - (i + 1),by omega⟩
   have ih:=erase_eq k es (i + 1) p h'
   rw [show p.1 - (i + 1)=j by omega] at ih
   rw [hj,delE,hk]
   simp only [List.map_cons,List.eraseIdx_cons_succ,Bool.false_eq_true,if_false,List.cons.injEq,true_and]
   exact ih
  ·rw [hk] at h
   simp at h;subst h
   rw [delE,hk];simp
omit [KeyK α] in
theorem idxE_none (k:α) (es:List (En α)) (i:Nat):idxE k es i=none↔hasE k es=false:=by
 unfold hasE;rw [←idxE_val k es i];cases idxE k es i<;>simp
omit [KeyK α] in
theorem delE_none (k:α):∀ (es:List (En α)),hasE k es=false→delE k es=es
 |[],_=>rfl
 |e::es,h=>by
  unfold hasE getE at h
  cases hk:(k==e.1)
  ·rw [hk] at h
   rw [delE,hk]
   simp only [Bool.false_eq_true,if_false,List.cons.injEq,true_and]
   exact delE_none k es (by unfold hasE;simpa using h)
  ·rw [hk] at h;simp at h
theorem idxE_lt (k:α):∀ (es:List (En α)) (i:Nat) (p:Nat × Value),idxE k es i=some p→p.1<i + es.length∧∃ e,(es.map mkE)[p.1 - i]? =some e∧e.key=KeyK.enc k
 |[],_,_,h=>by cases h
 |e::es,i,p,h=>by
  rw [idxE] at h
  cases hk:(k==e.1)
  ·rw [hk] at h
   have h':idxE k es (i + 1)=some p:=by simpa using h
   have hle2:=idxE_set k es (i + 1) p h'
   obtain ⟨h1,e',h2,h3⟩:=idxE_lt k es (i + 1) p h'
   refine ⟨by simp only [List.length_cons];omega,e',?_,h3⟩
   obtain ⟨j,hj⟩:∃ j,p.1 - i=j + 1:=⟨p.1 - (i + 1),by omega⟩
   rw [hj,List.map_cons,List.getElem?_cons_succ,show j=p.1 - (i + 1) by omega]
   exact h2
  ·rw [hk] at h
   simp at h;subst h
   refine ⟨by simp,mkE e,by simp,?_⟩
   rw [KeyK.eq _ _ hk];rfl
theorem update_run {P:Program} {T K E:TypeId} (hT:P.underlying T=some (.map K E)) (hK:P.underlying K=some (KeyK.desc α))
  {w:World} {m clock:Nat} {es:List (En α)} (hm:w.heap[m]? =some (.map (es.map mkE).toArray clock)) (k:α) (v:Value):
  (Instr.mapUpdate T (.map (some m)) (KeyK.enc k) v).run P w=.ok () (w.setBlock m (.map ((putE k v es clock).map mkE).toArray (if hasE k es then clock else clock + 1))):=by
 have hck:=KeyK.check P false K k w hK
 have hfk:=run_findKey hK k es w
 unfold Instr.mapUpdate
 cases hi:idxE k es 0 with
 |none=>
  have hn:=(idxE_none k es 0).1 hi
  rw [hi] at hfk
  simp only [Sem.run_bind,run_underlying hT,Result.andThen,MapKept.run_getObj_map hm,hck,hfk,MapKept.run_setObj_map _ hm,putE,hn,World.setBlock,Bool.false_eq_true,if_false]
  simp [mkE]
 |some p=>
  have hh:hasE k es=true:=by
   cases h:hasE k es
   ·rw [(idxE_none k es 0).2 h] at hi;cases hi
   ·rfl
  obtain ⟨_,e,he,hek⟩:=idxE_lt k es 0 p hi
  have hmod:=modify_eq k v es 0 p hi
  rw [Nat.sub_zero] at he hmod
  rw [hi] at hfk
  have hkey:(((es.map mkE).toArray[p.1]?).map (·.key)).getD (KeyK.enc k)=KeyK.enc k:=by
   have:(es.map mkE).toArray[p.1]? =some e:=by simpa using he
   rw [this];exact hek
  simp only [Sem.run_bind,run_underlying hT,Result.andThen,MapKept.run_getObj_map hm,hck,hfk,hkey,run_keyThatStays,MapKept.run_setObj_map _ hm,putE,hh,World.setBlock,if_true]
  congr 4
  apply Array.ext'
  rw [←hmod]
  simp
theorem delete_run {P:Program} {T K E ty t2:TypeId} (hT:P.underlying T=some (.map K E)) (hK:P.underlying K=some (KeyK.desc α))
  {w:World} {m clock:Nat} {es:List (En α)} (hm:w.heap[m]? =some (.map (es.map mkE).toArray clock)) (k:α):
  (Builtin.delete_ #[T,t2] ty #[.map (some m),KeyK.enc k]).run P w=.ok (.tuple #[]) (w.setBlock m (.map ((delE k es).map mkE).toArray clock)):=by
 have hck:=KeyK.check P (es.map mkE).toArray.isEmpty K k w hK
 have hfk:=run_findKey hK k es w
 have h0:(#[T,t2]:Array TypeId)[0]? =some T:=rfl
 have h1:(#[Value.map (some m),KeyK.enc k]:Array Value)[0]? =some (.map (some m)):=rfl
 have h2:(#[Value.map (some m),KeyK.enc k]:Array Value)[1]? =some (KeyK.enc k):=rfl
 unfold Builtin.delete_
 rw [h0,h1,h2]
 cases hi:idxE k es 0 with
 |none=>
  have hn:=(idxE_none k es 0).1 hi
  rw [hi] at hfk
  simp only [Sem.run_bind,run_underlying hT,Result.andThen,MapKept.run_getObj_map hm,hck,hfk,MapKept.run_setObj_map _ hm,World.setBlock,delE_none k es hn,Sem.run_pure]
 |some p=>
  have her:=erase_eq k es 0 p hi
  obtain ⟨hlt,_⟩:=idxE_lt k es 0 p hi
  rw [Nat.sub_zero] at her
  rw [hi] at hfk
  have e:(es.map mkE).toArray.eraseIdxIfInBounds p.1=((delE k es).map mkE).toArray:=by
   apply Array.ext'
   rw [←her]
   simp [Array.eraseIdxIfInBounds,show p.1<es.length by omega]
  simp only [Sem.run_bind,run_underlying hT,Result.andThen,MapKept.run_getObj_map hm,hck,hfk,MapKept.run_setObj_map _ hm,World.setBlock,e,Sem.run_pure]
end Go.VC
/- SL, part 7: a map of one's own, by its keys and values; opening of what holds for some x. No condition. -/
namespace Go.VC
set_option linter.unusedVariables false
set_option linter.unusedSimpArgs false
variable {α:Type} [BEq α] [KeyK α]
def getM {β:Type} (k:α):List (α × β)→Option β
 |[]=>none
 |e::es=>if k==e.1 then some e.2 else getM k es
def setM {β:Type} (k:α) (v:β):List (α × β)→List (α × β)
 |[]=>[]
 |e::es=>if k==e.1 then (e.1,v)::es else e::setM k v es
def delM {β:Type} (k:α):List (α × β)→List (α × β)
 |[]=>[]
 |e::es=>if k==e.1 then es else e::delM k es
def putM {β:Type} (k:α) (v:β) (es:List (α × β)):List (α × β):=if (getM k es).isSome then setM k v es else es++[(k,v)]
abbrev strip (es:List (En α)):List (α × Value):=es.map fun e=>(e.1,e.2.1)
omit [KeyK α] in
theorem getE_strip (k:α):∀ es:List (En α),getE k es=getM k (strip es)
 |[]=>rfl
 |e::es=>by rw [getE,strip,List.map_cons,getM,getE_strip k es]
omit [KeyK α] in
theorem hasE_strip (k:α) (es:List (En α)):hasE k es=(getM k (strip es)).isSome:=by unfold hasE;rw [getE_strip]
omit [KeyK α] in
theorem setE_strip (k:α) (v:Value):∀ es:List (En α),strip (setE k v es)=setM k v (strip es)
 |[]=>rfl
 |e::es=>by
  have ih:=setE_strip k v es
  unfold strip at *
  rw [List.map_cons,setE,setM]
  split
  ·simp
  ·simp [ih]
omit [KeyK α] in
theorem delE_strip (k:α):∀ es:List (En α),strip (delE k es)=delM k (strip es)
 |[]=>rfl
 |e::es=>by
  have ih:=delE_strip k es
  unfold strip at *
  rw [List.map_cons,delE,delM]
  split
  ·rfl
  ·simp [ih]
omit [KeyK α] in
theorem putE_strip (k:α) (v:Value) (es:List (En α)) (c:Nat):strip (putE k v es c)=putM k v (strip es):=by
 unfold putE putM
 rw [hasE_strip]
 split
 ·exact setE_strip k v es
 ·simp [strip]
def StampsOk (l:List (En α)) (c:Nat):Prop:=(∀ e∈l,e.2.2<c)∧(l.map (·.2.2)).Nodup
omit [KeyK α] in
theorem setE_stamps (k:α) (v:Value):∀ l:List (En α),(setE k v l).map (·.2.2)=l.map (·.2.2)
 |[]=>rfl
 |e::es=>by
  rw [setE]
  split
  ·rfl
  ·rw [List.map_cons,List.map_cons,setE_stamps k v es]
omit [KeyK α] in
theorem delE_sub (k:α):∀ l:List (En α),(delE k l).Sublist l
 |[]=>List.Sublist.refl _
 |e::es=>by
  rw [delE]
  split
  ·exact List.sublist_cons_self _ _
  ·exact (delE_sub k es).cons_cons _
omit [KeyK α] in
theorem stamps_put {l:List (En α)} {c:Nat} (h:StampsOk l c) (k:α) (v:Value):StampsOk (putE k v l c) (if hasE k l then c else c + 1):=by
 unfold putE
 split
 ·refine ⟨fun e he=>?_,by rw [setE_stamps];exact h.2⟩
  have:e.2.2∈(setE k v l).map (·.2.2):=List.mem_map_of_mem he
  rw [setE_stamps] at this
  obtain ⟨x,hx,hxe⟩:=List.mem_map.1 this
  rw [←hxe];exact h.1 x hx
 ·refine ⟨fun e he=>?_,?_⟩
  ·rcases List.mem_append.1 he with he|he
   ·have:=h.1 e he;omega
   ·simp at he;subst he;simp
  ·rw [List.map_append,List.nodup_append]
   refine ⟨h.2,by simp,fun x hx y hy=>?_⟩
   simp at hy
   obtain ⟨e,he,rfl⟩:=List.mem_map.1 hx
   have:=h.1 e he
   omega
omit [KeyK α] in
theorem stamps_del {l:List (En α)} {c:Nat} (h:StampsOk l c) (k:α):StampsOk (delE k l) c:=
 ⟨fun e he=>h.1 e ((delE_sub k l).subset he),((delE_sub k l).map _).nodup h.2⟩
def MapAt (m:Nat) (es:List (α × Value)):HP:=fun h=>∃ (l:List (En α)) (c:Nat),strip l=es∧StampsOk l c∧h=Heap.one m (.map (l.map mkE).toArray c)
theorem MapAt.iff {R:Cx} {Hs:List HP} {w:World} {m:Nat} {es:List (α × Value)}:Sat R (MapAt m es::Hs) w↔∃ l c,strip l=es∧StampsOk l c∧Sat R (pts m (.map (l.map (mkE (α:=α))).toArray c)::Hs) w:=by
 constructor
 ·rintro ⟨a,⟨l,c,h1,h3,h2⟩,hd,hs⟩;exact ⟨l,c,h1,h3,a,h2,hd,hs⟩
 ·rintro ⟨l,c,h1,h3,a,h2,hd,hs⟩;exact ⟨a,⟨l,c,h1,h3,h2⟩,hd,hs⟩
structure MapT (P:Program) (T:TypeId) (α:Type) [BEq α] [KeyK α] (K E:TypeId) (z:Value):Prop where
 hT:P.underlying T=some (.map K E)
 hK:P.underlying K=some (KeyK.desc α)
 hz:∀ w,(zeroValue E).run P w=.ok z w
variable {P:Program} {R:Cx} {Hs:List HP} {w:World} {m:Nat} {es:List (α × Value)} {T K E:TypeId} {z:Value}
theorem MapAt.look (M:MapT P T α K E z) (hw:Sat R (MapAt m es::Hs) w) (k:α) (c:Bool):
  (Instr.lookup T (.map (some m)) (KeyK.enc k) c).run P w=.ok (if c then .tuple #[(getM k es).getD z,.bool (getM k es).isSome] else (getM k es).getD z) w:=by
 obtain ⟨l,clk,rfl,_,hp⟩:=MapAt.iff.1 hw
 rw [lookup_run M.hT M.hK M.hz hp.at k c,getE_strip,hasE_strip]
theorem MapAt.put (M:MapT P T α K E z) (hw:Sat R (MapAt m es::Hs) w) (k:α) (v:Value) {Q:World→Prop} (h:∀ w',Sat R (MapAt m (putM k v es)::Hs) w'→Q w'):
  ∃ w',(Instr.mapUpdate T (.map (some m)) (KeyK.enc k) v).run P w=.ok () w'∧Q w':=by
 obtain ⟨l,clk,rfl,hst,hp⟩:=MapAt.iff.1 hw
 refine ⟨_,update_run M.hT M.hK hp.at k v,h _ (MapAt.iff.2 ⟨putE k v l clk,_,putE_strip k v l clk,stamps_put hst k v,hp.setPts _⟩)⟩
theorem MapAt.del {t2 ty:TypeId} (M:MapT P T α K E z) (hw:Sat R (MapAt m es::Hs) w) (k:α) {Q:World→Prop} (h:∀ w',Sat R (MapAt m (delM k es)::Hs) w'→Q w'):
  ∃ w',(Builtin.delete_ #[T,t2] ty #[.map (some m),KeyK.enc k]).run P w=.ok (.tuple #[]) w'∧Q w':=by
 obtain ⟨l,clk,rfl,hst,hp⟩:=MapAt.iff.1 hw
 exact ⟨_,delete_run M.hT M.hK hp.at k,h _ (MapAt.iff.2 ⟨delE k l,_,delE_strip k l,stamps_del hst k,hp.setPts _⟩)⟩
theorem MapAt.new {o:Obj} (ho:o=.map #[] 0) (hw:Sat R (pts m o::Hs) w):Sat R (MapAt (α:=α) m []::Hs) w:=by
 subst ho
 exact MapAt.iff.2 ⟨[],0,rfl,⟨fun _ h=>(by cases h),List.nodup_nil⟩,hw⟩
section
variable {β:Type}
omit [KeyK α] in
theorem getM_app {k:α} {v:β}:∀ {a b:List (α × β)},getM k a=none→(k==k)=true→getM k (a++(k,v)::b)=some v
 |[],b,_,hk=>by simp [getM,hk]
 |e::a,b,h,hk=>by
  rw [getM] at h
  split at h
  ·cases h
  ·rename_i hne
   rw [List.cons_append,getM,if_neg hne]
   exact getM_app h hk
omit [KeyK α] in
theorem setM_app {k:α} {v v':β}:∀ {a b:List (α × β)},getM k a=none→(k==k)=true→setM k v' (a++(k,v)::b)=a++(k,v')::b
 |[],b,_,hk=>by simp [setM,hk]
 |e::a,b,h,hk=>by
  rw [getM] at h
  split at h
  ·cases h
  ·rename_i hne
   rw [List.cons_append,setM,if_neg hne,setM_app h hk];rfl
omit [KeyK α] in
theorem delM_app {k:α} {v:β}:∀ {a b:List (α × β)},getM k a=none→(k==k)=true→delM k (a++(k,v)::b)=a++b
 |[],b,_,hk=>by simp [delM,hk]
 |e::a,b,h,hk=>by
  rw [getM] at h
  split at h
  ·cases h
  ·rename_i hne
   rw [List.cons_append,delM,if_neg hne,delM_app h hk];rfl
theorem getM_split {k:α} {v:β}:∀ {l:List (α × β)},getM k l=some v→∃ a b,l=a++(k,v)::b∧getM k a=none
 |[],h=>by cases h
 |e::l,h=>by
  rw [getM] at h
  split at h
  ·rename_i hk
   cases h
   have:=KeyK.eq _ _ hk
   subst this
   exact ⟨[],l,rfl,rfl⟩
  ·rename_i hne
   obtain ⟨a,b,rfl,ha⟩:=getM_split h
   exact ⟨e::a,b,rfl,by rw [getM,if_neg hne];exact ha⟩
omit [KeyK α] in
theorem getM_map {γ:Type} (f:β→γ) (k:α):∀ l:List (α × β),getM k (l.map fun e=>(e.1,f e.2))=(getM k l).map f
 |[]=>rfl
 |e::l=>by
  rw [List.map_cons,getM,getM,getM_map f k l]
  split<;>rfl
end
end Go.VC
/- SL, part 8: slices of any one-cell elements; bytes and strings. No condition. -/
namespace Go.VC
set_option linter.unusedVariables false
set_option linter.unusedSimpArgs false
variable {P:Program} {R:Cx} {Hs:List HP} {w:World} {s:Sl} {T:TypeId}
theorem Ro.idxK {kd:IntKind} {xs:List Int} {S:World→Prop} (hr:Ro R s (xs.map (Value.int kd))) (hS:∀ w,S w→Sat R Hs w) {k:Nat} (hk:k<xs.length) {F:Int→Prop} (h:F xs[k]):
  Rng (k:Int) s.len (NilP s.a fun a=>∃ t:Int,(At S (a.add (k:Int).toNat) [.int kd t])∧F t):=by
 obtain ⟨a,ha,hat⟩:=hr.addr (k:=k) (by simpa using hk)
 have hl:s.len=xs.length:=by have:=hr.len;simpa using this
 refine Rng.mk (by omega) (by omega) (NilP.mk ha ⟨xs[k],?_,h⟩)
 have:=hat hS
 simpa using this
theorem srcRo {t2 e':TypeId} (ht:P.underlying t2=some (.slice e')) {xs:List Value} (hw:Sat R Hs w) (hs:Ro R s xs) (h1:oneAll xs=true):Src P 1 t2 (.slice s.a s.len s.cap) xs.length xs w:=by
 have hl:s.len=xs.length:=hs.len
 by_cases hx:xs=[]
 ·subst hx
  obtain ⟨a,n,c⟩:=s
  simp only [List.length_nil] at hl
  subst hl
  cases a with
  |none=>exact Go.Src.ofNil _ ht _
  |some a=>exact Go.Src.ofSlice w ht _ 0 _ [] rfl (fun j u hj=>by simp at hj) (fun u hu=>by cases hu)
 ·obtain ⟨b,off,l,T,fr,ha,hb,hel⟩:=hs.mem hx
  obtain ⟨a,n,c⟩:=s
  simp only at ha hl
  subst ha hl
  refine Go.Src.ofSlice w ht _ _ _ _ (by simp) (fun j u hj=>?_) (fun u hu=>List.all_eq_true.1 h1 u hu)
  rw [add_off]
  have:=hw.of_ro hb
  simp only [World.cell?,this,Option.isSome_none,Bool.false_eq_true,if_false]
  exact hel j u hj
def bytesL (s:ByteArray):List Int:=s.data.toList.map fun b=>(b.toNat:Int)
theorem bytesL_len (s:ByteArray):(bytesL s).length=s.size:=by simp [bytesL]
theorem bytesL_bd (s:ByteArray):∀ n∈bytesL s,0≤n∧n<256:=by
 intro n hn
 obtain ⟨b,_,rfl⟩:=List.mem_map.1 hn
 have:=b.toNat_lt
 omega
theorem world_heap_ext {a b:World} (h:a.heap=b.heap) (h2:{ a with heap:=b.heap }=b):a=b:=by rw [←h2,←h]
theorem bytesWorld_alloc (w:World) (e:TypeId) (s:ByteArray):
  Lib.bytesWorld w e s=w.drew.alloc (.cells (Lib.bytesCells w e s) e ((Lib.bytesCells w e s).size,(Lib.bytesCells w e s).size + 1)):=by
 have:(Lib.bytesWorld w e s).heap=(w.drew.alloc (.cells (Lib.bytesCells w e s) e ((Lib.bytesCells w e s).size,(Lib.bytesCells w e s).size + 1))).heap:=by
  apply Array.ext_getElem?
  intro i
  by_cases hi:i<w.heap.size
  ·rw [Lib.bytesWorld_at_old w e s i hi]
   simp [World.alloc,World.drew,-World.alloc_eq,-World.drew_eq,Array.getElem?_push,Nat.ne_of_lt hi]
  ·by_cases h2:i=w.heap.size
   ·subst h2
    rw [Lib.bytesWorld_at_new]
    simp [World.alloc,World.drew,-World.alloc_eq,-World.drew_eq]
   ·rw [Array.getElem?_eq_none (by rw [Lib.bytesWorld_size];omega),Array.getElem?_eq_none (by simp [World.alloc,World.drew,-World.alloc_eq,-World.drew_eq];omega)]
 exact world_heap_ext this rfl
theorem convB_rule {src dst:TypeId} {u:TypeDesc} (hs:P.underlying src=some u) (hd:P.underlying dst=some (.slice T)) (he:P.underlying T=some (.int .u8)) {b:ByteArray} {K:Sl→World→Prop}
  (hw:Sat R Hs w) (k:∀ t w',Sat R (Own t T ((bytesL b).map (Value.int .u8))::Hs) w'→K t w'):
  ∃ w',∃ t:Sl,(convert src dst (.string b)).run P w=.ok (.slice t.a t.len t.cap) w'∧K t w':=by
 refine ⟨_,⟨some ⟨w.heap.size,0,none⟩,b.size,grownCap w b.size 0 T⟩,Lib.run_convert_string_bytes w src dst T b hs hd he,k _ _ ?_⟩
 rw [bytesWorld_alloc]
 have hc:Lib.bytesCells w T b=((bytesL b).map (Value.int .u8)++List.replicate (grownCap w b.size 0 T - b.size) (Value.int .u8 0)).toArray:=by
  apply Array.ext'
  simp [Lib.bytesCells,bytesL,Function.comp_def]
 have h1:=Sat.alloc (Obj.cells (Lib.bytesCells w T b) T ((Lib.bytesCells w T b).size,(Lib.bytesCells w T b).size + 1)) hw.drew
 have hg:=grownCap_ge w b.size 0 T
 rw [hc] at h1 ⊢
 have h2:=Own.of_pts h1 (.inr (by simp))
 have e:(⟨some ⟨w.drew.heap.size,0,none⟩,((bytesL b).map (Value.int .u8)).length,((bytesL b).map (Value.int .u8)++List.replicate (grownCap w b.size 0 T - b.size) (Value.int .u8 0)).length⟩:Sl)=⟨some ⟨w.heap.size,0,none⟩,b.size,grownCap w b.size 0 T⟩:=by
  simp only [List.length_append,List.length_map,List.length_replicate,bytesL_len,World.size_drew]
  congr 1
  omega
 rw [e] at h2
 exact h2
def strOf (xs:List Int):ByteArray:=⟨(xs.map fun n=>UInt8.ofNat n.toNat).toArray⟩
theorem convS_ro {src dst:TypeId} (hs:P.underlying src=some (.slice T)) (he:P.underlying T=some (.int .u8)) (hd:P.underlying dst=some .string) {xs:List Int}
  (hw:Sat R Hs w) (hr:Ro R s (xs.map (Value.int .u8))):(convert src dst (.slice s.a s.len s.cap)).run P w=.ok (.string (strOf xs)) w:=by
 have hl:s.len=xs.length:=by have:=hr.len;simpa using this
 by_cases hx:xs=[]
 ·subst hx
  obtain ⟨a,n,c⟩:=s
  simp only [List.length_nil] at hl
  subst hl
  cases a with
  |none=>exact run_convert_bytes_nil w src T hs he _ _ dst hd
  |some a=>
   rw [run_convert_bytes_string w src dst T _ _ _ hs he hd,run_bytesToString w a 0 c [] (by simpa using run_loadCells_list (P:=P) w a [] (fun j v hj=>by simp at hj))]
   rfl
 ·obtain ⟨b,off,l,T',fr,ha,hb,hel⟩:=hr.mem (by simpa using hx)
  obtain ⟨a,n,c⟩:=s
  simp only at ha hl
  subst ha hl
  refine (run_convert_bytes_arg w src T hs he b off _ c xs rfl (fun i hi=>?_) dst hd).trans rfl
  have:=hw.of_ro hb
  simp only [World.cell?,this,Option.isSome_none,Bool.false_eq_true,if_false]
  refine hel i _ ?_
  simp [hi,List.getD]
theorem strOf_bytesL (b:ByteArray):strOf (bytesL b)=b:=by
 unfold strOf bytesL
 rw [List.map_map]
 have:(List.map ((fun n:Int=>UInt8.ofNat n.toNat) ∘ fun b:UInt8=>(b.toNat:Int)) b.data.toList)=b.data.toList:=by
  conv=>rhs;rw [←List.map_id b.data.toList]
  apply List.map_congr_left
  intro x _
  simp
 rw [this]
theorem bytesL_strOf {xs:List Int} (h:∀ n∈xs,0≤n∧n<256):bytesL (strOf xs)=xs:=by
 unfold strOf bytesL
 simp only [List.map_map]
 conv=>rhs;rw [←List.map_id xs]
 apply List.map_congr_left
 intro x hx
 have:=h x hx
 simp
 omega
end Go.VC
/- SL, part 9: what a call of the library leaves that changes no block that lay before: a new row of cells. No condition. -/
namespace Go.VC
set_option linter.unusedVariables false
set_option linter.unusedSimpArgs false
open Go Go.RowKit
structure Keeps (w w':World):Prop where
 os:w'.os=w.os
 tape:w'.tape=w.tape
 output:w'.output=w.output
 block:∀ k,k<w.heap.size→w'.heap[k]? =w.heap[k]?
theorem Keeps.of_below {w w':World} (h:Below w.heap.size w w'):Keeps w w':=⟨h.os,h.tape,h.output,h.block⟩
theorem Sat.keeps:∀ {Hs:List HP} {R:Cx} {w w':World},Sat R Hs w→Keeps w w'→Sat R Hs w'
 |[],_,w,_,h,e=>⟨fun b o hb=>by
   have:=h.1 b o hb
   rw [e.block b (Array.getElem?_eq_some_iff.1 this).1];exact this,e.os.trans h.2.1,e.tape.trans h.2.2.1,e.output.trans h.2.2.2⟩
 |_::_,_,_,_,h,e=>let ⟨h',hH,hd,hs⟩:=h;⟨h',hH,hd,hs.keeps e⟩
theorem Sat.grewTo:∀ {Hs:List HP} {R:Cx} {w w':World} {b:Nat} {o:Obj},Sat R Hs w→Keeps w w'→w.heap.size≤b→w'.heap[b]? =some o→Sat (R.add (Heap.one b o)) Hs w'
 |[],R,w,w',b,o,h,e,hb,ho=>by
  refine ⟨fun i x hx=>?_,e.os.trans h.2.1,e.tape.trans h.2.2.1,e.output.trans h.2.2.2⟩
  simp only [Cx.m_add,Heap.add,Heap.one] at hx
  cases hr:R.m i with
  |some y=>
   rw [hr] at hx
   have:=h.1 i y hr
   rw [e.block i (Array.getElem?_eq_some_iff.1 this).1,this]
   exact hx
  |none=>
   rw [hr] at hx
   simp only at hx
   split at hx
   ·rename_i hi;subst hi;rw [ho];exact hx
   ·cases hx
 |H::Hs,R,w,w',b,o,h,e,hb,ho=>by
  have hR:R.m b=.none:=Sat.ro_lt h hb
  obtain ⟨a,hA,hd,hs⟩:=h
  have hadd:(R.add a).m b=.none:=Sat.ro_lt hs hb
  have ha:a b=.none:=by simpa [Cx.m_add,Heap.add,hR] using hadd
  have:=Sat.grewTo hs e hb ho
  have hdis:(Heap.one b o).dis a:=by
   intro i hi
   simp only [Heap.one]
   split
   ·rename_i h;subst h;exact absurd ha hi
   ·rfl
  refine ⟨a,hA,Cx.add_dis hd hdis,?_⟩
  rw [Cx.add_assoc,Heap.add_comm hdis,←Cx.add_assoc]
  exact this
theorem Sat.fresh {R:Cx} {Hs:List HP} {w w':World} {b:Nat} {o:Obj} (h:Sat R Hs w) (e:Keeps w w') (hb:w.heap.size≤b) (ho:w'.heap[b]? =some o):Sat R (pts b o::Hs) w':=
 Sat.lend.2 ⟨Sat.ro_lt h hb,Sat.grewTo h e hb ho⟩
theorem Sat.ownsRow {R:Cx} {Hs:List HP} {w w':World} {T:TypeId} {v:Value} {n:Nat} {xs:List Value} (h:Sat R Hs w) (e:Below w.heap.size w w') (hr:w'.ownsRow w.heap.size T 1 v n xs):
  ∃ s:Sl,v=.slice s.a s.len s.cap∧Sat R (Own s T xs::Hs) w':=by
 obtain ⟨hl,h1|⟨g,cap,cur,rfl,hg,hb,hn,hc,hcs,ht⟩⟩:=hr
 ·obtain ⟨rfl,rfl⟩:=h1
  have:xs=[]:=by simpa using hl
  subst this
  exact ⟨⟨none,0,0⟩,rfl,Own.nil (h.keeps (.of_below e))⟩
 ·rw [Nat.mul_one] at *
  have h2:=h.fresh (.of_below e) hg hb
  have e1:cur=(xs++cur.toList.drop n).toArray:=by
   apply Array.ext'
   rw [←ht];simp
  rw [e1] at h2
  have h3:=Own.of_pts h2
  refine ⟨_,?_,h3⟩
  have:(xs++cur.toList.drop n).length=cap:=by
   have e2:cur.toList.length=cap:=by rw [Array.length_toList];exact hcs
   rw [List.length_append,List.length_drop,e2,hl];omega
  simp only [this,hl]
end Go.VC
/- SL, part 10: slices whose elements are structs of n cells: one's own, or only read; elements, stores, append. No condition but bounds on lengths. -/
namespace Go.VC
set_option linter.unusedVariables false
set_option linter.unusedSimpArgs false
open Go Go.RowKit
variable {P:Program} {R:Cx} {Hs Rest:List HP} {w:World} {s:Sl} {T:TypeId} {n:Nat}
def Wid (n:Nat) (rows:List (List Value)):Prop:=∀ x∈rows,x.length=n
theorem Wid.nil {n:Nat}:Wid n []:=fun _ h=>by cases h
theorem Wid.app {n:Nat} {a b:List (List Value)} (ha:Wid n a) (hb:Wid n b):Wid n (a++b):=fun x hx=>(List.mem_append.1 hx).elim (ha x) (hb x)
theorem Wid.one {n:Nat} {x:List Value} (h:x.length=n):Wid n [x]:=fun y hy=>by simp at hy;rw [hy];exact h
theorem Wid.len {n:Nat}:∀ {rows:List (List Value)},Wid n rows→rows.flatten.length=rows.length * n
 |[],_=>by simp
 |x::rows,h=>by
  rw [List.flatten_cons,List.length_append,h x List.mem_cons_self,Wid.len (rows:=rows) (fun y hy=>h y (List.mem_cons_of_mem _ hy)),List.length_cons,Nat.add_mul]
  omega
theorem Wid.drop_flat {n:Nat}:∀ {rows:List (List Value)} (k:Nat),Wid n rows→rows.flatten.drop (k * n)=(rows.drop k).flatten
 |rows,0,_=>by simp
 |[],k + 1,_=>by simp
 |x::rows,k + 1,h=>by
  have hx:=h x List.mem_cons_self
  rw [List.flatten_cons,List.drop_succ_cons,←Wid.drop_flat (rows:=rows) k (fun y hy=>h y (List.mem_cons_of_mem _ hy)),List.drop_append]
  have e1:x.drop ((k + 1) * n)=[]:=List.drop_eq_nil_of_le (by rw [hx,Nat.add_mul];omega)
  have e2:(k + 1) * n - x.length=k * n:=by rw [hx,Nat.add_mul];omega
  rw [e1,e2,List.nil_append]
theorem Wid.take_flat {n:Nat} {rows:List (List Value)} (k:Nat) (h:Wid n rows):rows.flatten.take (k * n)=(rows.take k).flatten:=by
 by_cases hk:k≤rows.length
 ·have e:rows.flatten=(rows.take k).flatten++(rows.drop k).flatten:=by rw [←List.flatten_append,List.take_append_drop]
  rw [e,List.take_left']
  rw [Wid.len (fun x hx=>h x (List.mem_of_mem_take hx)),List.length_take,Nat.min_eq_left hk]
 ·rw [List.take_of_length_le (by rw [h.len];exact Nat.mul_le_mul_right _ (by omega)),List.take_of_length_le (by omega)]
theorem Wid.take {n k:Nat} {rows:List (List Value)} (h:Wid n rows):Wid n (rows.take k):=fun x hx=>h x (List.mem_of_mem_take hx)
theorem Wid.drop {n k:Nat} {rows:List (List Value)} (h:Wid n rows):Wid n (rows.drop k):=fun x hx=>h x (List.mem_of_mem_drop hx)
theorem Pre.app:∀ {vs a:List Value} (b:List Value),Pre vs a→Pre vs (a++b)
 |[],_,_,_=>trivial
 |_::_,_::_,b,h=>⟨h.1,Pre.app b h.2⟩
 |_::_,[],_,h=>h.elim
theorem Pre.len:∀ {vs a:List Value},Pre vs a→vs.length≤a.length
 |[],_,_=>Nat.zero_le _
 |_::_,_::_,h=>by simp only [List.length_cons];exact Nat.succ_le_succ (Pre.len h.2)
 |_::_,[],h=>h.elim
theorem Wid.pre {n k j:Nat} {rows:List (List Value)} (rest:List Value) (h:Wid n rows) (hk:k<rows.length) {vs:List Value} (hp:Pre vs (rows[k].drop j)):Pre vs ((rows.flatten++rest).drop (k * n + j)):=by
 cases vs with
 |nil=>trivial
 |cons v vs=>
  have hj:j<rows[k].length:=by
   have:=Pre.len hp;simp only [List.length_cons,List.length_drop] at this;omega
  have hx:rows[k].length=n:=h _ (List.getElem_mem _)
  have hle:k * n + j≤rows.flatten.length:=by
   rw [h.len]
   have:(k + 1) * n≤rows.length * n:=Nat.mul_le_mul_right _ (by omega)
   rw [Nat.add_mul] at this
   omega
  rw [List.drop_append_of_le_length hle,Nat.add_comm (k * n) j,←List.drop_drop]
  rw [Nat.add_comm] at hle
  rw [List.drop_drop,Nat.add_comm j,←List.drop_drop,h.drop_flat,List.drop_eq_getElem_cons hk,List.flatten_cons,List.drop_append_of_le_length (by omega),List.append_assoc]
  exact hp.app _
def OwnN (n:Nat) (s:Sl) (T:TypeId) (rows:List (List Value)):HP:=fun h=>
 Wid n rows∧((s=⟨none,0,0⟩∧rows=[]∧h=Heap.none)∨
  ∃ b rest fr cap,s=⟨some ⟨b,0,none⟩,rows.length,cap⟩∧(rows.flatten++rest).length=cap * n∧okFr (cap * n) fr∧h=Heap.one b (.cells (rows.flatten++rest).toArray T fr))
theorem OwnN.nil (h:Sat R Hs w):Sat R (OwnN n ⟨none,0,0⟩ T []::Hs) w:=
 ⟨Heap.none,⟨Wid.nil,.inl ⟨rfl,rfl,rfl⟩⟩,fun i hi=>absurd rfl hi,by rw [Cx.add_none];exact h⟩
theorem OwnN.of_pts {b cap:Nat} {fr:Nat × Nat} {rows:List (List Value)} {rest:List Value} (hwid:Wid n rows) (hl:(rows.flatten++rest).length=cap * n) (h:Sat R (pts b (.cells (rows.flatten++rest).toArray T fr)::Hs) w)
  (hf:okFr (cap * n) fr:=by first|assumption|exact Or.inl rfl):Sat R (OwnN n ⟨some ⟨b,0,none⟩,rows.length,cap⟩ T rows::Hs) w:=
 let ⟨a,ha,hd,hs⟩:=h;⟨a,⟨hwid,.inr ⟨b,rest,fr,cap,rfl,hl,hf,ha⟩⟩,hd,hs⟩
theorem OwnN.cases {rows:List (List Value)} (h:Sat R (OwnN n s T rows::Hs) w):Wid n rows∧
  ((s=⟨none,0,0⟩∧rows=[]∧Sat R Hs w)∨∃ b rest fr cap,s=⟨some ⟨b,0,none⟩,rows.length,cap⟩∧(rows.flatten++rest).length=cap * n∧okFr (cap * n) fr∧Sat R (pts b (.cells (rows.flatten++rest).toArray T fr)::Hs) w):=by
 obtain ⟨a,⟨hwid,ha⟩,hd,hs⟩:=h
 refine ⟨hwid,?_⟩
 rcases ha with ⟨h1,h2,rfl⟩|⟨b,rest,fr,cap,h1,h3,hf,rfl⟩
 ·rw [Cx.add_none] at hs;exact .inl ⟨h1,h2,hs⟩
 ·exact .inr ⟨b,rest,fr,cap,h1,h3,hf,_,rfl,hd,hs⟩
theorem OwnN.wid {rows:List (List Value)} (h:Sat R (OwnN n s T rows::Hs) w):Wid n rows:=(OwnN.cases h).1
theorem OwnN.len {rows:List (List Value)} (h:Sat R (OwnN n s T rows::Hs) w):s.len=rows.length:=by
 rcases (OwnN.cases h).2 with ⟨rfl,rfl,_⟩|⟨b,rest,fr,cap,rfl,_,_⟩<;>rfl
theorem OwnN.cap {rows:List (List Value)} (hn:0<n) (h:Sat R (OwnN n s T rows::Hs) w):s.len≤s.cap:=by
 have hwid:=(OwnN.cases h).1
 rcases (OwnN.cases h).2 with ⟨rfl,rfl,_⟩|⟨b,rest,fr,cap,rfl,hl,_⟩
 ·exact Nat.le_refl _
 ·rw [List.length_append,hwid.len] at hl
  simp only
  have:rows.length * n≤cap * n:=by omega
  exact Nat.le_of_mul_le_mul_right this hn
def ReadsN (n:Nat) (s:Sl) (rows:List (List Value)) (S:World→Prop):Prop:=
 s.len=rows.length∧∀ k (hk:k<rows.length),∃ b off,s.a=some ⟨b,off,none⟩∧∀ j vs,Pre vs (rows[k].drop j)→At S ⟨b,off + (k * n + j),none⟩ vs
theorem OwnN.reads {rows:List (List Value)} (hw:Sat R (OwnN n s T rows::Hs) w) {S:World→Prop} {Hs'} (hS:∀ w,S w→Sat R (OwnN n s T rows::Hs') w):ReadsN n s rows S:=by
 refine ⟨OwnN.len hw,fun k hk=>?_⟩
 obtain ⟨hwid,⟨_,rfl,_⟩|⟨b,rest,fr,cap,rfl,hl,_,_⟩⟩:=OwnN.cases hw
 ·simp at hk
 ·refine ⟨b,0,rfl,fun j vs hp w hw i v hv=>?_⟩
  obtain ⟨_,⟨h0,_,_⟩|⟨b',rest',fr',cap',he,_,_,h⟩⟩:=OwnN.cases (hS w hw)
  ·cases h0
  ·simp only [Sl.mk.injEq,Option.some.injEq,Addr.mk.injEq,and_true] at he
   obtain ⟨rfl,_⟩:=he
   have:=(Wid.pre rest' hwid hk hp).get i v hv
   rw [List.getElem?_drop] at this
   rw [add_off,Nat.zero_add,cell_of h.at,this]
theorem ReadsN.rng {S:World→Prop} {rows:List (List Value)} (h:ReadsN n s rows S) {k:Nat} (hk:k<rows.length) {F:Addr→Prop} (f:∀ b off,s.a=some ⟨b,off,none⟩→(∀ j vs,Pre vs (rows[k].drop j)→At S ⟨b,off + (k * n + j),none⟩ vs)→F ⟨b,off,none⟩):
  Rng (k:Int) s.len (NilP s.a F):=by
 obtain ⟨b,off,ha,hat⟩:=h.2 k hk
 have:=h.1
 exact Rng.mk (by omega) (by omega) (NilP.mk ha (f b off ha hat))
theorem elt_addr (b off k n j:Nat):(⟨(Addr.add ⟨b,off,none⟩ (mulS k n)).block,(Addr.add ⟨b,off,none⟩ (mulS k n)).off + j,none⟩:Addr)=⟨b,off + (k * n + j),none⟩:=by
 rw [add_off,mulS_eq];simp only [Addr.mk.injEq,and_true,true_and];omega
theorem elt_addr0 (b off k n:Nat):Addr.add ⟨b,off,none⟩ (mulS k n)=⟨b,off + (k * n + 0),none⟩:=by
 rw [add_off,mulS_eq];rfl
structure RoN (n:Nat) (R:Cx) (s:Sl) (rows:List (List Value)):Prop where
 wid:Wid n rows
 len:s.len=rows.length
 mem:rows≠[]→∃ b off l T fr,s.a=some ⟨b,off,none⟩∧R.m b=some (.cells l T fr)∧∀ (i:Nat) v,rows.flatten[i]? =some v→l[off + i]? =some v
theorem RoN.reads {rows:List (List Value)} (hr:RoN n R s rows) {S:World→Prop} {Hs'} (hS:∀ w,S w→Sat R Hs' w):ReadsN n s rows S:=by
 refine ⟨hr.len,fun k hk=>?_⟩
 obtain ⟨b,off,l,T,fr,ha,hb,hl⟩:=hr.mem (fun h=>by rw [h] at hk;simp at hk)
 refine ⟨b,off,ha,fun j vs hp w hw i v hv=>?_⟩
 have h1:=(Wid.pre [] hr.wid hk hp).get i v hv
 rw [List.append_nil,List.getElem?_drop] at h1
 have:=(hS w hw).of_ro hb
 rw [add_off]
 simp only [World.cell?,this,Option.isSome_none,Bool.false_eq_true,if_false]
 rw [Nat.add_assoc]
 exact hl _ _ h1
theorem OwnN.lend {rows:List (List Value)} (h:Sat R (OwnN n s T rows::Hs) w):
  ∃ R':Cx,RoN n R' s rows∧(∃ x,R'=R.add x)∧Sat R' Hs w∧∀ {Hs' w'},Sat R' Hs' w'→Sat R (OwnN n s T rows::Hs') w':=by
 obtain ⟨hwid,⟨rfl,rfl,h2⟩|⟨b,rest,fr,cap,rfl,hl,hf,h2⟩⟩:=OwnN.cases h
 ·exact ⟨R,⟨hwid,rfl,fun h=>absurd rfl h⟩,⟨Heap.none,(Cx.add_none R).symm⟩,h2,fun h=>OwnN.nil h⟩
 ·obtain ⟨hn,h3⟩:=Sat.lend.1 h2
  refine ⟨_,⟨hwid,rfl,fun _=>⟨b,0,_,T,fr,rfl,Cx.lent hn,fun i v hv=>?_⟩⟩,⟨_,rfl⟩,h3,fun h=>OwnN.of_pts hwid hl (Sat.lend.2 ⟨hn,h⟩)⟩
  obtain ⟨hi,rfl⟩:=List.getElem?_eq_some_iff.1 hv
  simp [List.getElem?_append_left hi]
def elBN (P:Program) (T:TypeId) (n bytes:Nat):Bool:=
 match P.info? T with
 |some i=>match i.zero with
  |some z=>i.size==n && i.bytes==bytes && z.cells.size==n
  |none=>false
 |none=>false
structure ElN (P:Program) (t1 t2 T:TypeId) (n bytes:Nat):Prop where
 ht:P.underlying t1=some (.slice T)
 hk:∃ e',P.underlying t2=some (.slice e')
 hi:elBN P T n bytes=true
theorem elBN_out {P:Program} {T:TypeId} {n bytes:Nat} (h:elBN P T n bytes=true):∃ i z,P.info? T=some i∧i.zero=some z∧i.size=n∧i.bytes=bytes∧z.cells.size=n:=by
 unfold elBN at h
 split at h
 ·rename_i i hi
  split at h
  ·rename_i z hz
   simp only [Bool.and_eq_true,beq_iff_eq] at h
   exact ⟨i,z,hi,hz,h.1.1,h.1.2,h.2⟩
  ·cases h
 ·cases h
theorem appendN_rule {t1 t2 ty:TypeId} {bytes:Nat} (E:ElN P t1 t2 T n bytes) {rows ys:List (List Value)} {src:Value} {K:Sl→World→Prop}
  (hw:Sat R (OwnN n s T rows::Hs) w) (hs:Src P n t2 src ys.length ys.flatten w) (hy:Wid n ys) (hb:2 * (rows.length + ys.length) * bytes≤281474976710656) (hb':rows.length + ys.length≤9223372036854775807)
  (k:∀ s' w',Sat R (OwnN n s' T (rows++ys)::Hs) w'→K s' w'):
  ∃ w',∃ t:Sl,(Builtin.append_ #[t1,t2] ty #[.slice s.a s.len s.cap,src]).run P w=.ok (.slice t.a t.len t.cap) w'∧K t w':=by
 obtain ⟨i,z,hi,hz,hsize,hbytes,hzc⟩:=elBN_out E.hi
 have hs':Src P i.size t2 src ys.length ys.flatten w:=by rw [hsize];exact hs
 have hlen:=OwnN.len hw
 have hwid:=OwnN.wid hw
 have hwid2:=hwid.app hy
 generalize hcn:ys.length=c at *
 have fit:∀ cap,cap<rows.length + c→Builtin.nextslicecap (rows.length + c) cap * i.bytes≤281474976710656:=fun cap hc=>by
  have h2:Builtin.nextslicecap (rows.length + c) cap≤2 * (rows.length + c):=by
   unfold Builtin.nextslicecap
   split
   ·omega
   ·split
    ·omega
    ·have:=nextslicecap_le_wide hc
     unfold Builtin.nextslicecap at this
     rw [if_neg (by assumption),if_neg (by assumption)] at this
     omega
  rw [hbytes]
  exact Nat.le_trans (Nat.mul_le_mul_right _ h2) hb
 -- a new row
 have grow:∀ (base:Option Addr) (cap:Nat),cap<rows.length + c→(Builtin.firstCells i.size rows.length (.slice base rows.length cap)).run P w.drew=.ok rows.flatten.toArray w.drew→Sat R Hs w→
   ∃ w',∃ t:Sl,(Builtin.append_ #[t1,t2] ty #[.slice base rows.length cap,src]).run P w=.ok (.slice t.a t.len t.cap) w'∧K t w':=fun base cap hc hold hw=>by
  have hr:=run_append_grow_src w t1 t2 ty T i z E.ht hi hz base rows.length cap rows.flatten hold src c ys.flatten hs' hc (by omega) (fit cap hc)
  refine ⟨_,⟨some ⟨w.heap.size,0,none⟩,rows.length + c,grownCap w (rows.length + c) cap T⟩,hr,k _ _ ?_⟩
  have hz0:(Builtin.zeroCells z.cells (grownCap w (rows.length + c) cap T - (rows.length + c))).size=(grownCap w (rows.length + c) cap T - (rows.length + c)) * n:=by
   simp [Builtin.zeroCells,hzc]
  have hg:=grownCap_ge w (rows.length + c) cap T
  generalize hG:grownCap w (rows.length + c) cap T=G at *
  have ho':Obj.cells ((rows.flatten++ys.flatten).toArray++Builtin.zeroCells z.cells (G - (rows.length + c))) T=.cells ((rows++ys).flatten++(Builtin.zeroCells z.cells (G - (rows.length + c))).toList).toArray T (0,0):=by
   congr 1
   apply Array.ext';simp
  have:=Sat.alloc (Obj.cells ((rows.flatten++ys.flatten).toArray++Builtin.zeroCells z.cells (G - (rows.length + c))) T) (Sat.drew hw)
  rw [ho'] at this ⊢
  have hlenG:((rows++ys).flatten++(Builtin.zeroCells z.cells (G - (rows.length + c))).toList).length=G * n:=by
   have hz1:(Builtin.zeroCells z.cells (G - (rows.length + c))).toList.length=(G - (rows.length + c)) * n:=by rw [Array.length_toList];exact hz0
   rw [List.length_append,hz1,hwid2.len,List.length_append,hcn,←Nat.add_mul]
   congr 1;omega
  have h3:=OwnN.of_pts (cap:=G) hwid2 hlenG this
  have e:(⟨some ⟨w.drew.heap.size,0,none⟩,(rows++ys).length,G⟩:Sl)=⟨some ⟨w.heap.size,0,none⟩,rows.length + c,G⟩:=by
   simp only [List.length_append,World.size_drew,hcn]
  rw [e] at h3
  exact h3
 obtain ⟨_,⟨rfl,rfl,hz2⟩|⟨b,rest,fr,cap,rfl,hl,hfr,hp⟩⟩:=OwnN.cases hw
 ·by_cases hn0:c=0
  ·subst hn0
   have hy0:ys=[]:=List.length_eq_zero_iff.1 hcn
   subst hy0
   obtain ⟨e',he'⟩:=E.hk
   refine ⟨w,⟨none,0,0⟩,?_,k _ _ (by simpa using OwnN.nil hz2)⟩
   have hcz:=hs'.cells
   simp [Builtin.append_,run_underlying E.ht,run_underlying he',sizeOf,typeInfo,hi,hs'.len,hcz]
  ·exact grow none 0 (by simp;omega) (run_firstCells_none w.drew i.size 0 0 0) hz2
 ·have hl0:=hl
  rw [List.length_append,hwid.len] at hl
  by_cases hroom:rows.length + c≤cap
  ·have hat:=hp.at
   have hcapn:(rows.length + c) * n≤cap * n:=Nat.mul_le_mul_right _ hroom
   rw [Nat.add_mul] at hcapn
   have hyl:ys.flatten.length=c * n:=by rw [hy.len,hcn]
   have hr:=run_append_room_src w t1 t2 ty T i E.ht hi b 0 rows.length cap src c ys.flatten hs' hroom
    (fun j hj=>by
     rw [cell_of hat,hsize,List.getElem?_eq_getElem (by rw [hl0];omega)];rfl) (fun j hj=>frozen_no hat hfr (by rw [hsize];omega))
   refine ⟨_,⟨some ⟨b,0,none⟩,rows.length + c,cap⟩,hr,k _ _ ?_⟩
   have h2:=setCells_sat ys.flatten (rows.flatten++rest) (rows.length * n) w hp
   have e1:putL (rows.flatten++rest) (rows.length * n) ys.flatten=(rows++ys).flatten++rest.drop (c * n):=by
    rw [putL_eq _ _ _ (by rw [hyl,hl0];omega),List.take_left' hwid.len,hyl,←List.drop_drop,List.drop_left' hwid.len]
    simp
   rw [e1] at h2
   rw [hsize,Nat.zero_add]
   have h3:=OwnN.of_pts (cap:=cap) hwid2 (by rw [List.length_append,hwid2.len,List.length_append,hcn,List.length_drop,Nat.add_mul];omega) h2
   rw [List.length_append,hcn] at h3
   exact h3
  ·have hat:=hp.at
   refine grow (some ⟨b,0,none⟩) cap (by omega) ?_ hp.drop
   refine run_firstCells_some w.drew i.size rows.length ⟨b,0,none⟩ rows.length _ rows.flatten (by rw [hsize,hwid.len]) ?_
   intro j u hj
   rw [World.cell?_drew,add_off,cell_of hat,Nat.zero_add]
   obtain ⟨hlt,rfl⟩:=List.getElem?_eq_some_iff.1 hj
   simp [List.getElem?_append_left hlt]
theorem SrcN_one {t2:TypeId} (hk:∃ e',P.underlying t2=some (.slice e')) {b:Nat} {x:List Value} {fr:Nat × Nat} (c:Nat)
  (hw:Sat R Hs w) [t:TakeP b Hs (.cells x.toArray T fr) Rest] (hx:x.length=n) (h1:oneAll x=true):Src P n t2 (.slice (some ⟨b,0,none⟩) 1 c) [x].length [x].flatten w:=by
 obtain ⟨e',he'⟩:=hk
 refine Go.Src.ofSlice w he' _ 1 c _ (by simp [hx]) ?_ ?_
 ·intro j u hj
  have:=hw.look b
  rw [add_off,cell_of this];simpa using hj
 ·intro u hu;simp at hu;exact List.all_eq_true.1 h1 u hu
theorem pushN_rule {t1 t2 ty T':TypeId} {bytes:Nat} (E:ElN P t1 t2 T n bytes) {rows:List (List Value)} {x:List Value} {K:Sl→World→Prop}
  (hw:Sat R (OwnN n s T rows::Hs) w) (hx:x.length=n) (h1:oneAll x=true) (hb:2 * (rows.length + 1) * bytes≤281474976710656) (hb':rows.length + 1≤9223372036854775807)
  (k:∀ s' w',Sat R (OwnN n s' T (rows++[x])::Hs) w'→K s' w'):
  New (.cells x.toArray T' (0,0)) (fun b w=>∃ w',∃ t:Sl,(Builtin.append_ #[t1,t2] ty #[.slice s.a s.len s.cap,.slice (some ⟨b,0,none⟩) 1 1]).run P w=.ok (.slice t.a t.len t.cap) w'∧K t w') w:=by
 refine new_rule hw fun b w hw=>?_
 have hw:Sat R (pts b (.cells x.toArray T' (0,0))::OwnN n s T rows::Hs) w:=hw
 exact appendN_rule E hw.swap (SrcN_one E.hk 1 hw hx h1) (Wid.one hx) hb hb' fun s' w' h=>k s' w' h.swap.drop
structure Elt (n:Nat) (S:World→Prop) (a:Addr) (k:Nat) (row:List Value):Prop where
 f:∀ (j:Nat) {vs:List Value},Pre vs (row.drop j)→At S ⟨(Addr.add a (mulS (k:Int).toNat n)).block,(Addr.add a (mulS (k:Int).toNat n)).off + j,none⟩ vs
 z:∀ {vs:List Value},Pre vs row→At S (Addr.add a (mulS (k:Int).toNat n)) vs
 zz:∀ {vs:List Value},Pre vs row→At S (Addr.add (Addr.add a (mulS (k:Int).toNat n)) 0) vs
theorem elt_addr00 (b off k n:Nat):Addr.add (Addr.add ⟨b,off,none⟩ (mulS k n)) 0=⟨b,off + (k * n + 0),none⟩:=by
 rw [elt_addr0,add_off];rfl
theorem ReadsN.rngM {α:Type} {E:List α} {g:α→List Value} {S:World→Prop} (h:ReadsN n s (E.map g) S) {k:Nat} (hk:k<E.length) {F:Addr→Prop} (f:∀ a,s.a=some a→Elt n S a k (g E[k])→F a):Rng (k:Int) s.len (NilP s.a F):=by
 have hg:(E.map g)[k]'(by simpa using hk)=g E[k]:=by simp
 refine h.rng (k:=k) (by simpa using hk) fun b off ha hat=>f _ ha ⟨fun j vs hp=>?_,fun hp=>?_,fun hp=>?_⟩
 ·rw [Int.toNat_natCast,elt_addr];exact hat j _ (by rw [hg];exact hp)
 ·rw [Int.toNat_natCast,elt_addr0];exact hat 0 _ (by rw [hg];exact hp)
 ·rw [Int.toNat_natCast,elt_addr00];exact hat 0 _ (by rw [hg];exact hp)
theorem OwnN.readsM {rows:List (List Value)} (hw:Sat R Hs w) [t:Take (OwnN n s T rows) Hs Rest] {S:World→Prop} (hS:∀ w,S w→Sat R Hs w):ReadsN n s rows S:=
 OwnN.reads (hw.perm t.perm) fun w h=>(hS w h).perm t.perm
class Arr (Hs Hs':List HP):Prop where
 perm:Hs.Perm Hs'
instance (priority:=2000) Arr.refl {Hs:List HP}:Arr Hs Hs:=⟨List.Perm.refl _⟩
instance Arr.cons {A:HP} {Hs Rest Hs':List HP} [t:Take A Hs Rest] [r:Arr Rest Hs']:Arr Hs (A::Hs'):=⟨t.perm.trans (r.perm.cons A)⟩
theorem Sat.arr {Hs':List HP} (h:Sat R Hs w) [a:Arr Hs Hs']:Sat R Hs' w:=h.perm a.perm
theorem Br.d {p:Prop} {inst:Decidable p} {A B:Prop} (h:p→A) (h':¬ p→B):Br (@decide p inst) A B:=Br.mk (fun e=>h (of_decide_eq_true e)) (fun e=>h' (of_decide_eq_false e))
theorem Br.nd {p:Prop} {inst:Decidable p} {A B:Prop} (h:¬ p→A) (h':p→B):Br (!@decide p inst) A B:=Br.mk (fun e=>h (by simpa using e)) (fun e=>h' (by simpa using e))
theorem Br.e {x y:Int} {A B:Prop} (h:x=y→A) (h':¬ x=y→B):Br (x==y) A B:=Br.mk (fun e=>h (by simpa using e)) (fun e=>h' (by simpa using e))
theorem Br.ne {x y:Int} {A B:Prop} (h:¬ x=y→A) (h':x=y→B):Br (x !=y) A B:=Br.mk (fun e=>h (by simpa using e)) (fun e=>h' (by simpa using e))
theorem Br.nb {b:Bool} {A B:Prop} (h:b=false→A) (h':b=true→B):Br (!b) A B:=Br.mk (fun e=>h (by simpa using e)) (fun e=>h' (by simpa using e))
theorem str_eql (a b:ByteArray):(a.toList==b.toList)=decide (a=b):=by
 rw [ByteArray.toList_eq,ByteArray.toList_eq]
 by_cases h:a=b
 ·simp [h]
 ·have:a.data≠b.data:=fun h2=>h (by cases a;cases b;simp_all)
  simp [h,this]
theorem Br.sne {x y:ByteArray} {A B:Prop} (h:¬ x=y→A) (h':x=y→B):Br (!(x.toList==y.toList)) A B:=by rw [str_eql];exact Br.nd h h'
end Go.VC
/- Integers of other kinds: wrapping, bits, shifts, as the formulas ask for them. No condition but ranges. -/
namespace Go.VC
set_option linter.unusedVariables false
set_option linter.unusedSimpArgs false
theorem wrapU8 {x:Int} (h0:0≤x) (h1:x<256):IntKind.u8.wrap x=x:=by rw [IntKind.wrap_u8'];omega
theorem wrapU8m (x:Int):IntKind.u8.wrap x=x % 256:=IntKind.wrap_u8' x
theorem wrapU64 {x:Int} (h0:0≤x) (h1:x<18446744073709551616):IntKind.u64.wrap x=x:=by rw [IntKind.wrap_u64];omega
theorem bv_toNat (n x:Nat) (h:x<2 ^ n):(BitVec.ofInt n (x:Int)).toNat=x:=by
 rw [BitVec.toNat_ofInt]
 have:((x:Int) % (2 ^ n:Nat))=x:=Int.emod_eq_of_lt (by omega) (by exact_mod_cast h)
 rw [this];rfl
theorem orU64 {x y:Nat} (hx:x<18446744073709551616) (hy:y<18446744073709551616):bitI .or .u64 x y=((x|||y:Nat):Int):=by
 have e:(BitVec.ofInt 64 (x:Int)|||BitVec.ofInt 64 (y:Int)).toNat=x|||y:=by rw [BitVec.toNat_or,bv_toNat 64 x hx,bv_toNat 64 y hy]
 show IntKind.u64.wrap (((BitVec.ofInt 64 (x:Int)|||BitVec.ofInt 64 (y:Int)).toNat:Nat):Int)=_
 rw [e]
 have:x|||y<18446744073709551616:=Nat.or_lt_two_pow (n:=64) hx hy
 exact wrapU64 (by omega) (by omega)
theorem andU64 {x y:Nat} (hx:x<18446744073709551616) (hy:y<18446744073709551616):bitI .and .u64 x y=((x &&& y:Nat):Int):=by
 have e:(BitVec.ofInt 64 (x:Int) &&& BitVec.ofInt 64 (y:Int)).toNat=x &&& y:=by rw [BitVec.toNat_and,bv_toNat 64 x hx,bv_toNat 64 y hy]
 show IntKind.u64.wrap (((BitVec.ofInt 64 (x:Int) &&& BitVec.ofInt 64 (y:Int)).toNat:Nat):Int)=_
 rw [e]
 have:x &&& y<18446744073709551616:=Nat.and_lt_two_pow (n:=64) x hy
 exact wrapU64 (by omega) (by omega)
theorem or_byte (x y:Nat) (hy:y<256):x * 256|||y=x * 256 + y:=by
 have:=Nat.two_pow_add_eq_or_of_lt (i:=8) (b:=y) (by omega) x
 rw [Nat.mul_comm] at this
 exact this.symm
end Go.VC
/- SL, part 11: slices that are only read, as memory of one's own: lent, cut, given back. No condition. -/
namespace Go.VC
set_option linter.unusedVariables false
set_option linter.unusedSimpArgs false
variable {P:Program} {R:Cx} {Hs Rest:List HP} {w:World} {s:Sl}
structure SlR (h:Heap) (s:Sl) (xs:List Value):Prop where
 len:s.len=xs.length
 cap:s.len≤s.cap
 mem:xs≠[]→∃ b off l T fr,s.a=some ⟨b,off,none⟩∧h b=some (.cells l T fr)∧∀ (i:Nat) v,xs[i]? =some v→l[off + i]? =some v
def Reads (s:Sl) (xs:List Value):HP:=fun h=>SlR h s xs
theorem SlR.addR {h h':Heap} {xs:List Value} (hd:h'.dis h) (a:SlR h s xs):SlR (h'.add h) s xs:=
 ⟨a.len,a.cap,fun hx=>let ⟨b,off,l,T,fr,ha,hb,hl⟩:=a.mem hx;⟨b,off,l,T,fr,ha,by
  simp only [Heap.add,hd b (by rw [hb];simp)];exact hb,hl⟩⟩
theorem SlR.ro {xs:List Value} (a:SlR R.m s xs) (hb:xs.length≤9223372036854775807):Ro R s xs:=
 ⟨a.len,hb,a.mem⟩
theorem SlR.take {h:Heap} {xs:List Value} (a:SlR h s xs) {k:Nat} (hk:k≤xs.length):SlR h ⟨s.a,k,s.cap⟩ (xs.take k):=
 ⟨by simp;omega,by have:=a.len;have:=a.cap;simp only;omega,fun hx=>by
  obtain ⟨b,off,l,T,fr,ha,hb,hl⟩:=a.mem (fun h0=>hx (by rw [h0];simp))
  refine ⟨b,off,l,T,fr,ha,hb,fun i v hv=>hl i v ?_⟩
  rw [List.getElem?_take] at hv
  split at hv
  ·exact hv
  ·cases hv⟩
theorem SlR.drop {h:Heap} {xs:List Value} (a:SlR h s xs) {k:Nat} (hk:k≤xs.length):SlR h ⟨cutA s.a k s.cap 1,s.len - k,s.cap - k⟩ (xs.drop k):=by
 have hlen:=a.len
 have hcap:=a.cap
 refine ⟨by simp;omega,by simp only;omega,fun hx=>?_⟩
 obtain ⟨b,off,l,T,fr,ha,hb,hl⟩:=a.mem (fun h0=>hx (by rw [h0];simp))
 have hlt:0<(xs.drop k).length:=List.length_pos_iff.2 hx
 rw [List.length_drop] at hlt
 refine ⟨b,off + k,l,T,fr,?_,hb,fun i v hv=>?_⟩
 ·unfold cutA
  rw [if_neg (by omega),ha]
  simp [add_off]
 ·rw [List.getElem?_drop] at hv
  rw [Nat.add_assoc]
  exact hl _ _ hv
theorem Reads.lend {xs:List Value} (h:Sat R (Reads s xs::Hs) w):∃ x:Heap,R.dis x∧SlR (R.add x).m s xs∧Sat (R.add x) Hs w∧SlR x s xs:=by
 obtain ⟨x,hx,hd,hs⟩:=h
 exact ⟨x,hd,SlR.addR hd hx,hs,hx⟩
theorem Reads.back {xs:List Value} {x:Heap} (hd:R.dis x) (hx:SlR x s xs) (h:Sat (R.add x) Hs w):Sat R (Reads s xs::Hs) w:=⟨x,hx,hd,h⟩
theorem Own.reads {T:TypeId} {xs:List Value} (h:Sat R (Own s T xs::Hs) w):Sat R (Reads s xs::Hs) w:=by
 rcases Own.cases h with ⟨rfl,rfl,h2⟩|⟨b,rest,fr,rfl,hf,h2⟩
 ·exact ⟨Heap.none,⟨rfl,Nat.le_refl _,fun h=>absurd rfl h⟩,fun i hi=>absurd rfl hi,by rw [Cx.add_none];exact h2⟩
 ·obtain ⟨a,ha,hd,hs⟩:=h2
  refine ⟨a,⟨rfl,by simp,fun _=>⟨b,0,(xs++rest).toArray,T,fr,rfl,by rw [ha];simp [Heap.one],fun i v hv=>?_⟩⟩,hd,hs⟩
  obtain ⟨hi,rfl⟩:=List.getElem?_eq_some_iff.1 hv
  simp [List.getElem?_append_left hi]
theorem SlR.idxK {kd:IntKind} {xs:List Int} {S:World→Prop} (hr:SlR R.m s (xs.map (Value.int kd))) (hS:∀ w,S w→Sat R Hs w) {k:Nat} (hk:k<xs.length) {F:Int→Prop} (h:F xs[k]):
  Rng (k:Int) s.len (NilP s.a fun a=>∃ t:Int,(At S (a.add (k:Int).toNat) [.int kd t])∧F t):=by
 have hl:s.len=xs.length:=by have:=hr.len;simpa using this
 obtain ⟨b,off,l,T,fr,ha,hb,hel⟩:=hr.mem (by intro h0;rw [List.map_eq_nil_iff] at h0;rw [h0] at hk;simp at hk)
 refine Rng.mk (by omega) (by omega) (NilP.mk ha ⟨xs[k],fun w hw i v hv=>?_,h⟩)
 have hi:i=0:=by
  cases i with
  |zero=>rfl
  |succ i=>simp at hv
 subst hi
 simp only [List.getElem?_cons_zero,Option.some.injEq] at hv
 subst hv
 rw [Int.toNat_natCast,add_off,add_off]
 have:=(hS w hw).of_ro hb
 simp only [World.cell?,this,Option.isSome_none,Bool.false_eq_true,if_false]
 exact hel k _ (by simp [hk])
end Go.VC
/- Slices of bytes: Clone. No condition. -/
namespace Go.Proofs.YtflgboncpbmikaaGreatDoor
set_option linter.unusedVariables false
set_option linter.unusedSimpArgs false
open Go Go.VC
variable {R:Cx} {Hs Rest:List HP} {w:World}
theorem _root_.Go.VC.Sat.re {A:HP} (B:HP) (h:Sat R (A::Hs) w) (e:A=B:=by rfl):Sat R (B::Hs) w:=e ▸ h
abbrev b8 (l:List Int):List Value:=l.map (Value.int .u8)
theorem elB8:El Tryz.prog 22 22 5 1:=⟨Tryz.underlying22,⟨_,Tryz.underlying22⟩,by kernel_rfl⟩
theorem one_b8 (xs:List Int):oneAll (b8 xs)=true:=by unfold oneAll;simp [Value.oneCell']
theorem clone_spec {s:Sl} {xs:List Int} (hs:Ro R s (b8 xs)) (hl:xs.length≤1099511627776) (hw:Sat R Hs w):
  Gets Tryz.prog 29 #[.slice s.a s.len s.cap] w fun r w'=>∃ t:Sl,r=.slice t.a t.len t.cap∧Sat R (Own t 5 (b8 xs)::Hs) w':=by
 apply call29
 refine Br.mk (fun h=>?_) (fun h=>?_)
 ·have hx:xs=[]:=by
   by_cases hx:b8 xs=[]
   ·simpa using hx
   ·obtain ⟨b,off,_,_,_,ha,_⟩:=hs.mem hx
    rw [ha] at h;cases h
  subst hx
  exact ⟨⟨none,0,0⟩,rfl,Own.nil hw⟩
 ·refine new_rule hw fun b w hw=>?_
  have h0:Sat R (Own ⟨some ⟨b,0,none⟩,0,0⟩ 5 []::Hs) w:=Own.of_pts (xs:=[]) (rest:=[]) hw
  have hsrc:Src Tryz.prog 1 22 (.slice s.a s.len s.cap) xs.length (b8 xs) w:=by
   have:=srcRo Tryz.underlying22 h0 hs (one_b8 xs)
   simpa using this
  have:=append_rule (ty:=22) (K:=fun t w'=>∃ u:Sl,Value.slice t.a t.len t.cap=.slice u.a u.len u.cap∧Sat R (Own u 5 (b8 xs)::Hs) w') elB8 h0 hsrc rfl (by simp;omega) (by simp;omega) fun t w hw=>⟨t,rfl,by simpa using hw⟩
  exact this
end Go.Proofs.YtflgboncpbmikaaGreatDoor
/- Codes of numbers and of bytes, plain. No program. No condition. -/
namespace Go.VC
set_option linter.unusedVariables false
set_option linter.unusedSimpArgs false
def dig (n:Nat):List Int:=if h:n=0 then [] else dig (n / 256)++[((n % 256:Nat):Int)]
termination_by n
decreasing_by omega
theorem dig_zero:dig 0=[]:=by unfold dig;simp
theorem dig_pos {n:Nat} (h:n≠0):dig n=dig (n / 256)++[((n % 256:Nat):Int)]:=by
 conv=>lhs;unfold dig
 rw [dif_neg h]
def valI (acc:Int) (l:List Int):Int:=l.foldl (fun a b=>a * 256 + b) acc
theorem valI_cons (acc b:Int) (l:List Int):valI acc (b::l)=valI (acc * 256 + b) l:=rfl
theorem valI_app (acc:Int) (a b:List Int):valI acc (a++b)=valI (valI acc a) b:=List.foldl_append
theorem valI_snoc (acc:Int) (a:List Int) (b:Int):valI acc (a++[b])=valI acc a * 256 + b:=by rw [valI_app];rfl
theorem valI_nn:∀ {l:List Int} {acc:Int},0≤acc→(∀ x∈l,0≤x∧x<256)→0≤valI acc l
 |[],_,h,_=>h
 |b::l,acc,h,hb=>by
  rw [valI_cons]
  have:=hb b List.mem_cons_self
  exact valI_nn (by omega) fun x hx=>hb x (List.mem_cons_of_mem _ hx)
theorem valI_lt:∀ {l:List Int} {acc:Int},0≤acc→(∀ x∈l,0≤x∧x<256)→valI acc l<(acc + 1) * 256 ^ l.length
 |[],acc,h,_=>by simp [valI];omega
 |b::l,acc,h,hb=>by
  rw [valI_cons]
  have h1:=hb b List.mem_cons_self
  have:=valI_lt (l:=l) (acc:=acc * 256 + b) (by omega) fun x hx=>hb x (List.mem_cons_of_mem _ hx)
  refine Int.lt_of_lt_of_le this ?_
  rw [List.length_cons,Int.pow_succ,Int.mul_comm (256 ^ l.length) 256,←Int.mul_assoc]
  exact Int.mul_le_mul_of_nonneg_right (by omega) (Int.le_of_lt (Int.pow_pos (by decide)))
theorem dig_val (n:Nat):valI 0 (dig n)=n:=by
 induction n using Nat.strongRecOn with
 |ind n ih=>
  by_cases h:n=0
  ·subst h;rw [dig_zero];rfl
  ·rw [dig_pos h,valI_snoc,ih (n / 256) (by omega)];omega
theorem dig_bd (n:Nat):∀ x∈dig n,0≤x∧x<256:=by
 induction n using Nat.strongRecOn with
 |ind n ih=>
  by_cases h:n=0
  ·subst h;rw [dig_zero];intro x hx;cases hx
  ·rw [dig_pos h]
   intro x hx
   rcases List.mem_append.1 hx with hx|hx
   ·exact ih (n / 256) (by omega) x hx
   ·simp at hx;omega
theorem dig_head (n:Nat):∀ x l,dig n=x::l→x≠0:=by
 induction n using Nat.strongRecOn with
 |ind n ih=>
  intro x l hx
  by_cases h:n=0
  ·subst h;rw [dig_zero] at hx;cases hx
  ·rw [dig_pos h] at hx
   by_cases h2:n / 256=0
   ·rw [h2,dig_zero] at hx
    simp at hx
    omega
   ·cases hd:dig (n / 256) with
    |nil=>rw [dig_pos h2] at hd;simp at hd
    |cons y l'=>
     rw [hd] at hx
     simp at hx
     obtain ⟨rfl,_⟩:=hx
     exact ih (n / 256) (by omega) _ _ hd
theorem dig_len_le:∀ (k n:Nat),n<256 ^ k→(dig n).length≤k
 |0,n,h=>by
  have:n=0:=by simpa using h
  subst this;rw [dig_zero];simp
 |k + 1,n,h=>by
  by_cases h0:n=0
  ·subst h0;rw [dig_zero];simp
  ·rw [dig_pos h0,List.length_append]
   have:=dig_len_le k (n / 256) (by rw [Nat.pow_succ] at h;exact Nat.div_lt_of_lt_mul (by rwa [Nat.mul_comm] at h))
   simp;omega
theorem dig_len8 {n:Nat} (h:n<18446744073709551616):(dig n).length≤8:=dig_len_le 8 n (by simpa using h)
theorem dig_width (n:Nat) (h:n<18446744073709551616):(Lib.bitLen n + 7) / 8=(dig n).length:=by
 induction n using Nat.strongRecOn with
 |ind n ih=>
  by_cases h0:n=0
  ·subst h0;rw [dig_zero];decide
  ·rw [dig_pos h0,List.length_append]
   by_cases h1:256≤n
   ·rw [Lib.bitLen_shift8 n h1 h,←ih (n / 256) (by omega) (by omega)]
    simp;omega
   ·have e:n / 256=0:=by omega
    rw [e,dig_zero]
    have h2:∀ m:Fin 256,m.val≠0→(Lib.bitLen m.val + 7) / 8=1:=by decide +kernel
    simpa using h2 ⟨n,by omega⟩ h0
theorem dig_drop:∀ (k n:Nat),k≤(dig n).length→(dig n).take ((dig n).length - k)=dig (n / 256 ^ k)
 |0,n,_=>by simp
 |k + 1,n,h=>by
  by_cases h0:n=0
  ·subst h0;rw [dig_zero] at h;simp at h
  ·rw [dig_pos h0] at h ⊢
   rw [List.length_append] at h ⊢
   simp only [List.length_cons,List.length_nil] at h ⊢
   have e:(dig (n / 256)).length + (0 + 1) - (k + 1)=(dig (n / 256)).length - k:=by omega
   rw [e,List.take_append_of_le_length (by omega),dig_drop k (n / 256) (by omega),Nat.div_div_eq_div_mul,Nat.pow_succ,Nat.mul_comm 256]
theorem dig_get {n k:Nat} (h:k<(dig n).length):(dig n)[(dig n).length - 1 - k]'(by omega)=((n / 256 ^ k % 256:Nat):Int):=by
 have h1:=dig_drop k n (by omega)
 have hn:n / 256 ^ k≠0:=by
  intro h0
  rw [h0,dig_zero] at h1
  have:=congrArg List.length h1
  simp at this;omega
 rw [dig_pos hn] at h1
 have h2:((dig n).take ((dig n).length - k)).getLast? =some ((n / 256 ^ k % 256:Nat):Int):=by rw [h1];simp
 rw [List.getLast?_eq_getElem?,List.length_take,Nat.min_eq_left (by omega),List.getElem?_take] at h2
 split at h2
 ·rw [List.getElem?_eq_some_iff] at h2
  obtain ⟨h3,h4⟩:=h2
  have e:(dig n).length - 1 - k=(dig n).length - k - 1:=by omega
  simp only [e]
  exact h4
 ·cases h2
def numB (n:Nat):List Int:=((dig n).length:Int)::dig n
def textB (b:List Int):List Int:=numB b.length++b
theorem numB_bd {n:Nat} (h:n<18446744073709551616):∀ x∈numB n,0≤x∧x<256:=by
 intro x hx
 rcases List.mem_cons.1 hx with rfl|hx
 ·have:=dig_len8 h;omega
 ·exact dig_bd n x hx
theorem numB_len {n:Nat} (h:n<18446744073709551616):(numB n).length≤9:=by
 have:=dig_len8 h;unfold numB;simp;omega
def parse (l:List Int):Option (Int × Bool × Nat):=
 match l with
 |[]=>none
 |k::rest=>
  let neg:=decide (16≤k)
  let w:=(if 16≤k then k - 16 else k).toNat
  if k<32∧w≤8∧w≤rest.length∧(w=0→k=0)∧(w≠0→rest.head?≠some 0) then some (valI 0 (rest.take w),neg,w + 1) else none
theorem parse_num {n:Nat} (h:n<18446744073709551616) (rest:List Int):parse (numB n++rest)=some ((n:Int),false,(numB n).length):=by
 have h8:=dig_len8 h
 unfold parse numB
 simp only [List.cons_append]
 have e1:¬ (16:Int)≤((dig n).length:Int):=by omega
 rw [if_neg e1]
 rw [if_pos]
 ·simp only [Int.toNat_natCast,List.take_left',dig_val,List.length_cons,Option.some.injEq,Prod.mk.injEq,and_true,true_and]
  simpa using e1
 ·refine ⟨by omega,by omega,by simp,fun h0=>by omega,fun h0=>?_⟩
  simp only [Int.toNat_natCast] at h0
  cases hd:dig n with
  |nil=>rw [hd] at h0;simp at h0
  |cons x l=>
   have:=dig_head n x l hd
   simp;exact this
theorem parse_bd {l:List Int} {n:Int} {neg:Bool} {k:Nat} (hb:∀ x∈l,0≤x∧x<256) (h:parse l=some (n,neg,k)):0≤n∧n<18446744073709551616∧1≤k∧k≤9∧k≤l.length:=by
 unfold parse at h
 split at h
 ·cases h
 ·rename_i c rest
  simp only at h
  generalize hw:(if 16≤c then c - 16 else c).toNat=w at h
  split at h
  ·rename_i hc
   obtain ⟨_,h8,hr,_,_⟩:=hc
   simp only [Option.some.injEq,Prod.mk.injEq] at h
   obtain ⟨rfl,_,rfl⟩:=h
   have hb2:∀ x∈rest.take w,0≤x∧x<256:=fun x hx=>hb x (List.mem_cons_of_mem _ (List.mem_of_mem_take hx))
   refine ⟨valI_nn (Int.le_refl _) hb2,?_,by omega,by omega,by simp;omega⟩
   refine Int.lt_of_lt_of_le (valI_lt (Int.le_refl _) hb2) ?_
   rw [List.length_take,Nat.min_eq_left hr,Int.zero_add,Int.one_mul]
   have h9:256 ^ w≤256 ^ 8:=Nat.pow_le_pow_right (by omega) h8
   have:((256 ^ w:Nat):Int)≤((256 ^ 8:Nat):Int):=Int.ofNat_le.2 h9
   rw [Int.natCast_pow] at this
   exact Int.le_trans this (by decide)
  ·cases h
structure Rd where
 bs:List Int
 bad:Bool
def rdNum (most:Int) (r:Rd):Int × Rd:=
 if r.bad then (0,r) else match parse r.bs with
 |some (n,neg,k)=>if neg=false∧n≤most then (n,⟨r.bs.drop k,false⟩) else (0,⟨r.bs,true⟩)
 |none=>(0,⟨r.bs,true⟩)
def rdText (most:Int) (r:Rd):List Int × Rd:=
 if r.bad then ([],r) else match parse r.bs with
 |some (n,neg,k)=>if neg=false∧0≤most∧n≤most∧n≤((r.bs.length:Int) - k) then (((r.bs.drop k).take n.toNat),⟨r.bs.drop (k + n.toNat),false⟩) else ([],⟨r.bs,true⟩)
 |none=>([],⟨r.bs,true⟩)
def rdWhole (r:Rd):Bool:=!r.bad && decide (r.bs.length=0)
end Go.VC
/- Package field: numbers and bytes as bytes. Condition: bounds on lengths. -/
namespace Go.Proofs.YtflgboncpbmikaaGreatDoor
set_option linter.unusedVariables false
set_option linter.unusedSimpArgs false
open Go Go.VC
variable {R:Cx} {Hs Rest:List HP} {w:World}
theorem _root_.Go.VC.SlR.mono {h h':Heap} {s:Sl} {xs:List Value} (hs:∀ b o,h b=some o→h' b=some o) (a:SlR h s xs):SlR h' s xs:=
 ⟨a.len,a.cap,fun hx=>let ⟨b,off,l,T,fr,ha,hb,hl⟩:=a.mem hx;⟨b,off,l,T,fr,ha,hs _ _ hb,hl⟩⟩
abbrev amissP:List PanicEntry:=[⟨.iface 128 (.agg #[]),false,false⟩]
theorem must_c {b:Bool} {Q:Ending→World→Prop} (h1:b=true→Q (.returned (.tuple #[])) w) (h2:b=false→Q (.panicked amissP) w):Calls Tryz.prog 40 #[.bool b] w Q:=by
 have h:GetsX Tryz.prog 40 #[.bool b] w (fun ch w'=>b=false∧ch=amissP∧w'=w) (fun v w'=>b=true∧v=.tuple #[]∧w'=w):=by
  apply call40
  refine Br.nb (fun h=>?_) (fun h=>?_)
  ·exact ⟨h,rfl,rfl⟩
  ·exact ⟨h,rfl,rfl⟩
 refine h.use ?_ ?_
 ·rintro v w' ⟨hb,rfl,e⟩;rw [e];exact h1 hb
 ·rintro v w' ⟨hb,rfl,e⟩;rw [e];exact h2 hb
abbrev lp (l:Nat) (s:Sl):HP:=pts l (.cells [.slice s.a s.len s.cap].toArray 22 (0,0))
abbrev sdrop (s:Sl) (k:Nat):Sl:=⟨cutA s.a k s.cap 1,s.len - k,s.cap - k⟩
theorem take_spec {l:Nat} {s:Sl} {xs:List Value} {k:Nat} (hr:SlR R.m s xs) (hw:Sat R (lp l s::Hs) w):
  GetsX Tryz.prog 41 #[.pointer (some ⟨l,0,none⟩),.int .i64 k] w
   (fun ch w'=>xs.length<k∧ch=amissP∧Sat R (lp l s::Hs) w')
   (fun v w'=>k≤xs.length∧v=.slice s.a k s.cap∧Sat R (lp l (sdrop s k)::Hs) w'):=by
 have hlen:=hr.len
 have hcap:=hr.cap
 apply call41
 refine NilP.mk rfl ⟨s,At.own (eqS hw) (by exact ⟨rfl,trivial⟩),must_c (fun h=>.inl ⟨rfl,?_⟩) (fun h=>.inr ⟨_,rfl,?_⟩)⟩
 ·have h:=of_decide_eq_true h
  refine NilP.mk rfl ⟨s,At.own (eqS hw) (by exact ⟨rfl,trivial⟩),by omega,by omega,NilP.mk rfl ⟨s,At.own (eqS hw) (by exact ⟨rfl,trivial⟩),by omega,by omega,NilP.mk rfl ?_⟩⟩
  rw [Int.toNat_natCast]
  refine store_rule hw (by kernel_rfl) rfl (by simp [Value.cells]) fun w hw=>?_
  exact ⟨by omega,rfl,hw⟩
 ·have h:=of_decide_eq_false h
  exact ⟨by omega,rfl,hw⟩
theorem andn32:∀ c:Fin 32,bitI .andNot .u8 ((c.1:Nat):Int) 16=if 16≤((c.1:Nat):Int) then ((c.1:Nat):Int) - 16 else ((c.1:Nat):Int):=by decide +kernel
theorem andn {c:Int} (h0:0≤c) (h1:c<32):IntKind.i64.wrap (bitI .andNot .u8 c 16)=if 16≤c then c - 16 else c:=by
 obtain ⟨n,rfl⟩:=Int.eq_ofNat_of_zero_le h0
 have:=andn32 ⟨n,by omega⟩
 simp only at this
 rw [this]
 split<;>exact wrap64 (by omega) (by omega)
theorem shl8_or {n t:Int} (h0:0≤n) (h1:n<72057594037927936) (t0:0≤t) (t1:t<256):bitI .or .u64 (shlI .u64 n 8) (IntKind.u64.wrap t)=n * 256 + t:=by
 have e:shlI .u64 n 8=n * 256:=by
  show IntKind.u64.wrap (n * 2 ^ 8)=_
  rw [wrapU64 (by omega) (by omega)];omega
 rw [e,wrapU64 t0 (by omega)]
 obtain ⟨a,rfl⟩:=Int.eq_ofNat_of_zero_le h0
 obtain ⟨b,rfl⟩:=Int.eq_ofNat_of_zero_le t0
 have:=orU64 (x:=a * 256) (y:=b) (by omega) (by omega)
 rw [or_byte a b (by omega)] at this
 rw [show ((a * 256:Nat):Int)=(a:Int) * 256 from Int.natCast_mul a 256] at this
 rw [this]
 exact (Int.natCast_add (a * 256) b).trans (by rw [Int.natCast_mul];rfl)
abbrev widN (c:Int):Nat:=(if 16≤c then c - 16 else c).toNat
theorem fsize_spec {h:Heap} {l:Nat} {s:Sl} {bs:List Int} (hb:∀ x∈bs,0≤x∧x<256) (hsub:∀ b o,h b=some o→R.m b=some o) (hr0:SlR h s (b8 bs)) (hw:Sat R (lp l s::Hs) w):
  GetsX Tryz.prog 39 #[.pointer (some ⟨l,0,none⟩)] w
   (fun ch w'=>parse bs=none∧ch=amissP∧∃ s',Sat R (lp l s'::Hs) w')
   (fun v w'=>∃ n neg k s',parse bs=some (n,neg,k)∧v=.tuple #[.int .u64 n,.bool neg]∧SlR h s' (b8 (bs.drop k))∧Sat R (lp l s'::Hs) w'):=by
 have hr:SlR R.m s (b8 bs):=hr0.mono hsub
 apply call39
 refine (take_spec (k:=1) hr hw).use ?_ ?_
 rotate_left
 ·rintro _ w ⟨h,rfl,hw⟩
  refine .inr ⟨_,rfl,?_,rfl,s,hw⟩
  cases bs with
  |nil=>rfl
  |cons=>simp at h
 rintro _ w ⟨hlen,rfl,hw⟩
 cases bs with
 |nil=>simp at hlen
 |cons c rest=>
 have hc:=hb c List.mem_cons_self
 have hbr:∀ x∈rest,0≤x∧x<256:=fun x hx=>hb x (List.mem_cons_of_mem _ hx)
 refine .inl ⟨⟨s.a,1,s.cap⟩,rfl,?_⟩
 have hr1:SlR R.m ⟨s.a,1,s.cap⟩ (b8 [c]):=hr.take (k:=1) hlen
 have hrd:SlR R.m (sdrop s 1) (b8 rest):=hr.drop (k:=1) hlen
 have:=SlR.idxK (Hs:=lp l (sdrop s 1)::Hs) (S:=fun w'=>w'=w) hr1 (eqS hw) (k:=0) (by simp) (F:=fun t=>t=c) rfl
 obtain ⟨h0,h1,this⟩:=this.out
 obtain ⟨a,ha,t,hat,rfl⟩:=this.out
 refine Rng.mk h0 h1 (NilP.mk ha ⟨t,hat,?_⟩)
 have hsnone:∀ {p:Prop},¬ p→True:=fun _=>trivial
 refine ⟨fun w=>(t<32∧widN t≤8∧(widN t=0→t=0))∧Sat R (lp l (sdrop s 1)::Hs) w,?_,?_⟩
 ·have bad:(t<32∧widN t≤8∧widN t≤rest.length∧(widN t=0→t=0)∧(widN t≠0→rest.head?≠some 0)→False)→parse (t::rest)=none:=fun h=>by
   unfold parse;simp only;rw [if_neg h]
  refine Br.d (fun h=>?_) (fun h=>?_)
  ·rw [andn hc.1 h]
   refine Br.d (fun h2=>?_) (fun h2=>?_)
   ·refine Br.d (fun h3=>?_) (fun h3=>?_)
    ·exact must_c (fun _=>.inl ⟨rfl,⟨h,by unfold widN;omega,fun h4=>by unfold widN at h4;omega⟩,hw⟩) (fun h=>by cases h)
    ·refine must_c (fun h4=>.inl ⟨rfl,⟨h,by unfold widN;omega,fun h5=>?_⟩,hw⟩) (fun h4=>.inr ⟨_,rfl,bad ?_,rfl,_,hw⟩)
     ·simp only [ge_iff_le,Bool.not_eq_true',decide_eq_false_iff_not] at h4
      rw [if_neg h4] at h3;omega
     ·simp only [ge_iff_le,Bool.not_eq_false',decide_eq_true_eq] at h4
      rintro ⟨_,_,_,h5,_⟩
      rw [if_pos h4] at h3
      have:=h5 (by unfold widN;rw [if_pos h4];omega)
      omega
   ·exact must_c (fun h=>by cases h) (fun _=>.inr ⟨_,rfl,bad (by rintro ⟨_,h3,_⟩;unfold widN at h3;omega),rfl,_,hw⟩)
  ·exact must_c (fun h=>by cases h) (fun _=>.inr ⟨_,rfl,bad (by rintro ⟨h3,_⟩;exact h h3),rfl,_,hw⟩)
 clear hat ha h0 h1
 rintro _ w ⟨⟨h32,h8,hz⟩,hw⟩
 rw [andn hc.1 h32]
 have hwid:(if 16≤t then t - 16 else t)=((widN t:Nat):Int):=by
  unfold widN;rw [Int.toNat_of_nonneg];split<;>omega
 rw [hwid]
 generalize hW:widN t=W at *
 refine (take_spec (k:=W) hrd hw).use ?_ ?_
 rotate_left
 ·rintro _ w ⟨h,rfl,hw⟩
  refine .inr ⟨_,rfl,?_,rfl,_,hw⟩
  unfold parse;simp only;rw [if_neg]
  rintro ⟨_,_,h3,_⟩
  have:widN t≤rest.length:=h3
  simp at h;omega
 rintro _ w ⟨hl,rfl,hw⟩
 have hl:W≤rest.length:=by simpa using hl
 have hrt:SlR R.m ⟨(sdrop s 1).a,W,(sdrop s 1).cap⟩ (b8 (rest.take W)):=by have:=hrd.take (k:=W) (by simpa using hl);rwa [←List.map_take] at this
 have hlt:(rest.take W).length=W:=by simp;omega
 refine .inl ⟨⟨(sdrop s 1).a,W,(sdrop s 1).cap⟩,rfl,?_⟩
 refine ⟨fun n i w=>∃ k:Nat,i=k∧k≤W∧n=valI 0 (rest.take k)∧(k≠0→rest.head?≠some 0)∧Sat R (lp l (sdrop (sdrop s 1) W)::Hs) w,fun _ i _=>W - i.toNat,⟨0,rfl,Nat.zero_le _,rfl,fun h=>absurd rfl h,hw⟩,?_⟩
 rintro _ _ _ w ⟨k,rfl,hk,rfl,hh,hw⟩
 refine Br.d (fun h=>?_) (fun h=>?_)
 ·have hk2:k<W:=by have:((k:Nat):Int)<(W:Int):=h;omega
  have hkr:k<rest.length:=by omega
  have:=SlR.idxK (Hs:=lp l (sdrop (sdrop s 1) W)::Hs) (S:=fun w'=>w'=w) hrt (eqS hw) (k:=k) (by omega) (F:=fun t=>t=rest[k]) (by simp)
  obtain ⟨h0,h1,this⟩:=this.out
  obtain ⟨a,ha,x,hat,rfl⟩:=this.out
  refine Rng.mk h0 h1 (NilP.mk ha ⟨_,hat,?_⟩)
  have hx:=hbr rest[k] (List.getElem_mem _)
  have hvb:∀ x∈rest.take k,0≤x∧x<256:=fun x hx=>hbr x (List.mem_of_mem_take hx)
  have hv0:=valI_nn (acc:=0) (Int.le_refl _) hvb
  have hv1:valI 0 (rest.take k)<72057594037927936:=by
   refine Int.lt_of_lt_of_le (valI_lt (Int.le_refl _) hvb) ?_
   rw [List.length_take,Nat.min_eq_left (by omega),Int.zero_add,Int.one_mul]
   have h9:256 ^ k≤256 ^ 7:=Nat.pow_le_pow_right (by omega) (by omega)
   have:((256 ^ k:Nat):Int)≤((256 ^ 7:Nat):Int):=Int.ofNat_le.2 h9
   rw [Int.natCast_pow] at this
   exact Int.le_trans this (by decide)
  have hstep:∀ w,(rest.head?≠some 0)→Sat R (lp l (sdrop (sdrop s 1) W)::Hs) w→
    (∃ k':Nat,IntKind.i64.wrap ((k:Int) + 1)=k'∧k'≤W∧bitI .or .u64 (shlI .u64 (valI 0 (rest.take k)) 8) (IntKind.u64.wrap rest[k])=valI 0 (rest.take k')∧(k'≠0→rest.head?≠some 0)∧Sat R (lp l (sdrop (sdrop s 1) W)::Hs) w)∧W - (IntKind.i64.wrap ((k:Int) + 1)).toNat<W - (k:Int).toNat:=fun w h1 hw=>by
   rw [wrap64 (by omega) (by omega)]
   refine ⟨⟨k + 1,by omega,by omega,?_,fun _=>h1,hw⟩,by omega⟩
   rw [shl8_or hv0 hv1 hx.1 hx.2,List.take_succ_eq_append_getElem hkr,valI_snoc]
  refine Br.d (fun h3=>?_) (fun h3=>?_)
  ·exact must_c (fun _=>.inl ⟨rfl,hstep _ (hh (by omega)) hw⟩) (fun h=>by cases h)
  ·have hk0:k=0:=by omega
   subst hk0
   have hhead:rest.head? =some rest[0]:=by rw [List.head?_eq_getElem?,List.getElem?_eq_getElem hkr]
   refine must_c (fun h4=>.inl ⟨rfl,hstep _ ?_ hw⟩) (fun h4=>.inr ⟨_,rfl,?_,rfl,_,hw⟩)
   ·have h4:=of_decide_eq_true h4
    rw [hhead];intro h5;simp only [Option.some.injEq] at h5;omega
   ·have h4:=of_decide_eq_false h4
    unfold parse;simp only;rw [if_neg]
    rintro ⟨_,_,_,_,h5⟩
    have h6:widN t≠0:=by omega
    refine h5 h6 ?_
    rw [hhead];congr 1;omega
 ·have hkW:k=W:=by have:¬ ((k:Nat):Int)<(W:Int):=h;omega
  subst hkW
  refine ⟨valI 0 (rest.take k),decide (t ≥ 16),k + 1,sdrop (sdrop s 1) k,?_,rfl,?_,?_⟩
  ·unfold parse;simp only
   have e:(if 16≤t then t - 16 else t).toNat=k:=hW
   rw [e,if_pos ⟨h32,h8,hl,hz,hh⟩]
  ·have:=(hr0.drop (k:=1) hlen).drop (k:=k) (by simpa using hl)
   simpa using this
  ·exact hw
end Go.Proofs.YtflgboncpbmikaaGreatDoor
/- Package field: Number; reading in general. Condition: none. -/
namespace Go.Proofs.YtflgboncpbmikaaGreatDoor
set_option linter.unusedVariables false
set_option linter.unusedSimpArgs false
open Go Go.VC
variable {R:Cx} {Hs Rest:List HP} {w:World}
theorem shr_nat (n k:Nat) (hk:k≤64):shrI .u64 (n:Int) (k:Int)=((n / 2 ^ k:Nat):Int):=by
 have e:min ((k:Int).toNat) IntKind.u64.bits=k:=by rw [Int.toNat_natCast];exact Nat.min_eq_left hk
 unfold shrI
 rw [e,Int.fdiv_eq_ediv_of_nonneg _ (by exact Int.le_of_lt (Int.pow_pos (by decide)))]
 rw [show ((2:Int) ^ k)=((2 ^ k:Nat):Int) from (Int.natCast_pow 2 k).symm]
 exact (Int.natCast_ediv n (2 ^ k)).symm
theorem shr32 (n:Nat):shrI .u64 (n:Int) 32=((n / 4294967296:Nat):Int):=shr_nat n 32 (by omega)
theorem shr16 (n:Nat):shrI .u64 (n:Int) 16=((n / 65536:Nat):Int):=shr_nat n 16 (by omega)
theorem shr8 (n:Nat):shrI .u64 (n:Int) 8=((n / 256:Nat):Int):=shr_nat n 8 (by omega)
theorem len64_spec {n:Nat} (hn:n<18446744073709551616) (hw:Sat R Hs w):
  Gets Tryz.prog 63 #[.int .u64 n] w fun v w'=>v=.int .i64 (Lib.bitLen n:Nat)∧Sat R Hs w':=by
 apply call63
 refine ⟨fun x j w=>∃ m i:Nat,x=m∧j=i∧m<4294967296∧i≤32∧Lib.bitLen n=i + Lib.bitLen m∧Sat R Hs w,?_,?_⟩
 ·refine Br.d (fun h=>?_) (fun h=>?_)
  ·rw [shr32]
   exact ⟨n / 4294967296,32,rfl,rfl,by omega,by omega,Lib.bitLen_shift32 n (by omega) hn,hw⟩
  ·exact ⟨n,0,rfl,rfl,by omega,by omega,by omega,hw⟩
 rintro _ _ _ w ⟨m,i,rfl,rfl,hm,hi,he,hw⟩
 refine ⟨fun x j w=>∃ m i:Nat,x=m∧j=i∧m<65536∧i≤48∧Lib.bitLen n=i + Lib.bitLen m∧Sat R Hs w,?_,?_⟩
 ·refine Br.d (fun h=>?_) (fun h=>?_)
  ·rw [shr16,wrap64 (by omega) (by omega)]
   exact ⟨m / 65536,i + 16,rfl,by omega,by omega,by omega,by have:=Lib.bitLen_shift16 m (by omega) (by omega);omega,hw⟩
  ·exact ⟨m,i,rfl,rfl,by omega,by omega,he,hw⟩
 clear hm hi he hw
 rintro _ _ _ w ⟨m,i,rfl,rfl,hm,hi,he,hw⟩
 refine Br.d (fun h=>?_) (fun h=>?_)
 ·rw [shr8,wrapU8 (by omega) (by omega)]
  have h8:Lib.bitLen (m / 256)≤8:=Lib.bitLen_le8 ⟨m / 256,by omega⟩
  refine ⟨UInt8.ofNat (Lib.bitLen (m / 256)),by omega,?_,?_,hw⟩
  ·rw [Int.toNat_natCast]
   obtain ⟨q,hq⟩:∃ q:Fin 256,q.1=m / 256:=⟨⟨m / 256,by omega⟩,rfl⟩
   rw [←hq]
   clear hq h8 hw he hi hm h
   revert q
   decide +kernel
  ·have:(UInt8.ofNat (Lib.bitLen (m / 256))).toNat=Lib.bitLen (m / 256):=by simp;omega
   have h2:=Lib.bitLen_shift8 m (by omega) (by omega)
   rw [this,wrap64 (x:=((Lib.bitLen (m / 256):Nat):Int)) (by omega) (by omega),wrap64 (x:=(i:Int) + 8) (by omega) (by omega),wrap64 (by omega) (by omega)]
   congr 1;omega
 ·rw [wrapU8 (by omega) (by omega)]
  have h8:Lib.bitLen m≤8:=Lib.bitLen_le8 ⟨m,by omega⟩
  refine ⟨UInt8.ofNat (Lib.bitLen m),by omega,?_,?_,hw⟩
  ·rw [Int.toNat_natCast]
   obtain ⟨q,hq⟩:∃ q:Fin 256,q.1=m:=⟨⟨m,by omega⟩,rfl⟩
   rw [←hq]
   clear hq h8 hw he hi hm h
   revert q
   decide +kernel
  ·have:(UInt8.ofNat (Lib.bitLen m)).toNat=Lib.bitLen m:=by simp;omega
   rw [this,wrap64 (x:=((Lib.bitLen m:Nat):Int)) (by omega) (by omega),wrap64 (by omega) (by omega)]
   congr 1;omega
theorem number_spec {n:Nat} (hn:n<18446744073709551616) (hw:Sat R Hs w):
  Gets Tryz.prog 35 #[.int .u64 n] w fun v w'=>∃ t:Sl,v=.slice t.a t.len t.cap∧Sat R (Own t 5 (b8 (numB n))::Hs) w':=by
 apply call35
 refine (len64_spec hn hw).use ?_
 rintro _ w ⟨rfl,hw⟩
 refine ⟨_,rfl,?_⟩
 have hwid:=dig_width n hn
 have h8:=dig_len8 hn
 generalize hL:(dig n).length=L at *
 have e:IntKind.i64.wrap ((IntKind.i64.wrap (((Lib.bitLen n:Nat):Int) + 7)).tdiv 8)=(L:Int):=by
  rw [wrap64 (x:=((Lib.bitLen n:Nat):Int) + 7) (by omega) (by omega),Int.tdiv_eq_ediv_of_nonneg (by omega),wrap64 (by omega) (by omega)]
  omega
 rw [e,wrapU8 (by omega) (by omega)]
 refine new_rule hw fun b w hw=>?_
 have h0:Sat R (Own ⟨some ⟨b,0,none⟩,1,1⟩ 5 (b8 [(L:Int)])::Hs) w:=Own.of_pts (xs:=b8 [(L:Int)]) (rest:=[]) hw
 refine ⟨fun wd out w=>∃ k:Nat,wd=k∧k≤L∧Sat R (Own out 5 (b8 ((L:Int)::(dig n).take (L - k)))::Hs) w,fun wd _ _=>wd.toNat,⟨L,rfl,Nat.le_refl _,by simpa using h0⟩,?_⟩
 clear hw h0
 rintro _ _ out w ⟨k,rfl,hk,hw⟩
 refine Br.d (fun h=>?_) (fun h=>?_)
 ·have e1:IntKind.i64.wrap ((k:Int) - 1)=((k - 1:Nat):Int):=by rw [wrap64 (by omega) (by omega)];omega
  have e2:IntKind.i64.wrap (8 * ((k - 1:Nat):Int))=((8 * (k - 1):Nat):Int):=by rw [wrap64 (by omega) (by omega)];omega
  rw [e1,e2,shr_nat n _ (by omega)]
  refine Ge0.mk (by omega) ?_
  have hd:=dig_get (n:=n) (k:=k - 1) (by omega)
  have hlen:((L:Int)::(dig n).take (L - k)).length≤9:=by simp;omega
  refine push_rule elB8 hw (one_b8 _) rfl (by rw [List.length_map];omega) (by rw [List.length_map];omega) fun t w hw=>⟨⟨k - 1,rfl,by omega,?_⟩,by show ((k - 1:Nat):Int).toNat<(k:Int).toNat;omega⟩
  have e3:((L:Int)::(dig n).take (L - (k - 1)))=((L:Int)::(dig n).take (L - k))++[IntKind.u8.wrap ((n / 2 ^ (8 * (k - 1)):Nat):Int)]:=by
   have e4:L - (k - 1)=(L - k) + 1:=by omega
   rw [e4,List.take_succ_eq_append_getElem (by omega),List.cons_append]
   congr 3
   rw [wrapU8m,show (2:Nat) ^ (8 * (k - 1))=256 ^ (k - 1) from by rw [Nat.pow_mul],show ((n / 256 ^ (k - 1):Nat):Int) % 256=((n / 256 ^ (k - 1) % 256:Nat):Int) from (Int.natCast_emod _ _).symm,←hd]
   congr 1;omega
  rw [e3]
  simpa [b8] using hw
 ·have hk0:k=0:=by omega
  subst hk0
  refine ⟨out,rfl,?_⟩
  have:(dig n).take (L - 0)=dig n:=List.take_of_length_le (by omega)
  rw [this] at hw
  unfold numB
  rw [hL];exact hw
abbrev rdCells (s:Sl) (bad:Bool):Obj:=.cells [.slice s.a s.len s.cap,.bool bad].toArray 78 (0,0)
def RdAt (r:Nat) (rd:Rd):HP:=exs fun s:Sl=>Star [pts r (rdCells s rd.bad),Reads s (b8 rd.bs)]
theorem Sat.rd {r:Nat} {rd:Rd}:Sat R (RdAt r rd::Hs) w↔∃ s:Sl,Sat R (pts r (rdCells s rd.bad)::Reads s (b8 rd.bs)::Hs) w:=by
 unfold RdAt
 rw [Sat.exs]
 exact ⟨fun ⟨s,h⟩=>⟨s,Sat.star.1 h⟩,fun ⟨s,h⟩=>⟨s,Sat.star.2 h⟩⟩
abbrev brCell (r:Nat):Obj:=.cells [.pointer (some ⟨r,0,none⟩)].toArray 51 (0,0)
theorem leaveP {br r:Nat} {s:Sl} {bad:Bool} {Kr:World→Prop} (hw:Sat R (pts br (brCell r)::pts r (rdCells s bad)::Hs) w) (k:∀ w,Sat R (pts br (brCell r)::pts r (rdCells s true)::Hs) w→Kr w):
  LeaveF Tryz.prog 65 [.pointer (some ⟨br,0,none⟩)] (.panicking amissP) Kr w:=by
 unfold LeaveF
 refine CallsD.mono (callP65 (some ⟨br,0,none⟩) (.iface 128 (.agg #[])) Kr w ?_) ?_
 ·refine ⟨true,fun w' _=>by kernel_rfl,Br.t rfl ?_⟩
  refine NilP.mk rfl ⟨some ⟨r,0,none⟩,At.own (eqS hw) (by exact ⟨rfl,trivial⟩),NilP.mk rfl ?_⟩
  have hw:=hw.swap
  refine store_rule hw (by kernel_rfl) rfl (by simp [Value.cells]) fun w hw=>?_
  exact k w hw.swap
 ·rintro e v w' ⟨hy,rfl,hk⟩
  exact ⟨hy,rfl,hk⟩
theorem leaveR {br:Nat} {Kr:World→Prop} (k:Kr w):LeaveF Tryz.prog 65 [.pointer (some ⟨br,0,none⟩)] .returning Kr w:=by
 unfold LeaveF
 refine CallsD.mono (callR65 (some ⟨br,0,none⟩) Kr w ?_) ?_
 ·exact ⟨false,fun w' _=>by kernel_rfl,Br.f rfl k⟩
 ·rintro e v w' ⟨hy,rfl,hk⟩
  exact ⟨hy,rfl,hk⟩
theorem reading_spec {r:Nat} {rd:Rd} {one:Value} {α:Type} {f:α→List Int} {Hs1:α→List HP} {Hs2:List HP} {G:α→Prop} {N:Prop} (hw:Sat R (RdAt r rd::Hs) w)
  (hone:rd.bad=false→∀ (x:Heap) (l:Nat) (s:Sl) (A B:HP) (w:World),(∀ b o,x b=some o→(R.add x).m b=some o)→SlR x s (b8 rd.bs)→Sat (R.add x) (lp l s::A::B::Hs) w→
   CalW Tryz.prog cl one [.pointer (some ⟨l,0,none⟩)] w fun e w'=>
    (e=.returned (.tuple #[])∧∃ y s',G y∧SlR x s' (b8 (f y))∧Sat (R.add x) (lp l s'::A::B::Hs1 y) w')∨
    (e=.panicked amissP∧N∧∃ s',Sat (R.add x) (lp l s'::A::B::Hs2) w')):
  Gets Tryz.prog 37 #[.pointer (some ⟨r,0,none⟩),one] w fun v w'=>v=.tuple #[]∧
   ((rd.bad=true∧Sat R (RdAt r rd::Hs) w')∨(rd.bad=false∧∃ y,G y∧Sat R (RdAt r ⟨f y,false⟩::Hs1 y) w')∨(rd.bad=false∧N∧Sat R (RdAt r ⟨rd.bs,true⟩::Hs2) w')):=by
 obtain ⟨s,hw⟩:=Sat.rd.1 hw
 apply call37
 refine new_rule hw fun br w hw=>?_
 refine ⟨_,At.own (eqS hw) (by exact ⟨rfl,trivial⟩),NilP.mk rfl ?_⟩
 refine ⟨_,At.own (eqS hw) (by exact ⟨rfl,trivial⟩),must_c (fun h=>.inl ⟨rfl,?_⟩) (fun h=>.inr ⟨_,rfl,?_⟩)⟩
 ·have hbad:rd.bad=false:=by simpa using h
  refine ⟨_,At.own (eqS hw) (by exact ⟨rfl,trivial⟩),NilP.mk rfl ?_⟩
  refine ⟨_,At.own (eqS hw) (by exact ⟨rfl,trivial⟩),?_⟩
  refine new_rule hw fun l w hw=>?_
  have hw:Sat R (pts l (.cells [.slice none 0 0].toArray 22 (0,0))::pts br (brCell r)::pts r (rdCells s rd.bad)::Reads s (b8 rd.bs)::Hs) w:=hw
  refine store_rule hw (by kernel_rfl) rfl (by simp [Value.cells]) fun w hw=>?_
  have hw:Sat R (lp l s::pts br (brCell r)::pts r (rdCells s rd.bad)::Reads s (b8 rd.bs)::Hs) w:=hw
  have hw:Sat R (Reads s (b8 rd.bs)::lp l s::pts br (brCell r)::pts r (rdCells s rd.bad)::Hs) w:=hw.arr
  obtain ⟨x,hd,_,hx,hs⟩:=Reads.lend hw
  have hsub:∀ b o,x b=some o→(R.add x).m b=some o:=fun b o hb=>by
   have:=hd b (by rw [hb];simp)
   simp only [Cx.add,Heap.add,this,hb]
  refine CalW.mono (hone hbad x l s _ _ w hsub hs hx) ?_
  rintro e w' (⟨rfl,bs',s',hg,hs',hw⟩|⟨rfl,hn,s',hw⟩)
  ·refine .inl ⟨rfl,?_⟩
   have hw:Sat (R.add x) (pts br (brCell r)::pts r (rdCells s rd.bad)::lp l s'::Hs1 bs') w':=hw.arr
   refine ⟨_,At.own (eqS hw) (by exact ⟨rfl,trivial⟩),?_⟩
   refine ⟨_,At.own (eqS hw) (by exact ⟨rfl,trivial⟩),NilP.mk rfl ?_⟩
   have hw:Sat (R.add x) (pts r (rdCells s rd.bad)::lp l s'::pts br (brCell r)::Hs1 bs') w':=hw.arr
   refine store_rule hw (by kernel_rfl) rfl (by simp [Value.cells]) fun w hw=>?_
   refine leaveR ⟨rfl,.inr (.inl ⟨hbad,bs',hg,?_⟩)⟩
   have hw:Sat (R.add x) (pts r (rdCells s' rd.bad)::lp l s'::pts br (brCell r)::Hs1 bs') w:=hw
   rw [hbad] at hw
   have hw:Sat (R.add x) (pts r (rdCells s' false)::Hs1 bs') w:=hw.cons fun _ h=>h.drop.drop
   refine Sat.rd.2 ⟨s',?_⟩
   exact (Reads.back hd hs' hw).swap
  ·refine .inr ⟨_,rfl,?_⟩
   have hw:Sat (R.add x) (pts br (brCell r)::pts r (rdCells s rd.bad)::lp l s'::Hs2) w':=hw.arr
   refine leaveP hw fun w hw=>⟨rfl,.inr (.inr ⟨hbad,hn,?_⟩)⟩
   have hw:Sat (R.add x) (pts r (rdCells s true)::Hs2) w:=hw.drop.cons fun _ h=>h.drop
   refine Sat.rd.2 ⟨s,?_⟩
   exact (Reads.back hd hs hw).swap
 ·have hbad:rd.bad=true:=by simpa using h
  have hw:Sat R (pts br (brCell r)::pts r (rdCells s rd.bad)::Reads s (b8 rd.bs)::Hs) w:=hw
  refine leaveP hw fun w hw=>⟨rfl,.inl ⟨hbad,?_⟩⟩
  rw [←hbad] at hw
  exact Sat.rd.2 ⟨s,hw.drop⟩
end Go.Proofs.YtflgboncpbmikaaGreatDoor
/- Package field: a reader's New, Number, Whole. Condition: bounds on lengths. -/
namespace Go.Proofs.YtflgboncpbmikaaGreatDoor
set_option linter.unusedVariables false
set_option linter.unusedSimpArgs false
open Go Go.VC
variable {R:Cx} {Hs Rest:List HP} {w:World}
theorem CalW.mk {g:FuncId} {captured:Array Value} {args:List Value} {Q:Ending→World→Prop} (hc:cl g=true) (h:Calls Tryz.prog g (args++captured.toList).toArray w Q):CalW Tryz.prog cl (.func (.func g) #[] captured) args w Q:=by
 unfold CalW
 simp only [hc]
 exact h
theorem fnew_spec {s:Sl} {bs:List Int} (hs:Ro R s (b8 bs)) (hl:bs.length≤1099511627776) (hw:Sat R Hs w):
  Gets Tryz.prog 20 #[.slice s.a s.len s.cap] w fun v w'=>∃ r,v=.pointer (some ⟨r,0,none⟩)∧Sat R (RdAt r ⟨bs,false⟩::Hs) w':=by
 apply call20
 refine (clone_spec hs hl hw).use ?_
 rintro _ w ⟨t,rfl,hw⟩
 refine ⟨t,rfl,?_⟩
 have hw:=Own.reads hw
 refine new_rule hw fun r w hw=>⟨r,rfl,Sat.rd.2 ⟨t,hw⟩⟩
theorem whole_spec {r:Nat} {rd:Rd} (hw:Sat R (RdAt r rd::Hs) w):
  Gets Tryz.prog 23 #[.pointer (some ⟨r,0,none⟩)] w fun v w'=>v=.bool (rdWhole rd)∧Sat R (RdAt r rd::Hs) w':=by
 obtain ⟨s,hw⟩:=Sat.rd.1 hw
 have hsl:s.len=rd.bs.length:=by
  obtain ⟨x,_,_,_,hx⟩:=Reads.lend hw.swap
  have:=hx.len;simpa using this
 apply call23
 refine NilP.mk rfl ⟨rd.bad,At.own (eqS hw) (by exact ⟨rfl,trivial⟩),Br.nb (fun h=>?_) (fun h=>?_)⟩
 ·refine NilP.mk rfl ?_
  refine ⟨s,At.own (eqS hw) (by exact ⟨rfl,trivial⟩),?_,Sat.rd.2 ⟨s,hw⟩⟩
  unfold rdWhole
  rw [h,hsl]
  congr 1
  simp only [Bool.not_false,Bool.true_and]
  cases rd.bs with
  |nil=>rfl
  |cons=>simp;omega
 ·refine ⟨?_,Sat.rd.2 ⟨s,hw⟩⟩
  unfold rdWhole
  rw [h];rfl
theorem num1_spec {h:Heap} {l bm bo:Nat} {s:Sl} {bs:List Int} {most:Int} (hb:∀ x∈bs,0≤x∧x<256) (hsub:∀ b o,h b=some o→R.m b=some o) (hr:SlR h s (b8 bs))
  (hw:Sat R (lp l s::pts bo (.cells [.int .u64 0].toArray 76 (0,0))::pts bm (.cells [.int .u64 most].toArray 76 (0,0))::Hs) w):
  GetsX Tryz.prog 64 #[.pointer (some ⟨l,0,none⟩),.pointer (some ⟨bm,0,none⟩),.pointer (some ⟨bo,0,none⟩)] w
   (fun ch w'=>ch=amissP∧(∀ n k,parse bs=some (n,false,k)→¬ n≤most)∧∃ s',Sat R (lp l s'::pts bo (.cells [.int .u64 0].toArray 76 (0,0))::pts bm (.cells [.int .u64 most].toArray 76 (0,0))::Hs) w')
   (fun v w'=>v=.tuple #[]∧∃ n k s',parse bs=some (n,false,k)∧n≤most∧SlR h s' (b8 (bs.drop k))∧
    Sat R (lp l s'::pts bo (.cells [.int .u64 n].toArray 76 (0,0))::pts bm (.cells [.int .u64 most].toArray 76 (0,0))::Hs) w'):=by
 apply call64
 refine (fsize_spec hb hsub hr hw).use ?_ ?_
 rotate_left
 ·rintro _ w ⟨hp,rfl,s',hw⟩
  refine .inr ⟨_,rfl,rfl,?_,s',hw⟩
  intro n k h;rw [hp] at h;cases h
 rintro _ w ⟨n,neg,k,s',hp,rfl,hs',hw⟩
 refine .inl ⟨n,neg,rfl,Br.nb (fun h=>?_) (fun h=>?_)⟩
 ·subst h
  have hw2:Sat R (pts bm (.cells [.int .u64 most].toArray 76 (0,0))::lp l s'::pts bo (.cells [.int .u64 0].toArray 76 (0,0))::Hs) w:=hw.arr
  refine NilP.mk rfl ?_
  refine ⟨most,At.own (eqS hw) (by exact ⟨rfl,trivial⟩),must_c (fun h=>.inl ⟨rfl,?_⟩) (fun h=>.inr ⟨_,rfl,rfl,?_,s',hw⟩)⟩
  ·have h:=of_decide_eq_true h
   have hw:Sat R (pts bo (.cells [.int .u64 0].toArray 76 (0,0))::lp l s'::pts bm (.cells [.int .u64 most].toArray 76 (0,0))::Hs) w:=hw.swap
   refine store_rule hw (by kernel_rfl) rfl (by simp [Value.cells]) fun w hw=>?_
   exact ⟨rfl,n,k,s',hp,h,hs',hw.swap⟩
  ·have h:=of_decide_eq_false h
   intro n' k' hp'
   rw [hp] at hp'
   simp only [Option.some.injEq,Prod.mk.injEq,true_and] at hp'
   rw [←hp'.1];exact h
 ·subst h
  refine must_c (fun h=>by cases h) (fun _=>.inr ⟨_,rfl,rfl,?_,s',hw⟩)
  intro n' k' hp'
  rw [hp] at hp'
  simp at hp'
theorem rnum_spec {r:Nat} {rd:Rd} {most:Int} (hb:∀ x∈rd.bs,0≤x∧x<256) (hw:Sat R (RdAt r rd::Hs) w):
  Gets Tryz.prog 36 #[.pointer (some ⟨r,0,none⟩),.int .u64 most] w fun v w'=>v=.int .u64 (rdNum most rd).1∧Sat R (RdAt r (rdNum most rd).2::Hs) w':=by
 apply call36
 refine new_rule hw fun bm w hw=>new_rule hw fun bo w hw=>?_
 have hw:Sat R (pts bo (.cells [.int .u64 0].toArray 76 (0,0))::pts bm (.cells [.int .u64 most].toArray 76 (0,0))::RdAt r rd::Hs) w:=hw
 refine store_rule hw (by kernel_rfl) rfl (by simp [Value.cells]) fun w hw=>?_
 have hw:=hw.re (pts bo (.cells [.int .u64 0].toArray 76 (0,0)))
 have hw:Sat R (RdAt r rd::pts bo (.cells [.int .u64 0].toArray 76 (0,0))::pts bm (.cells [.int .u64 most].toArray 76 (0,0))::Hs) w:=hw.arr
 refine (reading_spec (α:=Int × Nat) (f:=fun y=>rd.bs.drop y.2) (G:=fun y=>parse rd.bs=some (y.1,false,y.2)∧y.1≤most) (N:=∀ n k,parse rd.bs=some (n,false,k)→¬ n≤most)
  (Hs1:=fun y=>pts bo (.cells [.int .u64 y.1].toArray 76 (0,0))::pts bm (.cells [.int .u64 most].toArray 76 (0,0))::Hs)
  (Hs2:=pts bo (.cells [.int .u64 0].toArray 76 (0,0))::pts bm (.cells [.int .u64 most].toArray 76 (0,0))::Hs) hw ?_).use ?_
 ·intro _ x l s A B w hsub hs hw
  refine CalW.mk (by kernel_rfl) ?_
  have hw2:Sat (R.add x) (lp l s::pts bo (.cells [.int .u64 0].toArray 76 (0,0))::pts bm (.cells [.int .u64 most].toArray 76 (0,0))::A::B::Hs) w:=hw.arr
  refine (num1_spec (h:=x) hb hsub hs hw2).use ?_ ?_
  ·rintro _ w ⟨rfl,n,k,s',hp,hn,hs',hw⟩
   exact .inl ⟨rfl,(n,k),s',⟨hp,hn⟩,hs',hw.arr⟩
  ·rintro _ w ⟨rfl,hn,s',hw⟩
   exact .inr ⟨rfl,hn,s',hw.arr⟩
 ·rintro _ w ⟨rfl,h⟩
  refine ⟨rfl,?_⟩
  rcases h with ⟨hbad,hw⟩|⟨hbad,⟨n,k⟩,⟨hp,hn⟩,hw⟩|⟨hbad,hno,hw⟩
  ·have hw:Sat R (pts bo (.cells [.int .u64 0].toArray 76 (0,0))::RdAt r rd::pts bm (.cells [.int .u64 most].toArray 76 (0,0))::Hs) w:=hw.swap
   refine ⟨0,At.own (eqS hw) (by exact ⟨rfl,trivial⟩),?_⟩
   unfold rdNum
   rw [if_pos hbad]
   exact ⟨rfl,hw.drop.cons fun _ h=>h.drop⟩
  ·have hw:Sat R (pts bo (.cells [.int .u64 n].toArray 76 (0,0))::RdAt r ⟨rd.bs.drop k,false⟩::pts bm (.cells [.int .u64 most].toArray 76 (0,0))::Hs) w:=hw.swap
   refine ⟨n,At.own (eqS hw) (by exact ⟨rfl,trivial⟩),?_⟩
   unfold rdNum
   rw [if_neg (by rw [hbad];simp),hp]
   simp only
   rw [if_pos (by simpa using hn)]
   exact ⟨rfl,hw.drop.cons fun _ h=>h.drop⟩
  ·have hw:Sat R (pts bo (.cells [.int .u64 0].toArray 76 (0,0))::RdAt r ⟨rd.bs,true⟩::pts bm (.cells [.int .u64 most].toArray 76 (0,0))::Hs) w:=hw.swap
   refine ⟨0,At.own (eqS hw) (by exact ⟨rfl,trivial⟩),?_⟩
   have e:rdNum most rd=(0,⟨rd.bs,true⟩):=by
    unfold rdNum
    rw [if_neg (by rw [hbad];simp)]
    cases hp:parse rd.bs with
    |none=>rfl
    |some p=>
     obtain ⟨n,neg,k⟩:=p
     simp only
     rw [if_neg]
     rintro ⟨rfl,h⟩
     exact hno n k hp h
   rw [e]
   exact ⟨rfl,hw.drop.cons fun _ h=>h.drop⟩
theorem rdNum_bd {most:Int} {rd:Rd} (hb:∀ x∈rd.bs,0≤x∧x<256):∀ x∈(rdNum most rd).2.bs,0≤x∧x<256:=by
 unfold rdNum
 split
 ·exact hb
 ·split
  ·split
   ·exact fun x hx=>hb x (List.mem_of_mem_drop hx)
   ·exact hb
  ·exact hb
theorem rdNum_val {most:Int} {rd:Rd} (hb:∀ x∈rd.bs,0≤x∧x<256) (hm:0≤most):0≤(rdNum most rd).1∧(rdNum most rd).1≤most:=by
 unfold rdNum
 split
 ·exact ⟨Int.le_refl _,hm⟩
 ·split
  ·rename_i n neg k hp
   split
   ·rename_i h;exact ⟨(parse_bd hb hp).1,h.2⟩
   ·exact ⟨Int.le_refl _,hm⟩
  ·exact ⟨Int.le_refl _,hm⟩
end Go.Proofs.YtflgboncpbmikaaGreatDoor

/- SL, part 13: appends of integers; new arrays as slices of one's own. Condition: bounds on lengths. -/
namespace Go.VC
set_option linter.unusedVariables false
set_option linter.unusedSimpArgs false
variable {P:Program} {R:Cx} {Hs Rest:List HP} {w:World} {s t:Sl} {T T2:TypeId}
theorem oneAll_k (k:IntKind) (xs:List Int):oneAll (xs.map (Value.int k))=true:=by
 induction xs with
 |nil=>rfl
 |cons x xs ih=>simp only [List.map_cons,oneAll,List.all_cons,Bool.and_eq_true];exact ⟨rfl,ih⟩
theorem own_lit {b n:Nat} {l:List Value} {fr:Nat × Nat} (hw:Sat R (pts b (.cells l.toArray T fr)::Hs) w) (hn:n=l.length:=by rfl) (hf:okFr l.length fr:=by first|assumption|exact Or.inl rfl):Sat R (Own ⟨some ⟨b,0,none⟩,n,n⟩ T l::Hs) w:=by
 subst hn
 have:=Own.of_pts (xs:=l) (rest:=[]) (by simpa using hw) (by simpa using hf)
 simpa using this
theorem appendRI {t1 t2 ty e':TypeId} {bytes n:Nat} {k:IntKind} (E:El P t1 t2 T bytes) {xs ys:List Int} {K:Sl→World→Prop} (h2:P.underlying t2=some (.slice e'))
  (hw:Sat R (Own s T (xs.map (Value.int k))::Hs) w) (hy:Ro R t (ys.map (Value.int k))) (hn:xs.length + ys.length≤n) (hb:2 * n * bytes≤281474976710656) (hb':n≤9223372036854775807)
  (kk:∀ s' w',Sat R (Own s' T ((xs++ys).map (Value.int k))::Hs) w'→K s' w'):
  ∃ w',∃ t':Sl,(Builtin.append_ #[t1,t2] ty #[.slice s.a s.len s.cap,.slice t.a t.len t.cap]).run P w=.ok (.slice t'.a t'.len t'.cap) w'∧K t' w':=by
 have hsrc:Src P 1 t2 (.slice t.a t.len t.cap) ys.length (ys.map (Value.int k)) w:=by
  have:=srcRo h2 hw hy (oneAll_k _ _)
  simpa using this
 refine append_rule E (s:=s) hw hsrc (oneAll_k _ _) ?_ (by rw [List.length_map];omega) fun s2 w hw=>kk s2 w (by simpa using hw)
 rw [List.length_map]
 have:2 * (xs.length + ys.length) * bytes≤2 * n * bytes:=Nat.mul_le_mul_right _ (by omega)
 omega
theorem appendOO {t1 t2 ty e':TypeId} {bytes n:Nat} {k:IntKind} (E:El P t1 t2 T bytes) {xs ys:List Int} {K:Sl→World→Prop} (h2:P.underlying t2=some (.slice e'))
  (hw:Sat R (Own s T (xs.map (Value.int k))::Own t T2 (ys.map (Value.int k))::Hs) w) (hn:xs.length + ys.length≤n) (hb:2 * n * bytes≤281474976710656) (hb':n≤9223372036854775807)
  (kk:∀ s' w',Sat R (Own s' T ((xs++ys).map (Value.int k))::Own t T2 (ys.map (Value.int k))::Hs) w'→K s' w'):
  ∃ w',∃ t':Sl,(Builtin.append_ #[t1,t2] ty #[.slice s.a s.len s.cap,.slice t.a t.len t.cap]).run P w=.ok (.slice t'.a t'.len t'.cap) w'∧K t' w':=by
 obtain ⟨R',hr,_,hw,back⟩:=Own.lend hw.swap (by rw [List.length_map];omega)
 exact appendRI E h2 hw hr hn hb hb' fun s' w' hw=>kk s' w' (back hw).swap
theorem Ro.ix {k:IntKind} {xs:List Int} {S:World→Prop} {i:Int} (hr:Ro R s (xs.map (Value.int k))) (hS:∀ w,S w→Sat R Hs w) (j:Nat) (hi:i=j) (hj:j<xs.length) {F:Int→Prop} (h:F xs[j]):
  Rng i s.len (NilP s.a fun a=>∃ t:Int,(At S (a.add i.toNat) [.int k t])∧F t):=by
 subst hi
 exact hr.idxK hS hj h
end Go.VC
/- SL, part 14: memory of one's own, made into memory that is only read, for good. No condition. -/
namespace Go.VC
set_option linter.unusedVariables false
set_option linter.unusedSimpArgs false
variable {P:Program} {R R' R'':Cx} {Hs Rest:List HP} {w:World} {s:Sl} {T:TypeId}
structure Cx.Ext (R R':Cx):Prop where
 m:∀ b o,R.m b=some o→R'.m b=some o
 like:R'.like R
theorem Cx.Ext.refl:R.Ext R:=⟨fun _ _ h=>h,rfl,rfl,rfl⟩
theorem Cx.Ext.trans (h:R.Ext R') (h':R'.Ext R''):R.Ext R'':=
 ⟨fun b o hb=>h'.m b o (h.m b o hb),h.like.1.trans h'.like.1,h.like.2.1.trans h'.like.2.1,h.like.2.2.trans h'.like.2.2⟩
theorem Cx.Ext.add {h:Heap}:R.Ext (R.add h):=⟨fun b o hb=>by simp only [Cx.add,Heap.add,hb],rfl,rfl,rfl⟩
theorem Cx.Ext.back (h:R.Ext R') (hw:Sat R' Hs w):Sat R Hs w:=Sat.ro_of h.m h.like hw
theorem Cx.Ext.ro {xs:List Value} (h:R.Ext R') (a:Ro R s xs):Ro R' s xs:=
 ⟨a.len,a.bound,fun hx=>let ⟨b,off,l,T,fr,h1,h2,h3⟩:=a.mem hx;⟨b,off,l,T,fr,h1,h.m _ _ h2,h3⟩⟩
theorem Cx.Ext.roN {n:Nat} {xs:List (List Value)} (h:R.Ext R') (a:RoN n R s xs):RoN n R' s xs:=
 ⟨a.wid,a.len,fun hx=>let ⟨b,off,l,T,fr,h1,h2,h3⟩:=a.mem hx;⟨b,off,l,T,fr,h1,h.m _ _ h2,h3⟩⟩
theorem Cx.Ext.slR {xs:List Value} (h:R.Ext R') (a:SlR R.m s xs):SlR R'.m s xs:=
 ⟨a.len,a.cap,fun hx=>let ⟨b,off,l,T,fr,h1,h2,h3⟩:=a.mem hx;⟨b,off,l,T,fr,h1,h.m _ _ h2,h3⟩⟩
theorem Reads.leak {xs:List Value} (h:Sat R (Reads s xs::Hs) w):∃ R':Cx,R.Ext R'∧SlR R'.m s xs∧Sat R' Hs w:=by
 obtain ⟨x,_,h1,h2,_⟩:=Reads.lend h
 exact ⟨_,.add,h1,h2⟩
theorem Own.leak {xs:List Value} (h:Sat R (Own s T xs::Hs) w):∃ R':Cx,R.Ext R'∧SlR R'.m s xs∧Sat R' Hs w:=Reads.leak (Own.reads h)
theorem OwnN.leak {n:Nat} {rows:List (List Value)} (h:Sat R (OwnN n s T rows::Hs) w):∃ R':Cx,R.Ext R'∧RoN n R' s rows∧Sat R' Hs w:=by
 obtain ⟨R',h1,⟨x,rfl⟩,h2,_⟩:=OwnN.lend h
 exact ⟨_,.add,h1,h2⟩
end Go.VC
/- The formulas of functions of this seat's translation, printed by a program of mine off the translation; each is proved equal to 'fnF' of the function's body, so it is enough for the call. No condition. -/
namespace Go.Proofs.YtflgboncpbmikaaGreatDoor
open Go Go.VC
set_option linter.unusedVariables false
set_option maxRecDepth 10000
def B102 (c:Sl) (K:Value→World→Prop) (w:World):Prop:=
 Br c.a.isNone
 (K (.slice none 0 0) w)
 (New (.cells #[] 3 (0,0)) (fun e f=>
 ∃ d:World,∃ b:Sl,((Builtin.append_ #[68,68] 68 #[.slice ((some ⟨e,0,none⟩)) 0 0,.slice c.a c.len c.cap]).run Tryz.prog f=.ok (.slice b.a b.len b.cap) d)∧
 K (.slice b.a b.len b.cap) d) w)
theorem call102 (b:Sl) (K:Value→World→Prop) (w:World) (h:B102 b K w):Gets Tryz.prog 102 #[.slice b.a b.len b.cap] w K:=cq (sk:=.leaf) Tryz.func102 (by kernel_rfl) (by kernel_rfl) (by kernel_rfl) h
def B34 (b:Sl) (e:Value) (K:Value→World→Prop) (w:World):Prop:=
 Calls Tryz.prog 62 #[.slice b.a b.len b.cap,e] w fun d f=>
 ∃ c:Int,(d=.returned (.int .i64 c))∧
 K (.bool (decide (c ≥ 0))) f
theorem call34 (b:Sl) (c:Value) (K:Value→World→Prop) (w:World) (h:B34 b c K w):Gets Tryz.prog 34 #[.slice b.a b.len b.cap,c] w K:=cq (sk:=.leaf) Tryz.func34 (by kernel_rfl) (by kernel_rfl) (by kernel_rfl) h
def B62 (e:Sl) (m:Value) (K:Value→World→Prop) (w:World):Prop:=
 ∃ (d:Int→World→Prop) (j:Int→World→Nat),(d 0 w)∧∀ (o:Env) (b:Int) (c:World),d b c→
 Br (decide (b<(↑e.len:Int)))
 (Rng b e.len (NilP e.a fun k=>
 ∃ g:Int,(At (fun n=>n=c) (Addr.add k b.toNat) [.int .i64 g])∧
 CalW Tryz.prog cl m [.int .i64 g] c fun l f=>
 ∃ i:Bool,(l=.returned (.bool i))∧
 Br i
 (K (.int .i64 b) f)
 ((d (IntKind.i64.wrap (b + 1)) f)∧j (IntKind.i64.wrap (b + 1)) f<j b c)))
 (K (.int .i64 ((-1))) c)
def sk62:Sk:=(.seq .leaf (.seq (.seq .leaf (.block (.loop [8] [(.int .i64)] [4,5,8,9,10,11,12,13,14,15,16,17,18] .leaf))) .leaf))
theorem call62 (b:Sl) (c:Value) (K:Value→World→Prop) (w:World) (h:B62 b c K w):Gets Tryz.prog 62 #[.slice b.a b.len b.cap,c] w K:=cq (sk:=sk62) Tryz.func62 (by kernel_rfl) (by kernel_rfl) (by kernel_rfl) h
def B153 (b:Sl) (d:Int) (c:Sl) (K:Value→World→Prop) (w:World):Prop:=
 ((0:Int)≤d)∧
 ((d:Int)≤(↑b.len:Int))∧
 Br ((↑c.len:Int)==0)
 (K (.slice b.a b.len b.cap) w)
 (Br (d==(↑b.len:Int))
 (∃ i:World,∃ f:Sl,((Builtin.append_ #[68,68] 68 #[.slice b.a b.len b.cap,.slice c.a c.len c.cap]).run Tryz.prog w=.ok (.slice f.a f.len f.cap) i)∧
 K (.slice f.a f.len f.cap) i)
 (Br (decide (IntKind.i64.wrap ((↑b.len:Int) + (↑c.len:Int))>(↑b.cap:Int)))
 (((0:Int)≤d)∧
 ((d:Int)≤(↑b.cap:Int))∧
 ∃ k:World,∃ e:Sl,((Builtin.append_ #[68,3] 68 #[.slice b.a d.toNat b.cap,.int .i64 (IntKind.i64.wrap (IntKind.i64.wrap ((↑b.len:Int) + (↑c.len:Int)) - d))]).run Tryz.prog w=.ok (.slice e.a e.len e.cap) k)∧
 ((0:Int)≤d)∧
 ((d:Int)≤(↑e.len:Int))∧
 ∃ l:World,∃ s:Int,((Builtin.copy_ #[68,68] 3 #[.slice (cutA e.a d.toNat e.cap 1) (e.len - d.toNat) (e.cap - d.toNat),.slice c.a c.len c.cap]).run Tryz.prog k=.ok (.int .i64 s) l)∧
 Drw l fun C z=>
 ((0:Int)≤IntKind.i64.wrap (d + (↑c.len:Int)))∧
 ((IntKind.i64.wrap (d + (↑c.len:Int)):Int)≤(↑e.len:Int))∧
 ((0:Int)≤d)∧
 ((d:Int)≤(↑b.len:Int))∧
 ∃ m:World,∃ t:Int,((Builtin.copy_ #[68,68] 3 #[.slice (cutA e.a (IntKind.i64.wrap (d + (↑c.len:Int))).toNat e.cap 1) (e.len - (IntKind.i64.wrap (d + (↑c.len:Int))).toNat) (e.cap - (IntKind.i64.wrap (d + (↑c.len:Int))).toNat),.slice (cutA b.a d.toNat b.cap 1) (b.len - d.toNat) (b.cap - d.toNat)]).run Tryz.prog z=.ok (.int .i64 t) m)∧
 K (.slice e.a e.len e.cap) m)
 (((0:Int)≤IntKind.i64.wrap ((↑b.len:Int) + (↑c.len:Int)))∧
 ((IntKind.i64.wrap ((↑b.len:Int) + (↑c.len:Int)):Int)≤(↑b.cap:Int))∧
 ((0:Int)≤IntKind.i64.wrap (d + (↑c.len:Int)))∧
 ((IntKind.i64.wrap (d + (↑c.len:Int)):Int)≤(↑(IntKind.i64.wrap ((↑b.len:Int) + (↑c.len:Int))).toNat:Int))∧
 Ext Tryz.prog 172 #[.slice c.a c.len c.cap,.slice (cutA b.a (IntKind.i64.wrap (d + (↑c.len:Int))).toNat b.cap 1) ((IntKind.i64.wrap ((↑b.len:Int) + (↑c.len:Int))).toNat - (IntKind.i64.wrap (d + (↑c.len:Int))).toNat) (b.cap - (IntKind.i64.wrap (d + (↑c.len:Int))).toNat)] w fun q n=>
 ∃ g:Bool,(q=.returned (.bool g))∧
 Br (!g)
 (Drw n fun D A=>
 ((0:Int)≤IntKind.i64.wrap (d + (↑c.len:Int)))∧
 ((IntKind.i64.wrap (d + (↑c.len:Int)):Int)≤(↑(IntKind.i64.wrap ((↑b.len:Int) + (↑c.len:Int))).toNat:Int))∧
 ((0:Int)≤d)∧
 ((d:Int)≤(↑(IntKind.i64.wrap ((↑b.len:Int) + (↑c.len:Int))).toNat:Int))∧
 ∃ o:World,∃ u:Int,((Builtin.copy_ #[68,68] 3 #[.slice (cutA b.a (IntKind.i64.wrap (d + (↑c.len:Int))).toNat b.cap 1) ((IntKind.i64.wrap ((↑b.len:Int) + (↑c.len:Int))).toNat - (IntKind.i64.wrap (d + (↑c.len:Int))).toNat) (b.cap - (IntKind.i64.wrap (d + (↑c.len:Int))).toNat),.slice (cutA b.a d.toNat b.cap 1) ((IntKind.i64.wrap ((↑b.len:Int) + (↑c.len:Int))).toNat - d.toNat) (b.cap - d.toNat)]).run Tryz.prog A=.ok (.int .i64 u) o)∧
 ((0:Int)≤d)∧
 ((d:Int)≤(↑(IntKind.i64.wrap ((↑b.len:Int) + (↑c.len:Int))).toNat:Int))∧
 ∃ p:World,∃ v:Int,((Builtin.copy_ #[68,68] 3 #[.slice (cutA b.a d.toNat b.cap 1) ((IntKind.i64.wrap ((↑b.len:Int) + (↑c.len:Int))).toNat - d.toNat) (b.cap - d.toNat),.slice c.a c.len c.cap]).run Tryz.prog o=.ok (.int .i64 v) p)∧
 K (.slice b.a ((IntKind.i64.wrap ((↑b.len:Int) + (↑c.len:Int))).toNat) b.cap) p)
 (((0:Int)≤(↑b.len:Int))∧
 (((↑b.len:Int):Int)≤(↑(IntKind.i64.wrap ((↑b.len:Int) + (↑c.len:Int))).toNat:Int))∧
 ∃ j:World,∃ x:Int,((Builtin.copy_ #[68,68] 3 #[.slice (cutA b.a (↑b.len:Int).toNat b.cap 1) ((IntKind.i64.wrap ((↑b.len:Int) + (↑c.len:Int))).toNat - (↑b.len:Int).toNat) (b.cap - (↑b.len:Int).toNat),.slice c.a c.len c.cap]).run Tryz.prog n=.ok (.int .i64 x) j)∧
 ((0:Int)≤d)∧
 ((d:Int)≤(↑(IntKind.i64.wrap ((↑b.len:Int) + (↑c.len:Int))).toNat:Int))∧
 Calls Tryz.prog 173 #[.slice (cutA b.a d.toNat b.cap 1) ((IntKind.i64.wrap ((↑b.len:Int) + (↑c.len:Int))).toNat - d.toNat) (b.cap - d.toNat),.int .i64 ((↑c.len:Int))] j fun r y=>
 (r=.returned (.tuple #[]))∧
 K (.slice b.a ((IntKind.i64.wrap ((↑b.len:Int) + (↑c.len:Int))).toNat) b.cap) y))))
theorem call153 (b:Sl) (d:Int) (c:Sl) (K:Value→World→Prop) (w:World) (h:B153 b d c K w):Gets Tryz.prog 153 #[.slice b.a b.len b.cap,.int .i64 d,.slice c.a c.len c.cap] w K:=cq (sk:=.leaf) Tryz.func153 (by kernel_rfl) (by kernel_rfl) (by kernel_rfl) h
def B152 (e:Sl) (k:Int) (K:Value→World→Prop) (w:World):Prop:=
 ∃ (g:Int→Int→World→Prop) (j:Int→Int→World→Nat),(g 0 ((↑e.len:Int)) w)∧∀ (A:Env) (b:Int) (c:Int) (d:World),g b c d→
 Br (decide (b<c))
 (Rng (IntKind.i64.wrap (shrI IntKind.u64 (IntKind.u64.wrap (IntKind.i64.wrap (b + c))) 1)) e.len (NilP e.a fun s=>
 ∃ l:Int,(At (fun f=>f=d) (Addr.add s ((IntKind.i64.wrap (shrI IntKind.u64 (IntKind.u64.wrap (IntKind.i64.wrap (b + c))) 1)).toNat)) [.int .i64 l])∧
 Calls Tryz.prog 129 #[.int .i64 l,.int .i64 k] d fun v i=>
 ∃ m:Bool,(v=.returned (.bool m))∧
 Br m
 ((g (IntKind.i64.wrap (IntKind.i64.wrap (shrI IntKind.u64 (IntKind.u64.wrap (IntKind.i64.wrap (b + c))) 1) + 1)) c i)∧j (IntKind.i64.wrap (IntKind.i64.wrap (shrI IntKind.u64 (IntKind.u64.wrap (IntKind.i64.wrap (b + c))) 1) + 1)) c i<j b c d)
 ((g b (IntKind.i64.wrap (shrI IntKind.u64 (IntKind.u64.wrap (IntKind.i64.wrap (b + c))) 1)) i)∧j b (IntKind.i64.wrap (shrI IntKind.u64 (IntKind.u64.wrap (IntKind.i64.wrap (b + c))) 1)) i<j b c d)))
 (Br (decide (b<(↑e.len:Int)))
 (Rng b e.len (NilP e.a fun t=>
 ∃ n:Int,(At (fun f=>f=d) (Addr.add t b.toNat) [.int .i64 n])∧
 Br (n==k)
 (K (.tuple #[.int .i64 b,.bool true]) d)
 (Rng b e.len (NilP e.a fun u=>
 ∃ o:Int,(At (fun f=>f=d) (Addr.add u b.toNat) [.int .i64 o])∧
 Calls Tryz.prog 171 #[.int .i64 o] d fun x r=>
 ∃ p:Bool,(x=.returned (.bool p))∧
 Br p
 (Calls Tryz.prog 171 #[.int .i64 k] r fun y z=>
 ∃ q:Bool,(y=.returned (.bool q))∧
 K (.tuple #[.int .i64 b,.bool q]) z)
 (K (.tuple #[.int .i64 b,.bool false]) r)))))
 (K (.tuple #[.int .i64 b,.bool false]) d))
def sk152:Sk:=(.seq .leaf (.seq .leaf (.seq .leaf (.seq (.block (.loop [7,8] [(.int .i64),(.int .i64)] [7,8,9,13,14,15,16,17,18,19,20,21,22,23,24,25,26,27,28,29,30] .leaf)) .leaf))))
theorem call152 (b:Sl) (c:Int) (K:Value→World→Prop) (w:World) (h:B152 b c K w):Gets Tryz.prog 152 #[.slice b.a b.len b.cap,.int .i64 c] w K:=cq (sk:=sk152) Tryz.func152 (by kernel_rfl) (by kernel_rfl) (by kernel_rfl) h
def B129 (a:Int) (b:Int) (K:Value→World→Prop) (w:World):Prop:=
 Calls Tryz.prog 165 #[.int .i64 a] w fun g e=>
 ∃ c:Bool,(g=.returned (.bool c))∧
 Br c
 (Calls Tryz.prog 165 #[.int .i64 b] e fun i f=>
 ∃ d:Bool,(i=.returned (.bool d))∧
 Br (!d)
 (K (.bool true) f)
 (K (.bool (decide (a<b))) f))
 (K (.bool (decide (a<b))) e)
theorem call129 (a:Int) (b:Int) (K:Value→World→Prop) (w:World) (h:B129 a b K w):Gets Tryz.prog 129 #[.int .i64 a,.int .i64 b] w K:=cq (sk:=.leaf) Tryz.func129 (by kernel_rfl) (by kernel_rfl) (by kernel_rfl) h
def B171 (a:Int) (K:Value→World→Prop) (w:World):Prop:=
 K (.bool (a !=a)) w
theorem call171 (a:Int) (K:Value→World→Prop) (w:World) (h:B171 a K w):Gets Tryz.prog 171 #[.int .i64 a] w K:=cq (sk:=.leaf) Tryz.func171 (by kernel_rfl) (by kernel_rfl) (by kernel_rfl) h
def B165 (a:Int) (K:Value→World→Prop) (w:World):Prop:=
 K (.bool (a !=a)) w
theorem call165 (a:Int) (K:Value→World→Prop) (w:World) (h:B165 a K w):Gets Tryz.prog 165 #[.int .i64 a] w K:=cq (sk:=.leaf) Tryz.func165 (by kernel_rfl) (by kernel_rfl) (by kernel_rfl) h
def B101 (s:Int) (j:Sl) (K:Value→World→Prop) (w:World):Prop:=
 New (.cells #[.int .i64 s,.slice j.a j.len j.cap] 93 (0,0)) (fun d c=>
 ∃ o:Int,(At (fun b=>b=c) ⟨d,0,none⟩ [.int .i64 o])∧
 Br (decide (o<1))
 (K (.bool false) c)
 (∃ p:Int,(At (fun b=>b=c) ⟨d,0,none⟩ [.int .i64 p])∧
 Br (decide (p>60))
 (K (.bool false) c)
 (∃ g:Sl,(At (fun b=>b=c) ⟨d,0 + 1,none⟩ [.slice g.a g.len g.cap])∧
 Br (decide ((↑g.len:Int)<1))
 (K (.bool false) c)
 (∃ i:Sl,(At (fun b=>b=c) ⟨d,0 + 1,none⟩ [.slice i.a i.len i.cap])∧
 Br (decide ((↑i.len:Int)>4))
 (K (.bool false) c)
 (∃ e:Sl,(At (fun b=>b=c) ⟨d,0 + 1,none⟩ [.slice e.a e.len e.cap])∧
 Calls Tryz.prog 34 #[.slice e.a e.len e.cap,.func (.func 139) #[] #[]] c fun q k=>
 ∃ l:Bool,(q=.returned (.bool l))∧
 Br l
 (K (.bool false) k)
 (∃ m:Int,∃ f:Sl,(At (fun b=>b=k) ⟨d,0,none⟩ [.int .i64 m,.slice f.a f.len f.cap])∧
 Calls Tryz.prog 138 #[.agg #[.int .i64 m,.slice f.a f.len f.cap]] k fun r t=>
 ∃ n:Int,(r=.returned (.int .i64 n))∧
 K (.bool (decide (n≤10))) t)))))) w
theorem call101 (c:Int) (b:Sl) (K:Value→World→Prop) (w:World) (h:B101 c b K w):Gets Tryz.prog 101 #[.agg #[.int .i64 c,.slice b.a b.len b.cap]] w K:=cq (sk:=.leaf) Tryz.func101 (by kernel_rfl) (by kernel_rfl) (by kernel_rfl) h
def B139 (a:Int) (K:Value→World→Prop) (w:World):Prop:=
 Br (decide (a<1))
 (K (.bool true) w)
 (K (.bool (decide (a>10))) w)
theorem call139 (a:Int) (K:Value→World→Prop) (w:World) (h:B139 a K w):Gets Tryz.prog 139 #[.int .i64 a] w K:=cq (sk:=.leaf) Tryz.func139 (by kernel_rfl) (by kernel_rfl) (by kernel_rfl) h
def B138 (o:Int) (g:Sl) (K:Value→World→Prop) (w:World):Prop:=
 New (.cells #[.int .i64 o,.slice g.a g.len g.cap] 93 (0,0)) (fun n k=>
 ∃ c:Sl,(At (fun j=>j=k) ⟨n,0 + 1,none⟩ [.slice c.a c.len c.cap])∧
 ∃ (f:Int→Int→World→Prop) (l:Int→Int→World→Nat),(f 0 0 k)∧∀ (p:Env) (e:Int) (b:Int) (d:World),f e b d→
 Br (decide (b<(↑c.len:Int)))
 (Rng b c.len (NilP c.a fun m=>
 ∃ i:Int,(At (fun j=>j=d) (Addr.add m b.toNat) [.int .i64 i])∧
 (f (IntKind.i64.wrap (e + i)) (IntKind.i64.wrap (b + 1)) d)∧l (IntKind.i64.wrap (e + i)) (IntKind.i64.wrap (b + 1)) d<l e b d))
 (K (.int .i64 e) d)) w
def sk138:Sk:=(.seq .leaf (.seq .leaf (.seq (.seq .leaf (.block (.loop [3,9] [(.int .i64),(.int .i64)] [3,5,9,10,11,12,13,14,15,16] .leaf))) .leaf)))
theorem call138 (c:Int) (b:Sl) (K:Value→World→Prop) (w:World) (h:B138 c b K w):Gets Tryz.prog 138 #[.agg #[.int .i64 c,.slice b.a b.len b.cap]] w K:=cq (sk:=sk138) Tryz.func138 (by kernel_rfl) (by kernel_rfl) (by kernel_rfl) h
def B100 (r:Int) (f:Sl) (K:Value→World→Prop) (w:World):Prop:=
 New (.cells #[.int .i64 r,.slice f.a f.len f.cap] 93 (0,0)) (fun e m=>
 ∃ g:Int,∃ b:Sl,(At (fun s=>s=m) ⟨e,0,none⟩ [.int .i64 g,.slice b.a b.len b.cap])∧
 Calls Tryz.prog 101 #[.agg #[.int .i64 g,.slice b.a b.len b.cap]] m fun p n=>
 ∃ i:Bool,(p=.returned (.bool i))∧
 Br (!i)
 (K (.int .i64 0) n)
 (Drw n fun d t=>
 ∃ j:Int,(At d ⟨e,0,none⟩ [.int .i64 j])∧
 ∃ k:Int,∃ c:Sl,(At d ⟨e,0,none⟩ [.int .i64 k,.slice c.a c.len c.cap])∧
 Calls Tryz.prog 138 #[.agg #[.int .i64 k,.slice c.a c.len c.cap]] t fun q o=>
 ∃ l:Int,(q=.returned (.int .i64 l))∧
 (d o)∧
 K (.int .i64 (IntKind.i64.wrap (j * l))) o)) w
theorem call100 (c:Int) (b:Sl) (K:Value→World→Prop) (w:World) (h:B100 c b K w):Gets Tryz.prog 100 #[.agg #[.int .i64 c,.slice b.a b.len b.cap]] w K:=cq (sk:=.leaf) Tryz.func100 (by kernel_rfl) (by kernel_rfl) (by kernel_rfl) h
def B154 (k:Int) (c:Sl) (e:Int) (K:Value→World→Prop) (w:World):Prop:=
 New (.cells #[.int .i64 k,.slice c.a c.len c.cap] 93 (0,0)) (fun i d=>
 Br (decide (e ≥ 0))
 (∃ g:Int,∃ b:Sl,(At (fun l=>l=d) ⟨i,0,none⟩ [.int .i64 g,.slice b.a b.len b.cap])∧
 Calls Tryz.prog 100 #[.agg #[.int .i64 g,.slice b.a b.len b.cap]] d fun j m=>
 ∃ f:Int,(j=.returned (.int .i64 f))∧
 K (.bool (decide (e<f))) m)
 (K (.bool false) d)) w
theorem call154 (c:Int) (b:Sl) (d:Int) (K:Value→World→Prop) (w:World) (h:B154 c b d K w):Gets Tryz.prog 154 #[.agg #[.int .i64 c,.slice b.a b.len b.cap],.int .i64 d] w K:=cq (sk:=.leaf) Tryz.func154 (by kernel_rfl) (by kernel_rfl) (by kernel_rfl) h
def B157 (s:Int) (f:Sl) (c:Int) (K:Value→World→Prop) (w:World):Prop:=
 New (.cells #[.int .i64 s,.slice f.a f.len f.cap] 93 (0,0)) (fun k o=>
 ∃ m:Int,∃ e:Sl,(At (fun i=>i=o) ⟨k,0,none⟩ [.int .i64 m,.slice e.a e.len e.cap])∧
 Calls Tryz.prog 154 #[.agg #[.int .i64 m,.slice e.a e.len e.cap],.int .i64 c] o fun p j=>
 ∃ n:Bool,(p=.returned (.bool n))∧
 Br (!n)
 (K (.tuple #[.string (ByteArray.mk #[]),.int .i64 1]) j)
 (∃ l:Int,∃ d:Sl,(At (fun i=>i=j) ⟨k,0,none⟩ [.int .i64 l,.slice d.a d.len d.cap])∧
 Calls Tryz.prog 138 #[.agg #[.int .i64 l,.slice d.a d.len d.cap]] j fun q t=>
 ∃ b:Int,(q=.returned (.int .i64 b))∧
 Drw t fun x u=>
 Nz b (Nz b (Nz b (((0:Int)≤IntKind.i64.wrap (c.tmod b + 1))∧
 ((IntKind.i64.wrap (c.tmod b + 1):Int)≤10)∧
 ((0:Int)≤c.tmod b)∧
 ((c.tmod b:Int)≤(↑(IntKind.i64.wrap (c.tmod b + 1)).toNat:Int))∧
 Calls Tryz.prog 174 #[.int .i64 (IntKind.i64.wrap (IntKind.i64.wrap (c.tdiv b) + 1))] u fun r v=>
 ∃ g:ByteArray,(r=.returned (.string g))∧
 (((↑(g.size + ((ByteArray.mk #[65,66,67,68,69,70,71,72,74,75]).extract (c.tmod b).toNat (IntKind.i64.wrap (c.tmod b + 1)).toNat).size):Int):Int)≤9223372036854775807)∧
 K (.tuple #[.string (g++(ByteArray.mk #[65,66,67,68,69,70,71,72,74,75]).extract (c.tmod b).toNat (IntKind.i64.wrap (c.tmod b + 1)).toNat),.int .i64 0]) v))))) w
theorem call157 (c:Int) (b:Sl) (d:Int) (K:Value→World→Prop) (w:World) (h:B157 c b d K w):Gets Tryz.prog 157 #[.agg #[.int .i64 c,.slice b.a b.len b.cap],.int .i64 d] w K:=cq (sk:=.leaf) Tryz.func157 (by kernel_rfl) (by kernel_rfl) (by kernel_rfl) h
def B151 (U:Int) (u:Sl) (V:ByteArray) (K:Value→World→Prop) (w:World):Prop:=
 New (.cells #[.int .i64 U,.slice u.a u.len u.cap] 93 (0,0)) (fun m I=>
 ∃ y:Int,∃ f:Sl,(At (fun d=>d=I) ⟨m,0,none⟩ [.int .i64 y,.slice f.a f.len f.cap])∧
 Calls Tryz.prog 101 #[.agg #[.int .i64 y,.slice f.a f.len f.cap]] I fun M J=>
 ∃ z:Bool,(M=.returned (.bool z))∧
 Br (!z)
 (K (.tuple #[.int .i64 0,.int .i64 1]) J)
 (New (.stringIter V 0) (fun L Y=>
 ∃ (l:Int→Int→World→Prop) (s:Int→Int→World→Nat),(l 0 ((-1)) Y)∧∀ (Z:Env) (b:Int) (c:Int) (o:World),l b c o→
 NextS ((some ⟨L,0,none⟩)) (fun T e p=>
 ∃ (k:Bool→World→Prop),(Br (decide (c ≥ 0))
 (k true p)
 (Br (T==0)
 (Br (e==48)
 (k true p)
 (k (decide (b>60)) p))
 (k (decide (b>60)) p)))∧
 ∀ (aa:Env) (A:Bool) (q:World),k A q→
 Br A
 (K (.tuple #[.int .i64 0,.int .i64 2]) q)
 (∃ (t:Bool→World→Prop),(Br (decide (e ≥ 48))
 (t (decide (e≤57)) q)
 (t false q))∧
 ∀ (ab:Env) (C:Bool) (r:World),t C r→
 Br C
 ((l (IntKind.i64.wrap (IntKind.i64.wrap (10 * b) + IntKind.i64.wrap (IntKind.i32.wrap (e - 48)))) c r)∧s (IntKind.i64.wrap (IntKind.i64.wrap (10 * b) + IntKind.i64.wrap (IntKind.i32.wrap (e - 48)))) c r<s b c o)
 (Calls Tryz.prog 170 #[.int .i32 e] r fun N x=>
 ∃ n:Int,(N=.returned (.int .i64 n))∧
 Br (decide (n<0))
 (K (.tuple #[.int .i64 0,.int .i64 2]) x)
 ((l b n x)∧s b n x<s b c o))))
 (fun j=>
 Br (decide (b<1))
 (K (.tuple #[.int .i64 0,.int .i64 2]) j)
 (∃ D:Int,(At (fun d=>d=j) ⟨m,0,none⟩ [.int .i64 D])∧
 Br (decide (b>D))
 (K (.tuple #[.int .i64 0,.int .i64 2]) j)
 (Br (decide (c<0))
 (K (.tuple #[.int .i64 0,.int .i64 2]) j)
 (∃ E:Int,∃ g:Sl,(At (fun d=>d=j) ⟨m,0,none⟩ [.int .i64 E,.slice g.a g.len g.cap])∧
 Calls Tryz.prog 138 #[.agg #[.int .i64 E,.slice g.a g.len g.cap]] j fun O v=>
 ∃ F:Int,(O=.returned (.int .i64 F))∧
 Br (decide (c ≥ F))
 (K (.tuple #[.int .i64 0,.int .i64 2]) v)
 (∃ G:Int,∃ i:Sl,(At (fun d=>d=v) ⟨m,0,none⟩ [.int .i64 G,.slice i.a i.len i.cap])∧
 Calls Tryz.prog 138 #[.agg #[.int .i64 G,.slice i.a i.len i.cap]] v fun Q X=>
 ∃ H:Int,(Q=.returned (.int .i64 H))∧
 K (.tuple #[.int .i64 (IntKind.i64.wrap (IntKind.i64.wrap (IntKind.i64.wrap (b - 1) * H) + c)),.int .i64 0]) X))))) o) J)) w
def sk151:Sk:=(.seq .leaf (.seq .leaf (.seq .leaf (.seq (.seq .leaf (.block (.loop [6,7] [(.int .i64),(.int .i64)] [4,5,6,7,8,9,15,16,17,18,19,20,21,22,23,24,25,26,27,28,29,30,31,32,33,34,35,36,37,38,39,40,41,42,43,44,45,46,47,48,49,50] (.seq .leaf (.seq .leaf (.block (.seq .leaf (.block (.cut [23] [.bool] [23,24,25,26,27,28,29,30,31,32,33,34,35,36,37] .leaf (.cond .leaf (.cut [38] [.bool] [38,39,40,41,42,43,44] .leaf .leaf))))))))))) .leaf))))
theorem call151 (c:Int) (b:Sl) (d:ByteArray) (K:Value→World→Prop) (w:World) (h:B151 c b d K w):Gets Tryz.prog 151 #[.agg #[.int .i64 c,.slice b.a b.len b.cap],.string d] w K:=cq (sk:=sk151) Tryz.func151 (by kernel_rfl) (by kernel_rfl) (by kernel_rfl) h
def B170 (f:Int) (K:Value→World→Prop) (w:World):Prop:=
 ∃ (c:Int→World→Prop) (e:Int→World→Nat),(c 0 w)∧∀ (g:Env) (a:Int) (b:World),c a b→
 Br (decide (a<10))
 (∃ d:UInt8,((0:Int)≤a)∧
 ((ByteArray.mk #[65,66,67,68,69,70,71,72,74,75])[a.toNat]? =some d)∧
 Br (IntKind.i32.wrap (↑d.toNat:Int)==f)
 (K (.int .i64 a) b)
 ((c (IntKind.i64.wrap (a + 1)) b)∧e (IntKind.i64.wrap (a + 1)) b<e a b))
 (K (.int .i64 ((-1))) b)
def sk170:Sk:=(.seq .leaf (.seq (.seq .leaf (.block (.loop [4] [(.int .i64)] [2,3,4,5,6,7,8,9,10,11,12,13] .leaf))) .leaf))
theorem call170 (a:Int) (K:Value→World→Prop) (w:World) (h:B170 a K w):Gets Tryz.prog 170 #[.int .i32 a] w K:=cq (sk:=sk170) Tryz.func170 (by kernel_rfl) (by kernel_rfl) (by kernel_rfl) h
def B155 (t:Int) (k:Sl) (u:Int) (K:Value→World→Prop) (w:World):Prop:=
 New (.cells #[.int .i64 t,.slice k.a k.len k.cap] 93 (0,0)) (fun m o=>
 ∃ n:Int,∃ e:Sl,(At (fun i=>i=o) ⟨m,0,none⟩ [.int .i64 n,.slice e.a e.len e.cap])∧
 Calls Tryz.prog 138 #[.agg #[.int .i64 n,.slice e.a e.len e.cap]] o fun s p=>
 ∃ l:Int,(s=.returned (.int .i64 l))∧
 Nz l (∃ f:Sl,(At (fun i=>i=p) ⟨m,0 + 1,none⟩ [.slice f.a f.len f.cap])∧
 ∃ (j:Int→Int→World→Prop) (q:Int→Int→World→Nat),(j (u.tmod l) 0 p)∧∀ (v:Env) (b:Int) (c:Int) (d:World),j b c d→
 Br (decide (c<(↑f.len:Int)))
 (Rng c f.len (NilP f.a fun r=>
 ∃ g:Int,(At (fun i=>i=d) (Addr.add r c.toNat) [.int .i64 g])∧
 Br (decide (b<g))
 (K (.tuple #[.int .i64 b,.int .i64 (IntKind.i64.wrap (IntKind.i64.wrap (g - 1) - b))]) d)
 ((j (IntKind.i64.wrap (b - g)) (IntKind.i64.wrap (c + 1)) d)∧q (IntKind.i64.wrap (b - g)) (IntKind.i64.wrap (c + 1)) d<q b c d)))
 (K (.tuple #[.int .i64 0,.int .i64 0]) d))) w
def sk155:Sk:=(.seq .leaf (.seq .leaf (.seq (.seq .leaf (.block (.loop [6,16] [(.int .i64),(.int .i64)] [4,5,6,8,16,17,18,19,20,21,22,23,24,25,26,27,28,29,30,31] .leaf))) .leaf)))
theorem call155 (c:Int) (b:Sl) (d:Int) (K:Value→World→Prop) (w:World) (h:B155 c b d K w):Gets Tryz.prog 155 #[.agg #[.int .i64 c,.slice b.a b.len b.cap],.int .i64 d] w K:=cq (sk:=sk155) Tryz.func155 (by kernel_rfl) (by kernel_rfl) (by kernel_rfl) h
def B118 (ar:Int) (F:Sl) (H:Sl) (j:Int) (K:Value→World→Prop) (w:World):Prop:=
 New (.cells #[.int .i64 ar,.slice F.a F.len F.cap] 93 (0,0)) (fun r I=>
 ∃ (N:World→Prop),(Br (decide (j<1))
 (K (.tuple #[.slice none 0 0,.int .i64 1]) I)
 (∃ O:Int,∃ m:Sl,(At (fun c=>c=I) ⟨r,0,none⟩ [.int .i64 O,.slice m.a m.len m.cap])∧
 Calls Tryz.prog 100 #[.agg #[.int .i64 O,.slice m.a m.len m.cap]] I fun am ae=>
 ∃ Q:Int,(am=.returned (.int .i64 Q))∧
 Br (decide (j>Q))
 (K (.tuple #[.slice none 0 0,.int .i64 1]) ae)
 (N  ae)))∧
 ∀ (az:Env)  (J:World),N  J→
 ∃ T:Int,∃ n:Sl,(At (fun c=>c=J) ⟨r,0,none⟩ [.int .i64 T,.slice n.a n.len n.cap])∧
 Calls Tryz.prog 100 #[.agg #[.int .i64 T,.slice n.a n.len n.cap]] J fun an ax=>
 ∃ G:Int,(an=.returned (.int .i64 G))∧
 ∃ af:World,∃ f:Sl,((Instr.makeSlice 235 (.int .i64 G) (.int .i64 G)).run Tryz.prog ax=.ok (.slice f.a f.len f.cap) af)∧
 ∃ (u:Int→World→Prop) (D:Int→World→Nat),(u 0 af)∧∀ (a0:Env) (e:Int) (i:World),u e i→
 Br (decide (e<(↑H.len:Int)))
 (Rng e H.len (NilP H.a fun ag=>
 ∃ z:Int,(At (fun c=>c=i) (Addr.add ag e.toNat) [.int .i64 z])∧
 ∃ U:Int,∃ o:Sl,(At (fun c=>c=i) ⟨r,0,none⟩ [.int .i64 U,.slice o.a o.len o.cap])∧
 Calls Tryz.prog 154 #[.agg #[.int .i64 U,.slice o.a o.len o.cap],.int .i64 z] i fun ao L=>
 ∃ V:Bool,(ao=.returned (.bool V))∧
 Br V
 (Rng z f.len (NilP f.a fun ah=>
 ∃ M:World,((Instr.storeAt 4 (.pointer ((some (Addr.add ah z.toNat)))) (.bool true)).run Tryz.prog L=.ok () M)∧
 (u (IntKind.i64.wrap (e + 1)) M)∧D (IntKind.i64.wrap (e + 1)) M<D e i))
 ((u (IntKind.i64.wrap (e + 1)) L)∧D (IntKind.i64.wrap (e + 1)) L<D e i)))
 (∃ X:Int,∃ p:Sl,(At (fun c=>c=i) ⟨r,0,none⟩ [.int .i64 X,.slice p.a p.len p.cap])∧
 Calls Tryz.prog 100 #[.agg #[.int .i64 X,.slice p.a p.len p.cap]] i fun ap ay=>
 ∃ Y:Int,(ap=.returned (.int .i64 Y))∧
 ∃ (v:Sl→Sl→Int→World→Prop) (E:Sl→Sl→Int→World→Nat),(v ⟨none,0,0⟩ ⟨none,0,0⟩ 0 ay)∧∀ (a1:Env) (d:Sl) (y:Sl) (b:Int) (k:World),v d y b k→
 Br (decide (b<Y))
 (∃ (x:Sl→World→Prop),(∃ Z:Int,∃ q:Sl,(At (fun c=>c=k) ⟨r,0,none⟩ [.int .i64 Z,.slice q.a q.len q.cap])∧
 Calls Tryz.prog 155 #[.agg #[.int .i64 Z,.slice q.a q.len q.cap],.int .i64 b] k fun aq A=>
 ∃ aa:Int,∃ au:Int,(aq=.returned (.tuple #[.int .i64 aa,.int .i64 au]))∧
 Br (aa==0)
 (x ⟨none,0,0⟩ A)
 (Rng b f.len (NilP f.a fun ai=>
 ∃ ab:Bool,(At (fun c=>c=A) (Addr.add ai b.toNat) [.bool ab])∧
 Br ab
 (x ⟨none,0,0⟩ A)
 (x y A))))∧
 ∀ (a2:Env) (l:Sl) (t:World),x l t→
 Rng b f.len (NilP f.a fun aj=>
 ∃ ac:Bool,(At (fun c=>c=t) (Addr.add aj b.toNat) [.bool ac])∧
 Br ac
 ((v d l (IntKind.i64.wrap (b + 1)) t)∧E d l (IntKind.i64.wrap (b + 1)) t<E d y b k)
 (New (.cells #[.int .i64 b] 3 (0,0)) (fun ak av=>
 ∃ ad:World,∃ s:Sl,((Builtin.append_ #[68,68] 68 #[.slice d.a d.len d.cap,.slice ((some ⟨ak,0,none⟩)) 1 1]).run Tryz.prog av=.ok (.slice s.a s.len s.cap) ad)∧
 New (.cells #[.int .i64 b] 3 (0,0)) (fun al aw=>
 ∃ C:World,∃ g:Sl,((Builtin.append_ #[68,68] 68 #[.slice l.a l.len l.cap,.slice ((some ⟨al,0,none⟩)) 1 1]).run Tryz.prog aw=.ok (.slice g.a g.len g.cap) C)∧
 Br ((↑g.len:Int)==j)
 (K (.tuple #[.slice g.a g.len g.cap,.int .i64 0]) C)
 ((v s g (IntKind.i64.wrap (b + 1)) C)∧E s g (IntKind.i64.wrap (b + 1)) C<E d y b k)) ad) t)))
 (Br (decide ((↑d.len:Int)<j))
 (K (.tuple #[.slice none 0 0,.int .i64 3]) k)
 (((0:Int)≤j)∧
 ((j:Int)≤(↑d.cap:Int))∧
 K (.tuple #[.slice d.a j.toNat d.cap,.int .i64 0]) k)))) w
def sk118:Sk:=(.seq .leaf (.cut [] [] [6,7,16,17,18,19,20,21,22,23] .leaf (.seq .leaf (.seq (.seq .leaf (.block (.loop [29] [(.int .i64)] [10,29,30,31,32,33,34,35,36,37,38,39] .leaf))) (.seq .leaf (.seq (.seq .leaf (.block (.loop [11,12,42] [.sl,.sl,(.int .i64)] [6,7,11,12,13,14,15,42,43,44,45,46,47,48,49,50,51,52,53,54,55,56,57,58,59,60,61,62,63,64,65,66,67,68,69,70,71,72,73,74,75,76] (.seq .leaf (.seq .leaf (.seq (.block (.seq .leaf (.cut [12] [.sl] [12,14,15,45,46,47,48,49,50,51,52,53,54,55,56,57,58] .leaf .leaf))) .leaf)))))) .leaf))))))
theorem call118 (d:Int) (b:Sl) (c:Sl) (e:Int) (K:Value→World→Prop) (w:World) (h:B118 d b c e K w):Gets Tryz.prog 118 #[.agg #[.int .i64 d,.slice b.a b.len b.cap],.slice c.a c.len c.cap,.int .i64 e] w K:=cq (sk:=sk118) Tryz.func118 (by kernel_rfl) (by kernel_rfl) (by kernel_rfl) h
def B136 (a:Int) (K:Value→World→Prop) (w:World):Prop:=
 Br (decide (a ≥ 0))
 (K (.bool (decide (a≤10000))) w)
 (K (.bool false) w)
theorem call136 (a:Int) (K:Value→World→Prop) (w:World) (h:B136 a K w):Gets Tryz.prog 136 #[.int .i64 a] w K:=cq (sk:=.leaf) Tryz.func136 (by kernel_rfl) (by kernel_rfl) (by kernel_rfl) h
def B140 (c:Sl) (k:Sl) (t:Value) (K:Value→World→Prop) (w:World):Prop:=
 ∃ (s:World→Prop),(Br (decide ((↑c.len:Int)<1))
 (K (.bool false) w)
 (Br (decide ((↑c.len:Int)>8))
 (K (.bool false) w)
 (Br ((↑k.len:Int) !=(↑c.len:Int))
 (K (.bool false) w)
 (s  w))))∧
 ∀ (Z:Env)  (E:World),s  E→
 ∃ (n:Int→Bool→Int→World→Prop) (o:Int→Bool→Int→World→Nat),(n 0 true (IntKind.i64.wrap ((↑c.len:Int) - 1)) E)∧∀ (aa:Env) (d:Int) (j:Bool) (b:Int) (l:World),n d j b l→
 Br (decide (b ≥ 0))
 (∃ (p:World→Prop),(Drw l fun i Y=>
 Rng b c.len (NilP c.a fun H=>
 ∃ u:Int,(At i (Addr.add H b.toNat) [.int .i64 u])∧
 Calls Tryz.prog 136 #[.int .i64 u] Y fun T r=>
 ∃ v:Bool,(T=.returned (.bool v))∧
 (i r)∧
 Br (!v)
 (K (.bool false) r)
 (Rng b k.len (NilP k.a fun I=>
 ∃ x:Int,(At i (Addr.add I b.toNat) [.int .i64 x])∧
 Calls Tryz.prog 136 #[.int .i64 x] r fun U m=>
 ∃ y:Bool,(U=.returned (.bool y))∧
 (i m)∧
 Br (!y)
 (K (.bool false) m)
 (Br (decide (b>0))
 (Rng b c.len (NilP c.a fun J=>
 ∃ z:Int,(At i (Addr.add J b.toNat) [.int .i64 z])∧
 Rng (IntKind.i64.wrap (b - 1)) c.len (NilP c.a fun L=>
 ∃ A:Int,(At i (Addr.add L ((IntKind.i64.wrap (b - 1)).toNat)) [.int .i64 A])∧
 Br (decide (z>A))
 (K (.bool false) m)
 (p  m))))
 (p  m))))))∧
 ∀ (ab:Env)  (g:World),p  g→
 Rng b k.len (NilP k.a fun M=>
 ∃ e:Int,(At (fun f=>f=g) (Addr.add M b.toNat) [.int .i64 e])∧
 Br j
 (Rng b c.len (NilP c.a fun N=>
 ∃ q:Int,(At (fun f=>f=g) (Addr.add N b.toNat) [.int .i64 q])∧
 Rng b c.len (NilP c.a fun O=>
 ∃ C:Int,(At (fun f=>f=g) (Addr.add O b.toNat) [.int .i64 C])∧
 CalW Tryz.prog cl t [.int .i64 b,.int .i64 (IntKind.i64.wrap (C - IntKind.i64.wrap (d + e)))] g fun V F=>
 (V=.returned (.tuple #[]))∧
 (n (IntKind.i64.wrap (d + e)) (decide (IntKind.i64.wrap (d + e)≤q)) (IntKind.i64.wrap (b - 1)) F)∧o (IntKind.i64.wrap (d + e)) (decide (IntKind.i64.wrap (d + e)≤q)) (IntKind.i64.wrap (b - 1)) F<o d j b l)))
 (Rng b c.len (NilP c.a fun Q=>
 ∃ D:Int,(At (fun f=>f=g) (Addr.add Q b.toNat) [.int .i64 D])∧
 CalW Tryz.prog cl t [.int .i64 b,.int .i64 (IntKind.i64.wrap (D - IntKind.i64.wrap (d + e)))] g fun X G=>
 (X=.returned (.tuple #[]))∧
 (n (IntKind.i64.wrap (d + e)) false (IntKind.i64.wrap (b - 1)) G)∧o (IntKind.i64.wrap (d + e)) false (IntKind.i64.wrap (b - 1)) G<o d j b l))))
 (K (.bool j) l)
def sk140:Sk:=(.seq .leaf (.cut [] [] [6,10,11,12,13,14,15,16,17,18,19,20,21,22,23,24] .leaf (.seq .leaf (.seq (.seq .leaf (.block (.loop [7,8,9] [(.int .i64),.bool,(.int .i64)] [6,7,8,9,28,29,30,31,32,33,34,35,36,37,38,39,40,41,42,43,44,45,46,47,48,49,50,51,52,53,54,55,56,57,58,59,60,61,62,63,64,65,66,67,68,69,70,71,72,73,74,75,76,77,78,79,80,81,82,83,84,85] (.seq .leaf (.seq (.block (.cut [] [] [6,32,33,34,35,36,37,38,39,40,41,42,43,44,45,46,47,48,49,50,51,52,53,54,55,56,57,58,59,60,61] .leaf .leaf)) .leaf))))) .leaf))))
theorem call140 (b:Sl) (c:Sl) (d:Value) (K:Value→World→Prop) (w:World) (h:B140 b c d K w):Gets Tryz.prog 140 #[.slice b.a b.len b.cap,.slice c.a c.len c.cap,d] w K:=cq (sk:=sk140) Tryz.func140 (by kernel_rfl) (by kernel_rfl) (by kernel_rfl) h
def B104 (d:Sl) (g:Sl) (n:Int) (K:Value→World→Prop) (w:World):Prop:=
 New (.cells #[.int .i64 n] 3 (0,0)) (fun e p=>
 New (.cells #[.int .i64 0] 3 (0,0)) (fun f q=>
 ∃ m:World,((Instr.storeAt 3 (.pointer ((some ⟨f,0,none⟩))) (.int .i64 10000)).run Tryz.prog q=.ok () m)∧
 Calls Tryz.prog 140 #[.slice d.a d.len d.cap,.slice g.a g.len g.cap,.func (.func 141) #[] #[.pointer ((some ⟨e,0,none⟩)),.pointer ((some ⟨f,0,none⟩))]] m fun o b=>
 ∃ i:Bool,(o=.returned (.bool i))∧
 Br (!i)
 (K (.tuple #[.int .i64 0,.int .i64 1]) b)
 (∃ j:Int,(At (fun c=>c=b) ⟨e,0,none⟩ [.int .i64 j])∧
 Br (decide (j<0))
 (K (.tuple #[.int .i64 0,.int .i64 1]) b)
 (∃ k:Int,(At (fun c=>c=b) ⟨e,0,none⟩ [.int .i64 k])∧
 Br (decide (k ≥ (↑d.len:Int)))
 (K (.tuple #[.int .i64 0,.int .i64 1]) b)
 (∃ l:Int,(At (fun c=>c=b) ⟨f,0,none⟩ [.int .i64 l])∧
 K (.tuple #[.int .i64 l,.int .i64 0]) b)))) p) w
theorem call104 (b:Sl) (c:Sl) (d:Int) (K:Value→World→Prop) (w:World) (h:B104 b c d K w):Gets Tryz.prog 104 #[.slice b.a b.len b.cap,.slice c.a c.len c.cap,.int .i64 d] w K:=cq (sk:=.leaf) Tryz.func104 (by kernel_rfl) (by kernel_rfl) (by kernel_rfl) h
def B141 (k:Int) (d:Int) (j:Option Addr) (c:Option Addr) (K:Value→World→Prop) (w:World):Prop:=
 NilP j fun g=>
 ∃ e:Int,(At (fun b=>b=w) g [.int .i64 e])∧
 Br (decide (k≤e))
 (NilP c fun i=>
 ∃ a:Int,(At (fun b=>b=w) i [.int .i64 a])∧
 ∃ f:World,((Instr.storeAt 3 (.pointer c) (.int .i64 (if d<a then d else a))).run Tryz.prog w=.ok () f)∧
 K (.tuple #[]) f)
 (K (.tuple #[]) w)
theorem call141 (c:Int) (d:Int) (a:Option Addr) (b:Option Addr) (K:Value→World→Prop) (w:World) (h:B141 c d a b K w):Gets Tryz.prog 141 #[.int .i64 c,.int .i64 d,.pointer a,.pointer b] w K:=cq (sk:=.leaf) Tryz.func141 (by kernel_rfl) (by kernel_rfl) (by kernel_rfl) h
def B105 (f:Sl) (b:Sl) (g:Int) (e:Int) (K:Value→World→Prop) (w:World):Prop:=
 Calls Tryz.prog 104 #[.slice f.a f.len f.cap,.slice b.a b.len b.cap,.int .i64 g] w fun k d=>
 ∃ i:Int,∃ j:Int,(k=.returned (.tuple #[.int .i64 i,.int .i64 j]))∧
 Br (j !=0)
 (K (.tuple #[.slice none 0 0,.int .i64 1]) d)
 (Br (decide (e<1))
 (K (.tuple #[.slice none 0 0,.int .i64 1]) d)
 (Br (decide (e>10000))
 (K (.tuple #[.slice none 0 0,.int .i64 1]) d)
 (Br (decide (e>i))
 (K (.tuple #[.slice none 0 0,.int .i64 3]) d)
 (Calls Tryz.prog 142 #[.slice b.a b.len b.cap,.int .i64 g,.int .i64 e] d fun l m=>
 ∃ c:Sl,(l=.returned (.slice c.a c.len c.cap))∧
 K (.tuple #[.slice c.a c.len c.cap,.int .i64 0]) m))))
theorem call105 (b:Sl) (c:Sl) (d:Int) (e:Int) (K:Value→World→Prop) (w:World) (h:B105 b c d e K w):Gets Tryz.prog 105 #[.slice b.a b.len b.cap,.slice c.a c.len c.cap,.int .i64 d,.int .i64 e] w K:=cq (sk:=.leaf) Tryz.func105 (by kernel_rfl) (by kernel_rfl) (by kernel_rfl) h
def B114 (f:Sl) (b:Sl) (e:Int) (g:Int) (K:Value→World→Prop) (w:World):Prop:=
 Calls Tryz.prog 104 #[.slice f.a f.len f.cap,.slice b.a b.len b.cap,.int .i64 e] w fun l d=>
 ∃ n:Int,∃ i:Int,(l=.returned (.tuple #[.int .i64 n,.int .i64 i]))∧
 Br (i !=0)
 (K (.tuple #[.slice none 0 0,.int .i64 1]) d)
 (Br (decide (g<1))
 (K (.tuple #[.slice none 0 0,.int .i64 1]) d)
 (Rng e b.len (NilP b.a fun k=>
 ∃ j:Int,(At (fun o=>o=d) (Addr.add k e.toNat) [.int .i64 j])∧
 Br (decide (g>j))
 (K (.tuple #[.slice none 0 0,.int .i64 1]) d)
 (Calls Tryz.prog 142 #[.slice b.a b.len b.cap,.int .i64 e,.int .i64 (IntKind.i64.wrap (0 - g))] d fun m p=>
 ∃ c:Sl,(m=.returned (.slice c.a c.len c.cap))∧
 K (.tuple #[.slice c.a c.len c.cap,.int .i64 0]) p))))
theorem call114 (b:Sl) (c:Sl) (d:Int) (e:Int) (K:Value→World→Prop) (w:World) (h:B114 b c d e K w):Gets Tryz.prog 114 #[.slice b.a b.len b.cap,.slice c.a c.len c.cap,.int .i64 d,.int .i64 e] w K:=cq (sk:=.leaf) Tryz.func114 (by kernel_rfl) (by kernel_rfl) (by kernel_rfl) h
def B142 (d:Sl) (c:Int) (l:Int) (K:Value→World→Prop) (w:World):Prop:=
 Calls Tryz.prog 102 #[.slice d.a d.len d.cap] w fun k f=>
 ∃ b:Sl,(k=.returned (.slice b.a b.len b.cap))∧
 Rng c b.len (NilP b.a fun i=>
 ∃ e:Int,(At (fun m=>m=f) (Addr.add i c.toNat) [.int .i64 e])∧
 Rng c b.len (NilP b.a fun j=>
 ∃ g:World,((Instr.storeAt 3 (.pointer ((some (Addr.add j c.toNat)))) (.int .i64 (IntKind.i64.wrap (e + l)))).run Tryz.prog f=.ok () g)∧
 K (.slice b.a b.len b.cap) g))
theorem call142 (b:Sl) (c:Int) (d:Int) (K:Value→World→Prop) (w:World) (h:B142 b c d K w):Gets Tryz.prog 142 #[.slice b.a b.len b.cap,.int .i64 c,.int .i64 d] w K:=cq (sk:=.leaf) Tryz.func142 (by kernel_rfl) (by kernel_rfl) (by kernel_rfl) h
def B99 (j:Int) (d:Sl) (K:Value→World→Prop) (w:World):Prop:=
 ∃ (o:World→Prop),(Calls Tryz.prog 136 #[.int .i64 j] w fun z g=>
 ∃ p:Bool,(z=.returned (.bool p))∧
 Br (!p)
 (K (.tuple #[.slice none 0 0,.int .i64 1]) g)
 (Br (decide ((↑d.len:Int)<1))
 (K (.tuple #[.slice none 0 0,.int .i64 1]) g)
 (Br (decide ((↑d.len:Int)>8))
 (K (.tuple #[.slice none 0 0,.int .i64 1]) g)
 (o  g))))∧
 ∀ (F:Env)  (r:World),o  r→
 New (.cells #[.int .i64 j] 3 (0,0)) (fun x D=>
 ((0:Int)≤1)∧
 ((1:Int)≤(↑d.len:Int))∧
 ∃ (i:Sl→Int→World→Prop) (t:Sl→Int→World→Nat),(i ⟨(some ⟨x,0,none⟩),1,1⟩ 0 D)∧∀ (G:Env) (b:Sl) (c:Int) (f:World),i b c f→
 Br (decide (c<(↑(d.len - Int.toNat 1):Int)))
 (Rng c (d.len - Int.toNat 1) (NilP (cutA d.a (Int.toNat 1) d.cap 1) fun u=>
 ∃ q:Nat,(At (fun m=>m=f) (Addr.add u c.toNat) [.float .f64 q])∧
 Calls Tryz.prog 137 #[.float .f64 q,.int .i64 j] f fun A s=>
 ∃ k:Int,∃ C:Int,(A=.returned (.tuple #[.int .i64 k,.int .i64 C]))∧
 Rng c b.len (NilP b.a fun v=>
 ∃ l:Int,(At (fun m=>m=s) (Addr.add v c.toNat) [.int .i64 l])∧
 New (.cells #[.int .i64 (if l<k then l else k)] 3 (0,0)) (fun y E=>
 ∃ n:World,∃ e:Sl,((Builtin.append_ #[68,68] 68 #[.slice b.a b.len b.cap,.slice ((some ⟨y,0,none⟩)) 1 1]).run Tryz.prog E=.ok (.slice e.a e.len e.cap) n)∧
 (i e (IntKind.i64.wrap (c + 1)) n)∧t e (IntKind.i64.wrap (c + 1)) n<t b c f) s)))
 (K (.tuple #[.slice b.a b.len b.cap,.int .i64 0]) f)) r
def sk99:Sk:=(.seq .leaf (.cut [] [] [4,5,11,12,13,14,15,16,17,18,19,20,21,22,23] .leaf (.seq .leaf (.seq (.seq .leaf (.block (.loop [6,29] [.sl,(.int .i64)] [6,7,8,9,10,29,30,31,32,33,34,35,36,37,38,39,40,41,42,43,44,45,46,47,48,49] .leaf))) .leaf))))
theorem call99 (c:Int) (b:Sl) (K:Value→World→Prop) (w:World) (h:B99 c b K w):Gets Tryz.prog 99 #[.int .i64 c,.slice b.a b.len b.cap] w K:=cq (sk:=sk99) Tryz.func99 (by kernel_rfl) (by kernel_rfl) (by kernel_rfl) h
def B137 (c:Nat) (d:Int) (K:Value→World→Prop) (w:World):Prop:=
 ∃ (e:Bool→World→Prop),(Br (decide (d<0))
 (e true w)
 (e (decide (d>10000)) w))∧
 ∀ (q:Env) (n:Bool) (b:World),e n b→
 Br n
 (K (.tuple #[.int .i64 0,.int .i64 1]) b)
 (∃ i:Bool,(∀ a,(fun a=>a=b) a→((do eqGuard BinOp.gtr 91 (Operand.tmp 14) (Operand.const (Value.float FloatKind.f64 0)) (.float .f64 c) (.float .f64 0);binOp BinOp.gtr 91 (.float .f64 c) (.float .f64 0):Sem Value)).run Tryz.prog a=.ok (.bool i) a)∧
 Br (!i)
 (K (.tuple #[.int .i64 0,.int .i64 0]) b)
 (∃ j:Bool,(∀ a,(fun a=>a=b) a→((do eqGuard BinOp.geq 91 (Operand.tmp 18) (Operand.const (Value.float FloatKind.f64 4607182418800017408)) (.float .f64 c) (.float .f64 4607182418800017408);binOp BinOp.geq 91 (.float .f64 c) (.float .f64 4607182418800017408):Sem Value)).run Tryz.prog a=.ok (.bool j) a)∧
 Br j
 (K (.tuple #[.int .i64 d,.int .i64 0]) b)
 (∃ g:World,∃ f:Nat,((convert 3 91 (.int .i64 d)).run Tryz.prog b=.ok (.float .f64 f) g)∧
 ∃ k:Nat,(∀ a,(fun a=>a=g) a→((do eqGuard BinOp.mul 91 (Operand.tmp 21) (Operand.tmp 23) (.float .f64 c) (.float .f64 f);binOp BinOp.mul 91 (.float .f64 c) (.float .f64 f):Sem Value)).run Tryz.prog a=.ok (.float .f64 k) a)∧
 Calls Tryz.prog 167 #[.float .f64 k] g fun p o=>
 ∃ l:Nat,(p=.returned (.float .f64 l))∧
 ∃ m:Int,(∀ a,(fun a=>a=o) a→((convert 91 3 (.float .f64 l))).run Tryz.prog a=.ok (.int .i64 m) a)∧
 K (.tuple #[.int .i64 m,.int .i64 0]) o)))
def sk137:Sk:=(.seq .leaf (.seq (.block (.cut [6] [.bool] [6,7,8,9,10,11,12] .leaf .leaf)) .leaf))
theorem call137 (a:Nat) (b:Int) (K:Value→World→Prop) (w:World) (h:B137 a b K w):Gets Tryz.prog 137 #[.float .f64 a,.int .i64 b] w K:=cq (sk:=sk137) Tryz.func137 (by kernel_rfl) (by kernel_rfl) (by kernel_rfl) h
def B167 (d:Nat) (K:Value→World→Prop) (w:World):Prop:=
 Ext Tryz.prog 177 #[.float .f64 d] w fun b c=>
 ∃ a:Nat,(b=.returned (.float .f64 a))∧
 K (.float .f64 a) c
theorem call167 (a:Nat) (K:Value→World→Prop) (w:World) (h:B167 a K w):Gets Tryz.prog 167 #[.float .f64 a] w K:=cq (sk:=.leaf) Tryz.func167 (by kernel_rfl) (by kernel_rfl) (by kernel_rfl) h
def B174 (c:Int) (K:Value→World→Prop) (w:World):Prop:=
 Calls Tryz.prog 182 #[.int .i64 c] w fun b d=>
 ∃ a:ByteArray,(b=.returned (.string a))∧
 K (.string a) d
theorem call174 (a:Int) (K:Value→World→Prop) (w:World) (h:B174 a K w):Gets Tryz.prog 174 #[.int .i64 a] w K:=cq (sk:=.leaf) Tryz.func174 (by kernel_rfl) (by kernel_rfl) (by kernel_rfl) h
end Go.Proofs.YtflgboncpbmikaaGreatDoor
/- The formulas of functions of this seat's translation, printed by a program of mine off the translation; each is proved equal to 'fnF' of the function's body, so it is enough for the call. No condition. -/
namespace Go.Proofs.YtflgboncpbmikaaGreatDoor
open Go Go.VC
set_option linter.unusedVariables false
set_option maxRecDepth 10000
def B74 (n:Int) (F:Int) (m:Sl) (o:Sl) (K:Value→World→Prop) (w:World):Prop:=
 New (.cells #[.int .i64 F,.slice m.a m.len m.cap] 93 (0,0)) (fun j y=>
 ∃ q:Int,∃ c:Sl,(At (fun b=>b=y) ⟨j,0,none⟩ [.int .i64 q,.slice c.a c.len c.cap])∧
 Calls Tryz.prog 100 #[.agg #[.int .i64 q,.slice c.a c.len c.cap]] y fun z G=>
 ∃ r:Int,(z=.returned (.int .i64 r))∧
 Calls Tryz.prog 99 #[.int .i64 r,.slice o.a o.len o.cap] G fun A k=>
 ∃ d:Sl,∃ s:Int,(A=.returned (.tuple #[.slice d.a d.len d.cap,.int .i64 s]))∧
 Br (decide (n<1))
 (K (.tuple #[.pointer none,.int .i64 1]) k)
 (Br (decide (n>9999))
 (K (.tuple #[.pointer none,.int .i64 1]) k)
 (∃ t:Int,∃ e:Sl,(At (fun b=>b=k) ⟨j,0,none⟩ [.int .i64 t,.slice e.a e.len e.cap])∧
 Calls Tryz.prog 101 #[.agg #[.int .i64 t,.slice e.a e.len e.cap]] k fun C l=>
 ∃ u:Bool,(C=.returned (.bool u))∧
 Br (!u)
 (K (.tuple #[.pointer none,.int .i64 1]) l)
 (Br (s !=0)
 (K (.tuple #[.pointer none,.int .i64 1]) l)
 (∃ f:Sl,(At (fun b=>b=l) ⟨j,0 + 1,none⟩ [.slice f.a f.len f.cap])∧
 Calls Tryz.prog 102 #[.slice f.a f.len f.cap] l fun D H=>
 ∃ g:Sl,(D=.returned (.slice g.a g.len g.cap))∧
 ∃ p:World,((Instr.storeAt 68 (.pointer ((some ⟨j,0 + 1,none⟩))) (.slice g.a g.len g.cap)).run Tryz.prog H=.ok () p)∧
 ∃ v:Int,∃ i:Sl,(At (fun b=>b=p) ⟨j,0,none⟩ [.int .i64 v,.slice i.a i.len i.cap])∧
 Calls Tryz.prog 103 #[.int .i64 n,.agg #[.int .i64 v,.slice i.a i.len i.cap],.slice d.a d.len d.cap] p fun E I=>
 ∃ x:Option Addr,(E=.returned (.pointer x))∧
 K (.tuple #[.pointer x,.int .i64 0]) I))))) w
theorem call74 (e:Int) (d:Int) (b:Sl) (c:Sl) (K:Value→World→Prop) (w:World) (h:B74 e d b c K w):Gets Tryz.prog 74 #[.int .i64 e,.agg #[.int .i64 d,.slice b.a b.len b.cap],.slice c.a c.len c.cap] w K:=cq (sk:=.leaf) Tryz.func74 (by kernel_rfl) (by kernel_rfl) (by kernel_rfl) h
def B103 (g:Int) (ah:Int) (n:Sl) (b:Sl) (K:Value→World→Prop) (w:World):Prop:=
 New (.cells #[.int .i64 ah,.slice n.a n.len n.cap] 93 (0,0)) (fun O ai=>
 Drw ai fun c t=>
 ∃ f:Int,∃ d:Sl,(At c ⟨O,0,none⟩ [.int .i64 f,.slice d.a d.len d.cap])∧
 (∃ m:World,∃ e:Sl,((Instr.makeSlice 68 (.int .i64 ((↑b.len:Int))) (.int .i64 ((↑b.len:Int)))).run Tryz.prog t=.ok (.slice e.a e.len e.cap) m)∧
 (c m)∧
 (New (.map #[] 0) (fun Q H=>
 (c H)∧
 New (.map #[] 0) (fun X I=>
 (c I)∧
 New (.cells #[.int .i64 g,.int .i64 f,.slice d.a d.len d.cap,.slice b.a b.len b.cap,.slice e.a e.len e.cap,.map ((some Q)),.map ((some X))] 165 (0,0)) (fun ab J=>
 (c J)∧
 K (.pointer ((some ⟨ab,0,none⟩))) J) I) H) m)∧
 New (.map #[] 0) (fun Y L=>
 (c L)∧
 New (.map #[] 0) (fun T M=>
 (c M)∧
 New (.cells #[.int .i64 g,.int .i64 f,.slice d.a d.len d.cap,.slice b.a b.len b.cap,.slice e.a e.len e.cap,.map ((some T)),.map ((some Y))] 165 (0,0)) (fun ac N=>
 (c N)∧
 K (.pointer ((some ⟨ac,0,none⟩))) N) M) L) m)∧
 (New (.map #[] 0) (fun v o=>
 (c o)∧
 (∃ p:World,∃ i:Sl,((Instr.makeSlice 68 (.int .i64 ((↑b.len:Int))) (.int .i64 ((↑b.len:Int)))).run Tryz.prog o=.ok (.slice i.a i.len i.cap) p)∧
 (c p)∧
 New (.map #[] 0) (fun Z y=>
 (c y)∧
 New (.cells #[.int .i64 g,.int .i64 f,.slice d.a d.len d.cap,.slice b.a b.len b.cap,.slice i.a i.len i.cap,.map ((some v)),.map ((some Z))] 165 (0,0)) (fun ad z=>
 (c z)∧
 K (.pointer ((some ⟨ad,0,none⟩))) z) y) p)∧
 New (.map #[] 0) (fun aa A=>
 (c A)∧
 ∃ q:World,∃ j:Sl,((Instr.makeSlice 68 (.int .i64 ((↑b.len:Int))) (.int .i64 ((↑b.len:Int)))).run Tryz.prog A=.ok (.slice j.a j.len j.cap) q)∧
 (c q)∧
 New (.cells #[.int .i64 g,.int .i64 f,.slice d.a d.len d.cap,.slice b.a b.len b.cap,.slice j.a j.len j.cap,.map ((some v)),.map ((some aa))] 165 (0,0)) (fun ae C=>
 (c C)∧
 K (.pointer ((some ⟨ae,0,none⟩))) C) q) o) t)∧
 New (.map #[] 0) (fun x r=>
 (c r)∧
 (∃ s:World,∃ k:Sl,((Instr.makeSlice 68 (.int .i64 ((↑b.len:Int))) (.int .i64 ((↑b.len:Int)))).run Tryz.prog r=.ok (.slice k.a k.len k.cap) s)∧
 (c s)∧
 New (.map #[] 0) (fun U D=>
 (c D)∧
 New (.cells #[.int .i64 g,.int .i64 f,.slice d.a d.len d.cap,.slice b.a b.len b.cap,.slice k.a k.len k.cap,.map ((some U)),.map ((some x))] 165 (0,0)) (fun af E=>
 (c E)∧
 K (.pointer ((some ⟨af,0,none⟩))) E) D) s)∧
 New (.map #[] 0) (fun V F=>
 (c F)∧
 ∃ u:World,∃ l:Sl,((Instr.makeSlice 68 (.int .i64 ((↑b.len:Int))) (.int .i64 ((↑b.len:Int)))).run Tryz.prog F=.ok (.slice l.a l.len l.cap) u)∧
 (c u)∧
 New (.cells #[.int .i64 g,.int .i64 f,.slice d.a d.len d.cap,.slice b.a b.len b.cap,.slice l.a l.len l.cap,.map ((some V)),.map ((some x))] 165 (0,0)) (fun ag G=>
 (c G)∧
 K (.pointer ((some ⟨ag,0,none⟩))) G) u) r) t) w
theorem call103 (e:Int) (d:Int) (b:Sl) (c:Sl) (K:Value→World→Prop) (w:World) (h:B103 e d b c K w):Gets Tryz.prog 103 #[.int .i64 e,.agg #[.int .i64 d,.slice b.a b.len b.cap],.slice c.a c.len c.cap] w K:=cq (sk:=.leaf) Tryz.func103 (by kernel_rfl) (by kernel_rfl) (by kernel_rfl) h
def B79 (f:Option Addr) (g:Int) (r:Int) (s:Int) (K:Value→World→Prop) (w:World):Prop:=
 NilP f fun m=>
 ∃ t:Option Nat,(At (fun b=>b=w) ⟨m.block,m.off + 5,none⟩ [.map t])∧
 ∃ D:Option Addr,∃ u:Bool,(∀ b,(fun b=>b=w) b→((Instr.lookup 162 (.map t) (.int .i64 g) true)).run Tryz.prog b=.ok (.tuple #[.pointer D,.bool u]) b)∧
 ∃ (k:World→Prop),(Br (decide (g<1))
 (K (.int .i64 1) w)
 (Br (decide (g>28629151))
 (K (.int .i64 1) w)
 (Br u
 (K (.int .i64 7) w)
 (k  w))))∧
 ∀ (G:Env)  (x:World),k  x→
 Drw x fun l E=>
 NilP f fun n=>
 ∃ c:Sl,(At l ⟨n.block,n.off + 3,none⟩ [.slice c.a c.len c.cap])∧
 NilP f fun o=>
 ∃ d:Sl,(At l ⟨o.block,o.off + 4,none⟩ [.slice d.a d.len d.cap])∧
 Calls Tryz.prog 105 #[.slice c.a c.len c.cap,.slice d.a d.len d.cap,.int .i64 r,.int .i64 s] E fun C y=>
 ∃ e:Sl,∃ i:Int,(C=.returned (.tuple #[.slice e.a e.len e.cap,.int .i64 i]))∧
 Br (i==0)
 (NilP f fun p=>
 ∃ j:World,((Instr.storeAt 68 (.pointer ((some ⟨p.block,p.off + 4,none⟩))) (.slice e.a e.len e.cap)).run Tryz.prog y=.ok () j)∧
 NilP f fun q=>
 ∃ v:Option Nat,(At (fun b=>b=j) ⟨q.block,q.off + 5,none⟩ [.map v])∧
 New (.cells #[.int .i64 g,.int .i64 r,.int .i64 s,.slice none 0 0] 169 (0,0)) (fun A F=>
 ∃ z:World,((Instr.mapUpdate 162 (.map v) (.int .i64 g) (.pointer ((some ⟨A,0,none⟩)))).run Tryz.prog F=.ok () z)∧
 K (.int .i64 i) z) j)
 (K (.int .i64 i) y)
def sk79:Sk:=(.seq .leaf (.seq .leaf (.cut [] [] [8,22,23,24,25,26,27,28,29,30] .leaf .leaf)))
theorem call79 (b:Option Addr) (d:Int) (a:Int) (c:Int) (K:Value→World→Prop) (w:World) (h:B79 b d a c K w):Gets Tryz.prog 79 #[.pointer b,.int .i64 d,.int .i64 a,.int .i64 c] w K:=cq (sk:=sk79) Tryz.func79 (by kernel_rfl) (by kernel_rfl) (by kernel_rfl) h
def B83 (d:Option Addr) (z:Int) (K:Value→World→Prop) (w:World):Prop:=
 NilP d fun p=>
 ∃ A:Option Nat,(At (fun b=>b=w) ⟨p.block,p.off + 5,none⟩ [.map A])∧
 ∃ l:Option Addr,∃ C:Bool,(∀ b,(fun b=>b=w) b→((Instr.lookup 162 (.map A) (.int .i64 z) true)).run Tryz.prog b=.ok (.tuple #[.pointer l,.bool C]) b)∧
 Br (!C)
 (K (.int .i64 2) w)
 (NilP l fun q=>
 ∃ e:Sl,(At (fun b=>b=w) ⟨q.block,q.off + 3,none⟩ [.slice e.a e.len e.cap])∧
 ∃ (m:Int→World→Prop) (J:Int→World→Nat),(m 0 w)∧∀ (T:Env) (c:Int) (j:World),m c j→
 Br (decide (c<(↑e.len:Int)))
 (Rng c e.len (NilP e.a fun L=>
 ∃ D:Int,(At (fun b=>b=j) (Addr.add L c.toNat) [.int .i64 D])∧
 NilP d fun r=>
 ∃ E:Option Nat,(At (fun b=>b=j) ⟨r.block,r.off + 6,none⟩ [.map E])∧
 ∃ n:World,((Builtin.delete_ #[163,3] 0 #[.map E,.int .i64 D]).run Tryz.prog j=.ok (.tuple #[]) n)∧
 (m (IntKind.i64.wrap (c + 1)) n)∧J (IntKind.i64.wrap (c + 1)) n<J c j))
 (Drw j fun k O=>
 NilP d fun s=>
 ∃ f:Sl,(At k ⟨s.block,s.off + 3,none⟩ [.slice f.a f.len f.cap])∧
 NilP d fun t=>
 ∃ g:Sl,(At k ⟨t.block,t.off + 4,none⟩ [.slice g.a g.len g.cap])∧
 NilP l fun u=>
 ∃ F:Int,(At k ⟨u.block,u.off + 1,none⟩ [.int .i64 F])∧
 NilP l fun v=>
 ∃ G:Int,(At k ⟨v.block,v.off + 2,none⟩ [.int .i64 G])∧
 Calls Tryz.prog 114 #[.slice f.a f.len f.cap,.slice g.a g.len g.cap,.int .i64 F,.int .i64 G] O fun M Q=>
 ∃ i:Sl,∃ N:Int,(M=.returned (.tuple #[.slice i.a i.len i.cap,.int .i64 N]))∧
 NilP d fun x=>
 ∃ o:World,((Instr.storeAt 68 (.pointer ((some ⟨x.block,x.off + 4,none⟩))) (.slice i.a i.len i.cap)).run Tryz.prog Q=.ok () o)∧
 NilP d fun y=>
 ∃ H:Option Nat,(At (fun b=>b=o) ⟨y.block,y.off + 5,none⟩ [.map H])∧
 ∃ I:World,((Builtin.delete_ #[162,3] 0 #[.map H,.int .i64 z]).run Tryz.prog o=.ok (.tuple #[]) I)∧
 K (.int .i64 0) I))
def sk83:Sk:=(.seq .leaf (.seq .leaf (.seq .leaf (.seq (.seq .leaf (.block (.loop [25] [(.int .i64)] [8,25,26,27,28,29,30,31,32,33,34] .leaf))) .leaf))))
theorem call83 (a:Option Addr) (b:Int) (K:Value→World→Prop) (w:World) (h:B83 a b K w):Gets Tryz.prog 83 #[.pointer a,.int .i64 b] w K:=cq (sk:=sk83) Tryz.func83 (by kernel_rfl) (by kernel_rfl) (by kernel_rfl) h
def B116 (i:Option Addr) (q:Int) (p:ByteArray) (K:Value→World→Prop) (w:World):Prop:=
 NilP i fun f=>
 ∃ j:Option Nat,(At (fun b=>b=w) ⟨f.block,f.off + 5,none⟩ [.map j])∧
 ∃ d:Option Addr,∃ k:Bool,(∀ b,(fun b=>b=w) b→((Instr.lookup 162 (.map j) (.int .i64 q) true)).run Tryz.prog b=.ok (.tuple #[.pointer d,.bool k]) b)∧
 NilP i fun g=>
 ∃ l:Int,∃ c:Sl,(At (fun b=>b=w) ⟨g.block,g.off + 1,none⟩ [.int .i64 l,.slice c.a c.len c.cap])∧
 Calls Tryz.prog 151 #[.agg #[.int .i64 l,.slice c.a c.len c.cap],.string p] w fun o n=>
 ∃ e:Int,∃ m:Int,(o=.returned (.tuple #[.int .i64 e,.int .i64 m]))∧
 Br k
 (K (.tuple #[.pointer d,.int .i64 e,.bool (m==0)]) n)
 (K (.tuple #[.pointer d,.int .i64 e,.bool false]) n)
theorem call116 (a:Option Addr) (c:Int) (b:ByteArray) (K:Value→World→Prop) (w:World) (h:B116 a c b K w):Gets Tryz.prog 116 #[.pointer a,.int .i64 c,.string b] w K:=cq (sk:=.leaf) Tryz.func116 (by kernel_rfl) (by kernel_rfl) (by kernel_rfl) h
def B117 (y:Option Addr) (e:Option Addr) (f:Int) (K:Value→World→Prop) (w:World):Prop:=
 NilP e fun j=>
 ∃ b:Sl,(At (fun g=>g=w) ⟨j.block,j.off + 3,none⟩ [.slice b.a b.len b.cap])∧
 Calls Tryz.prog 152 #[.slice b.a b.len b.cap,.int .i64 f] w fun v q=>
 ∃ n:Int,∃ z:Bool,(v=.returned (.tuple #[.int .i64 n,.bool z]))∧
 NilP e fun k=>
 ∃ c:Sl,(At (fun g=>g=q) ⟨k.block,k.off + 3,none⟩ [.slice c.a c.len c.cap])∧
 New (.cells #[.int .i64 f] 3 (0,0)) (fun u A=>
 Calls Tryz.prog 153 #[.slice c.a c.len c.cap,.int .i64 n,.slice ((some ⟨u,0,none⟩)) 1 1] A fun x C=>
 ∃ d:Sl,(x=.returned (.slice d.a d.len d.cap))∧
 NilP e fun l=>
 ∃ r:World,((Instr.storeAt 68 (.pointer ((some ⟨l.block,l.off + 3,none⟩))) (.slice d.a d.len d.cap)).run Tryz.prog C=.ok () r)∧
 Drw r fun i D=>
 NilP y fun m=>
 ∃ o:Option Nat,(At i ⟨m.block,m.off + 6,none⟩ [.map o])∧
 NilP e fun t=>
 ∃ p:Int,(At i (Addr.add t 0) [.int .i64 p])∧
 ∃ s:World,((Instr.mapUpdate 163 (.map o) (.int .i64 f) (.int .i64 p)).run Tryz.prog D=.ok () s)∧
 K (.tuple #[]) s) q
theorem call117 (a:Option Addr) (b:Option Addr) (c:Int) (K:Value→World→Prop) (w:World) (h:B117 a b c K w):Gets Tryz.prog 117 #[.pointer a,.pointer b,.int .i64 c] w K:=cq (sk:=.leaf) Tryz.func117 (by kernel_rfl) (by kernel_rfl) (by kernel_rfl) h
def B86 (f:Option Addr) (u:Int) (t:ByteArray) (K:Value→World→Prop) (w:World):Prop:=
 Calls Tryz.prog 116 #[.pointer f,.int .i64 u,.string t] w fun r e=>
 ∃ c:Option Addr,∃ g:Int,∃ n:Bool,(r=.returned (.tuple #[.pointer c,.int .i64 g,.bool n]))∧
 NilP f fun k=>
 ∃ o:Option Nat,(At (fun b=>b=e) ⟨k.block,k.off + 6,none⟩ [.map o])∧
 ∃ v:Int,∃ p:Bool,(∀ b,(fun b=>b=e) b→((Instr.lookup 163 (.map o) (.int .i64 g) true)).run Tryz.prog b=.ok (.tuple #[.int .i64 v,.bool p]) b)∧
 Br (!n)
 (K (.int .i64 2) e)
 (Drw e fun j i=>
 NilP c fun l=>
 ∃ d:Sl,(At j ⟨l.block,l.off + 3,none⟩ [.slice d.a d.len d.cap])∧
 NilP c fun m=>
 ∃ q:Int,(At j ⟨m.block,m.off + 2,none⟩ [.int .i64 q])∧
 Br (decide ((↑d.len:Int) ≥ q))
 (K (.int .i64 7) i)
 (Br p
 (K (.int .i64 3) i)
 (Calls Tryz.prog 117 #[.pointer f,.pointer c,.int .i64 g] i fun s x=>
 (s=.returned (.tuple #[]))∧
 K (.int .i64 0) x)))
theorem call86 (a:Option Addr) (c:Int) (b:ByteArray) (K:Value→World→Prop) (w:World) (h:B86 a c b K w):Gets Tryz.prog 86 #[.pointer a,.int .i64 c,.string b] w K:=cq (sk:=.leaf) Tryz.func86 (by kernel_rfl) (by kernel_rfl) (by kernel_rfl) h
def B87 (j:Option Addr) (Q:Int) (K:Value→World→Prop) (w:World):Prop:=
 NilP j fun o=>
 ∃ t:Option Nat,(At (fun b=>b=w) ⟨o.block,o.off + 5,none⟩ [.map t])∧
 ∃ l:Option Addr,∃ u:Bool,(∀ b,(fun b=>b=w) b→((Instr.lookup 162 (.map t) (.int .i64 Q) true)).run Tryz.prog b=.ok (.tuple #[.pointer l,.bool u]) b)∧
 Br (!u)
 (K (.tuple #[.slice none 0 0,.int .i64 2]) w)
 (NilP l fun p=>
 ∃ m:Sl,(At (fun b=>b=w) ⟨p.block,p.off + 3,none⟩ [.slice m.a m.len m.cap])∧
 Br (decide ((↑m.len:Int)>0))
 (K (.tuple #[.slice none 0 0,.int .i64 7]) w)
 (Drw w fun e T=>
 NilP j fun q=>
 ∃ v:Int,∃ f:Sl,(At e ⟨q.block,q.off + 1,none⟩ [.int .i64 v,.slice f.a f.len f.cap])∧
 NilP j fun r=>
 ∃ x:Option Nat,(At e ⟨r.block,r.off + 6,none⟩ [.map x])∧
 NilP l fun s=>
 ∃ z:Int,(At e ⟨s.block,s.off + 2,none⟩ [.int .i64 z])∧
 Calls Tryz.prog 119 #[.map x] T fun J D=>
 ∃ y:Value,(J=.returned (y))∧
 (e D)∧
 Calls Tryz.prog 53 #[y] D fun L E=>
 ∃ g:Sl,(L=.returned (.slice g.a g.len g.cap))∧
 (e E)∧
 Calls Tryz.prog 118 #[.agg #[.int .i64 v,.slice f.a f.len f.cap],.slice g.a g.len g.cap,.int .i64 z] E fun M F=>
 ∃ c:Sl,∃ A:Int,(M=.returned (.tuple #[.slice c.a c.len c.cap,.int .i64 A]))∧
 (e F)∧
 ∃ (n:Int→World→Prop) (H:Int→World→Nat),(n 0 F)∧∀ (V:Env) (d:Int) (k:World),n d k→
 Br (decide (d<(↑c.len:Int)))
 (Rng d c.len (NilP c.a fun I=>
 ∃ C:Int,(At (fun b=>b=k) (Addr.add I d.toNat) [.int .i64 C])∧
 Calls Tryz.prog 117 #[.pointer j,.pointer l,.int .i64 C] k fun N G=>
 (N=.returned (.tuple #[]))∧
 (n (IntKind.i64.wrap (d + 1)) G)∧H (IntKind.i64.wrap (d + 1)) G<H d k))
 (Calls Tryz.prog 120 #[.pointer j,.slice c.a c.len c.cap] k fun O U=>
 ∃ i:Sl,(O=.returned (.slice i.a i.len i.cap))∧
 K (.tuple #[.slice i.a i.len i.cap,.int .i64 A]) U)))
def sk87:Sk:=(.seq .leaf (.seq .leaf (.seq .leaf (.seq .leaf (.seq (.seq .leaf (.block (.loop [51] [(.int .i64)] [11,51,52,53,54,55,56,57,58,59] .leaf))) .leaf)))))
theorem call87 (a:Option Addr) (b:Int) (K:Value→World→Prop) (w:World) (h:B87 a b K w):Gets Tryz.prog 87 #[.pointer a,.int .i64 b] w K:=cq (sk:=sk87) Tryz.func87 (by kernel_rfl) (by kernel_rfl) (by kernel_rfl) h
def B77 (j:Option Addr) (K:Value→World→Prop) (w:World):Prop:=
 NilP j fun o=>
 ∃ f:Sl,(At (fun v=>v=w) ⟨o.block,o.off + 3,none⟩ [.slice f.a f.len f.cap])∧
 ∃ q:World,∃ b:Sl,((Instr.makeSlice 68 (.int .i64 ((↑f.len:Int))) (.int .i64 ((↑f.len:Int)))).run Tryz.prog w=.ok (.slice b.a b.len b.cap) q)∧
 ∃ (i:Int→World→Prop) (r:Int→World→Nat),(i 0 q)∧∀ (z:Env) (c:Int) (g:World),i c g→
 Br (decide (c<(↑b.len:Int)))
 (Drw g fun l x=>
 NilP j fun m=>
 ∃ d:Sl,(At l ⟨m.block,m.off + 3,none⟩ [.slice d.a d.len d.cap])∧
 NilP j fun n=>
 ∃ e:Sl,(At l ⟨n.block,n.off + 4,none⟩ [.slice e.a e.len e.cap])∧
 Calls Tryz.prog 104 #[.slice d.a d.len d.cap,.slice e.a e.len e.cap,.int .i64 c] x fun t y=>
 ∃ p:Int,∃ u:Int,(t=.returned (.tuple #[.int .i64 p,.int .i64 u]))∧
 Rng c b.len (NilP b.a fun s=>
 ∃ k:World,((Instr.storeAt 3 (.pointer ((some (Addr.add s c.toNat)))) (.int .i64 p)).run Tryz.prog y=.ok () k)∧
 (i (IntKind.i64.wrap (c + 1)) k)∧r (IntKind.i64.wrap (c + 1)) k<r c g))
 (K (.slice b.a b.len b.cap) g)
def sk77:Sk:=(.seq .leaf (.seq .leaf (.seq (.seq .leaf (.block (.loop [13] [(.int .i64)] [4,13,14,15,16,17,18,19,20,21,22,23,24,25,26,27,28,29,30,31,32] .leaf))) .leaf)))
theorem call77 (a:Option Addr) (K:Value→World→Prop) (w:World) (h:B77 a K w):Gets Tryz.prog 77 #[.pointer a] w K:=cq (sk:=sk77) Tryz.func77 (by kernel_rfl) (by kernel_rfl) (by kernel_rfl) h
def B95 (t:Option Addr) (K:Value→World→Prop) (w:World):Prop:=
 NilP t fun s=>
 ∃ u:Option Nat,(At (fun b=>b=w) ⟨s.block,s.off + 5,none⟩ [.map u])∧
 Calls Tryz.prog 133 #[.map u] w fun M Q=>
 ∃ v:Value,(M=.returned (v))∧
 Calls Tryz.prog 30 #[v] Q fun N T=>
 ∃ f:Sl,(N=.returned (.slice f.a f.len f.cap))∧
 ∃ (n:Sl→Int→World→Prop) (H:Sl→Int→World→Nat),(n ⟨none,0,0⟩ 0 T)∧∀ (Y:Env) (c:Sl) (e:Int) (d:World),n c e d→
 Br (decide (e<(↑f.len:Int)))
 (Rng e f.len (NilP f.a fun I=>
 ∃ x:Int,(At (fun b=>b=d) (Addr.add I e.toNat) [.int .i64 x])∧
 NilP t fun r=>
 ∃ y:Option Nat,(At (fun b=>b=d) ⟨r.block,r.off + 5,none⟩ [.map y])∧
 ∃ z:Option Addr,(∀ b,(fun b=>b=d) b→((Instr.lookup 162 (.map y) (.int .i64 x) false)).run Tryz.prog b=.ok (.pointer z) b)∧
 NilP z fun J=>
 ∃ A:Int,∃ C:Int,∃ D:Int,∃ g:Sl,(At (fun b=>b=d) J [.int .i64 A,.int .i64 C,.int .i64 D,.slice g.a g.len g.cap])∧
 New (.cells #[.int .i64 0,.int .i64 0,.int .i64 0,.slice none 0 0] 169 (0,0)) (fun m U=>
 ∃ o:World,((Instr.storeAt 169 (.pointer ((some ⟨m,0,none⟩))) (.agg #[.int .i64 A,.int .i64 C,.int .i64 D,.slice g.a g.len g.cap])).run Tryz.prog U=.ok () o)∧
 ∃ i:Sl,(At (fun b=>b=o) ⟨m,0 + 3,none⟩ [.slice i.a i.len i.cap])∧
 Calls Tryz.prog 102 #[.slice i.a i.len i.cap] o fun O V=>
 ∃ j:Sl,(O=.returned (.slice j.a j.len j.cap))∧
 ∃ p:World,((Instr.storeAt 68 (.pointer ((some ⟨m,0 + 3,none⟩))) (.slice j.a j.len j.cap)).run Tryz.prog V=.ok () p)∧
 ∃ E:Int,∃ F:Int,∃ G:Int,∃ k:Sl,(At (fun b=>b=p) ⟨m,0,none⟩ [.int .i64 E,.int .i64 F,.int .i64 G,.slice k.a k.len k.cap])∧
 New (.cells #[.int .i64 E,.int .i64 F,.int .i64 G,.slice k.a k.len k.cap] 169 (0,0)) (fun L X=>
 ∃ q:World,∃ l:Sl,((Builtin.append_ #[166,166] 166 #[.slice c.a c.len c.cap,.slice ((some ⟨L,0,none⟩)) 1 1]).run Tryz.prog X=.ok (.slice l.a l.len l.cap) q)∧
 (n l (IntKind.i64.wrap (e + 1)) q)∧H l (IntKind.i64.wrap (e + 1)) q<H c e d) p) d))
 (K (.slice c.a c.len c.cap) d)
def sk95:Sk:=(.seq .leaf (.seq .leaf (.seq (.seq .leaf (.block (.loop [3,14] [.sl,(.int .i64)] [3,5,6,14,15,16,17,18,19,20,21,22,23,24,25,26,27,28,29,30,31,32,33,34] .leaf))) .leaf)))
theorem call95 (a:Option Addr) (K:Value→World→Prop) (w:World) (h:B95 a K w):Gets Tryz.prog 95 #[.pointer a] w K:=cq (sk:=sk95) Tryz.func95 (by kernel_rfl) (by kernel_rfl) (by kernel_rfl) h
def B113 (g:Option Addr) (m:Int) (K:Value→World→Prop) (w:World):Prop:=
 NilP g fun f=>
 ∃ i:Option Nat,(At (fun b=>b=w) ⟨f.block,f.off + 5,none⟩ [.map i])∧
 ∃ j:Option Addr,∃ k:Bool,(∀ b,(fun b=>b=w) b→((Instr.lookup 162 (.map i) (.int .i64 m) true)).run Tryz.prog b=.ok (.tuple #[.pointer j,.bool k]) b)∧
 Br (!k)
 (K (.slice none 0 0) w)
 (NilP j fun e=>
 ∃ c:Sl,(At (fun b=>b=w) ⟨e.block,e.off + 3,none⟩ [.slice c.a c.len c.cap])∧
 Calls Tryz.prog 120 #[.pointer g,.slice c.a c.len c.cap] w fun l n=>
 ∃ d:Sl,(l=.returned (.slice d.a d.len d.cap))∧
 K (.slice d.a d.len d.cap) n)
theorem call113 (a:Option Addr) (b:Int) (K:Value→World→Prop) (w:World) (h:B113 a b K w):Gets Tryz.prog 113 #[.pointer a,.int .i64 b] w K:=cq (sk:=.leaf) Tryz.func113 (by kernel_rfl) (by kernel_rfl) (by kernel_rfl) h
def B120 (t:Option Addr) (i:Sl) (K:Value→World→Prop) (w:World):Prop:=
 ∃ (g:Sl→Int→World→Prop) (p:Sl→Int→World→Nat),(g ⟨none,0,0⟩ 0 w)∧∀ (y:Env) (b:Sl) (c:Int) (e:World),g b c e→
 Br (decide (c<(↑i.len:Int)))
 (Rng c i.len (NilP i.a fun q=>
 ∃ m:Int,(At (fun j=>j=e) (Addr.add q c.toNat) [.int .i64 m])∧
 NilP t fun l=>
 ∃ n:Int,∃ d:Sl,(At (fun j=>j=e) ⟨l.block,l.off + 1,none⟩ [.int .i64 n,.slice d.a d.len d.cap])∧
 Calls Tryz.prog 157 #[.agg #[.int .i64 n,.slice d.a d.len d.cap],.int .i64 m] e fun s v=>
 ∃ o:ByteArray,∃ u:Int,(s=.returned (.tuple #[.string o,.int .i64 u]))∧
 New (.cells #[.string o] 9 (0,0)) (fun r x=>
 ∃ k:World,∃ f:Sl,((Builtin.append_ #[100,100] 100 #[.slice b.a b.len b.cap,.slice ((some ⟨r,0,none⟩)) 1 1]).run Tryz.prog x=.ok (.slice f.a f.len f.cap) k)∧
 (g f (IntKind.i64.wrap (c + 1)) k)∧p f (IntKind.i64.wrap (c + 1)) k<p b c e) v))
 (K (.slice b.a b.len b.cap) e)
def sk120:Sk:=(.seq .leaf (.seq .leaf (.seq (.seq .leaf (.block (.loop [5,12] [.sl,(.int .i64)] [5,7,8,9,12,13,14,15,16,17,18,19,20,21,22,23,24,25,26,27,28,29] .leaf))) .leaf)))
theorem call120 (c:Option Addr) (b:Sl) (K:Value→World→Prop) (w:World) (h:B120 c b K w):Gets Tryz.prog 120 #[.pointer c,.slice b.a b.len b.cap] w K:=cq (sk:=sk120) Tryz.func120 (by kernel_rfl) (by kernel_rfl) (by kernel_rfl) h
def B59 (e:Option Addr) (K:Value→World→Prop) (w:World):Prop:=
 New (.cells #[.slice none 0 0] 22 (0,0)) (fun y am=>
 New (.cells #[.nilFunc] 114 (0,0)) (fun c aq=>
 ∃ V:World,((Instr.storeAt 114 (.pointer ((some ⟨c,0,none⟩))) (.func (.func 93) #[] #[.pointer ((some ⟨y,0,none⟩))])).run Tryz.prog aq=.ok () V)∧
 Drw V fun o ar=>
 ∃ z:Value,(At o ⟨c,0,none⟩ [z])∧
 NilP e fun aa=>
 ∃ A:Int,(At o (Addr.add aa 0) [.int .i64 A])∧
 NilP e fun t=>
 ∃ C:Int,(At o ⟨t.block,t.off + 1,none⟩ [.int .i64 C])∧
 New (.cells #[.int .i64 A,.int .i64 C] 3 (0,0)) (fun ac X=>
 (o X)∧
 CalW Tryz.prog cl z [.slice ((some ⟨ac,0,none⟩)) 2 2] X fun af s=>
 (af=.returned (.tuple #[]))∧
 (o s)∧
 NilP e fun u=>
 ∃ f:Sl,(At (fun b=>b=s) ⟨u.block,u.off + 1 + 1,none⟩ [.slice f.a f.len f.cap])∧
 Calls Tryz.prog 94 #[.slice f.a f.len f.cap,.pointer ((some ⟨c,0,none⟩))] s fun ag Y=>
 (ag=.returned (.tuple #[]))∧
 NilP e fun v=>
 ∃ g:Sl,(At (fun b=>b=Y) ⟨v.block,v.off + 3,none⟩ [.slice g.a g.len g.cap])∧
 Calls Tryz.prog 94 #[.slice g.a g.len g.cap,.pointer ((some ⟨c,0,none⟩))] Y fun ah au=>
 (ah=.returned (.tuple #[]))∧
 Drw au fun p av=>
 ∃ D:Value,(At p ⟨c,0,none⟩ [D])∧
 NilP e fun x=>
 ∃ E:Option Nat,(At p ⟨x.block,x.off + 5,none⟩ [.map E])∧
 ∃ F:Int,(∀ b,p b→((Builtin.len_ #[162] 3 #[.map E])).run Tryz.prog b=.ok (.int .i64 F) b)∧
 New (.cells #[.int .i64 F] 3 (0,0)) (fun ad O=>
 (p O)∧
 CalW Tryz.prog cl D [.slice ((some ⟨ad,0,none⟩)) 1 1] O fun ai Q=>
 (ai=.returned (.tuple #[]))∧
 (p Q)∧
 Calls Tryz.prog 95 #[.pointer e] Q fun aj an=>
 ∃ i:Sl,(aj=.returned (.slice i.a i.len i.cap))∧
 ∃ (r:Int→World→Prop) (Z:Int→World→Nat),(r 0 an)∧∀ (aw:Env) (d:Int) (m:World),r d m→
 Br (decide (d<(↑i.len:Int)))
 (Rng d i.len (NilP i.a fun ab=>
 ∃ G:Int,∃ H:Int,∃ I:Int,∃ j:Sl,(At (fun b=>b=m) (Addr.add ab (mulS d.toNat 4)) [.int .i64 G,.int .i64 H,.int .i64 I,.slice j.a j.len j.cap])∧
 New (.cells #[.int .i64 0,.int .i64 0,.int .i64 0,.slice none 0 0] 169 (0,0)) (fun q ao=>
 ∃ n:World,((Instr.storeAt 169 (.pointer ((some ⟨q,0,none⟩))) (.agg #[.int .i64 G,.int .i64 H,.int .i64 I,.slice j.a j.len j.cap])).run Tryz.prog ao=.ok () n)∧
 ∃ J:Value,(At (fun b=>b=n) ⟨c,0,none⟩ [J])∧
 ∃ L:Int,(At (fun b=>b=n) ⟨q,0,none⟩ [.int .i64 L])∧
 ∃ M:Int,(At (fun b=>b=n) ⟨q,0 + 1,none⟩ [.int .i64 M])∧
 ∃ N:Int,(At (fun b=>b=n) ⟨q,0 + 2,none⟩ [.int .i64 N])∧
 New (.cells #[.int .i64 L,.int .i64 M,.int .i64 N] 3 (0,0)) (fun ae ap=>
 CalW Tryz.prog cl J [.slice ((some ⟨ae,0,none⟩)) 3 3] ap fun ak T=>
 (ak=.returned (.tuple #[]))∧
 ∃ k:Sl,(At (fun b=>b=T) ⟨q,0 + 3,none⟩ [.slice k.a k.len k.cap])∧
 Calls Tryz.prog 94 #[.slice k.a k.len k.cap,.pointer ((some ⟨c,0,none⟩))] T fun al U=>
 (al=.returned (.tuple #[]))∧
 (r (IntKind.i64.wrap (d + 1)) U)∧Z (IntKind.i64.wrap (d + 1)) U<Z d m) n) m))
 (∃ l:Sl,(At (fun b=>b=m) ⟨y,0,none⟩ [.slice l.a l.len l.cap])∧
 K (.slice l.a l.len l.cap) m)) av) ar) am) w
def sk59:Sk:=(.seq .leaf (.seq .leaf (.seq .leaf (.seq .leaf (.seq .leaf (.seq .leaf (.seq .leaf (.seq .leaf (.seq (.seq .leaf (.block (.loop [46] [(.int .i64)] [7,46,47,48,49,50,51,52,53,54,55,56,57,58,59,60,61,62,63] .leaf))) .leaf)))))))))
theorem call59 (a:Option Addr) (K:Value→World→Prop) (w:World) (h:B59 a K w):Gets Tryz.prog 59 #[.pointer a] w K:=cq (sk:=sk59) Tryz.func59 (by kernel_rfl) (by kernel_rfl) (by kernel_rfl) h
def B93 (i:Sl) (l:Option Addr) (K:Value→World→Prop) (w:World):Prop:=
 ∃ (g:Int→World→Prop) (p:Int→World→Nat),(g 0 w)∧∀ (v:Env) (b:Int) (f:World),g b f→
 Br (decide (b<(↑i.len:Int)))
 (Rng b i.len (NilP i.a fun r=>
 ∃ m:Int,(At (fun t=>t=f) (Addr.add r b.toNat) [.int .i64 m])∧
 Drw f fun k u=>
 NilP l fun q=>
 ∃ c:Sl,(At k q [.slice c.a c.len c.cap])∧
 Calls Tryz.prog 35 #[.int .u64 (IntKind.u64.wrap m)] u fun s n=>
 ∃ d:Sl,(s=.returned (.slice d.a d.len d.cap))∧
 (k n)∧
 ∃ o:World,∃ e:Sl,((Builtin.append_ #[22,22] 22 #[.slice c.a c.len c.cap,.slice d.a d.len d.cap]).run Tryz.prog n=.ok (.slice e.a e.len e.cap) o)∧
 ∃ j:World,((Instr.storeAt 22 (.pointer l) (.slice e.a e.len e.cap)).run Tryz.prog o=.ok () j)∧
 (g (IntKind.i64.wrap (b + 1)) j)∧p (IntKind.i64.wrap (b + 1)) j<p b f))
 (K (.tuple #[]) f)
def sk93:Sk:=(.seq .leaf (.block (.loop [7] [(.int .i64)] [4,7,8,9,10,11,12,13,14,15,16] .leaf)))
theorem call93 (b:Sl) (c:Option Addr) (K:Value→World→Prop) (w:World) (h:B93 b c K w):Gets Tryz.prog 93 #[.slice b.a b.len b.cap,.pointer c] w K:=cq (sk:=sk93) Tryz.func93 (by kernel_rfl) (by kernel_rfl) (by kernel_rfl) h
def B94 (b:Sl) (d:Option Addr) (K:Value→World→Prop) (w:World):Prop:=
 NilP d fun i=>
 ∃ e:Value,(At (fun c=>c=w) i [e])∧
 New (.cells #[.int .i64 ((↑b.len:Int))] 3 (0,0)) (fun k n=>
 CalW Tryz.prog cl e [.slice ((some ⟨k,0,none⟩)) 1 1] n fun l g=>
 (l=.returned (.tuple #[]))∧
 NilP d fun j=>
 ∃ f:Value,(At (fun c=>c=g) j [f])∧
 CalW Tryz.prog cl f [.slice b.a b.len b.cap] g fun m o=>
 (m=.returned (.tuple #[]))∧
 K (.tuple #[]) o) w
theorem call94 (b:Sl) (c:Option Addr) (K:Value→World→Prop) (w:World) (h:B94 b c K w):Gets Tryz.prog 94 #[.slice b.a b.len b.cap,.pointer c] w K:=cq (sk:=.leaf) Tryz.func94 (by kernel_rfl) (by kernel_rfl) (by kernel_rfl) h
end Go.Proofs.YtflgboncpbmikaaGreatDoor



/- Packages seat and reference 13: layouts. Condition: none. -/
namespace Go.Proofs.YtflgboncpbmikaaGreatDoor
set_option linter.unusedVariables false
set_option linter.unusedSimpArgs false
open Go Go.VC
variable {R:Cx} {Hs Rest:List HP} {w:World}
theorem sum_app:∀ a b:List Int,(a++b).sum=a.sum + b.sum
 |[],b=>by simp
 |x::a,b=>by simp only [List.cons_append,List.sum_cons,sum_app a b];omega
theorem sum_take {g:List Int} {j:Nat} (h:j<g.length):(g.take (j + 1)).sum=(g.take j).sum + g[j]:=by
 rw [List.take_add_one,List.getElem?_eq_getElem h,sum_app]
 simp
theorem sum_bd {g:List Int} (h:∀ x∈g,0≤x∧x≤10):0≤g.sum∧g.sum≤10 * g.length:=by
 induction g with
 |nil=>simp
 |cons a g ih=>
  have:=ih fun x hx=>h x (List.mem_cons_of_mem _ hx)
  have:=h a List.mem_cons_self
  simp only [List.sum_cons,List.length_cons]
  omega
def grpsOk (g:List Int):Bool:=g.all fun x=>decide (1≤x∧x≤10)
def layOk (n:Int) (g:List Int):Bool:=decide (1≤n∧n≤60∧1≤g.length∧g.length≤4) && (grpsOk g && decide (g.sum≤10))
def layN (n:Int) (g:List Int):Int:=if layOk n g then n * g.sum else 0
theorem layOk_iff {n:Int} {g:List Int}:layOk n g=true↔(1≤n∧n≤60∧1≤g.length∧g.length≤4)∧(∀ x∈g,1≤x∧x≤10)∧g.sum≤10:=by
 simp [layOk,grpsOk]
theorem sum_pos {g:List Int} (h:∀ x∈g,1≤x∧x≤10) (hl:1≤g.length):1≤g.sum:=by
 match g,hl with
 |a::g,_=>
  have h1:=h a List.mem_cons_self
  have h2:=sum_bd (g:=g) fun x hx=>by have:=h x (List.mem_cons_of_mem _ hx);omega
  simp only [List.sum_cons];omega
theorem layN_ok {n:Int} {g:List Int} (h:layOk n g=true):layN n g=n * g.sum:=by unfold layN;rw [if_pos h]
theorem mul_bd {a b:Int} (h0:0≤a) (h1:a≤60) (h2:0≤b) (h3:b≤10):0≤a * b∧a * b≤600:=
 ⟨Int.mul_nonneg h0 h2,by have:=Int.mul_le_mul h1 h3 h2 (by omega);omega⟩
theorem layN_bd (n:Int) (g:List Int):0≤layN n g∧layN n g≤600:=by
 unfold layN
 split
 ·rename_i h
  obtain ⟨h1,h2,h3⟩:=layOk_iff.1 h
  have:=sum_bd (fun x hx=>by have:=h2 x hx;omega) (g:=g)
  exact mul_bd (by omega) (by omega) (by omega) (by omega)
 ·omega
abbrev layC (n:Int) (s:Sl):Obj:=.cells [.int .i64 n,.slice s.a s.len s.cap].toArray 93 (0,0)
theorem across_spec {n:Int} {s:Sl} {g:List Int} (hs:RoI R s g) (hg:∀ x∈g,0≤x∧x≤10) (hl:g.length≤4) (hw:Sat R Hs w):
  Gets Tryz.prog 138 #[.agg #[.int .i64 n,.slice s.a s.len s.cap]] w fun v w'=>v=.int .i64 g.sum∧Sat R Hs w':=by
 have hlen:=hs.len
 apply call138
 refine new_rule hw fun p w hw=>?_
 have hw:Sat R (pts p (layC n s)::Hs) w:=hw
 refine ⟨s,At.own (eqS hw) (by exact ⟨rfl,trivial⟩),?_⟩
 refine ⟨fun m i w=>∃ j:Nat,i=j∧j≤g.length∧m=(g.take j).sum∧Sat R (pts p (layC n s)::Hs) w,fun _ i _=>g.length - i.toNat,⟨0,rfl,by omega,by simp,hw⟩,?_⟩
 clear hw
 rintro _ _ _ w ⟨j,rfl,hj,rfl,hw⟩
 refine Br.d (fun h=>?_) (fun h=>?_)
 ·have hj2:j<g.length:=by omega
  refine hs.idx (eqS hw) hj2 ?_
  have hb:=sum_bd (fun x hx=>hg x (List.mem_of_mem_take hx)) (g:=g.take j)
  have hb2:(g.take j).length≤4:=by rw [List.length_take];omega
  have hx:=hg g[j] (List.getElem_mem _)
  rw [wrap64 (x:=(j:Int) + 1) (by omega) (by omega),wrap64 (by omega) (by omega)]
  exact ⟨⟨j + 1,by omega,by omega,(sum_take hj2).symm,hw⟩,by dsimp only;omega⟩
 ·rw [List.take_of_length_le (by omega)]
  exact ⟨rfl,hw.drop⟩
theorem idxF_spec {s:Sl} {l:List Int} {f:Value} {p:Int→Bool} (hs:RoI R s l) (hf:∀ x w,Sat R Hs w→CalW Tryz.prog cl f [.int .i64 x] w fun e w'=>e=.returned (.bool (p x))∧Sat R Hs w') (hw:Sat R Hs w):
  Gets Tryz.prog 62 #[.slice s.a s.len s.cap,f] w fun v w'=>(∃ n:Int,v=.int .i64 n∧(l.any p=true↔0≤n))∧Sat R Hs w':=by
 have hlen:=hs.len
 have hbd:=hs.bound
 apply call62
 refine ⟨fun i w=>∃ j:Nat,i=j∧j≤l.length∧(l.take j).any p=false∧Sat R Hs w,fun i _=>l.length - i.toNat,⟨0,rfl,by omega,by simp,hw⟩,?_⟩
 clear hw
 rintro _ _ w ⟨j,rfl,hj,hn,hw⟩
 refine Br.d (fun h=>?_) (fun h=>?_)
 ·have hj2:j<l.length:=by omega
  refine hs.idx (eqS hw) hj2 ?_
  refine (hf l[j] _ hw).mono ?_
  rintro _ w ⟨rfl,hw⟩
  refine ⟨_,rfl,Br.mk (fun h=>⟨⟨j,rfl,⟨fun _=>by omega,fun _=>List.any_eq_true.2 ⟨_,List.getElem_mem _,h⟩⟩⟩,hw⟩) (fun h=>?_)⟩
  rw [wrap64 (by omega) (by omega)]
  refine ⟨⟨j + 1,by omega,by omega,?_,hw⟩,by dsimp only;omega⟩
  rw [List.take_add_one,List.getElem?_eq_getElem hj2,List.any_append,hn]
  simp [h]
 ·refine ⟨⟨-1,rfl,⟨fun h2=>?_,fun h2=>by omega⟩⟩,hw⟩
  rw [List.take_of_length_le (by omega)] at hn
  rw [hn] at h2;cases h2
theorem contF_spec {s:Sl} {l:List Int} {f:Value} {p:Int→Bool} (hs:RoI R s l) (hf:∀ x w,Sat R Hs w→CalW Tryz.prog cl f [.int .i64 x] w fun e w'=>e=.returned (.bool (p x))∧Sat R Hs w') (hw:Sat R Hs w):
  Gets Tryz.prog 34 #[.slice s.a s.len s.cap,f] w fun v w'=>v=.bool (l.any p)∧Sat R Hs w':=by
 apply call34
 refine (idxF_spec hs hf hw).use ?_
 rintro _ w ⟨⟨n,rfl,h⟩,hw⟩
 refine ⟨n,rfl,?_,hw⟩
 congr 1
 rw [Bool.eq_iff_iff,decide_eq_true_iff]
 exact h.symm
theorem odd_spec {g:Int} (hw:Sat R Hs w):Gets Tryz.prog 139 #[.int .i64 g] w fun v w'=>v=.bool (!decide (1≤g∧g≤10))∧Sat R Hs w':=by
 apply call139
 refine Br.d (fun h=>⟨?_,hw⟩) (fun h=>⟨?_,hw⟩)
 ·rw [decide_eq_false (by omega)];rfl
 ·congr 1
  rw [←decide_not,decide_eq_decide];omega
theorem layOk_no {n:Int} {g:List Int} (h:¬ ((1≤n∧n≤60∧1≤g.length∧g.length≤4)∧(∀ x∈g,1≤x∧x≤10)∧g.sum≤10)):layOk n g=false:=by
 rw [←Bool.not_eq_true,layOk_iff];exact h
theorem right_spec {n:Int} {s:Sl} {g:List Int} (hs:RoI R s g) (hw:Sat R Hs w):
  Gets Tryz.prog 101 #[.agg #[.int .i64 n,.slice s.a s.len s.cap]] w fun v w'=>v=.bool (layOk n g)∧Sat R Hs w':=by
 have hlen:=hs.len
 apply call101
 refine new_rule hw fun p w hw=>?_
 have hw:Sat R (pts p (layC n s)::Hs) w:=hw
 refine ⟨n,At.own (eqS hw) (by exact ⟨rfl,trivial⟩),Br.d (fun h1=>⟨by rw [layOk_no (fun h=>by omega)],hw.drop⟩) (fun h1=>?_)⟩
 refine ⟨n,At.own (eqS hw) (by exact ⟨rfl,trivial⟩),Br.d (fun h2=>⟨by rw [layOk_no (fun h=>by omega)],hw.drop⟩) (fun h2=>?_)⟩
 refine ⟨s,At.own (eqS hw) (by exact ⟨rfl,trivial⟩),Br.d (fun h3=>⟨by rw [layOk_no (fun h=>by omega)],hw.drop⟩) (fun h3=>?_)⟩
 refine ⟨s,At.own (eqS hw) (by exact ⟨rfl,trivial⟩),Br.d (fun h4=>⟨by rw [layOk_no (fun h=>by omega)],hw.drop⟩) (fun h4=>?_)⟩
 refine ⟨s,At.own (eqS hw) (by exact ⟨rfl,trivial⟩),?_⟩
 refine (contF_spec (p:=fun x=>!decide (1≤x∧x≤10)) hs (fun x w hw=>CalW.mk (by kernel_rfl) ((odd_spec hw).use fun v w' h=>⟨by rw [h.1],h.2⟩)) hw).use ?_
 rintro _ w ⟨rfl,hw⟩
 refine ⟨_,rfl,Br.mk (fun h5=>⟨?_,hw.drop⟩) (fun h5=>?_)⟩
 ·rw [layOk_no (fun h=>?_)]
  obtain ⟨x,hx,hx2⟩:=List.any_eq_true.1 h5
  have:=h.2.1 x hx
  rw [decide_eq_true this] at hx2;cases hx2
 have hg:∀ x∈g,1≤x∧x≤10:=fun x hx=>by
  by_cases h:1≤x∧x≤10
  ·exact h
  ·have:(g.any fun x=>!decide (1≤x∧x≤10))=true:=List.any_eq_true.2 ⟨x,hx,by rw [decide_eq_false h];rfl⟩
   rw [h5] at this;cases this
 refine ⟨n,s,At.own (eqS hw) (by exact ⟨rfl,rfl,trivial⟩),?_⟩
 refine (across_spec hs (fun x hx=>by have:=hg x hx;omega) (by omega) hw).use ?_
 rintro _ w ⟨rfl,hw⟩
 refine ⟨_,rfl,?_,hw.drop⟩
 congr 1
 rw [Bool.eq_iff_iff,decide_eq_true_iff,layOk_iff]
 exact ⟨fun h=>⟨⟨by omega,by omega,by omega,by omega⟩,hg,h⟩,fun h=>h.2.2⟩
theorem count_spec {n:Int} {s:Sl} {g:List Int} (hs:RoI R s g) (hw:Sat R Hs w):
  Gets Tryz.prog 100 #[.agg #[.int .i64 n,.slice s.a s.len s.cap]] w fun v w'=>v=.int .i64 (layN n g)∧Sat R Hs w':=by
 apply call100
 refine new_rule hw fun p w hw=>?_
 have hw:Sat R (pts p (layC n s)::Hs) w:=hw
 refine ⟨n,s,At.own (eqS hw) (by exact ⟨rfl,rfl,trivial⟩),?_⟩
 refine (right_spec hs hw).use ?_
 rintro _ w ⟨rfl,hw⟩
 refine ⟨_,rfl,Br.nb (fun h=>⟨?_,hw.drop⟩) (fun h=>?_)⟩
 ·unfold layN;rw [h];rfl
 obtain ⟨h1,h2,h3⟩:=layOk_iff.1 h
 refine drw_rule hw fun w hw=>?_
 refine ⟨n,At.own selfS (by exact ⟨rfl,trivial⟩),n,s,At.own selfS (by exact ⟨rfl,rfl,trivial⟩),?_⟩
 refine (across_spec hs (fun x hx=>by have:=h2 x hx;omega) (by omega) hw).use ?_
 rintro _ w ⟨rfl,hw⟩
 have hb:=layN_bd n g
 rw [layN_ok h] at hb ⊢
 refine ⟨_,rfl,hw,?_,hw.drop⟩
 rw [wrap64 (by omega) (by omega)]
theorem shas_spec {n k:Int} {s:Sl} {g:List Int} (hs:RoI R s g) (hw:Sat R Hs w):
  Gets Tryz.prog 154 #[.agg #[.int .i64 n,.slice s.a s.len s.cap],.int .i64 k] w fun v w'=>v=.bool (decide (0≤k∧k<layN n g))∧Sat R Hs w':=by
 apply call154
 refine new_rule hw fun p w hw=>?_
 have hw:Sat R (pts p (layC n s)::Hs) w:=hw
 refine Br.d (fun h=>?_) (fun h=>⟨by rw [decide_eq_false (by omega)],hw.drop⟩)
 refine ⟨n,s,At.own (eqS hw) (by exact ⟨rfl,rfl,trivial⟩),?_⟩
 refine (count_spec hs hw).use ?_
 rintro _ w ⟨rfl,hw⟩
 refine ⟨_,rfl,?_,hw.drop⟩
 congr 1
 rw [decide_eq_decide];omega
end Go.Proofs.YtflgboncpbmikaaGreatDoor
/- The names of seats, plain: digits of the row, a letter. No program in sight. Condition: none. -/
namespace Go.Proofs.YtflgboncpbmikaaGreatDoor
set_option linter.unusedVariables false
set_option linter.unusedSimpArgs false
open Go Go.VC
def letterL:List Int:=[65,66,67,68,69,70,71,72,74,75]
def letterI (c:Nat):Int:=letterL.getD c 0
def rowL (r:Nat):List Int:=(if 10≤r then [48 + ((r / 10:Nat):Int)] else [])++[48 + ((r % 10:Nat):Int)]
def labelL (r c:Nat):List Int:=rowL r++[letterI c]
def labS (w k:Int):ByteArray:=VC.strOf (labelL (k / w + 1).toNat (k % w).toNat)
def letterB:ByteArray:=ByteArray.mk #[65,66,67,68,69,70,71,72,74,75]
theorem letter_ext:∀ c:Fin 10,letterB.extract c.1 (c.1 + 1)=VC.strOf [letterI c.1]:=by decide +kernel
theorem letter_at:∀ c:Fin 10,∃ b:UInt8,letterB[c.1]? =some b∧(b.toNat:Int)=letterI c.1:=by decide +kernel
theorem label_app:∀ r:Fin 61,∀ c:Fin 10,VC.strOf (rowL r.1)++VC.strOf [letterI c.1]=VC.strOf (labelL r.1 c.1):=by decide +kernel
def colI (c:Int):Int:=match letterL.findIdx? (·==c) with|some i=>i|none=>-1
def isDig (c:Int):Bool:=decide (48≤c∧c≤57)
def prs:List Int→Bool→Int→Int→Option (Int × Int)
 |[],_,row,last=>some (row,last)
 |c::l,first,row,last=>
  if 0≤last∨(first=true∧c=48)∨row>60 then none
  else if isDig c then prs l false (10 * row + (c - 48)) last
  else if colI c<0 then none
  else prs l false row (colI c)
def findP (n w:Int) (lab:ByteArray):Int × Int:=
 match prs (bytesL lab) true 0 (-1) with
 |none=>(0,2)
 |some (row,last)=>if row<1∨row>n∨last<0∨last ≥ w then (0,2) else ((row - 1) * w + last,0)
theorem prs_label:∀ r:Fin 60,∀ c:Fin 10,prs (labelL (r.1 + 1) c.1) true 0 (-1)=some ((r.1:Int) + 1,(c.1:Int)):=by decide +kernel
def DigI (l:List Int) (row:Int):Prop:=
 (l=[]∧row=0)∨(∃ d:Int,1≤d∧d≤9∧l=[48 + d]∧row=d)∨(∃ d e:Int,1≤d∧d≤9∧0≤e∧e≤9∧l=[48 + d,48 + e]∧row=10 * d + e)∨100≤row
def PrsI (l:List Int) (row last:Int):Prop:=(last=-1∧DigI l row)∨(0≤last∧last<10∧∃ l',l=l'++[letterI last.toNat]∧DigI l' row)
theorem colI_out {c:Int} (h:¬ colI c<0):0≤colI c∧colI c<10∧letterI (colI c).toNat=c:=by
 unfold colI at *
 split at h
 ·rename_i i hi
  obtain ⟨hlt,hp,_⟩:=List.findIdx?_eq_some_iff_getElem.1 hi
  have hlt':i<10:=hlt
  refine ⟨by omega,by omega,?_⟩
  unfold letterI
  rw [Int.toNat_natCast,List.getD_eq_getElem?_getD,List.getElem?_eq_getElem hlt]
  simpa using hp
 ·omega
theorem prs_inv:∀ (l a:List Int) (first:Bool) (row last row' last':Int),(first=true↔a=[])→PrsI a row last→prs l first row last=some (row',last')→PrsI (a++l) row' last'
 |[],a,_,row,last,row',last',_,h,e=>by
  simp only [prs,Option.some.injEq,Prod.mk.injEq] at e
  rw [List.append_nil,←e.1,←e.2];exact h
 |c::l,a,first,row,last,row',last',hf,h,e=>by
  have hne:(false=true↔a++[c]=[]):=by simp
  unfold prs at e
  split at e
  ·cases e
  rename_i h1
  have hl:last<0:=by omega
  have hd:DigI a row:=by
   rcases h with h|h
   ·exact h.2
   ·omega
  split at e
  ·rename_i h2
   have h2:=of_decide_eq_true h2
   have:=prs_inv l (a++[c]) false _ last row' last' hne (.inl ⟨?_,?_⟩) e
   ·rw [List.append_assoc] at this;exact this
   ·rcases h with h|h
    ·exact h.1
    ·omega
   ·rcases hd with ⟨rfl,rfl⟩|⟨d,hd1,hd2,rfl,rfl⟩|⟨d,e2,hd1,hd2,he1,he2,rfl,rfl⟩|hbig
    ·have:first=true:=hf.2 rfl
     refine .inr (.inl ⟨c - 48,?_,by omega,?_,by omega⟩)
     ·have:c≠48:=fun hc=>h1 (.inr (.inl ⟨this,hc⟩))
      omega
     ·rw [show (48:Int) + (c - 48)=c by omega];rfl
    ·refine .inr (.inr (.inl ⟨row,c - 48,hd1,hd2,by omega,by omega,?_,by omega⟩))
     rw [show (48:Int) + (c - 48)=c by omega];rfl
    ·exact .inr (.inr (.inr (by omega)))
    ·omega
  ·split at e
   ·cases e
   rename_i h2 h3
   obtain ⟨c0,c1,c2⟩:=colI_out h3
   have:=prs_inv l (a++[c]) false row (colI c) row' last' hne (.inr ⟨c0,c1,a,by rw [c2],hd⟩) e
   rw [List.append_assoc] at this;exact this
theorem digI_row {l:List Int} {row:Int} (h:DigI l row) (h1:1≤row) (h2:row≤60):l=rowL row.toNat:=by
 rcases h with ⟨rfl,rfl⟩|⟨d,hd1,hd2,rfl,rfl⟩|⟨d,e,hd1,hd2,he1,he2,rfl,rfl⟩|hbig
 ·omega
 ·unfold rowL
  rw [if_neg (by omega)]
  simp only [List.nil_append,List.cons.injEq,and_true]
  omega
 ·unfold rowL
  rw [if_pos (by omega)]
  simp only [List.cons_append,List.nil_append,List.cons.injEq,and_true]
  constructor<;>omega
 ·omega
theorem prs_out {l:List Int} {row last:Int} (h:prs l true 0 (-1)=some (row,last)) (h1:1≤row) (h2:row≤60) (h3:0≤last):last<10∧l=labelL row.toNat last.toNat:=by
 have:=prs_inv l [] true 0 (-1) row last (by simp) (.inl ⟨rfl,.inl ⟨rfl,rfl⟩⟩) h
 rw [List.nil_append] at this
 rcases this with ⟨h,_⟩|⟨_,h4,l',rfl,hd⟩
 ·omega
 ·exact ⟨h4,by unfold labelL;rw [digI_row hd h1 h2]⟩
theorem labelL_bytes:∀ r:Fin 60,∀ c:Fin 10,∀ n∈labelL (r.1 + 1) c.1,0≤n∧n<256:=by decide +kernel
theorem find_iff {n w k:Int} {lab:ByteArray} (hn:n≤60) (hw:1≤w) (hw2:w≤10):(findP n w lab=(k,0))↔(0≤k∧k<n * w∧labS w k=lab):=by
 constructor
 ·intro h
  unfold findP at h
  split at h
  ·simp at h
  rename_i row last hp
  split at h
  ·simp at h
  rename_i hr
  simp only [Prod.mk.injEq,and_true] at h
  obtain ⟨h4,h5⟩:=prs_out hp (by omega) (by omega) (by omega)
  have hm:(row - 1) * w≤(n - 1) * w:=Int.mul_le_mul_of_nonneg_right (by omega) (by omega)
  have hm0:0≤(row - 1) * w:=Int.mul_nonneg (by omega) (by omega)
  have hm2:(n - 1) * w=n * w - w:=by rw [Int.sub_mul];omega
  refine ⟨by omega,by omega,?_⟩
  have e1:k / w=row - 1:=by
   rw [←h,Int.mul_comm,Int.add_comm,Int.add_mul_ediv_left _ _ (by omega),Int.ediv_eq_zero_of_lt (by omega) (by omega)];omega
  have e2:k % w=last:=by
   rw [←h,Int.mul_comm,Int.add_comm,Int.add_mul_emod_self_left,Int.emod_eq_of_lt (by omega) (by omega)]
  unfold labS
  rw [e1,e2,show row - 1 + 1=row by omega,←h5,strOf_bytesL]
 ·rintro ⟨h0,h1,rfl⟩
  have e0:0≤k / w:=Int.ediv_nonneg h0 (by omega)
  have e1:k / w<n:=Int.ediv_lt_of_lt_mul (by omega) h1
  have e2:0≤k % w:=Int.emod_nonneg _ (by omega)
  have e3:k % w<w:=Int.emod_lt_of_pos _ (by omega)
  have e4:=Int.mul_ediv_add_emod k w
  generalize hq:k / w=q at *
  generalize hm:k % w=m at *
  obtain ⟨a,rfl⟩:=Int.eq_ofNat_of_zero_le e0
  obtain ⟨b,rfl⟩:=Int.eq_ofNat_of_zero_le e2
  unfold findP labS
  rw [hq,hm,show ((a:Int) + 1).toNat=a + 1 by omega,Int.toNat_natCast]
  have hb:=labelL_bytes ⟨a,by omega⟩ ⟨b,by omega⟩
  have hp:=prs_label ⟨a,by omega⟩ ⟨b,by omega⟩
  rw [bytesL_strOf hb,hp]
  dsimp only
  rw [if_neg (by omega)]
  simp only [Prod.mk.injEq,and_true]
  rw [←e4,show (a:Int) + 1 - 1=a by omega,Int.mul_comm]
theorem decode_hi (s:ByteArray) (i:Nat) (h:¬ (s.get! (i + 0)).toNat<128):128≤(Utf8.decode s i).1:=by
 unfold Utf8.decode
 dsimp only
 rw [if_neg h]
 split
 ·split
  ·assumption
  ·decide
 ·split
  ·split
   ·rename_i h;simp only [Bool.and_eq_true,decide_eq_true_iff] at h;have:=h.1;dsimp only;omega
   ·decide
  ·split
   ·split
    ·rename_i h;simp only [Bool.and_eq_true,decide_eq_true_iff] at h;have:=h.1;dsimp only;omega
    ·decide
   ·decide
end Go.Proofs.YtflgboncpbmikaaGreatDoor
/- The formulas of functions of this seat's translation, printed by a program of mine off the translation; each is proved equal to 'fnF' of the function's body, so it is enough for the call. No condition. -/
namespace Go.Proofs.YtflgboncpbmikaaGreatDoor
open Go Go.VC
set_option linter.unusedVariables false
set_option maxRecDepth 10000
def B182 (c:Int) (K:Value→World→Prop) (w:World):Prop:=
 Calls Tryz.prog 187 #[.int .i64 c,.int .i64 10] w fun b d=>
 ∃ a:ByteArray,(b=.returned (.string a))∧
 K (.string a) d
theorem call182 (a:Int) (K:Value→World→Prop) (w:World) (h:B182 a K w):Gets Tryz.prog 182 #[.int .i64 a] w K:=cq (sk:=.leaf) Tryz.func182 (by kernel_rfl) (by kernel_rfl) (by kernel_rfl) h
def B187 (d:Int) (m:Int) (K:Value→World→Prop) (w:World):Prop:=
 Br (m==10)
 (∃ (f:World→Prop),(Br (decide (0≤d))
 (Br (decide (d<100))
 (Calls Tryz.prog 191 #[.int .i64 d] w fun y D=>
 ∃ n:ByteArray,(y=.returned (.string n))∧
 K (.string n) D)
 (f  w))
 (f  w))∧
 ∀ (G:Env)  (u:World),f  u→
 New (.cells #[.int .u8 0,.int .u8 0,.int .u8 0,.int .u8 0,.int .u8 0,.int .u8 0,.int .u8 0,.int .u8 0,.int .u8 0,.int .u8 0,.int .u8 0,.int .u8 0,.int .u8 0,.int .u8 0,.int .u8 0,.int .u8 0,.int .u8 0,.int .u8 0,.int .u8 0,.int .u8 0,.int .u8 0,.int .u8 0,.int .u8 0,.int .u8 0] 259 (0,0)) (fun e v=>
 ∃ (g:Int→World→Prop),(Br (decide (d<0))
 (g (IntKind.u64.wrap (0 - IntKind.u64.wrap d)) v)
 (g (IntKind.u64.wrap d) v))∧
 ∀ (H:Env) (j:Int) (x:World),g j x→
 Calls Tryz.prog 192 #[.int .u64 j] x fun z E=>
 ∃ b:Int,(z=.returned (.int .i64 b))∧
 ∃ o:Addr,(some (Addr.mk e 0 none)=some o)∧
 ((0:Int)≤IntKind.i64.wrap (1 + b))∧
 ((IntKind.i64.wrap (1 + b):Int)≤24)∧
 ((0:Int)≤1)∧
 ((1:Int)≤(↑(IntKind.i64.wrap (1 + b)).toNat:Int))∧
 Calls Tryz.prog 193 #[.slice (cutA (some o) (Int.toNat 1) 24 1) ((IntKind.i64.wrap (1 + b)).toNat - Int.toNat 1) 23,.int .u64 j] E fun A k=>
 (A=.returned (.tuple #[]))∧
 Br (decide (d<0))
 (∃ l:World,((Instr.storeAt 5 (.pointer ((some (Addr.add ⟨e,0,none⟩ 0)))) (.int .u8 45)).run Tryz.prog k=.ok () l)∧
 ∃ p:Addr,(some (Addr.mk e 0 none)=some p)∧
 ((0:Int)≤IntKind.i64.wrap (1 + b))∧
 ((IntKind.i64.wrap (1 + b):Int)≤24)∧
 ∃ q:ByteArray,(∀ c,(fun c=>c=l) c→((convert 22 9 (.slice ((some (p))) ((IntKind.i64.wrap (1 + b)).toNat) 24))).run Tryz.prog c=.ok (.string q) c)∧
 K (.string q) l)
 (∃ r:Addr,(some (Addr.mk e 0 none)=some r)∧
 ((0:Int)≤IntKind.i64.wrap (1 + b))∧
 ((IntKind.i64.wrap (1 + b):Int)≤24)∧
 ((0:Int)≤1)∧
 ((1:Int)≤(↑(IntKind.i64.wrap (1 + b)).toNat:Int))∧
 ∃ s:ByteArray,(∀ c,(fun c=>c=k) c→((convert 22 9 (.slice (cutA (some r) (Int.toNat 1) 24 1) ((IntKind.i64.wrap (1 + b)).toNat - Int.toNat 1) 23))).run Tryz.prog c=.ok (.string s) c)∧
 K (.string s) k)) u)
 (Calls Tryz.prog 194 #[.slice none 0 0,.int .u64 (IntKind.u64.wrap d),.int .i64 m,.bool (decide (d<0)),.bool false] w fun C F=>
 ∃ i:Sl,∃ t:ByteArray,(C=.returned (.tuple #[.slice i.a i.len i.cap,.string t]))∧
 K (.string t) F)
def sk187:Sk:=(.seq .leaf (.seq (.seq .leaf (.cond (.cut [] [] [4,12,13,14,15,16,17,18,19] .leaf (.seq .leaf (.seq .leaf (.cut [6] [(.int .u64)] [6,22,23,24,25] .leaf .leaf)))) .leaf)) .leaf))
theorem call187 (b:Int) (a:Int) (K:Value→World→Prop) (w:World) (h:B187 b a K w):Gets Tryz.prog 187 #[.int .i64 b,.int .i64 a] w K:=cq (sk:=sk187) Tryz.func187 (by kernel_rfl) (by kernel_rfl) (by kernel_rfl) h
def B191 (a:Int) (K:Value→World→Prop) (w:World):Prop:=
 Br (decide (a<10))
 (((0:Int)≤IntKind.i64.wrap (a + 1))∧
 ((IntKind.i64.wrap (a + 1):Int)≤36)∧
 ((0:Int)≤a)∧
 ((a:Int)≤(↑(IntKind.i64.wrap (a + 1)).toNat:Int))∧
 K (.string ((ByteArray.mk #[48,49,50,51,52,53,54,55,56,57,97,98,99,100,101,102,103,104,105,106,107,108,109,110,111,112,113,114,115,116,117,118,119,120,121,122]).extract a.toNat (IntKind.i64.wrap (a + 1)).toNat)) w)
 (((0:Int)≤IntKind.i64.wrap (IntKind.i64.wrap (a * 2) + 2))∧
 ((IntKind.i64.wrap (IntKind.i64.wrap (a * 2) + 2):Int)≤200)∧
 ((0:Int)≤IntKind.i64.wrap (a * 2))∧
 ((IntKind.i64.wrap (a * 2):Int)≤(↑(IntKind.i64.wrap (IntKind.i64.wrap (a * 2) + 2)).toNat:Int))∧
 K (.string ((ByteArray.mk (([48,48,48,49,48,50,48,51,48,52,48,53,48,54,48,55,48,56,48,57,49,48,49,49,49,50,49,51,49,52,49,53,49,54,49,55,49,56,49,57,50,48,50,49,50,50,50,51,50,52].append [50,53,50,54,50,55,50,56,50,57,51,48,51,49,51,50,51,51,51,52,51,53,51,54,51,55,51,56,51,57,52,48,52,49,52,50,52,51,52,52,52,53,52,54,52,55,52,56,52,57]).append ([53,48,53,49,53,50,53,51,53,52,53,53,53,54,53,55,53,56,53,57,54,48,54,49,54,50,54,51,54,52,54,53,54,54,54,55,54,56,54,57,55,48,55,49,55,50,55,51,55,52].append [55,53,55,54,55,55,55,56,55,57,56,48,56,49,56,50,56,51,56,52,56,53,56,54,56,55,56,56,56,57,57,48,57,49,57,50,57,51,57,52,57,53,57,54,57,55,57,56,57,57])).toArray).extract (IntKind.i64.wrap (a * 2)).toNat (IntKind.i64.wrap (IntKind.i64.wrap (a * 2) + 2)).toNat)) w)
theorem call191 (a:Int) (K:Value→World→Prop) (w:World) (h:B191 a K w):Gets Tryz.prog 191 #[.int .i64 a] w K:=cq (sk:=.leaf) Tryz.func191 (by kernel_rfl) (by kernel_rfl) (by kernel_rfl) h
end Go.Proofs.YtflgboncpbmikaaGreatDoor
/- The names of seats: packages seat, strconv and reference 13. Condition: none. -/
namespace Go.Proofs.YtflgboncpbmikaaGreatDoor
set_option linter.unusedVariables false
set_option linter.unusedSimpArgs false
open Go Go.VC
variable {R:Cx} {Hs Rest:List HP} {w:World}
def smallD:ByteArray:=ByteArray.mk #[48,49,50,51,52,53,54,55,56,57,97,98,99,100,101,102,103,104,105,106,107,108,109,110,111,112,113,114,115,116,117,118,119,120,121,122]
def smallS:ByteArray:=ByteArray.mk (([48,48,48,49,48,50,48,51,48,52,48,53,48,54,48,55,48,56,48,57,49,48,49,49,49,50,49,51,49,52,49,53,49,54,49,55,49,56,49,57,50,48,50,49,50,50,50,51,50,52].append [50,53,50,54,50,55,50,56,50,57,51,48,51,49,51,50,51,51,51,52,51,53,51,54,51,55,51,56,51,57,52,48,52,49,52,50,52,51,52,52,52,53,52,54,52,55,52,56,52,57]).append ([53,48,53,49,53,50,53,51,53,52,53,53,53,54,53,55,53,56,53,57,54,48,54,49,54,50,54,51,54,52,54,53,54,54,54,55,54,56,54,57,55,48,55,49,55,50,55,51,55,52].append [55,53,55,54,55,55,55,56,55,57,56,48,56,49,56,50,56,51,56,52,56,53,56,54,56,55,56,56,56,57,57,48,57,49,57,50,57,51,57,52,57,53,57,54,57,55,57,56,57,57])).toArray
theorem smallD_row:∀ r:Fin 10,smallD.extract r.1 (r.1 + 1)=VC.strOf (rowL r.1):=by decide +kernel
theorem smallS_row:∀ r:Fin 100,10≤r.1→smallS.extract (r.1 * 2) (r.1 * 2 + 2)=VC.strOf (rowL r.1):=by decide +kernel
theorem itoa_spec {n:Nat} (h:n<100) (hw:Sat R Hs w):Gets Tryz.prog 174 #[.int .i64 n] w fun v w'=>v=.string (VC.strOf (rowL n))∧Sat R Hs w':=by
 apply call174
 have h3:Gets Tryz.prog 191 #[.int .i64 n] w fun v w'=>v=.string (VC.strOf (rowL n))∧Sat R Hs w':=by
  apply call191
  have w1:IntKind.i64.wrap ((n:Int) + 1)=((n + 1:Nat):Int):=wrap64 (by omega) (by omega)
  have w2:IntKind.i64.wrap ((n:Int) * 2)=((n * 2:Nat):Int):=wrap64 (by omega) (by omega)
  have w3:IntKind.i64.wrap (((n * 2:Nat):Int) + 2)=((n * 2 + 2:Nat):Int):=wrap64 (by omega) (by omega)
  rw [B191,w2,w3,w1]
  refine Br.d (fun h=>?_) (fun h=>?_)
  ·refine ⟨by omega,by omega,by omega,by omega,?_,hw⟩
   exact congrArg Value.string (smallD_row ⟨n,by omega⟩)
  ·refine ⟨by omega,by omega,by omega,by omega,?_,hw⟩
   exact congrArg Value.string (smallS_row ⟨n,by omega⟩ (by dsimp only;omega))
 have h2:Gets Tryz.prog 187 #[.int .i64 n,.int .i64 10] w fun v w'=>v=.string (VC.strOf (rowL n))∧Sat R Hs w':=by
  apply call187
  refine Br.t rfl ⟨fun _=>False,Br.t (decide_eq_true (by omega)) (Br.t (decide_eq_true (by omega)) ?_),fun _ _ h=>h.elim⟩
  refine h3.use ?_
  rintro _ w ⟨rfl,hw⟩
  exact ⟨_,rfl,rfl,hw⟩
 have h1:Gets Tryz.prog 182 #[.int .i64 n] w fun v w'=>v=.string (VC.strOf (rowL n))∧Sat R Hs w':=by
  apply call182
  refine h2.use ?_
  rintro _ w ⟨rfl,hw⟩
  exact ⟨_,rfl,rfl,hw⟩
 refine h1.use ?_
 rintro _ w ⟨rfl,hw⟩
 exact ⟨_,rfl,rfl,hw⟩
def labT (n:Int) (g:List Int) (k:Int):ByteArray × Int:=if 0≤k∧k<layN n g then (labS g.sum k,0) else (⟨#[]⟩,1)
theorem labT_in {n:Int} {g:List Int} {k:Int} (h:0≤k∧k<layN n g):∃ a b q m:Nat,k=a∧g.sum=b∧1≤b∧b≤10∧q<60∧m<b∧labS g.sum k=VC.strOf (labelL (q + 1) m)∧(∀ x∈g,1≤x∧x≤10)∧g.length≤4∧((a:Int)).tmod (b:Int)=(m:Int)∧((a:Int)).tdiv (b:Int)=(q:Int):=by
 have hok:layOk n g=true:=by
  by_cases hok:layOk n g=true
  ·exact hok
  ·unfold layN at h;rw [if_neg hok] at h;omega
 obtain ⟨h1,h2,h3⟩:=layOk_iff.1 hok
 have hp:=sum_pos h2 (by omega)
 rw [layN_ok hok] at h
 obtain ⟨a,rfl⟩:=Int.eq_ofNat_of_zero_le h.1
 obtain ⟨b,hb⟩:=Int.eq_ofNat_of_zero_le (show 0≤g.sum by omega)
 rw [hb] at h hp h3
 have hd:(a:Int) / (b:Int)<n:=Int.ediv_lt_of_lt_mul (by omega) h.2
 refine ⟨a,b,a / b,a % b,rfl,hb,by omega,by omega,?_,Nat.mod_lt _ (by omega),?_,h2,by omega,rfl,rfl⟩
 ·rw [←Int.natCast_ediv] at hd;omega
 ·unfold labS
  rw [hb,←Int.natCast_ediv,←Int.natCast_emod]
  rfl
theorem label_spec {n k:Int} {s:Sl} {g:List Int} (hs:RoI R s g) (hw:Sat R Hs w):
  Gets Tryz.prog 157 #[.agg #[.int .i64 n,.slice s.a s.len s.cap],.int .i64 k] w fun v w'=>v=.tuple #[.string (labT n g k).1,.int .i64 (labT n g k).2]∧Sat R Hs w':=by
 apply call157
 refine new_rule hw fun p w hw=>?_
 have hw:Sat R (pts p (layC n s)::Hs) w:=hw
 refine ⟨n,s,At.own (eqS hw) (by exact ⟨rfl,rfl,trivial⟩),?_⟩
 refine (shas_spec hs hw).use ?_
 rintro _ w ⟨rfl,hw⟩
 refine ⟨_,rfl,Br.nd (fun h=>⟨?_,hw.drop⟩) (fun h=>?_)⟩
 ·unfold labT;rw [if_neg h]
 have e:labT n g k=(labS g.sum k,0):=by unfold labT;rw [if_pos h]
 rw [e]
 obtain ⟨a,b,q,m,rfl,hb,b1,b2,a1,a2,hl,hg,hg2,e1,e2⟩:=labT_in h
 rw [hl]
 refine ⟨n,s,At.own (eqS hw) (by exact ⟨rfl,rfl,trivial⟩),?_⟩
 refine (across_spec hs (fun x hx=>by have:=hg x hx;omega) hg2 hw).use ?_
 rintro _ w ⟨rfl,hw⟩
 rw [hb]
 refine ⟨_,rfl,?_⟩
 refine drw_rule hw fun w hw=>?_
 have w1:IntKind.i64.wrap ((m:Int) + 1)=((m + 1:Nat):Int):=wrap64 (by omega) (by omega)
 have w2:IntKind.i64.wrap (q:Int)=(q:Int):=wrap64 (by omega) (by omega)
 have w3:IntKind.i64.wrap ((q:Int) + 1)=((q + 1:Nat):Int):=wrap64 (by omega) (by omega)
 rw [e1,e2,w1,w2,w3]
 refine Nz.mk (by omega) (Nz.mk (by omega) (Nz.mk (by omega) ⟨by omega,by omega,by omega,by omega,?_⟩))
 refine (itoa_spec (by omega) hw).use ?_
 rintro _ w ⟨rfl,hw⟩
 have eL:(ByteArray.mk #[65,66,67,68,69,70,71,72,74,75]).extract ((m:Int)).toNat (((m + 1:Nat):Int)).toNat=VC.strOf [letterI (m)]:=letter_ext ⟨m,by omega⟩
 rw [eL]
 refine ⟨_,rfl,?_,?_,hw.drop⟩
 ·have:(VC.strOf (rowL (q + 1))).size≤2:=by
   show ((rowL (q + 1)).map _).toArray.size≤2
   rw [List.size_toArray,List.length_map];unfold rowL;split<;>simp
  have h1:(VC.strOf [letterI (m)]).size=1:=rfl
  omega
 ·rw [label_app ⟨q + 1,by omega⟩ ⟨m,by omega⟩]
theorem colI_at {c:Int} {j:Nat} (hj:j<10) (hn:∀ i,i<j→letterI i≠c) (h:letterI j=c):colI c=j:=by
 have hl:letterL.findIdx? (·==c)=some j:=by
  rw [List.findIdx?_eq_some_iff_getElem]
  refine ⟨hj,?_,fun i hi=>?_⟩
  ·unfold letterI at h
   rw [List.getD_eq_getElem?_getD,List.getElem?_eq_getElem (show j<letterL.length from hj)] at h
   exact beq_iff_eq.2 h
  ·have:=hn i hi
   unfold letterI at this
   rw [List.getD_eq_getElem?_getD,List.getElem?_eq_getElem (show i<letterL.length from by show i<10;omega)] at this
   simpa using this
 unfold colI;rw [hl]
theorem colI_no {c:Int} (hn:∀ i,i<10→letterI i≠c):colI c=-1:=by
 unfold colI
 split
 ·rename_i i hi
  obtain ⟨hlt,hp,_⟩:=List.findIdx?_eq_some_iff_getElem.1 hi
  have:=hn i hlt
  unfold letterI at this
  rw [List.getD_eq_getElem?_getD,List.getElem?_eq_getElem hlt] at this
  exact absurd (by simpa using hp) this
 ·rfl
theorem column_spec {c:Int} (hw:Sat R Hs w):Gets Tryz.prog 170 #[.int .i32 c] w fun v w'=>v=.int .i64 (colI c)∧Sat R Hs w':=by
 apply call170
 refine ⟨fun i w=>∃ j:Nat,i=j∧j≤10∧(∀ k,k<j→letterI k≠c)∧Sat R Hs w,fun i _=>10 - i.toNat,⟨0,rfl,by omega,fun k h=>by omega,hw⟩,?_⟩
 clear hw
 rintro _ _ w ⟨j,rfl,hj,hn,hw⟩
 refine Br.d (fun h=>?_) (fun h=>?_)
 ·obtain ⟨b,hb,hv⟩:=letter_at ⟨j,by omega⟩
  refine ⟨b,by omega,hb,?_⟩
  have hbd:=b.toNat_lt
  rw [show IntKind.i32.wrap (b.toNat:Int)=(b.toNat:Int) by rw [IntKind.wrap_i32];omega]
  refine Br.e (fun h2=>⟨?_,hw⟩) (fun h2=>?_)
  ·rw [colI_at (by omega) hn (hv.symm.trans h2)]
  ·rw [wrap64 (by omega) (by omega)]
   refine ⟨⟨j + 1,by omega,by omega,fun k hk=>?_,hw⟩,by dsimp only;omega⟩
   by_cases hkj:k=j
   ·subst hkj;rw [←hv];exact h2
   ·exact hn k (by omega)
 ·exact ⟨by rw [colI_no (fun i hi=>hn i (by omega))],hw⟩
def findT (n:Int) (g:List Int) (lab:ByteArray):Int × Int:=if layOk n g then findP n g.sum lab else (0,1)
theorem prs_step (c:Int) (l:List Int) (first:Bool) (row last:Int):prs (c::l) first row last=if 0≤last∨(first=true∧c=48)∨row>60 then none
  else if isDig c then prs l false (10 * row + (c - 48)) last else if colI c<0 then none else prs l false row (colI c):=rfl
theorem prs_cons {lab:ByteArray} {pos:Nat} (h:pos<lab.size):(bytesL lab).drop pos=((lab[pos]'h).toNat:Int)::(bytesL lab).drop (pos + 1):=by
 have hl:pos<(bytesL lab).length:=by rw [bytesL_len];exact h
 rw [List.drop_eq_getElem_cons hl]
 congr 1
 simp [bytesL]
 rfl
theorem letterI_le:∀ i:Fin 10,letterI i.1≤75:=by decide +kernel
theorem colI_hi {c:Int} (h:128≤c):colI c<0:=by
 by_cases h2:colI c<0
 ·exact h2
 ·obtain ⟨h0,h1,h3⟩:=colI_out h2
  have:=letterI_le ⟨(colI c).toNat,by omega⟩
  dsimp only at this
  omega
theorem find_spec {n:Int} {s:Sl} {g:List Int} {lab:ByteArray} (hs:RoI R s g) (hsz:lab.size≤9223372036854775807) (hw:Sat R Hs w):
  Gets Tryz.prog 151 #[.agg #[.int .i64 n,.slice s.a s.len s.cap],.string lab] w fun v w'=>v=.tuple #[.int .i64 (findT n g lab).1,.int .i64 (findT n g lab).2]∧Sat R Hs w':=by
 apply call151
 refine new_rule hw fun p w hw=>?_
 have hw:Sat R (pts p (layC n s)::Hs) w:=hw
 refine ⟨n,s,At.own (eqS hw) (by exact ⟨rfl,rfl,trivial⟩),?_⟩
 refine (right_spec hs hw).use ?_
 rintro _ w ⟨rfl,hw⟩
 refine ⟨_,rfl,Br.nb (fun h=>⟨?_,hw.drop⟩) (fun hok=>?_)⟩
 ·unfold findT;rw [h];rfl
 have e:findT n g lab=findP n g.sum lab:=by unfold findT;rw [if_pos hok]
 rw [e]
 obtain ⟨l1,l2,l3⟩:=layOk_iff.1 hok
 have hp:=sum_pos l2 (by omega)
 refine new_rule hw fun b w hw=>?_
 have no:prs (bytesL lab) true 0 (-1)=none→findP n g.sum lab=(0,2):=fun h=>by unfold findP;rw [h]
 refine ⟨fun row last w=>∃ pos:Nat,pos≤lab.size∧prs ((bytesL lab).drop pos) (decide (pos=0)) row last=prs (bytesL lab) true 0 (-1)∧0≤row∧row≤700∧-1≤last∧last<10∧Sat R (pts b (.stringIter lab pos)::pts p (layC n s)::Hs) w,
  fun _ _ w=>lab.size - w.iterPos b,⟨0,by omega,rfl,by omega,by omega,by omega,by omega,hw⟩,?_⟩
 clear hw
 rintro _ row last w ⟨pos,hpos,hprs,r0,r1,t0,t1,hw⟩
 have hpw:w.iterPos b=pos:=by have:=hw.at;simp [World.iterPos,this]
 refine ⟨b,lab,pos,rfl,hw.at,fun hlt=>?_,fun hlt=>?_⟩
 ·rw [prs_cons hlt] at hprs
  have hbyte:=(lab[pos]'hlt).toNat_lt
  have hw2:=hw.setPts (.stringIter lab (pos + (Utf8.decode lab pos).2))
  generalize hw':w.setBlock b (.stringIter lab (pos + (Utf8.decode lab pos).2))=w2 at hw2
  have:({ w with heap:=w.heap.setIfInBounds b (.stringIter lab (pos + (Utf8.decode lab pos).2)) }:World)=w2:=hw'
  rw [this]
  have hc:((lab[pos]'hlt).toNat<128∧Utf8.decode lab pos=((lab[pos]'hlt).toNat,1))∨(128≤(lab[pos]'hlt).toNat∧128≤(Utf8.decode lab pos).1):=by
   by_cases h:(lab[pos]'hlt).toNat<128
   ·exact .inl ⟨h,decode_ascii lab pos hlt h⟩
   ·refine .inr ⟨by omega,decode_hi lab pos ?_⟩
    have e:lab.get! (pos + 0)=lab[pos]'hlt:=by
     show lab.get! pos=_
     simp [ByteArray.get!,getElem!_pos,hlt]
     rfl
    rw [e];exact h
  clear this hw'
  generalize hdc:Utf8.decode lab pos=dc at *
  obtain ⟨c,wd⟩:=dc
  dsimp only at hc hw2 ⊢
  generalize hby:(lab[pos]'hlt).toNat=by0 at *
  have hc0:(c:Int)=by0∧wd=1∨128≤by0∧128≤c:=by
   rcases hc with ⟨_,h⟩|h
   ·simp only [Prod.mk.injEq] at h;exact .inl ⟨by omega,h.2⟩
   ·exact .inr h
  have h48:(by0:Int)=48↔(c:Int)=48:=by omega
  refine ⟨fun t w=>t=decide (0≤last∨(decide (pos=0)=true∧(by0:Int)=48)∨row>60)∧Sat R (pts b (.stringIter lab (pos + wd))::pts p (layC n s)::Hs) w,?_,?_⟩
  ·refine Br.d (fun h=>⟨?_,hw2⟩) (fun h=>Br.e (fun h2=>Br.e (fun h3=>⟨?_,hw2⟩) (fun h3=>⟨?_,hw2⟩)) (fun h2=>⟨?_,hw2⟩))
   ·rw [decide_eq_true (.inl h)]
   ·rw [decide_eq_true (.inr (.inl ⟨decide_eq_true (by omega),h48.2 h3⟩))]
   ·rw [decide_eq_decide]
    constructor
    ·intro h4;exact .inr (.inr h4)
    ·rintro (h4|⟨_,h4⟩|h4)
     ·omega
     ·exact absurd (h48.1 h4) h3
     ·exact h4
   ·rw [decide_eq_decide]
    constructor
    ·intro h4;exact .inr (.inr h4)
    ·rintro (h4|⟨h4,_⟩|h4)
     ·omega
     ·have:=of_decide_eq_true h4;omega
     ·exact h4
  clear hw hw2
  rintro _ _ w3 ⟨rfl,hw⟩
  refine Br.d (fun h=>⟨?_,hw.drop.drop⟩) (fun h=>?_)
  ·rw [prs_step] at hprs
   rw [if_pos h] at hprs
   rw [no hprs.symm]
  rw [prs_step] at hprs
  rw [if_neg h] at hprs
  refine ⟨fun t w=>t=isDig c∧Sat R (pts b (.stringIter lab (pos + wd))::pts p (layC n s)::Hs) w,?_,?_⟩
  ·unfold isDig
   refine Br.d (fun h=>⟨?_,hw⟩) (fun h=>⟨?_,hw⟩)
   ·rw [decide_eq_decide];omega
   ·rw [decide_eq_false (by omega)]
  clear hw
  rintro _ _ w4 ⟨rfl,hw⟩
  refine Br.mk (fun h2=>?_) (fun h2=>?_)
  ·have h3:=of_decide_eq_true h2
   rcases hc0 with ⟨hcb,rfl⟩|hc0
   ·rw [←hcb,if_pos h2] at hprs
    rw [show IntKind.i32.wrap ((c:Int) - 48)=(c:Int) - 48 by rw [IntKind.wrap_i32];omega,wrap64 (x:=10 * row) (by omega) (by omega),wrap64 (x:=(c:Int) - 48) (by omega) (by omega),wrap64 (by omega) (by omega)]
    refine ⟨⟨pos + 1,by omega,?_,by omega,by omega,by omega,by omega,hw⟩,?_⟩
    ·rw [decide_eq_false (by omega)];exact hprs
    ·have:w4.iterPos b=pos + 1:=by have:=hw.at;simp [World.iterPos,this]
     rw [this,hpw];omega
   ·omega
  ·refine (column_spec hw).use ?_
   rintro _ w5 ⟨rfl,hw⟩
   refine ⟨_,rfl,Br.d (fun h3=>⟨?_,hw.drop.drop⟩) (fun h3=>?_)⟩
   ·have hno:colI (by0:Int)<0:=by
     rcases hc0 with ⟨hcb,rfl⟩|hc0
     ·rw [←hcb];exact h3
     ·exact colI_hi (by omega)
    have hnd:isDig (by0:Int)=false:=by
     rcases hc0 with ⟨hcb,rfl⟩|hc0
     ·rw [←hcb];exact h2
     ·exact decide_eq_false (by omega)
    rw [hnd,if_neg (by simp),if_pos hno] at hprs
    rw [no hprs.symm]
   ·obtain ⟨c0,c1,c2⟩:=colI_out h3
    rcases hc0 with ⟨hcb,rfl⟩|hc0
    ·rw [←hcb,h2,if_neg (by simp),if_neg h3] at hprs
     refine ⟨⟨pos + 1,by omega,?_,by omega,by omega,by omega,by omega,hw⟩,?_⟩
     ·rw [decide_eq_false (by omega)];exact hprs
     ·have:w5.iterPos b=pos + 1:=by have:=hw.at;simp [World.iterPos,this]
      rw [this,hpw];omega
    ·have:=colI_hi (c:=(c:Int)) (by omega);omega
 ·rw [List.drop_eq_nil_of_le (by rw [bytesL_len];omega)] at hprs
  have hw:=hw.drop
  have ef:findP n g.sum lab=if row<1∨row>n∨last<0∨last ≥ g.sum then (0,2) else ((row - 1) * g.sum + last,0):=by
   unfold findP;rw [←hprs];rfl
  rw [ef]
  refine Br.d (fun h=>⟨by rw [if_pos (.inl h)],hw.drop⟩) (fun h1=>?_)
  refine ⟨n,At.own (eqS hw) (by exact ⟨rfl,trivial⟩),Br.d (fun h=>⟨by rw [if_pos (.inr (.inl h))],hw.drop⟩) (fun h2=>?_)⟩
  refine Br.d (fun h=>⟨by rw [if_pos (.inr (.inr (.inl h)))],hw.drop⟩) (fun h3=>?_)
  refine ⟨n,s,At.own (eqS hw) (by exact ⟨rfl,rfl,trivial⟩),?_⟩
  refine (across_spec hs (fun x hx=>by have:=l2 x hx;omega) (by omega) hw).use ?_
  rintro _ w ⟨rfl,hw⟩
  refine ⟨_,rfl,Br.d (fun h=>⟨by rw [if_pos (.inr (.inr (.inr h)))],hw.drop⟩) (fun h4=>?_)⟩
  refine ⟨n,s,At.own (eqS hw) (by exact ⟨rfl,rfl,trivial⟩),?_⟩
  refine (across_spec hs (fun x hx=>by have:=l2 x hx;omega) (by omega) hw).use ?_
  rintro _ w ⟨rfl,hw⟩
  refine ⟨_,rfl,?_,hw.drop⟩
  have hm:=mul_bd (a:=row - 1) (b:=g.sum) (by omega) (by omega) (by omega) (by omega)
  rw [if_neg (by omega),wrap64 (x:=row - 1) (by omega) (by omega),wrap64 (x:=(row - 1) * g.sum) (by omega) (by omega),wrap64 (by omega) (by omega)]
end Go.Proofs.YtflgboncpbmikaaGreatDoor
/- The names of seats: reference 13; groups of a row. Condition: none. -/
namespace Go.Proofs.YtflgboncpbmikaaGreatDoor
set_option linter.unusedVariables false
set_option linter.unusedSimpArgs false
open Go Go.VC
variable {R:Cx} {Hs Rest:List HP} {w:World}
def sideF:List Int→Int→Int × Int
 |[],_=>(0,0)
 |x::g,a=>if a<x then (a,x - 1 - a) else sideF g (a - x)
theorem sideF_cons (x:Int) (g:List Int) (a:Int):sideF (x::g) a=if a<x then (a,x - 1 - a) else sideF g (a - x):=rfl
theorem sides_spec {n k:Int} {s:Sl} {g:List Int} (hs:RoI R s g) (hg:∀ x∈g,1≤x∧x≤10) (hl:g.length≤4) (hl1:1≤g.length) (hk:0≤k) (hw:Sat R Hs w):
  Gets Tryz.prog 155 #[.agg #[.int .i64 n,.slice s.a s.len s.cap],.int .i64 k] w fun v w'=>v=.tuple #[.int .i64 (sideF g (k % g.sum)).1,.int .i64 (sideF g (k % g.sum)).2]∧Sat R Hs w':=by
 have hlen:=hs.len
 have hp:=sum_pos hg hl1
 apply call155
 refine new_rule hw fun p w hw=>?_
 have hw:Sat R (pts p (layC n s)::Hs) w:=hw
 refine ⟨n,s,At.own (eqS hw) (by exact ⟨rfl,rfl,trivial⟩),?_⟩
 refine (across_spec hs (fun x hx=>by have:=hg x hx;omega) hl hw).use ?_
 rintro _ w ⟨rfl,hw⟩
 refine ⟨_,rfl,Nz.mk (by omega) ⟨s,At.own (eqS hw) (by exact ⟨rfl,trivial⟩),?_⟩⟩
 rw [Int.tmod_eq_emod_of_nonneg hk]
 have m0:=Int.emod_nonneg k (show g.sum≠0 by omega)
 have m1:=Int.emod_lt_of_pos k (show 0<g.sum by omega)
 have hsb:=sum_bd (g:=g) (fun x hx=>by have:=hg x hx;omega)
 generalize k % g.sum=a at *
 refine ⟨fun at' i w=>∃ j:Nat,i=j∧j≤g.length∧0≤at'∧at'≤a∧sideF (g.drop j) at'=sideF g a∧Sat R (pts p (layC n s)::Hs) w,fun _ i _=>g.length - i.toNat,⟨0,rfl,by omega,by omega,by omega,rfl,hw⟩,?_⟩
 clear hw
 rintro _ at' _ w ⟨j,rfl,hj,h0,h1,hn,hw⟩
 refine Br.d (fun h=>?_) (fun h=>?_)
 ·have hj2:j<g.length:=by omega
  have hx:=hg g[j] (List.getElem_mem _)
  rw [List.drop_eq_getElem_cons hj2,sideF_cons] at hn
  refine hs.idx (eqS hw) hj2 ?_
  refine Br.d (fun h2=>⟨?_,hw.drop⟩) (fun h2=>?_)
  ·rw [if_pos h2] at hn
   rw [wrap64 (x:=g[j] - 1) (by omega) (by omega),wrap64 (by omega) (by omega)]
   have:=hn.symm
   rw [show sideF g a=(at',g[j] - 1 - at') from this]
  ·rw [if_neg h2] at hn
   rw [wrap64 (x:=at' - g[j]) (by omega) (by omega),wrap64 (by omega) (by omega)]
   exact ⟨⟨j + 1,by omega,by omega,by omega,by omega,hn,hw⟩,by dsimp only;omega⟩
 ·rw [List.drop_eq_nil_of_le (by omega)] at hn
  refine ⟨?_,hw.drop⟩
  rw [show sideF g a=(0,0) from hn.symm]
end Go.Proofs.YtflgboncpbmikaaGreatDoor
/- Seats side by side, plain: the first that are free, of one group; else the first that are free. No program in sight. Condition: none. -/
namespace Go.Proofs.YtflgboncpbmikaaGreatDoor
set_option linter.unusedVariables false
set_option linter.unusedSimpArgs false
open Go Go.VC
section
variable (u z:Nat→Bool)
def freeL:Nat→List Nat
 |0=>[]
 |j + 1=>freeL j++(if u j then [] else [j])
def runL:Nat→Nat
 |0=>0
 |j + 1=>if u j then 0 else (if z j then 0 else runL j) + 1
def upTo (j many:Nat):List Nat:=(List.range many).map fun t=>j - many + t
def bestF (N many:Nat):List Nat × Int:=
 match (List.range N).find? fun j=>runL u z (j + 1)==many with
 |some j=>(upTo (j + 1) many,0)
 |none=>if (freeL u N).length<many then ([],3) else ((freeL u N).take many,0)
variable {u z}
theorem freeL_succ (j:Nat):freeL u (j + 1)=freeL u j++(if u j then [] else [j]):=rfl
theorem free_of {i j:Nat}:∀ {N:Nat},(freeL u N)[i]? =some j→j<N∧u j=false∧(freeL u j).length=i
 |0,h=>by simp [freeL] at h
 |N + 1,h=>by
  rw [freeL_succ] at h
  by_cases hi:i<(freeL u N).length
  ·rw [List.getElem?_append_left hi] at h
   obtain ⟨h1,h2⟩:=free_of h
   exact ⟨by omega,h2⟩
  ·rw [List.getElem?_append_right (by omega)] at h
   split at h
   ·simp at h
   ·rename_i hu
    rcases hk:i - (freeL u N).length with _|k
    ·rw [hk] at h
     simp at h;subst h
     exact ⟨by omega,by simpa using hu,by omega⟩
    ·rw [hk] at h;simp at h
theorem free_step (j:Nat):(freeL u (j + 1)).length=(freeL u j).length + (if u j then 0 else 1):=by
 rw [freeL_succ,List.length_append];split<;>rfl
theorem free_ge {j:Nat}:∀ t:Nat,(freeL u j).length≤(freeL u (j + t)).length
 |0=>by simp
 |t + 1=>by
  have:=free_ge (j:=j) t
  rw [←Nat.add_assoc,free_step];omega
theorem runL_succ (j:Nat):runL u z (j + 1)=if u j then 0 else (if z j then 0 else runL u z j) + 1:=rfl
theorem runL_ge:∀ {j m:Nat},m≤runL u z j↔m≤j∧∀ x,j - m≤x→x<j→u x=false∧(j - m<x→z x=false)
 |j,0=>⟨fun _=>⟨by omega,fun x h1 h2=>by omega⟩,fun _=>by omega⟩
 |0,m + 1=>⟨fun h=>by simp [runL] at h,fun h=>by omega⟩
 |j + 1,m + 1=>by
  rw [runL_succ]
  cases hu:u j with
  |true=>
   refine ⟨fun h=>by simp at h,fun h=>?_⟩
   have:=(h.2 j (by omega) (by omega)).1
   rw [hu] at this;cases this
  |false=>
   simp only [Bool.false_eq_true,if_false]
   cases hz:z j with
   |true=>
    simp only [if_true]
    constructor
    ·intro h
     obtain rfl:m=0:=by omega
     exact ⟨by omega,fun x h1 h2=>by
      obtain rfl:x=j:=by omega
      exact ⟨hu,fun h=>by omega⟩⟩
    ·intro h
     by_cases hm:m=0
     ·omega
     ·have:=(h.2 j (by omega) (by omega)).2 (by omega)
      rw [hz] at this;cases this
   |false=>
    simp only [Bool.false_eq_true,if_false]
    have ih:=runL_ge (j:=j) (m:=m)
    constructor
    ·intro h
     obtain ⟨h1,h2⟩:=ih.1 (by omega)
     refine ⟨by omega,fun x h3 h4=>?_⟩
     by_cases hx:x=j
     ·subst hx;exact ⟨hu,fun _=>hz⟩
     ·obtain ⟨h5,h6⟩:=h2 x (by omega) (by omega)
      exact ⟨h5,fun h=>h6 (by omega)⟩
    ·rintro ⟨h1,h2⟩
     have:=ih.2 ⟨by omega,fun x h3 h4=>by
      obtain ⟨h5,h6⟩:=h2 x (by omega) (by omega)
      exact ⟨h5,fun h=>h6 (by omega)⟩⟩
     omega
variable {N many:Nat} {grp:Nat→Int}
theorem best_none (hm:1≤many) (h:∀ j,j<N→¬ many≤runL u z (j + 1)):bestF u z N many=if (freeL u N).length<many then ([],3) else ((freeL u N).take many,0):=by
 unfold bestF
 have:((List.range N).find? fun j=>runL u z (j + 1)==many)=none:=by
  rw [List.find?_eq_none]
  intro j hj h2
  have h2:=beq_iff_eq.1 h2
  exact h j (List.mem_range.1 hj) (by omega)
 rw [this]
theorem best_some (hm:1≤many) {j:Nat} (hj:j<N) (h:runL u z (j + 1)=many) (hn:∀ k,k<j→¬ many≤runL u z (k + 1)):bestF u z N many=(upTo (j + 1) many,0):=by
 unfold bestF
 have:((List.range N).find? fun j=>runL u z (j + 1)==many)=some j:=by
  rw [List.find?_range_eq_some]
  exact ⟨by simpa using h,List.mem_range.2 hj,fun k hk=>by
   have:=hn k hk
   simp only [Bool.not_eq_true',beq_eq_false_iff_ne];omega⟩
 rw [this]
end
def zF (g:List Int) (k:Nat):Bool:=(sideF g ((k:Int) % g.sum)).1==0
end Go.Proofs.YtflgboncpbmikaaGreatDoor
/- SL, part 15: new rows of so many zeros; elements of any one cell. Condition: bounds on lengths. -/
namespace Go.VC
set_option linter.unusedVariables false
set_option linter.unusedSimpArgs false
variable {P:Program} {R:Cx} {Hs Rest:List HP} {w:World} {s:Sl} {T:TypeId}
theorem make_rule {t:TypeId} {bytes n:Nat} {kl kc:IntKind} {z:Value} {K:Sl→World→Prop} (ht:P.underlying t=some (.slice T)) (hi:elB P T bytes=true) (hv:∀ w,(zeroValue T).run P w=.ok z w) (h1:z.cells=#[z])
  (hn:bytes * n≤281474976710656) (h63:n≤9223372036854775807) (hw:Sat R Hs w) (k:∀ s' w',Sat R (Own s' T (List.replicate n z)::Hs) w'→K s' w'):
  ∃ w',∃ t':Sl,(Instr.makeSlice t (.int kl (n:Int)) (.int kc (n:Int))).run P w=.ok (.slice t'.a t'.len t'.cap) w'∧K t' w':=by
 obtain ⟨i,z',hi,hz,hs,hb,hc⟩:=elB_out hi
 have hzz:z'=z:=by
  have:=hv w
  simp [zeroValue,hi,hz,typeInfo] at this
  exact this
 subst hzz
 have hb':(i.bytes:Int) * (n:Int)≤281474976710656:=by
  rw [hb]
  have h:((bytes * n:Nat):Int)≤281474976710656:=by omega
  rwa [Int.natCast_mul] at h
 have hr:=run_make (P:=P) w t T i z' ht hi hz kl kc n n (by omega) (Int.le_refl _) hb' (by omega)
 simp only [Int.toNat_natCast,hs,Nat.mul_one,h1] at hr
 refine ⟨_,⟨some ⟨w.heap.size,0,none⟩,n,n⟩,hr,k _ _ ?_⟩
 have e:madeCells #[z'] n=(List.replicate n z').toArray:=by
  apply Array.ext
  ·simp [size_madeCells]
  ·intro j h1 h2
   simp [madeCells,Nat.mod_one]
 rw [e]
 exact own_lit (hw.alloc _) (by simp)
theorem Own.idxB {xs:List Bool} {S:World→Prop} {Hs':List HP} {i:Int} (hw:Sat R (Own s T (xs.map Value.bool)::Hs) w) (hS:∀ w,S w→Sat R (Own s T (xs.map Value.bool)::Hs') w) (k:Nat) (hi:i=k) (hk:k<xs.length) {F:Bool→Prop} (h:F xs[k]):
  Rng i s.len (NilP s.a fun a=>∃ t:Bool,(At S (a.add i.toNat) [.bool t])∧F t):=by
 subst hi
 obtain ⟨b,ha,hat⟩:=Own.addr hw (k:=k) (by simpa using hk)
 have hl:=Own.len hw
 rw [List.length_map] at hl
 refine Rng.mk (by omega) (by omega) (NilP.mk ha ⟨xs[k],?_,h⟩)
 have:=hat hS
 simpa using this
theorem Own.storeV {t:TypeId} {xs:List Value} {v:Value} {i:Int} (hsz:(P.info? t).map (·.size)=some 1) (hv:v.cells=#[v]) (h1:v.oneCell'=true) (hw:Sat R (Own s T xs::Hs) w) (k:Nat) (hi:i=k) (hk:k<xs.length) {K:World→Prop}
  (h:∀ w',Sat R (Own s T (xs.set k v)::Hs) w'→K w'):
  Rng i s.len (NilP s.a fun a=>∃ w',(Instr.storeAt t (.pointer (some (Addr.add a i.toNat))) v).run P w=.ok () w'∧K w'):=by
 subst hi
 have hl:=Own.len hw
 rcases Own.cases hw with ⟨_,h0,_⟩|⟨b,rest,fr,rfl,hfr,hp⟩
 ·subst h0;simp at hk
 ·refine Rng.mk (by omega) (by simp only at hl ⊢;omega) (NilP.mk rfl ?_)
  rw [add_off]
  refine store_rule hp (by rw [hsz,hv];rfl) (by rw [hv];simp [oneAll,h1]) (by rw [hv];simp;omega) fun w' h2=>h w' ?_
  have e:putL (xs++rest) (0 + (k:Int).toNat) v.cells.toList=xs.set k v++rest:=by
   rw [hv]
   simp only [putL,Nat.zero_add,Int.toNat_natCast]
   rw [List.set_append_left _ _ hk]
  rw [e] at h2
  have h3:=Own.of_pts h2 (hfr.le (by simp))
  simpa using h3
theorem Own.ix {kd:IntKind} {xs:List Int} {S:World→Prop} {Hs':List HP} {i:Int} (hw:Sat R (Own s T (xs.map (Value.int kd))::Hs) w) (hS:∀ w,S w→Sat R (Own s T (xs.map (Value.int kd))::Hs') w) (k:Nat) (hi:i=k) (hk:k<xs.length) {F:Int→Prop} (h:F xs[k]):
  Rng i s.len (NilP s.a fun a=>∃ t:Int,(At S (a.add i.toNat) [.int kd t])∧F t):=by
 subst hi;exact Own.idx hw hS hk h
end Go.VC
/- Seats side by side: packages seat and reference 13. Condition: none. -/
namespace Go.Proofs.YtflgboncpbmikaaGreatDoor
set_option linter.unusedVariables false
set_option linter.unusedSimpArgs false
open Go Go.VC
variable {R:Cx} {Hs Rest:List HP} {w:World}
theorem elI8:El Tryz.prog 68 68 3 8:=⟨Tryz.underlying68,⟨_,Tryz.underlying68⟩,by kernel_rfl⟩
abbrev ints (l:List Nat):List Value:=(l.map fun (j:Nat)=>(j:Int)).map (Value.int .i64)
def usedF (taken:List Int) (j:Nat):Bool:=decide ((j:Int)∈taken)
def bestT (n:Int) (g:List Int) (taken:List Int) (many:Int):List Int × Int:=
 if many<1∨many>layN n g then ([],1)
 else ((bestF (usedF taken) (zF g) (layN n g).toNat many.toNat).1.map fun (j:Nat)=>(j:Int),(bestF (usedF taken) (zF g) (layN n g).toNat many.toNat).2)
theorem runL_le {u z:Nat→Bool}:∀ j,runL u z j≤j
 |0=>Nat.le_refl _
 |j + 1=>by
  have:=runL_le (u:=u) (z:=z) j
  rw [runL_succ];split
  ·omega
  ·split<;>omega
theorem upTo_succ {j m:Nat} (h:m≤j):upTo (j + 1) (m + 1)=upTo j m++[j]:=by
 unfold upTo
 rw [List.range_succ,List.map_append]
 congr 1
 ·refine List.map_congr_left fun t _=>by omega
 ·simp;omega
theorem upTo_len (j m:Nat):(upTo j m).length=m:=by unfold upTo;simp
theorem freeL_len {u:Nat→Bool}:∀ j,(freeL u j).length≤j
 |0=>Nat.le_refl _
 |j + 1=>by
  have:=freeL_len (u:=u) j
  rw [free_step];split<;>omega
theorem ints_len (l:List Nat):(ints l).length=l.length:=by simp [ints]
theorem own_take {s:Sl} {T:TypeId} {xs:List Value} {k:Nat} (hk:k≤xs.length) (hw:Sat R (Own s T xs::Hs) w):Sat R (Own ⟨s.a,k,s.cap⟩ T (xs.take k)::Hs) w:=by
 rcases Own.cases hw with ⟨rfl,rfl,hn⟩|⟨b,rest,fr,rfl,hfr,hp⟩
 ·obtain rfl:k=0:=by simpa using hk
  exact Own.nil hn
 ·have e:xs++rest=xs.take k++(xs.drop k++rest):=by rw [←List.append_assoc,List.take_append_drop]
  rw [e] at hp hfr ⊢
  have:=Own.of_pts hp hfr
  rw [show (xs.take k).length=k by rw [List.length_take];omega] at this
  exact this
theorem best_spec {n many:Int} {s st:Sl} {g taken:List Int} (hs:RoI R s g) (ht:RoI R st taken) (hw:Sat R Hs w):
  Gets Tryz.prog 118 #[.agg #[.int .i64 n,.slice s.a s.len s.cap],.slice st.a st.len st.cap,.int .i64 many] w fun v w'=>∃ t:Sl,v=.tuple #[.slice t.a t.len t.cap,.int .i64 (bestT n g taken many).2]∧Sat R (Reads t ((bestT n g taken many).1.map (Value.int .i64))::Hs) w':=by
 have hbd:=layN_bd n g
 have htl:=ht.len
 have htb:=ht.bound
 have bad:(many<1∨many>layN n g)→∀ w,Sat R (pts 0 (.cells #[] 0 (0,0))::Hs) w∨Sat R Hs w→∃ t:Sl,Value.tuple #[.slice none 0 0,.int .i64 1]=.tuple #[.slice t.a t.len t.cap,.int .i64 (bestT n g taken many).2]∧Sat R (Reads t ((bestT n g taken many).1.map (Value.int .i64))::Hs) w:=fun h w hw=>by
  have e:bestT n g taken many=([],1):=by unfold bestT;rw [if_pos h]
  rw [e]
  exact ⟨⟨none,0,0⟩,rfl,Own.reads (T:=0) (Own.nil (by rcases hw with h|h;exact h.drop;exact h))⟩
 apply call118
 refine new_rule hw fun p w hw=>?_
 have hw:Sat R (pts p (layC n s)::Hs) w:=hw
 refine ⟨fun w=>(1≤many∧many≤layN n g)∧Sat R (pts p (layC n s)::Hs) w,Br.d (fun h=>bad (.inl h) _ (.inr hw.drop)) (fun h1=>?_),?_⟩
 ·refine ⟨n,s,At.own (eqS hw) (by exact ⟨rfl,rfl,trivial⟩),?_⟩
  refine (count_spec hs hw).use ?_
  rintro _ w ⟨rfl,hw⟩
  exact ⟨_,rfl,Br.d (fun h=>bad (.inr h) _ (.inr hw.drop)) (fun h=>⟨⟨by omega,by omega⟩,hw⟩)⟩
 clear hw
 rintro _ w ⟨⟨hm1,hm2⟩,hw⟩
 have hok:layOk n g=true:=by
  by_cases hok:layOk n g=true
  ·exact hok
  ·unfold layN at hm2;rw [if_neg hok] at hm2;omega
 obtain ⟨l1,l2,l3⟩:=layOk_iff.1 hok
 have eT:bestT n g taken many=((bestF (usedF taken) (zF g) (layN n g).toNat many.toNat).1.map fun (j:Nat)=>(j:Int),(bestF (usedF taken) (zF g) (layN n g).toNat many.toNat).2):=by
  unfold bestT;rw [if_neg (by omega)]
 rw [eT]
 obtain ⟨N,hN⟩:=Int.eq_ofNat_of_zero_le hbd.1
 obtain ⟨m,rfl⟩:=Int.eq_ofNat_of_zero_le (show 0≤many by omega)
 rw [hN] at hbd hm2 ⊢
 rw [Int.toNat_natCast,Int.toNat_natCast]
 clear bad eT
 generalize hu:usedF taken=u
 generalize hz:zF g=z
 refine ⟨n,s,At.own (eqS hw) (by exact ⟨rfl,rfl,trivial⟩),?_⟩
 refine (count_spec hs hw).use ?_
 rw [hN]
 rintro _ w ⟨rfl,hw⟩
 refine ⟨_,rfl,?_⟩
 refine make_rule (bytes:=1) (z:=.bool false) Tryz.underlying235 (by kernel_rfl) Tryz.zeroValue4 rfl (by omega) (by omega) hw fun su w hw=>?_
 -- which ones are taken
 refine ⟨fun i w=>∃ j:Nat,i=j∧j≤taken.length∧Sat R (Own su 4 (((List.range N).map (usedF (taken.take j))).map Value.bool)::pts p (layC n s)::Hs) w,fun i _=>taken.length - i.toNat,⟨0,rfl,by omega,?_⟩,?_⟩
 ·have e:((List.range N).map (usedF (taken.take 0))).map Value.bool=List.replicate N (.bool false):=by
   apply List.ext_getElem
   ·simp
   ·intro i h1 h2;simp [usedF]
  rw [e];exact hw
 clear hw
 rintro _ _ w ⟨j,rfl,hj,hw⟩
 have hsl:=Own.len hw
 simp only [List.length_map,List.length_range] at hsl
 refine Br.d (fun h=>?_) (fun h=>?_)
 ·have hj2:j<taken.length:=by omega
  refine ht.idx (eqS hw) hj2 ?_
  refine ⟨n,s,At.own (eqS hw) (by exact ⟨rfl,rfl,trivial⟩),?_⟩
  refine (shas_spec hs hw).use ?_
  rw [hN]
  rintro _ w ⟨rfl,hw⟩
  have hset:∀ k:Nat,usedF (taken.take (j + 1)) k=(usedF (taken.take j) k||decide ((k:Int)=taken[j])):=fun k=>by
   unfold usedF
   rw [List.take_add_one,List.getElem?_eq_getElem hj2]
   simp only [Option.toList_some,List.mem_append,List.mem_singleton]
   rw [Bool.decide_or]
  rw [wrap64 (by omega) (by omega)]
  refine ⟨_,rfl,Br.d (fun h2=>?_) (fun h2=>?_)⟩
  ·obtain ⟨k,hk⟩:=Int.eq_ofNat_of_zero_le h2.1
   refine Own.storeV (by kernel_rfl) rfl rfl hw k hk (by simp;omega) fun w hw=>?_
   refine ⟨⟨j + 1,by omega,by omega,?_⟩,by dsimp only;omega⟩
   have e:(((List.range N).map (usedF (taken.take j))).map Value.bool).set k (.bool true)=((List.range N).map (usedF (taken.take (j + 1)))).map Value.bool:=by
    rw [←List.map_set]
    congr 1
    apply List.ext_getElem
    ·simp
    ·intro i h3 h4
     simp only [List.length_map,List.length_range,List.length_set] at h3 h4
     rw [List.getElem_set]
     simp only [List.getElem_map,List.getElem_range]
     rw [hset]
     split
     ·rename_i h5;subst h5;rw [decide_eq_true hk.symm,Bool.or_true]
     ·rw [decide_eq_false (by omega),Bool.or_false]
   rw [e] at hw;exact hw
  ·refine ⟨⟨j + 1,by omega,by omega,?_⟩,by dsimp only;omega⟩
   have e:(List.range N).map (usedF (taken.take j))=(List.range N).map (usedF (taken.take (j + 1))):=by
    refine List.map_congr_left fun i hi=>?_
    have hi:=List.mem_range.1 hi
    rw [hset,decide_eq_false (by omega),Bool.or_false]
   rw [e] at hw;exact hw
 rw [List.take_of_length_le (show taken.length≤j by omega),hu] at hw
 -- the seats, one behind the other
 refine ⟨n,s,At.own (eqS hw) (by exact ⟨rfl,rfl,trivial⟩),?_⟩
 refine (count_spec hs hw).use ?_
 rw [hN]
 rintro _ w ⟨rfl,hw⟩
 refine ⟨_,rfl,?_⟩
 clear h hj hsl
 refine ⟨fun sf sr i w=>∃ j:Nat,i=j∧j≤N∧(∀ k,k<j→¬ m≤runL u z (k + 1))∧Sat R (Own sf 3 (ints (freeL u j))::Own sr 3 (ints (upTo j (runL u z j)))::Own su 4 (((List.range N).map u).map Value.bool)::pts p (layC n s)::Hs) w,
  fun _ _ i _=>N - i.toNat,⟨0,rfl,by omega,fun k h=>by omega,Own.nil (Own.nil hw)⟩,?_⟩
 clear hw
 rintro _ sf sr _ w ⟨j,rfl,hj,hn,hw⟩
 have hfl:=freeL_len (u:=u) j
 have hrl:=runL_le (u:=u) (z:=z) j
 refine Br.d (fun h=>?_) (fun h=>?_)
 ·have hjN:j<N:=by omega
  have hused:((List.range N).map u)[j]? =some (u j):=by rw [List.getElem?_map,List.getElem?_range hjN];rfl
  have hgu:∀ (hh:j<((List.range N).map u).length),((List.range N).map u)[j]=u j:=fun hh=>by simp
  refine ⟨fun sr w=>Sat R (Own sf 3 (ints (freeL u j))::Own sr 3 (ints (if z j||u j then [] else upTo j (runL u z j)))::Own su 4 (((List.range N).map u).map Value.bool)::pts p (layC n s)::Hs) w,?_,?_⟩
  ·refine ⟨n,s,At.own (eqS hw) (by exact ⟨rfl,rfl,trivial⟩),?_⟩
   refine (sides_spec hs l2 (by omega) (by omega) (by omega) hw).use ?_
   rintro _ w ⟨rfl,hw⟩
   have hzj:z j=((sideF g ((j:Int) % g.sum)).1==0):=by rw [←hz];rfl
   refine ⟨_,_,rfl,?_⟩
   rw [←hzj]
   refine Br.mk (fun h2=>?_) (fun h2=>?_)
   ·rw [h2];exact Own.nil (hw.swap.drop)|>.swap
   ·refine Own.idxB (hw.take (Own su 4 (((List.range N).map u).map Value.bool))) (eqS (hw.take (Own su 4 (((List.range N).map u).map Value.bool)))) j rfl (by simp;omega) ?_
    rw [hgu]
    refine Br.mk (fun h3=>?_) (fun h3=>?_)
    ·rw [h2,h3];exact Own.nil (hw.swap.drop)|>.swap
    ·rw [h2,h3];exact hw
  clear hw
  rintro _ sr w hw
  refine Own.idxB (hw.take (Own su 4 (((List.range N).map u).map Value.bool))) (eqS (hw.take (Own su 4 (((List.range N).map u).map Value.bool)))) j rfl (by simp;omega) ?_
  rw [hgu,wrap64 (by omega) (by omega)]
  refine Br.mk (fun h3=>?_) (fun h3=>?_)
  ·refine ⟨⟨j + 1,by omega,by omega,fun k hk=>?_,?_⟩,by dsimp only;omega⟩
   ·by_cases hkj:k=j
    ·rw [hkj,runL_succ,h3];simp;omega
    ·exact hn k (by omega)
   ·rw [h3,Bool.or_true,if_pos rfl] at hw
    rw [freeL_succ,runL_succ,h3]
    simp only [if_true,List.append_nil]
    exact hw
  ·refine pushI_rule elI8 hw (by rw [List.length_map];omega) fun sf' w hw=>?_
   have hrun:(if z j||u j then [] else upTo j (runL u z j))++[j]=upTo (j + 1) (runL u z (j + 1)):=by
    rw [runL_succ,h3,Bool.or_false]
    simp only [Bool.false_eq_true,if_false]
    cases hzz:z j with
    |true=>simp [upTo]
    |false=>
     simp only [Bool.false_eq_true,if_false]
     exact (upTo_succ hrl).symm
   have hrl2:=runL_le (u:=u) (z:=z) (j + 1)
   refine pushI_rule elI8 hw.swap (by rw [List.length_map];split<;>simp [upTo_len]<;>omega) fun sr' w hw=>?_
   have hw:Sat R (Own sr' 3 (ints (upTo (j + 1) (runL u z (j + 1))))::Own sf' 3 (ints (freeL u (j + 1)))::Own su 4 (((List.range N).map u).map Value.bool)::pts p (layC n s)::Hs) w:=by
    have e1:ints (freeL u (j + 1))=(((freeL u j).map fun (j:Nat)=>(j:Int))++[(j:Int)]).map (Value.int .i64):=by rw [freeL_succ,h3];simp [ints]
    have e2:ints (upTo (j + 1) (runL u z (j + 1)))=(((if z j||u j then [] else upTo j (runL u z j)).map fun (j:Nat)=>(j:Int))++[(j:Int)]).map (Value.int .i64):=by rw [←hrun];simp only [ints,List.map_append,List.map_cons,List.map_nil]
    rw [e1,e2];exact hw
   have hrlen:=Own.len hw
   rw [ints_len,upTo_len] at hrlen
   refine Br.e (fun h4=>?_) (fun h4=>?_)
   ·have hbs:=best_some (u:=u) (z:=z) (many:=m) (N:=N) (by omega) hjN (by omega) hn
    rw [hbs]
    refine ⟨sr',rfl,?_⟩
    have:=Own.reads hw
    rw [show runL u z (j + 1)=m by omega] at this
    exact Sat.cons (fun R' h=>h.drop.drop.drop) this
   ·refine ⟨⟨j + 1,by omega,by omega,fun k hk hr=>?_,hw.swap⟩,by dsimp only;omega⟩
    by_cases hkj:k=j
    ·subst hkj
     have:runL u z (k + 1)≤runL u z k + 1:=by rw [runL_succ];split<;>(try split)<;>omega
     have:runL u z k<m:=by
      by_cases hk0:k=0
      ·rw [hk0];simp only [runL];omega
      ·have:=hn (k - 1) (by omega)
       rw [show k - 1 + 1=k by omega] at this;omega
     omega
    ·exact hn k (by omega) hr
 ·obtain rfl:j=N:=by omega
  have hbn:=best_none (u:=u) (z:=z) (many:=m) (N:=j) (by omega) hn
  have hfl2:=Own.len hw
  have hcap:=Own.cap hw
  rw [ints_len] at hfl2
  rw [hbn]
  refine Br.d (fun h4=>?_) (fun h4=>?_)
  ·rw [if_pos (by omega)]
   exact ⟨⟨none,0,0⟩,rfl,Own.reads (T:=0) (Own.nil hw.drop.drop.drop.drop)⟩
  ·rw [if_neg (by omega)]
   refine ⟨by omega,by omega,⟨sf.a,m,sf.cap⟩,rfl,?_⟩
   have:=Own.reads (own_take (k:=m) (by rw [ints_len];omega) hw)
   rw [show (ints (freeL u j)).take m=ints ((freeL u j).take m) by simp [ints,List.map_take]] at this
   exact Sat.cons (fun R' h=>h.drop.drop.drop) this
end Go.Proofs.YtflgboncpbmikaaGreatDoor
/- Seats side by side: reference 13. Condition: none. -/
namespace Go.Proofs.YtflgboncpbmikaaGreatDoor
set_option linter.unusedVariables false
set_option linter.unusedSimpArgs false
open Go Go.VC
variable {R:Cx} {Hs Rest:List HP} {w:World}
theorem _root_.Go.VC.Sat.imp {A B:HP} (h:∀ m,A m→B m) (hw:Sat R (A::Hs) w):Sat R (B::Hs) w:=let ⟨m,a,b,c⟩:=hw;⟨m,h m a,b,c⟩
end Go.Proofs.YtflgboncpbmikaaGreatDoor
/- Classes and limits: package nest. Condition: none. -/
namespace Go.Proofs.YtflgboncpbmikaaGreatDoor
set_option linter.unusedVariables false
set_option linter.unusedSimpArgs false
open Go Go.VC
variable {R:Cx} {Hs Rest:List HP} {w:World}
def inR (x:Int):Bool:=decide (0≤x∧x≤10000)
def limOk (l:List Int):Bool:=decide (1≤l.length∧l.length≤8) && decide (∀ k,k<l.length→(0≤l.getD k 0∧l.getD k 0≤10000)∧(0<k→l.getD k 0≤l.getD (k - 1) 0))
def fromN (sold:List Int) (k:Nat):Int:=(sold.drop k).sum
def nestOk (lim sold:List Int):Bool:=limOk lim && (decide (sold.length=lim.length) && decide (∀ k,k<lim.length→(0≤sold.getD k 0∧sold.getD k 0≤10000)∧fromN sold k≤lim.getD k 0))
def mnF (x:Nat→Int):Nat→Int
 |0=>10000
 |k + 1=>if x k<mnF x k then x k else mnF x k
def roomF (lim sold:List Int) (k:Nat):Int:=lim.getD k 0 - fromN sold k
def leftT (lim sold:List Int) (c:Int):Int × Int:=if nestOk lim sold=true∧0≤c∧c<lim.length then (mnF (roomF lim sold) (c.toNat + 1),0) else (0,1)
def sellT (lim sold:List Int) (c many:Int):List Int × Int:=
 if (leftT lim sold c).2≠0∨many<1∨many>10000 then ([],1) else if many>(leftT lim sold c).1 then ([],3)
 else (sold.set c.toNat (sold.getD c.toNat 0 + many),0)
def backT (lim sold:List Int) (c many:Int):List Int × Int:=
 if (leftT lim sold c).2≠0∨many<1∨many>sold.getD c.toNat 0 then ([],1) else (sold.set c.toNat (sold.getD c.toNat 0 - many),0)
def IsMn (x:Nat→Int) (a b:Nat) (L:Int):Prop:=L≤10000∧(∀ k,a≤k→k<b→L≤x k)∧(L=10000∨∃ k,a≤k∧k<b∧L=x k)
theorem mnF_is (x:Nat→Int):∀ k,IsMn x 0 k (mnF x k)
 |0=>⟨by simp [mnF],fun k h0 h1=>by omega,.inl rfl⟩
 |k + 1=>by
  obtain ⟨h1,h2,h3⟩:=mnF_is x k
  unfold mnF
  split
  ·exact ⟨by omega,fun j a b=>by
    by_cases hj:j=k
    ·rw [hj];exact Int.le_refl _
    ·have:=h2 j a (by omega);omega,.inr ⟨k,by omega,by omega,rfl⟩⟩
  ·refine ⟨h1,fun j a b=>?_,?_⟩
   ·by_cases hj:j=k
    ·rw [hj];omega
    ·exact h2 j a (by omega)
   ·rcases h3 with h3|⟨j,a,b,c⟩
    ·exact .inl h3
    ·exact .inr ⟨j,a,by omega,c⟩
theorem IsMn.eq {x:Nat→Int} {a b:Nat} {L L':Int} (h:IsMn x a b L) (h':IsMn x a b L'):L=L':=by
 obtain ⟨h1,h2,h3⟩:=h
 obtain ⟨h1',h2',h3'⟩:=h'
 have a1:L≤L':=by
  rcases h3' with h|⟨k,k1,k2,k3⟩
  ·omega
  ·rw [k3];exact h2 k k1 k2
 have a2:L'≤L:=by
  rcases h3 with h|⟨k,k1,k2,k3⟩
  ·omega
  ·rw [k3];exact h2' k k1 k2
 omega
theorem IsMn.step {x:Nat→Int} {a b:Nat} {L:Int} (h:IsMn x (a + 1) b L) (hab:a<b):IsMn x a b (if x a<L then x a else L):=by
 obtain ⟨h1,h2,h3⟩:=h
 split
 ·exact ⟨by omega,fun k k1 k2=>by
   by_cases hk:k=a
   ·rw [hk];exact Int.le_refl _
   ·have:=h2 k (by omega) k2;omega,.inr ⟨a,by omega,hab,rfl⟩⟩
 ·refine ⟨h1,fun k k1 k2=>?_,?_⟩
  ·by_cases hk:k=a
   ·rw [hk];omega
   ·exact h2 k (by omega) k2
  ·rcases h3 with h|⟨k,k1,k2,k3⟩
   ·exact .inl h
   ·exact .inr ⟨k,by omega,k2,k3⟩
theorem IsMn.skip {x:Nat→Int} {a b:Nat} {L:Int} (h:IsMn x (a + 1) b L) (hab:¬ a<b):IsMn x a b L:=by
 obtain ⟨h1,h2,h3⟩:=h
 refine ⟨h1,fun k k1 k2=>by omega,?_⟩
 rcases h3 with h|⟨k,k1,k2,k3⟩
 ·exact .inl h
 ·omega
theorem fromN_step {sold:List Int} {k:Nat} (h:k<sold.length):fromN sold k=sold[k] + fromN sold (k + 1):=by
 unfold fromN;rw [List.drop_eq_getElem_cons h,List.sum_cons]
theorem fromN_end {sold:List Int} {k:Nat} (h:sold.length≤k):fromN sold k=0:=by
 unfold fromN;rw [List.drop_eq_nil_of_le h];rfl
theorem fromN_bd {sold:List Int} (h:∀ x∈sold,0≤x∧x≤10000):∀ k,0≤fromN sold k∧fromN sold k≤10000 * (sold.length - k:Nat):=by
 intro k
 unfold fromN
 rw [←List.length_drop]
 have:∀ x∈sold.drop k,0≤x∧x≤10000:=fun x hx=>h x (List.mem_of_mem_drop hx)
 generalize sold.drop k=l at *
 induction l with
 |nil=>simp
 |cons a l ih=>
  have:=ih fun x hx=>this x (List.mem_cons_of_mem _ hx)
  have:=‹∀ x∈a::l,0≤x∧x≤10000› a List.mem_cons_self
  simp only [List.sum_cons,List.length_cons];omega
theorem getD_lt {l:List Int} {k:Nat} (h:k<l.length):l.getD k 0=l[k]:=by rw [List.getD_eq_getElem?_getD,List.getElem?_eq_getElem h];rfl
theorem limOk_iff {l:List Int}:limOk l=true↔(1≤l.length∧l.length≤8)∧∀ k (h:k<l.length),(0≤l[k]∧l[k]≤10000)∧(0<k→l[k]≤l.getD (k - 1) 0):=by
 unfold limOk
 rw [Bool.and_eq_true,decide_eq_true_iff,decide_eq_true_iff]
 constructor
 ·rintro ⟨h1,h2⟩
  exact ⟨h1,fun k h=>by have:=h2 k h;rw [getD_lt h] at this;exact this⟩
 ·rintro ⟨h1,h2⟩
  exact ⟨h1,fun k h=>by rw [getD_lt h];exact h2 k h⟩
theorem nestOk_iff {lim sold:List Int}:nestOk lim sold=true↔limOk lim=true∧sold.length=lim.length∧∀ k,k<lim.length→(0≤sold.getD k 0∧sold.getD k 0≤10000)∧fromN sold k≤lim.getD k 0:=by
 unfold nestOk
 rw [Bool.and_eq_true,Bool.and_eq_true,decide_eq_true_iff,decide_eq_true_iff]
theorem nestOk_no {lim sold:List Int} (h:¬ (limOk lim=true∧sold.length=lim.length∧∀ k,k<lim.length→(0≤sold.getD k 0∧sold.getD k 0≤10000)∧fromN sold k≤lim.getD k 0)):nestOk lim sold=false:=by
 rw [←Bool.not_eq_true,nestOk_iff];exact h
theorem within_spec {x:Int} (hw:Sat R Hs w):Gets Tryz.prog 136 #[.int .i64 x] w fun v w'=>v=.bool (inR x)∧Sat R Hs w':=by
 apply call136
 unfold inR
 refine Br.d (fun h=>⟨?_,hw⟩) (fun h=>⟨?_,hw⟩)
 ·congr 1;rw [decide_eq_decide];omega
 ·rw [decide_eq_false (by omega)]
theorem lefts_spec {sl ss:Sl} {lim sold:List Int} {ask:Value} {A:Nat→List HP} (hl:RoI R sl lim) (hs:RoI R ss sold)
  (hask:∀ j w,j<lim.length→Sat R (A (j + 1)) w→CalW Tryz.prog cl ask [.int .i64 j,.int .i64 (roomF lim sold j)] w fun e w'=>e=.returned (.tuple #[])∧Sat R (A j) w')
  (hw:Sat R (A lim.length) w):
  Gets Tryz.prog 140 #[.slice sl.a sl.len sl.cap,.slice ss.a ss.len ss.cap,ask] w fun v w'=>v=.bool (nestOk lim sold)∧∃ j,Sat R (A j) w'∧(nestOk lim sold=true→j=0):=by
 have hll:=hl.len
 have hsl:=hs.len
 have hlb:=hl.bound
 have hsb:=hs.bound
 apply call140
 have no:∀ j w,Sat R (A j) w→nestOk lim sold=false→Value.bool false=.bool (nestOk lim sold)∧∃ j,Sat R (A j) w∧(nestOk lim sold=true→j=0):=fun j w h e=>⟨by rw [e],j,h,fun h=>by rw [e] at h;cases h⟩
 have nl:¬ (1≤lim.length∧lim.length≤8)→nestOk lim sold=false:=fun h=>nestOk_no fun h2=>h (limOk_iff.1 h2.1).1
 refine ⟨fun w=>(1≤lim.length∧lim.length≤8∧sold.length=lim.length)∧Sat R (A lim.length) w,?_,?_⟩
 ·refine Br.d (fun h=>no _ _ hw (nl (by omega))) (fun h1=>Br.d (fun h=>no _ _ hw (nl (by omega))) (fun h2=>Br.ne (fun h=>no _ _ hw (nestOk_no fun h3=>by omega)) (fun h3=>⟨⟨by omega,by omega,by omega⟩,hw⟩)))
 clear hw
 rintro _ w ⟨⟨h1,h2,h3⟩,hw⟩
 refine ⟨fun sum fine i w=>∃ j:Nat,i=(j:Int) - 1∧j≤lim.length∧sum=fromN sold j∧(∀ x∈sold.drop j,0≤x∧x≤10000)∧
   (∀ k (h:k<lim.length),j≤k→(0≤lim[k]∧lim[k]≤10000)∧(0<k→lim[k]≤lim.getD (k - 1) 0))∧fine=decide (∀ k,k<lim.length→j≤k→fromN sold k≤lim.getD k 0)∧Sat R (A j) w,
  fun _ _ i _=>(i + 1).toNat,⟨lim.length,?_,by omega,?_,?_,fun k h h'=>by omega,?_,hw⟩,?_⟩
 ·rw [hll,wrap64 (by omega) (by omega)]
 ·rw [fromN_end (by omega)]
 ·rw [List.drop_eq_nil_of_le (by omega)];simp
 ·rw [decide_eq_true];intro k h h';omega
 clear hw
 rintro _ _ fine _ w ⟨j,rfl,hj,rfl,hsm,hlm,rfl,hw⟩
 refine Br.d (fun h=>?_) (fun h=>?_)
 ·obtain ⟨i,rfl⟩:∃ i,j=i + 1:=⟨j - 1,by omega⟩
  rw [show ((i + 1:Nat):Int) - 1=(i:Int) by omega]
  have hil:i<lim.length:=by omega
  have his:i<sold.length:=by omega
  have nlim:¬ ((0≤lim[i]∧lim[i]≤10000)∧(0<i→lim[i]≤lim.getD (i - 1) 0))→nestOk lim sold=false:=fun h=>nestOk_no fun h2=>h ((limOk_iff.1 h2.1).2 i hil)
  have nsold:¬ (0≤sold[i]∧sold[i]≤10000)→nestOk lim sold=false:=fun h=>nestOk_no fun h2=>h (by have:=(h2.2.2 i hil).1;rw [getD_lt his] at this;exact this)
  refine ⟨fun w=>(inR lim[i]=true∧inR sold[i]=true∧(0<i→lim[i]≤lim.getD (i - 1) 0))∧Sat R (A (i + 1)) w,?_,?_⟩
  ·refine drw_rule hw fun w hw=>?_
   refine Ro.ix hl selfS i rfl hil ?_
   refine (within_spec hw).use ?_
   rintro _ w ⟨rfl,hw⟩
   refine ⟨_,rfl,hw,Br.nb (fun h=>no _ _ hw (nlim fun h2=>by unfold inR at h;have:=of_decide_eq_false h;omega)) (fun h4=>?_)⟩
   refine Ro.ix hs selfS i rfl his ?_
   refine (within_spec hw).use ?_
   rintro _ w ⟨rfl,hw⟩
   refine ⟨_,rfl,hw,Br.nb (fun h=>no _ _ hw (nsold fun h2=>by unfold inR at h;have:=of_decide_eq_false h;omega)) (fun h5=>?_)⟩
   refine Br.d (fun h6=>?_) (fun h6=>⟨⟨h4,h5,fun h=>by omega⟩,hw⟩)
   refine Ro.ix hl selfS i rfl hil ?_
   refine Ro.ix hl selfS (i - 1) (by rw [wrap64 (by omega) (by omega)];omega) (by omega) ?_
   refine Br.d (fun h7=>no _ _ hw (nlim fun h8=>?_)) (fun h7=>⟨⟨h4,h5,fun _=>by rw [getD_lt (by omega)];omega⟩,hw⟩)
   have:=h8.2 (by omega)
   rw [getD_lt (by omega)] at this;omega
  clear hw
  rintro _ w ⟨⟨h4,h5,h6⟩,hw⟩
  have h4:=of_decide_eq_true h4
  have h5:=of_decide_eq_true h5
  have hsm':∀ x∈sold.drop i,0≤x∧x≤10000:=fun x hx=>by
   rw [List.drop_eq_getElem_cons his] at hx
   rcases List.mem_cons.1 hx with rfl|hx
   ·exact h5
   ·exact hsm x hx
  have hfs:=fromN_step his
  have hfb:0≤fromN sold (i + 1)∧fromN sold (i + 1)≤80000:=by
   have:=fromN_bd (sold:=sold.drop (i + 1)) hsm 0
   unfold fromN at this ⊢
   rw [List.drop_zero] at this
   rw [List.length_drop] at this
   omega
  have hroom:IntKind.i64.wrap (lim[i] - fromN sold i)=roomF lim sold i:=by
   rw [wrap64 (by omega) (by omega)]
   unfold roomF;rw [getD_lt hil]
  have hsum:IntKind.i64.wrap (fromN sold (i + 1) + sold[i])=fromN sold i:=by rw [wrap64 (by omega) (by omega)];omega
  have hk:IntKind.i64.wrap ((i:Int) - 1)=(i:Int) - 1:=wrap64 (by omega) (by omega)
  have fin:∀ w,Sat R (A i) w→∀ b:Bool,b=(decide (∀ k,k<lim.length→i + 1≤k→fromN sold k≤lim.getD k 0) && decide (fromN sold i≤lim[i]))→
    (∃ j:Nat,(i:Int) - 1=(j:Int) - 1∧j≤lim.length∧fromN sold i=fromN sold j∧(∀ x∈sold.drop j,0≤x∧x≤10000)∧
     (∀ k (h:k<lim.length),j≤k→(0≤lim[k]∧lim[k]≤10000)∧(0<k→lim[k]≤lim.getD (k - 1) 0))∧b=decide (∀ k,k<lim.length→j≤k→fromN sold k≤lim.getD k 0)∧Sat R (A j) w)∧((i:Int) - 1 + 1).toNat<((i:Int) + 1).toNat:=fun w hw b hb=>by
   refine ⟨⟨i,rfl,by omega,rfl,hsm',fun k h h'=>?_,?_,hw⟩,by omega⟩
   ·by_cases hki:k=i
    ·subst hki;exact ⟨h4,h6⟩
    ·exact hlm k h (by omega)
   ·rw [hb,←Bool.decide_and,decide_eq_decide]
    constructor
    ·rintro ⟨a,b⟩ k c d
     by_cases hki:k=i
     ·subst hki;rw [getD_lt hil];exact b
     ·exact a k c (by omega)
    ·intro a
     exact ⟨fun k c d=>a k c (by omega),by have:=a i hil (by omega);rw [getD_lt hil] at this;exact this⟩
  refine Ro.ix hs (eqS hw) i rfl his ?_
  rw [hsum,hk]
  refine Br.d (fun h7=>?_) (fun h7=>?_)
  ·refine Ro.ix hl (eqS hw) i rfl hil (Ro.ix hl (eqS hw) i rfl hil ?_)
   rw [hroom]
   refine (hask i w hil hw).mono ?_
   rintro _ w ⟨rfl,hw⟩
   exact ⟨rfl,fin w hw _ (by rw [decide_eq_true h7];rfl)⟩
  ·refine Ro.ix hl (eqS hw) i rfl hil ?_
   rw [hroom]
   refine (hask i w hil hw).mono ?_
   rintro _ w ⟨rfl,hw⟩
   exact ⟨rfl,fin w hw _ (by rw [decide_eq_false h7];rfl)⟩
 ·obtain rfl:j=0:=by omega
  have e:nestOk lim sold=decide (∀ k,k<lim.length→0≤k→fromN sold k≤lim.getD k 0):=by
   rw [Bool.eq_iff_iff,nestOk_iff,decide_eq_true_iff]
   constructor
   ·intro h k h4 _;exact (h.2.2 k h4).2
   ·intro h
    refine ⟨limOk_iff.2 ⟨⟨h1,h2⟩,fun k h4=>hlm k h4 (by omega)⟩,h3,fun k h4=>⟨?_,h k h4 (by omega)⟩⟩
    rw [getD_lt (by omega)]
    exact hsm _ (by rw [List.drop_zero];exact List.getElem_mem _)
  exact ⟨by rw [e],0,hw,fun _=>rfl⟩
end Go.Proofs.YtflgboncpbmikaaGreatDoor
