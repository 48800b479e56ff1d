/- ROW, part 3: arguments of any plain type (integers, bools, floats, strings, slices, structs, arrays of such), read as trees. No condition. -/
import Derived.Test.YtlplemdmegpoeaaGreatDoorB4
import Derived.Test.YtlplemdmegpoeaaGreatDoorB2
import Derived.Test.YtlplemdmegpoeaaGreatDoorB3
import Derived.Maps.RangeRun
import Derived.Lib.Overlaps
import Derived.Lib.Bytealg
import Derived.SizedLaws
namespace Go.VC
set_option linter.unusedVariables false
set_option linter.unusedSimpArgs false
open Go.ChangeShapes Go.WideShapes Go.ChangeAt Go.RowKit
inductive Tr where
 |int (k:IntKind) (n:Int)|bool (b:Bool)|flt (n:Nat)|str (s:ByteArray)|sl (s:Sl) (xs:List Tr)|st (xs:List Tr)
mutual
def Tr.cells:Tr→List Value
 | .int k n=>[.int k n]
 | .bool b=>[.bool b]
 | .flt n=>[.float .f64 n]
 | .str s=>[.string s]
 | .sl s _=>[.slice s.a s.len s.cap]
 | .st xs=>Tr.cellsL xs
def Tr.cellsL:List Tr→List Value
 |[]=>[]
 |x::xs=>x.cells++Tr.cellsL xs
end
inductive U where
 |int (k:IntKind)|bool|flt|str|sl (u:U)|st (us:List U)
mutual
def U.size:U→Nat
 | .st us=>U.sizeL us
 |_=>1
def U.sizeL:List U→Nat
 |[]=>0
 |u::us=>u.size + U.sizeL us
end
mutual
def Tr.Ok (R:Cx):U→Tr→Prop
 | .int k,.int k' n=>k'=k∧(Lit.int k n).wf=true
 | .bool,.bool _=>True
 | .flt,.flt n=>(Lit.float .f64 n).wf=true
 | .str,.str s=>s.size≤maxLen
 | .sl u,.sl s xs=>(RoN u.size R s (xs.map Tr.cells)∧s.len≤s.cap)∧xs.length≤maxLen∧Tr.OkA R u xs
 | .st us,.st xs=>Tr.OkL R us xs
 |_,_=>False
def Tr.OkA (R:Cx) (u:U):List Tr→Prop
 |[]=>True
 |x::xs=>Tr.Ok R u x∧Tr.OkA R u xs
def Tr.OkL (R:Cx):List U→List Tr→Prop
 |[],[]=>True
 |u::us,x::xs=>Tr.Ok R u x∧Tr.OkL R us xs
 |_,_=>False
end
theorem Tr.okA {R:Cx} {u:U}:∀ {xs:List Tr},Tr.OkA R u xs→∀ x∈xs,Tr.Ok R u x
 |[],_,x,hx=>by cases hx
 |y::ys,h,x,hx=>by
  unfold Tr.OkA at h
  rcases List.mem_cons.1 hx with rfl|hx
  ·exact h.1
  ·exact Tr.okA h.2 x hx
theorem Tr.okA_mk {R:Cx} {u:U}:∀ {xs:List Tr},(∀ x∈xs,Tr.Ok R u x)→Tr.OkA R u xs
 |[],_=>by unfold Tr.OkA;trivial
 |y::ys,h=>by
  unfold Tr.OkA
  exact ⟨h y List.mem_cons_self,Tr.okA_mk fun x hx=>h x (List.mem_cons_of_mem _ hx)⟩
def fieldsU (P:Program) (f:TypeId→Option U):Nat→List Field→Option (List U)
 |_,[]=>some []
 |off,x::xs=>match Nat.beq x.offset off with
  |false=>none
  |true=>match f x.type with
   |none=>none
   |some u=>match Nat.beq (P.cellsOf x.type) u.size with
    |false=>none
    |true=>match fieldsU P f (off + u.size) xs with
     |none=>none
     |some us=>some (u::us)
def uOf (P:Program):Nat→TypeId→Option U
 |0,_=>none
 |d + 1,t=>match P.underlying t with
  |some (.int k)=>some (.int k)
  |some .bool=>some .bool
  |some (.float .f64)=>some .flt
  |some .string=>some .str
  |some (.slice e)=>match uOf P d e with
   |some u=>(match Nat.beq (P.cellsOf e) u.size && Nat.blt 0 u.size with|true=>some (.sl u)|false=>none)
   |none=>none
  |some (.struct fs)=>match fieldsU P (uOf P d) 0 fs.toList with
   |some us=>(match Nat.beq (P.cellsOf t) (U.sizeL us) with|true=>some (.st us)|false=>none)
   |none=>none
  |some (.array n e)=>match uOf P d e with
   |some u=>(match Nat.beq (P.cellsOf e) u.size && Nat.beq (P.cellsOf t) (n * u.size) with|true=>some (.st (List.replicate n u))|false=>none)
   |none=>none
  |_=>none
section
variable {H:Type} {enc:TypeId × Value→H} {P:Program} {W:World} {base:Nat} {spare:Nat→Bool} {held:Bool}
def IsTr (R:Cx) (u:U) (cs:List Value):Prop:=∃ x:Tr,x.cells=cs∧x.Ok R u
theorem cells?_cell {w:World} {base:Nat} {a:Addr} {n:Nat} {cs:List Value} (h:w.cells? base a n=some cs):cs.length=n∧∀ i,i<n→w.cell? (a.add i)=cs[i]?:=by
 unfold World.cells? at h
 split at h
 ·refine ⟨by have:=mapM_some_length h;simpa using this,fun i hi=>mapM_some_get h i i (by simp [hi])⟩
 ·cases h
theorem add_add (a:Addr) (i j:Nat) (hs:a.spot=none):(a.add i).add j=⟨a.block,a.off + (i + j),none⟩:=by
 obtain ⟨b,o,s⟩:=a
 simp only at hs
 subst hs
 rw [add_off,add_off,Nat.add_assoc]
theorem fields_read {d:Nat} (ih:∀ {fuel:Nat} {t:TypeId} {cs:List Value} {y:DataW H × List MemPlace} {u:U},uOf P d t=some u→DataW.trod enc P W base spare held fuel t cs=some y→IsTr (Cx.of W) u cs) {n:Nat} {cs:List Value} {xs:List (DataW H × List MemPlace)}:
  ∀ (fs:List Field) (off:Nat) (us:List U),fieldsU P (uOf P d) off fs=some us→(∀ (i:Nat) (f:Field),fs[i]? =some f→∃ y,DataW.trod enc P W base spare held n f.type ((cs.drop f.offset).take (P.cellsOf f.type))=some y)→
   off + U.sizeL us≤cs.length→∃ ts:List Tr,Tr.cellsL ts=(cs.drop off).take (U.sizeL us)∧Tr.OkL (Cx.of W) us ts
 |[],off,us,h,_,_=>by
  simp only [fieldsU,Option.some.injEq] at h
  subst h
  exact ⟨[],by simp [Tr.cellsL,U.sizeL],by unfold Tr.OkL;trivial⟩
 |f::fs,off,us,h,hf,hl=>by
  unfold fieldsU at h
  split at h
  ·cases h
  rename_i hoff
  have hoff:=Nat.eq_of_beq_eq_true hoff
  split at h
  ·cases h
  rename_i u hu
  split at h
  ·cases h
  rename_i hc
  have hc:=Nat.eq_of_beq_eq_true hc
  split at h
  ·cases h
  rename_i us' hus
  cases h
  simp only [U.sizeL] at hl ⊢
  obtain ⟨y,hy⟩:=hf 0 f rfl
  obtain ⟨x,hx,hxo⟩:=ih hu hy
  obtain ⟨ts,hts,htso⟩:=fields_read ih (n:=n) (xs:=xs) fs (off + u.size) us' hus (fun i g hg=>hf (i + 1) g (by simpa using hg)) (by omega)
  refine ⟨x::ts,?_,by unfold Tr.OkL;exact ⟨hxo,htso⟩⟩
  simp only [Tr.cellsL]
  rw [hx,hts,hoff,hc,List.take_add,List.drop_drop]
theorem reps_read {u:U} {n s:Nat}:∀ {m:Nat} {cs:List Value},cs.length=m * s→u.size=s→(∀ i,i<m→IsTr (Cx.of W) u ((cs.drop (i * s)).take s))→∃ ts:List Tr,Tr.cellsL ts=cs∧Tr.OkL (Cx.of W) (List.replicate m u) ts
 |0,cs,hl,_,_=>by
  have:cs=[]:=List.length_eq_zero_iff.1 (by simpa using hl)
  subst this
  exact ⟨[],rfl,by unfold Tr.OkL;trivial⟩
 |m + 1,cs,hl,hs,h=>by
  obtain ⟨x,hx,hxo⟩:=h 0 (by omega)
  obtain ⟨ts,hts,htso⟩:=reps_read (n:=n) (m:=m) (cs:=cs.drop s) (by rw [List.length_drop,hl,Nat.add_mul];omega) hs (fun i hi=>by
   have:=h (i + 1) (by omega)
   rw [Nat.add_mul,Nat.one_mul,Nat.add_comm,←List.drop_drop] at this
   exact this)
  refine ⟨x::ts,?_,by rw [List.replicate_succ];unfold Tr.OkL;exact ⟨hxo,htso⟩⟩
  simp only [Tr.cellsL]
  rw [hx,hts]
  simp
theorem choose_list {α β:Type} {p:Nat→α→Prop}:∀ {n:Nat},(∀ i,i<n→∃ x:α,p i x)→∃ xs:List α,xs.length=n∧∀ i (hi:i<xs.length),p i xs[i]
 |0,_=>⟨[],rfl,fun i hi=>by simp at hi⟩
 |n + 1,h=>by
  obtain ⟨xs,hl,hp⟩:=choose_list (β:=β) (n:=n) fun i hi=>h i (by omega)
  obtain ⟨x,hx⟩:=h n (by omega)
  refine ⟨xs++[x],by simp [hl],fun i hi=>?_⟩
  by_cases h2:i<xs.length
  ·rw [List.getElem_append_left h2];exact hp i h2
  ·have:i=n:=by simp at hi;omega
   subst this
   rw [List.getElem_append_right (by omega)]
   simpa using hx
theorem trod_f64 {fuel:Nat} {t:TypeId} {cs:List Value} {x:DataW H × List MemPlace} (ht:P.underlying t=some (.float .f64)) (h:DataW.trod enc P W base spare held fuel t cs=some x):∃ n,cs=[.float .f64 n]∧(Lit.float .f64 n).wf=true:=by
 cases fuel with
 |zero=>simp [DataW.trod] at h
 |succ n=>
  unfold DataW.trod at h
  rw [ht] at h
  split at h<;>simp_all
theorem tr_read:∀ {d fuel:Nat} {t:TypeId} {cs:List Value} {y:DataW H × List MemPlace} {u:U},uOf P d t=some u→DataW.trod enc P W base spare held fuel t cs=some y→IsTr (Cx.of W) u cs
 |0,_,_,_,_,_,h,_=>by cases h
 |d + 1,fuel,t,cs,y,u,h,hy=>by
  unfold uOf at h
  split at h
  ·rename_i k ht
   cases h
   obtain ⟨n,rfl,_,hw⟩:=DataW.trod_int ht hy
   exact ⟨.int k n,rfl,rfl,hw⟩
  ·rename_i ht
   cases h
   obtain ⟨b,rfl,_⟩:=DataW.trod_bool ht hy
   exact ⟨.bool b,rfl,by unfold Tr.Ok;trivial⟩
  ·rename_i ht
   cases h
   obtain ⟨n,rfl,hn⟩:=trod_f64 ht hy
   exact ⟨.flt n,rfl,by unfold Tr.Ok;exact hn⟩
  ·rename_i ht
   cases h
   obtain ⟨s,rfl,_,hs⟩:=DataW.trod_string ht hy
   exact ⟨.str s,rfl,hs⟩
  ·rename_i e ht
   split at h
   case h_2=>cases h
   rename_i ue hue
   split at h
   case h_2=>cases h
   rename_i hc
   simp only [Bool.and_eq_true] at hc
   have hpos:0<ue.size:=Nat.blt_eq.mp hc.2
   have hc:=Nat.eq_of_beq_eq_true hc.1
   cases h
   rcases DataW.trod_slice ht hy with ⟨rfl,_⟩|⟨a,len,cap,elems,rest,n,_,rfl,_,_,hlc,hcm,hel,helem,_,_⟩
   ·refine ⟨.sl ⟨none,0,0⟩ [],rfl,?_⟩
    unfold Tr.Ok
    exact ⟨⟨⟨Wid.nil,rfl,fun h=>absurd rfl h⟩,Nat.le_refl _⟩,Nat.zero_le _,by unfold Tr.OkA;trivial⟩
   ·obtain ⟨xs,hxl,hxs⟩:=choose_list (β:=Unit) (p:=fun i (x:Tr)=>W.cells? base (a.add (i * P.cellsOf e)) (P.cellsOf e)=some x.cells∧x.Ok (Cx.of W) ue) (n:=len) fun i hi=>by
     have h1:=helem i hi
     rw [List.getElem?_eq_getElem (by omega)] at h1
     obtain ⟨ce,hce,hte⟩:=Option.bind_eq_some_iff.1 h1
     obtain ⟨x,rfl,hx⟩:=tr_read hue hte
     exact ⟨x,hce,hx⟩
    refine ⟨.sl ⟨some a,len,cap⟩ xs,rfl,?_⟩
    unfold Tr.Ok
    have hwid:Wid ue.size (xs.map Tr.cells):=fun r hr=>by
     obtain ⟨x,hx,rfl⟩:=List.mem_map.1 hr
     obtain ⟨i,hi,rfl⟩:=List.getElem_of_mem hx
     have:=(cells?_cell (hxs i hi).1).1
     rw [this,hc]
    refine ⟨⟨⟨hwid,by simp [hxl],fun hne=>?_⟩,hlc⟩,by omega,Tr.okA_mk fun x hx=>by obtain ⟨i,hi,rfl⟩:=List.getElem_of_mem hx;exact (hxs i hi).2⟩
    -- the block
    have h0:0<xs.length:=by
     have:0<(xs.map Tr.cells).length:=List.length_pos_iff.2 hne
     simpa using this
    have hcell:∀ i (hi:i<xs.length) j,j<ue.size→W.cell? ((a.add (i * ue.size)).add j)=(xs[i].cells)[j]?:=fun i hi j hj=>by
     have:=(cells?_cell (hxs i hi).1).2 j (by rw [hc];exact hj)
     rw [hc] at this;exact this
    have hxl0:∀ i (hi:i<xs.length),(xs[i].cells).length=ue.size:=fun i hi=>by rw [(cells?_cell (hxs i hi).1).1,hc]
    have hc0:=hcell 0 h0 0 (by omega)
    rw [List.getElem?_eq_getElem (by rw [hxl0 0 h0];omega)] at hc0
    have hz0:(a.add (0 * ue.size)).add 0=a:=by rw [Nat.zero_mul];simp [Addr.add]
    rw [hz0] at hc0
    obtain ⟨hs,l,T,fr,hl,_⟩:=block_of_cell hc0
    refine ⟨a.block,a.off,l,T,fr,by cases a;simp_all,hl,fun i v hv=>?_⟩
    -- which row, which place
    have hlen:=hwid.len
    rw [List.length_map] at hlen
    have hi:i<(xs.map Tr.cells).flatten.length:=(List.getElem?_eq_some_iff.1 hv).1
    have hq:i / ue.size<xs.length:=by
     rw [hlen] at hi;exact Nat.div_lt_of_lt_mul (by rwa [Nat.mul_comm])
    have hm:i % ue.size<ue.size:=Nat.mod_lt _ (by omega)
    have hcc:=hcell (i / ue.size) hq (i % ue.size) hm
    rw [add_add a _ _ hs,show i / ue.size * ue.size + i % ue.size=i by rw [Nat.mul_comm];exact Nat.div_add_mod _ _] at hcc
    have e1:(xs.map Tr.cells).flatten[i]? =(xs[i / ue.size].cells)[i % ue.size]?:=by
     have h1:i=i / ue.size * ue.size + i % ue.size:=by rw [Nat.mul_comm];exact (Nat.div_add_mod _ _).symm
     conv=>lhs;rw [h1]
     rw [←List.getElem?_drop,hwid.drop_flat,List.drop_eq_getElem_cons (by simpa using hq),List.flatten_cons,List.getElem?_append_left (by rw [List.getElem_map,hxl0 _ hq];exact hm),List.getElem_map]
    rw [←e1,hv] at hcc
    simp only [World.cell?,hl,Option.isSome_none,Bool.false_eq_true,if_false] at hcc
    exact hcc
  ·rename_i fs ht
   split at h
   case h_2=>cases h
   rename_i us hus
   split at h
   case h_2=>cases h
   rename_i hc
   have hc:=Nat.eq_of_beq_eq_true hc
   cases h
   obtain ⟨xs,n,_,_,hl,hxl,hf⟩:=DataW.trod_struct ht hy
   obtain ⟨ts,hts,hto⟩:=fields_read (d:=d) (fun h h2=>tr_read h h2) (n:=n) (cs:=cs) (xs:=xs) fs.toList 0 us hus (fun i f hfi=>by
    have hfi2:fs[i]? =some f:=by simpa using hfi
    have hlt:i<xs.length:=by rw [hxl];exact (Array.getElem?_eq_some_iff.1 hfi2).1
    exact ⟨xs[i],by rw [hf i f hfi2];exact List.getElem?_eq_getElem hlt⟩) (by omega)
   refine ⟨.st ts,?_,by unfold Tr.Ok;exact hto⟩
   unfold Tr.cells
   rw [hts,List.drop_zero,List.take_of_length_le (by omega)]
  ·rename_i m e ht
   split at h
   case h_2=>cases h
   rename_i ue hue
   split at h
   case h_2=>cases h
   rename_i hc
   simp only [Bool.and_eq_true] at hc
   have hc1:=Nat.eq_of_beq_eq_true hc.1
   have hc2:=Nat.eq_of_beq_eq_true hc.2
   cases h
   obtain ⟨xs,n,_,_,hl,hxl,hf⟩:=DataW.trod_array ht hy
   obtain ⟨ts,hts,hto⟩:=reps_read (n:=n) (u:=ue) (s:=ue.size) (m:=m) (cs:=cs) (by rw [hl,hc2]) rfl (fun i hi=>by
    have:=hf i hi
    rw [hc1,List.getElem?_eq_getElem (by omega)] at this
    exact tr_read hue this)
   exact ⟨.st ts,by unfold Tr.cells;exact hts,by unfold Tr.Ok;exact hto⟩
  ·cases h
theorem tr_arg {d:Nat} {t:TypeId} {v:Value} {dt:DataW H} {p:List MemPlace} {u:U} (hu:uOf P d t=some u) (h:DataW.Trod enc P W base spare held t v dt p):IsTr (Cx.of W) u v.cells.toList:=by
 obtain ⟨fuel,hf⟩:=h
 exact tr_read hu hf
theorem sl_form {α:Type} {R:Cx} {u:U} {s:Sl} {xs:List Tr} (g:α→List Value) (Q:α→Prop) (ho:Tr.Ok R (.sl u) (.sl s xs)) (h:∀ x:Tr,x.Ok R u→∃ e:α,x.cells=g e∧Q e):
  ∃ es:List α,RoN u.size R s (es.map g)∧es.length≤maxLen∧∀ e∈es,Q e:=by
 unfold Tr.Ok at ho
 obtain ⟨⟨h1,_⟩,h2,h3⟩:=ho
 have key:∀ l:List Tr,(∀ x∈l,x.Ok R u)→∃ es:List α,l.map Tr.cells=es.map g∧es.length=l.length∧∀ e∈es,Q e:=fun l=>by
  induction l with
  |nil=>exact fun _=>⟨[],rfl,rfl,fun _ h=>by cases h⟩
  |cons x l ih=>
   intro hl
   obtain ⟨es,h1,h2,h3⟩:=ih fun y hy=>hl y (List.mem_cons_of_mem _ hy)
   obtain ⟨e,he,hq⟩:=h x (hl x List.mem_cons_self)
   exact ⟨e::es,by rw [List.map_cons,List.map_cons,he,h1],by simp [h2],fun y hy=>by
    rcases List.mem_cons.1 hy with rfl|hy
    ·exact hq
    ·exact h3 y hy⟩
 obtain ⟨es,e1,e2,e3⟩:=key xs (Tr.okA h3)
 rw [e1] at h1
 exact ⟨es,h1,by omega,e3⟩
theorem sl_cap {R:Cx} {u:U} {s:Sl} {xs:List Tr} (ho:Tr.Ok R (.sl u) (.sl s xs)):s.len≤s.cap:=by
 unfold Tr.Ok at ho
 exact ho.1.2
theorem RoN.one {R:Cx} {s:Sl} {vs:List Value} (h:RoN 1 R s (vs.map fun v=>[v])) (hb:vs.length≤maxLen):Ro R s vs:=by
 refine ⟨by have:=h.len;simpa using this,by unfold maxLen at hb;omega,fun hne=>?_⟩
 obtain ⟨b,off,l,T,fr,h1,h2,h3⟩:=h.mem (by simpa using hne)
 refine ⟨b,off,l,T,fr,h1,h2,fun i v hv=>h3 i v ?_⟩
 have:(vs.map fun v=>[v]).flatten=vs:=by
  clear h3 h hb hne hv
  induction vs with
  |nil=>rfl
  |cons v vs ih=>simp [ih]
 rw [this];exact hv
theorem ints_form {R:Cx} {k:IntKind} {s:Sl} {xs:List Tr} (ho:Tr.Ok R (.sl (.int k)) (.sl s xs)):∃ zs:List Int,Ro R s (zs.map (Value.int k))∧zs.length≤maxLen∧∀ z∈zs,(Lit.int k z).wf=true:=by
 obtain ⟨zs,h1,h2,h3⟩:=sl_form (fun z:Int=>[Value.int k z]) (fun z=>(Lit.int k z).wf=true) ho fun x hx=>by
  cases x<;>simp only [Tr.Ok] at hx
  rename_i k' z
  obtain ⟨rfl,hw⟩:=hx
  exact ⟨z,rfl,hw⟩
 refine ⟨zs,RoN.one ?_ (by simpa using h2),h2,h3⟩
 rw [List.map_map]
 exact h1
end
end Go.VC
/- The arguments of chapter 18's laws. No condition. -/
namespace Go.Proofs.YtlplemdmegpoeaaGreatDoor
set_option linter.unusedVariables false
set_option linter.unusedSimpArgs false
open Go Go.VC Go.ChangeShapes Go.WideShapes Go.ChangeAt Go.RowKit
variable {H:Type} {enc:TypeId × Value→H} {W:World} {r:Reach} {b0:Nat} {v:Value} {d:DataW H} {p:List MemPlace}
set_option maxRecDepth 100000 in
theorem bytes18_in (hv:Value.okWide Tryz.prog W r b0 47 v) (h:DataW.Trod enc Tryz.prog W 0 (fun _=>true) true 47 v d p):
  ∃ (s:Sl) (bs:List Int),v=.slice s.a s.len s.cap∧SlR (Cx.of W).m s (b8 bs)∧Bytes bs:=by
 obtain ⟨a,n,c,rfl⟩:=okWide_slice Tryz.underlying47 hv
 obtain ⟨x,hx,ho⟩:=tr_arg (d:=6) (u:=.sl (.int .u8)) (by kernel_rfl) h
 cases x<;>simp only [Tr.Ok] at ho
 rename_i s xs
 have ho:Tr.Ok (Cx.of W) (.sl (.int .u8)) (.sl s xs):=by unfold Tr.Ok;exact ho
 obtain ⟨bs,h1,h2,h3⟩:=ints_form ho
 have e:[Value.slice s.a s.len s.cap]=[Value.slice a n c]:=by simpa [Tr.cells,Value.cells] using hx
 have e:=(List.cons.inj e).1
 simp only [Value.slice.injEq] at e
 obtain ⟨rfl,rfl,rfl⟩:=e
 refine ⟨s,bs,rfl,⟨h1.len,sl_cap ho,h1.mem⟩,fun z hz=>?_⟩
 have:=h3 z hz
 simp [Lit.wf,IntKind.min,IntKind.max,IntKind.bits,IntKind.signed] at this
 omega
end Go.Proofs.YtlplemdmegpoeaaGreatDoor
/- SL, part 18: a range over a map of one's own, in whatever order. No condition. -/
namespace Go.VC
set_option linter.unusedVariables false
set_option linter.unusedSimpArgs false
theorem filter_push {α:Type} {l:List (En α)} {seen:Array Nat} {a b:List (En α)} {x:En α} (hn:(l.map (·.2.2)).Nodup) (h:l.filter (fun e=>!seen.contains e.2.2)=a++x::b):l.filter (fun e=>!(seen.push x.2.2).contains e.2.2)=a++b:=by
 have e1:l.filter (fun e=>!(seen.push x.2.2).contains e.2.2)=(l.filter fun e=>!seen.contains e.2.2).filter fun e=>!decide (e.2.2=x.2.2):=by
  rw [List.filter_filter]
  refine List.filter_congr fun y _=>?_
  rw [Array.contains_push,Bool.not_or,Bool.and_comm]
  congr 1
 rw [e1,h,List.filter_append,List.filter_cons]
 have hnd:((a++x::b).map (·.2.2)).Nodup:=by
  rw [←h]
  exact ((List.filter_sublist.map _).nodup hn)
 rw [List.map_append,List.map_cons,List.nodup_append,List.nodup_cons] at hnd
 rw [if_neg (by simp)]
 rw [List.filter_eq_self.2,List.filter_eq_self.2]
 ·intro y hy
  have:¬ y.2.2=x.2.2:=fun e=>hnd.2.1.1 (by rw [←e];exact List.mem_map.2 ⟨y,hy,rfl⟩)
  simpa using this
 ·intro y hy
  have:¬ y.2.2=x.2.2:=fun e=>hnd.2.2 _ (List.mem_map.2 ⟨y,hy,rfl⟩) x.2.2 (by simp) e
  simpa using this
def itLeft (r m:Nat) (w:World):Nat:=match w.heap[r]? with
 |some (.mapIter _ _ seen _)=>(match w.heap[m]? with
  |some (.map es _)=>(leftOf es seen).size
  |_=>0)
 |_=>0
section
variable {α:Type} [BEq α] [KeyK α] {P:Program} {R:Cx} {Hs:List HP} {w:World}
def ItAt (r m:Nat) (es left:List (α × Value)):HP:=exs fun l:List (En α)=>exs fun c:Nat=>exs fun seen:Array Nat=>
 Star [pur (strip l=es∧StampsOk l c∧strip (l.filter fun e=>!seen.contains e.2.2)=left),pts r (.mapIter (some m) c seen c),pts m (.map (l.map mkE).toArray c)]
theorem ItAt.iff {r m:Nat} {es left:List (α × Value)}:Sat R (ItAt r m es left::Hs) w↔∃ (l:List (En α)) (c:Nat) (seen:Array Nat),(strip l=es∧StampsOk l c∧strip (l.filter fun e=>!seen.contains e.2.2)=left)∧
  Sat R (pts r (.mapIter (some m) c seen c)::pts m (.map (l.map (mkE (α:=α))).toArray c)::Hs) w:=by
 unfold ItAt
 simp only [Sat.exs]
 constructor
 ·rintro ⟨l,c,seen,h⟩
  obtain ⟨h1,h2⟩:=Sat.pur.1 (Sat.star.1 h)
  exact ⟨l,c,seen,h1,h2⟩
 ·rintro ⟨l,c,seen,h1,h2⟩
  exact ⟨l,c,seen,Sat.star.2 (Sat.pur.2 ⟨h1,h2⟩)⟩
theorem ItAt.map {r m:Nat} {es left:List (α × Value)} (hw:Sat R (ItAt r m es left::Hs) w):Sat R (MapAt m es::Hs) w:=by
 obtain ⟨l,c,seen,⟨h1,h2,_⟩,hw⟩:=ItAt.iff.1 hw
 exact MapAt.iff.2 ⟨l,c,h1,h2,hw.drop⟩
theorem range_rule {T K E:TypeId} {m:Nat} {es:List (α × Value)} {Q:Option Addr→World→Prop} (hT:P.underlying T=some (.map K E)) (hw:Sat R (MapAt m es::Hs) w) (k:∀ r w',Sat R (ItAt r m es es::Hs) w'→Q (some ⟨r,0,none⟩) w'):
  ∃ w':World,∃ t:Option Addr,((Instr.range T (.map (some m))).run P w=.ok (.pointer t) w')∧Q t w':=by
 obtain ⟨l,c,h1,h2,hw⟩:=MapAt.iff.1 hw
 have hat:=hw.at
 refine ⟨w.alloc (.mapIter (some m) c #[] c),some ⟨w.heap.size,0,none⟩,?_,k _ _ (ItAt.iff.2 ⟨l,c,#[],⟨h1,h2,?_⟩,Sat.alloc _ hw⟩)⟩
 ·simp [Instr.range,run_underlying hT,getObj,Sem.run_bind,Sem.run,hat,Result.andThen]
 ·rw [show (l.filter fun e=>!(#[]:Array Nat).contains e.2.2)=l from List.filter_eq_self.2 (fun x _=>by simp)]
  exact h1
theorem itLeft_eq {r m:Nat} {es left:List (α × Value)} (hw:Sat R (ItAt r m es left::Hs) w):itLeft r m w=left.length:=by
 obtain ⟨l,c,seen,⟨h1,h2,h3⟩,hw⟩:=ItAt.iff.1 hw
 have hr:=hw.at
 have hm:=hw.swap.at
 unfold itLeft
 rw [hr]
 dsimp only
 rw [hm]
 dsimp only
 rw [←h3,←Array.length_toList]
 unfold leftOf strip
 rw [Array.toList_filter,List.length_map]
 have:∀ l:List (En α),((l.map mkE).filter fun e=>!seen.contains e.born).length=(l.filter fun e=>!seen.contains e.2.2).length:=fun l=>by
  rw [List.filter_map,List.length_map]
  rfl
 exact this l
theorem next_cases {r m:Nat} {T:TypeId} {es left:List (α × Value)} (hw:Sat R (ItAt r m es left::Hs) w):
  (left=[]∧(Instr.next (.pointer (some ⟨r,0,none⟩)) false T).run P w=.ok (.tuple #[.bool false]) w)∨
  ∃ a k v b w',left=a++(k,v)::b∧(Instr.next (.pointer (some ⟨r,0,none⟩)) false T).run P w=.ok (.tuple #[.bool true,KeyK.enc k,v]) w'∧(Instr.entry (.pointer (some ⟨r,0,none⟩))).run P w'=.ok (.tuple #[KeyK.enc k,v]) w'∧Sat R (ItAt r m es (a++b)::Hs) w':=by
 obtain ⟨l,c,seen,⟨h1,h2,h3⟩,hw⟩:=ItAt.iff.1 hw
 have hr:=hw.at
 have hm:=hw.swap.at
 rcases run_next_at (P:=P) w T r m c c seen (l.map mkE).toArray c hr hm (fun x hx=>by
   obtain ⟨e,he,rfl⟩:=List.mem_map.1 (show x∈l.map mkE from hx)
   exact h2.1 e he) (Nat.le_refl _) with ⟨h0,hrun⟩|⟨e,he,w1,hw1,hrun⟩
 ·left
  refine ⟨?_,hrun⟩
  rw [←h3]
  have:(l.filter fun e=>!seen.contains e.2.2)=[]:=by
   rw [List.filter_eq_nil_iff]
   intro x hx hn
   have hmem:mkE x∈(leftOf (l.map mkE).toArray seen).toList:=by
    unfold leftOf
    simp only [Array.toList_filter,List.mem_filter,List.mem_map]
    exact ⟨⟨x,hx,rfl⟩,hn⟩
   have:0<(leftOf (l.map mkE).toArray seen).toList.length:=List.length_pos_of_mem hmem
   rw [Array.length_toList] at this
   omega
  rw [this];rfl
 ·right
  have hx:∃ x∈l,e=mkE x∧(!seen.contains x.2.2)=true:=by
   unfold leftOf at he
   simp only [Array.toList_filter,List.mem_filter,List.mem_map] at he
   obtain ⟨⟨x,hx,rfl⟩,hn⟩:=he
   exact ⟨x,hx,rfl,hn⟩
  obtain ⟨x,hxl,rfl,hn⟩:=hx
  obtain ⟨a,b,hab⟩:=List.append_of_mem (List.mem_filter.2 ⟨hxl,hn⟩:x∈l.filter fun e=>!seen.contains e.2.2)
  have hw2:Sat R (pts r (.mapIter (some m) c seen c)::pts m (.map (l.map (mkE (α:=α))).toArray c)::Hs) w1:=by
   rcases hw1 with rfl|rfl
   ·exact hw
   ·exact hw.drew
  have hw3:=hw2.setPts (.mapIter (some m) c (seen.push x.2.2) c)
  refine ⟨strip a,x.1,x.2.1,strip b,_,?_,hrun,?_,?_⟩
  ·rw [←h3,hab]
   unfold strip
   rw [List.map_append,List.map_cons]
  ·exact run_entry_at (P:=P) _ r m c seen (l.map mkE).toArray c (mkE x) hw3.at hw3.swap.at (show mkE x∈l.map mkE from List.mem_map.2 ⟨x,hxl,rfl⟩) (by
    have e:((l.map mkE).map fun e:MapEntry=>e.born)=l.map (·.2.2):=by rw [List.map_map];rfl
    show ((l.map mkE).map fun e:MapEntry=>e.born).Nodup
    rw [e];exact h2.2)
  ·refine ItAt.iff.2 ⟨l,c,seen.push x.2.2,⟨h1,h2,?_⟩,hw3⟩
   rw [filter_push h2.2 hab]
   unfold strip
   rw [List.map_append]
end
end Go.VC
/- SL, part 19: rows of n cells: copy, append of zeros where there is no room, taking a part out. Condition: bounds on lengths. -/
namespace Go.VC
set_option linter.unusedVariables false
set_option linter.unusedSimpArgs false
open Go Go.RowKit
theorem run_copy_n {P:Program} {n:Nat} (w:World) (dT sT ty elem:TypeId) (b o dLen dCap:Nat) (a:Addr) (sLen sCap:Nat) (cs:List Value)
  (hu:P.underlying dT=some (.slice elem)) (hs:(P.info? elem).map (·.size)=some n) (hn:cs.length=Nat.min sLen dLen * n)
  (hsrc:∀ j v,cs[j]? =some v→w.cell? (a.add j)=some v) (hc:∀ j,j<cs.length→(w.cell? ⟨b,o + j,none⟩).isSome=true) (hf:∀ j,j<cs.length→w.frozen? ⟨b,o + j,none⟩=false) (h1:∀ v∈cs,v.oneCell'=true):
  (Builtin.copy_ #[dT,sT] ty #[.slice (some ⟨b,o,none⟩) dLen dCap,.slice (some a) sLen sCap]).run P w=.ok (goInt (Nat.min sLen dLen)) (w.setCells b o cs):=by
 have hl:=run_loadCells_list (P:=P) w a cs hsrc
 have hst:=run_storeCells_cells (P:=P) b o cs 0 w (by simpa using hc) (by simpa using hf) h1
 cases hq:P.info? elem with
 |none=>simp [hq] at hs
 |some i=>
  have hi:i.size=n:=by simpa [hq] using hs
  simp [Builtin.copy_,run_underlying hu,Builtin.lenOf,Builtin.firstCells,sizeOf,typeInfo,hq,hi,←hn,hl,hst]
theorem rows_of {n:Nat}:∀ (m:Nat) (l:List Value),l.length=m * n→∃ ys:List (List Value),ys.length=m∧Wid n ys∧ys.flatten=l
 |0,l,h=>⟨[],rfl,Wid.nil,by have:l=[]:=List.length_eq_zero_iff.1 (by omega);rw [this];rfl⟩
 |m + 1,l,h=>by
  rw [Nat.add_mul,Nat.one_mul] at h
  obtain ⟨ys,h1,h2,h3⟩:=rows_of (n:=n) m (l.drop n) (by rw [List.length_drop];omega)
  refine ⟨l.take n::ys,by simp [h1],fun x hx=>?_,by simp [h3]⟩
  rcases List.mem_cons.1 hx with rfl|hx
  ·rw [List.length_take];omega
  ·exact h2 x hx
theorem putL_midN {A B C V:List Value} {p:Nat} (hp:A.length=p) (hB:B.length=V.length):putL (A++B++C) p V=A++V++C:=by
 rw [putL_eq _ _ _ (by simp only [List.length_append];omega)]
 have e1:(A++B++C).take p=A:=by rw [List.append_assoc,List.take_left' hp]
 have e2:(A++B++C).drop (p + V.length)=C:=by rw [List.drop_left' (by rw [List.length_append];omega)]
 rw [e1,e2]
theorem putN {A Y D X rest:List Value} {p:Nat} (hA:A.length=p) (hy:Y.length=X.length + D.length):putL (putL ((A++Y)++rest) p X) (p + X.length) D=(A++X++D)++rest:=by
 have h1:putL ((A++Y)++rest) p X=A++X++(Y.drop X.length++rest):=by
  have:=putL_midN (A:=A) (B:=Y.take X.length) (C:=Y.drop X.length++rest) (V:=X) hA (by rw [List.length_take];omega)
  rw [←this]
  congr 1
  rw [List.append_assoc,List.append_assoc,←List.append_assoc (Y.take _),List.take_append_drop]
 have h2:=putL_midN (A:=A++X) (B:=Y.drop X.length) (C:=rest) (V:=D) (p:=p + X.length) (by simp [hA]) (by rw [List.length_drop];omega)
 rw [h1,←List.append_assoc,h2]
theorem putN' {A D X rest:List Value} {p:Nat} (hA:A.length=p) (hr:X.length≤rest.length):putL (putL ((A++D)++rest) (p + X.length) D) p X=(A++X++D)++rest.drop X.length:=by
 have e:(A++D)++rest=(A++(D++rest).take X.length)++((D++rest).drop X.length).take D.length++rest.drop X.length:=by
  have h1:rest.drop X.length=(D++rest).drop (X.length + D.length):=by
   rw [Nat.add_comm,←List.drop_drop,List.drop_left]
  rw [h1,←List.drop_drop,List.append_assoc,List.append_assoc,List.append_assoc,List.take_append_drop,List.take_append_drop]
 have hl:((D++rest).take X.length).length=X.length:=by rw [List.length_take,List.length_append];omega
 rw [e,putL_midN (p:=p + X.length) (by rw [List.length_append,hl,hA]) (by rw [List.length_take,List.length_drop,List.length_append];omega)]
 have:=putL_midN (A:=A) (B:=(D++rest).take X.length) (C:=D++rest.drop X.length) (V:=X) hA (by rw [hl])
 rw [show (A++(D++rest).take X.length)++D++rest.drop X.length=A++(D++rest).take X.length++(D++rest.drop X.length) by simp,this];simp
section
variable {P:Program} {R:Cx} {Hs Rest:List HP} {w:World} {s:Sl} {T:TypeId} {n:Nat}
theorem copyN_rule {dT sT ty elem:TypeId} {b o dLen dCap sLen sCap:Nat} {a:Addr} {cs l:List Value} {fr:Nat × Nat} {K:Int→World→Prop} (hu:P.underlying dT=some (.slice elem)) (hs:(P.info? elem).map (·.size)=some n)
  (hw:Sat R (pts b (.cells l.toArray T fr)::Hs) w) (hfr:okFr l.length fr) (hn:cs.length=Nat.min sLen dLen * n) (hfit:o + cs.length≤l.length) (hsrc:∀ j v,cs[j]? =some v→w.cell? (a.add j)=some v) (h1:oneAll cs=true)
  (k:∀ t w',Sat R (pts b (.cells (putL l o cs).toArray T fr)::Hs) w'→K t w'):
  ∃ w',∃ t:Int,(Builtin.copy_ #[dT,sT] ty #[.slice (some ⟨b,o,none⟩) dLen dCap,.slice (some a) sLen sCap]).run P w=.ok (.int .i64 t) w'∧K t w':=by
 have hat:=hw.at
 have hr:=run_copy_n (P:=P) w dT sT ty elem b o dLen dCap a sLen sCap cs hu hs hn hsrc (fun j hj=>by rw [cell_of hat];simp;omega) (fun j hj=>frozen_no hat hfr (by omega)) (fun v hv=>List.all_eq_true.1 h1 v hv)
 exact ⟨_,_,hr,k _ _ (setCells_sat cs l o w hw)⟩
theorem zerosGrowN_rule {t1 t2 ty:TypeId} {bytes k m:Nat} {kd kn:IntKind} {rows:List (List Value)} {K:Sl→World→Prop} (ht:P.underlying t1=some (.slice T)) (htn:P.underlying t2=some (.int kn)) (hi:elBN P T n bytes=true) (hn1:0<n)
  (h0:0<m) (hk:k<rows.length) (hc:s.cap<k + m) (hb:2 * (k + m) * bytes≤281474976710656) (hb':k + m≤9223372036854775807) (hw:Sat R (OwnN n s T rows::Hs) w)
  (h:∀ t w' ys,ys.length=m→Sat R (OwnN n t T (rows.take k++ys)::OwnN n s T rows::Hs) w'→K t w'):
  ∃ w',∃ t:Sl,(Builtin.append_ #[t1,t2] ty #[.slice s.a k s.cap,.int kd m]).run P w=.ok (.slice t.a t.len t.cap) w'∧K t w':=by
 obtain ⟨i,z,hi,hz,hsize,hbytes,hzc⟩:=elBN_out hi
 obtain ⟨hwid,⟨_,rfl,_⟩|⟨b,rest,fr,cap,rfl,hl,hfr,hp⟩⟩:=OwnN.cases hw
 ·simp at hk
 have hat:=hp.at
 dsimp only at hc ⊢
 have hcap:Builtin.nextslicecap (k + m) cap * i.bytes≤281474976710656:=by
  have h2:Builtin.nextslicecap (k + m) cap≤2 * (k + m):=by
   unfold Builtin.nextslicecap
   split
   ·omega
   ·split
    ·omega
    ·have:=nextslicecap_le_wide hc
     unfold Builtin.nextslicecap at this
     rw [if_neg (by assumption),if_neg (by assumption)] at this
     omega
  rw [hbytes]
  exact Nat.le_trans (Nat.mul_le_mul_right _ h2) hb
 have hkl:(rows.take k).flatten.length=k * n:=by rw [hwid.take.len,List.length_take,Nat.min_eq_left (by omega)]
 have hold:(Builtin.firstCells i.size k (.slice (some ⟨b,0,none⟩) k cap)).run P w.drew=.ok (rows.take k).flatten.toArray w.drew:=by
  refine run_firstCells_some w.drew i.size k ⟨b,0,none⟩ k _ (rows.take k).flatten (by rw [hsize,hkl]) ?_
  intro j u hj
  rw [World.cell?_drew,add_off,cell_of hat,Nat.zero_add]
  obtain ⟨hlt,rfl⟩:=List.getElem?_eq_some_iff.1 hj
  rw [hkl] at hlt
  rw [←hj,←hwid.take_flat,List.getElem?_take,if_pos hlt]
  have:k * n≤rows.length * n:=Nat.mul_le_mul_right _ (by omega)
  rw [List.getElem?_append_left (by rw [hwid.len];omega)]
 have hwr:IntKind.i64.wrap (m:Int)=m:=by rw [IntKind.wrap_i64];omega
 have hn:¬ (k + m≤cap):=by omega
 have h63':¬ (9223372036854775807<((k:Int) + (m:Int))):=by omega
 have h48':¬ (281474976710656<Builtin.nextslicecap (k + m) cap * i.bytes):=by omega
 have h48i:¬ (281474976710656<(m:Int) * (i.bytes:Int)):=by
  rw [←Int.natCast_mul,hbytes]
  have:m * bytes≤2 * (k + m) * bytes:=Nat.mul_le_mul_right _ (by omega)
  omega
 have hneg:¬ ((m:Int)<0):=by omega
 have hn0:m≠0:=by omega
 have hns:¬ (m * i.size=0):=by
  rw [hsize]
  have:=Nat.mul_pos h0 hn1
  omega
 have hg:=grownCap_ge w (k + m) cap T
 have hr:(Builtin.append_ #[t1,t2] ty #[.slice (some ⟨b,0,none⟩) k cap,.int kd m]).run P w=
   .ok (.slice (some ⟨w.heap.size,0,none⟩) (k + m) (grownCap w (k + m) cap T)) (w.drew.alloc (.cells ((rows.take k).flatten.toArray++Builtin.zeroCells z.cells m++Builtin.zeroCells z.cells (grownCap w (k + m) cap T - (k + m))) T)):=by
  simp [Builtin.append_,run_underlying ht,run_underlying htn,sizeOf,typeInfo,zeroValue,hi,hz,asInt,asIntOf,hwr,hn,hneg,hns,h63',h48',h48i,Question.forced,hold,newRow,grownCap]
 have hzs:∀ m,(Builtin.zeroCells z.cells m).size=m * n:=fun m=>by simp [Builtin.zeroCells,hzc]
 obtain ⟨ys,hy1,hy2,hy3⟩:=rows_of m (Builtin.zeroCells z.cells m).toList (by rw [Array.length_toList,hzs])
 refine ⟨_,⟨some ⟨w.heap.size,0,none⟩,k + m,grownCap w (k + m) cap T⟩,hr,h _ _ ys hy1 ?_⟩
 have h3:=Sat.alloc (Obj.cells ((rows.take k).flatten.toArray++Builtin.zeroCells z.cells m++Builtin.zeroCells z.cells (grownCap w (k + m) cap T - (k + m))) T) (Sat.drew hp)
 have e:Obj.cells ((rows.take k).flatten.toArray++Builtin.zeroCells z.cells m++Builtin.zeroCells z.cells (grownCap w (k + m) cap T - (k + m))) T=.cells ((rows.take k++ys).flatten++(Builtin.zeroCells z.cells (grownCap w (k + m) cap T - (k + m))).toList).toArray T (0,0):=by
  congr 1
  apply Array.ext'
  rw [List.flatten_append,hy3]
  simp
 rw [e] at h3 ⊢
 have h4:=OwnN.of_pts hwid hl (Sat.swap h3) hfr
 have hwid2:Wid n (rows.take k++ys):=hwid.take.app hy2
 have hlk:(rows.take k++ys).length=k + m:=by rw [List.length_append,List.length_take,hy1,Nat.min_eq_left (by omega)]
 have h5:=OwnN.of_pts (cap:=grownCap w (k + m) cap T) hwid2 (by rw [List.length_append,hwid2.len,hlk,Array.length_toList,hzs,←Nat.add_mul];congr 1;omega) (Sat.swap h4)
 have e2:(⟨some ⟨w.drew.heap.size,0,none⟩,(rows.take k++ys).length,grownCap w (k + m) cap T⟩:Sl)=⟨some ⟨w.heap.size,0,none⟩,k + m,grownCap w (k + m) cap T⟩:=by
  rw [hlk,World.size_drew]
 rw [e2] at h5
 exact h5
end
end Go.VC
/- Package queue: who may wait; who stands ahead; where one stands. Condition: a bound on the length. -/
namespace Go.Proofs.YtlplemdmegpoeaaGreatDoor
set_option linter.unusedVariables false
set_option linter.unusedSimpArgs false
open Go Go.VC
open Classical
variable {R:Cx} {Hs Rest:List HP} {w:World}
abbrev wtA (x:Wt):Value:=.agg #[.int .i64 x.id,.int .i64 x.cls,.int .i64 x.many,.int .i64 x.time,.float .f64 x.sc]
abbrev wtC (b:Nat) (x:Wt):HP:=pts b (.cells (wtV x).toArray 192 (0,0))
abbrev wtD (b:Nat) (x:Wt):HP:=pts b (.cells (wtV x).toArray 168 (0,0))
theorem qwithin_spec {n lo hi:Int} (hw:Sat R Hs w):Gets Tryz.prog 239 #[.int .i64 n,.int .i64 lo,.int .i64 hi] w fun v w'=>v=.bool (decide (lo≤n∧n≤hi))∧Sat R Hs w':=by
 apply call239
 refine Br.d (fun h=>⟨?_,hw⟩) (fun h=>⟨?_,hw⟩)
 ·congr 1
  rw [decide_eq_decide];omega
 ·rw [decide_eq_false (by omega)]
theorem qright_spec {x:Wt} (hw:Sat R Hs w):Gets Tryz.prog 169 #[wtA x] w fun v w'=>v=.bool (decide x.Ok)∧Sat R Hs w':=by
 apply call169
 refine new_rule hw fun b w hw=>?_
 have hw:Sat R (wtC b x::Hs) w:=hw
 have no:∀ {w},¬ x.Ok→Sat R (wtC b x::Hs) w→(Value.bool false=.bool (decide x.Ok))∧Sat R Hs w:=fun h hw=>⟨by rw [decide_eq_false h],hw.drop⟩
 refine ⟨x.id,At.own (eqS hw) (by exact ⟨rfl,trivial⟩),?_⟩
 refine (qwithin_spec hw).use ?_
 clear hw
 rintro _ w ⟨rfl,hw⟩
 refine ⟨_,rfl,Br.d (fun h1=>?_) (fun h1=>no (fun h=>h1 h.1) hw)⟩
 refine ⟨x.cls,At.own (eqS hw) (by exact ⟨rfl,trivial⟩),?_⟩
 refine (qwithin_spec hw).use ?_
 clear hw
 rintro _ w ⟨rfl,hw⟩
 refine ⟨_,rfl,Br.d (fun h2=>?_) (fun h2=>no (fun h=>h2 h.2.1) hw)⟩
 refine ⟨x.many,At.own (eqS hw) (by exact ⟨rfl,trivial⟩),?_⟩
 refine (qwithin_spec hw).use ?_
 clear hw
 rintro _ w ⟨rfl,hw⟩
 refine ⟨_,rfl,Br.d (fun h3=>?_) (fun h3=>no (fun h=>h3 h.2.2.1) hw)⟩
 refine ⟨x.time,At.own (eqS hw) (by exact ⟨rfl,trivial⟩),?_⟩
 refine (qwithin_spec hw).use ?_
 clear hw
 rintro _ w ⟨rfl,hw⟩
 refine ⟨_,rfl,?_,hw.drop⟩
 congr 1
 rw [decide_eq_decide]
 exact ⟨fun h=>⟨h1,h2,h3,h⟩,fun h=>h.2.2.2⟩
def orL (l:List Int):Int:=(l.find? fun x=>decide (x≠0)).getD 0
theorem or_spec {s:Sl} {l:List Int} (hl:l.length≤1000000000) (hw:Sat R (Own s 3 (intsI l)::Hs) w):Gets Tryz.prog 242 #[.slice s.a s.len s.cap] w fun v w'=>v=.int .i64 (orL l)∧Sat R (Own s 3 (intsI l)::Hs) w':=by
 have hlen:=Own.len hw
 rw [List.length_map] at hlen
 apply call242
 refine ⟨fun i w=>∃ j:Nat,i=j∧j≤l.length∧(∀ x∈l.take j,x=0)∧Sat R (Own s 3 (intsI l)::Hs) w,fun i _=>l.length - i.toNat,⟨0,rfl,by omega,by simp,hw⟩,?_⟩
 clear hw
 rintro _ _ w ⟨j,rfl,hj,hz,hw⟩
 refine Br.d (fun h=>?_) (fun h=>?_)
 ·have hj2:j<l.length:=by omega
  refine Own.ix hw (eqS hw) j rfl hj2 ?_
  refine Br.ne (fun h2=>⟨?_,hw⟩) (fun h2=>?_)
  ·congr 1
   have e:l.find? (fun x=>decide (x≠0))=some l[j]:=by
    have h3:l=l.take j++l[j]::l.drop (j + 1):=by rw [←List.drop_eq_getElem_cons hj2,List.take_append_drop]
    rw [List.find?_eq_some_iff_append]
    exact ⟨by simpa using h2,l.take j,l.drop (j + 1),h3,fun x hx=>by simpa using hz x hx⟩
   unfold orL
   rw [e]
   rfl
  ·rw [wrap64 (by omega) (by omega)]
   refine ⟨⟨j + 1,by omega,by omega,fun x hx=>?_,hw⟩,by dsimp only;omega⟩
   rw [List.take_add_one,List.getElem?_eq_getElem hj2] at hx
   rcases List.mem_append.1 hx with hx|hx
   ·exact hz x hx
   ·simp at hx
    rw [hx];exact h2
 ·rw [List.take_of_length_le (by omega)] at hz
  refine ⟨?_,hw⟩
  congr 1
  unfold orL
  rw [List.find?_eq_none.2 (fun x hx=>by simpa using hz x hx)]
  rfl
theorem ord_orL {a b:Wt}:orL [rankF b.sc a.sc,cmpI a.time b.time,cmpI a.id b.id]=a.ord b:=by
 unfold orL Wt.ord cmpI
 by_cases h:rankF b.sc a.sc=0
 ·simp only [List.find?_cons,h,ne_eq,not_true_eq_false,decide_false]
  by_cases h1:a.time<b.time
  ·simp [h1]
  ·by_cases h2:b.time<a.time
   ·simp [h1,h2]
   ·by_cases h3:a.id<b.id
    ·simp [h1,h2,h3]
    ·by_cases h4:b.id<a.id
     ·simp [h1,h2,h3,h4]
     ·simp [h1,h2,h3,h4]
 ·simp [h]
theorem order_spec {a b:Wt} (hw:Sat R Hs w):Gets Tryz.prog 172 #[wtA a,wtA b] w fun v w'=>v=.int .i64 (a.ord b)∧Sat R Hs w':=by
 apply call172
 refine new_rule hw fun p w hw=>new_rule hw fun q w hw=>?_
 have hw:Sat R (wtC q b::wtC p a::Hs) w:=hw
 refine drw_ruleT hw fun w hw=>?_
 refine ⟨b.sc,At.own (fun _ h=>h) (by exact ⟨rfl,trivial⟩),a.sc,At.own (fun _ h=>h) (by exact ⟨rfl,trivial⟩),a.time,At.own (fun _ h=>h) (by exact ⟨rfl,trivial⟩),b.time,At.own (fun _ h=>h) (by exact ⟨rfl,trivial⟩),a.id,At.own (fun _ h=>h) (by exact ⟨rfl,trivial⟩),b.id,At.own (fun _ h=>h) (by exact ⟨rfl,trivial⟩),?_⟩
 refine (rank_spec hw).use ?_
 clear hw
 rintro _ w ⟨rfl,hw⟩
 refine ⟨_,rfl,hw,?_⟩
 refine (compareI_spec hw).use ?_
 clear hw
 rintro _ w ⟨rfl,hw⟩
 refine ⟨_,rfl,hw,?_⟩
 refine (compareI_spec hw).use ?_
 clear hw
 rintro _ w ⟨rfl,hw⟩
 refine ⟨_,rfl,hw,?_⟩
 refine new_rule hw fun r w hw=>⟨hw.absorb,?_⟩
 have hw:Sat R (pts r (.cells (intsI [rankF b.sc a.sc,cmpI a.time b.time,cmpI a.id b.id]).toArray 3 (0,0))::VC.tru::wtC q b::wtC p a::Hs) w:=hw
 refine (or_spec (l:=[rankF b.sc a.sc,cmpI a.time b.time,cmpI a.id b.id]) (by simp) (own_lit (n:=3) hw)).use ?_
 clear hw
 rintro _ w ⟨rfl,hw⟩
 rw [ord_orL]
 exact ⟨_,rfl,hw.absorb,rfl,hw.drop.drop.drop.drop⟩
abbrev wtT:TypeId:=192
theorem qidx_spec {s:Sl} {l:List Wt} {f:Value} {p:Wt→Bool} (hl:l.length≤1000000000)
  (hf:∀ x w,Sat R (OwnN 5 s wtT (l.map wtV)::Hs) w→CalW Tryz.prog cl f [wtA x] w fun e w'=>e=.returned (.bool (p x))∧Sat R (OwnN 5 s wtT (l.map wtV)::Hs) w')
  (hw:Sat R (OwnN 5 s wtT (l.map wtV)::Hs) w):
  Gets Tryz.prog 240 #[.slice s.a s.len s.cap,f] w fun v w'=>(∃ i:Int,v=.int .i64 i∧((i=-1∧l.any p=false)∨∃ k:Nat,i=k∧∃ (hk:k<l.length),p l[k]=true∧(l.take k).any p=false))∧Sat R (OwnN 5 s wtT (l.map wtV)::Hs) w':=by
 have hlen:=OwnN.len hw
 rw [List.length_map] at hlen
 apply call240
 refine ⟨fun i w=>∃ j:Nat,i=j∧j≤l.length∧(l.take j).any p=false∧Sat R (OwnN 5 s wtT (l.map wtV)::Hs) w,fun i _=>l.length - i.toNat,⟨0,rfl,by omega,by simp,hw⟩,?_⟩
 clear hw
 rintro _ _ w ⟨j,rfl,hj,hn,hw⟩
 refine Br.d (fun h=>?_) (fun h=>?_)
 ·have hj2:j<l.length:=by omega
  refine (OwnN.reads hw (eqS hw)).rngM (E:=l) (g:=wtV) hj2 fun a _ he=>?_
  refine ⟨_,_,_,_,_,he.z (by exact ⟨rfl,rfl,rfl,rfl,rfl,trivial⟩),?_⟩
  refine (hf l[j] _ hw).mono ?_
  rintro _ w ⟨rfl,hw⟩
  refine ⟨_,rfl,Br.mk (fun h=>⟨⟨j,rfl,.inr ⟨j,rfl,hj2,h,hn⟩⟩,hw⟩) (fun h=>?_)⟩
  rw [wrap64 (by omega) (by omega)]
  refine ⟨⟨j + 1,by omega,by omega,?_,hw⟩,by dsimp only;omega⟩
  rw [List.take_add_one,List.getElem?_eq_getElem hj2,List.any_append,hn]
  simp [h]
 ·rw [List.take_of_length_le (by omega)] at hn
  exact ⟨⟨-1,rfl,.inl ⟨rfl,hn⟩⟩,hw⟩
theorem isId_spec {b:Nat} {id:Int} {x:Wt} (hw:Sat R (pts b (.cells [.int .i64 id].toArray 3 (0,0))::Hs) w):Gets Tryz.prog 241 #[wtA x,.pointer (some ⟨b,0,none⟩)] w fun v w'=>v=.bool (decide (x.id=id))∧Sat R (pts b (.cells [.int .i64 id].toArray 3 (0,0))::Hs) w':=by
 apply call241
 refine new_rule hw fun p w hw=>?_
 have hw:Sat R (wtC p x::pts b (.cells [.int .i64 id].toArray 3 (0,0))::Hs) w:=hw
 refine ⟨x.id,At.own (eqS hw) (by exact ⟨rfl,trivial⟩),NilP.mk rfl ⟨id,At.own (eqS hw) (by exact ⟨rfl,trivial⟩),?_,hw.drop⟩⟩
 congr 1
theorem qplace_spec {q:Nat} {l:List Wt} {id:Int} (hl:l.length≤1000000000) (hw:Sat R (QuAt q l::Hs) w):
  Gets Tryz.prog 170 #[.pointer (some ⟨q,0,none⟩),.int .i64 id] w fun v w'=>(∃ i:Int,v=.int .i64 i∧((i=-1∧hasQ id l=false)∨∃ k:Nat,i=k∧∃ (hk:k<l.length),l[k].id=id∧hasQ id (l.take k)=false))∧Sat R (QuAt q l::Hs) w':=by
 obtain ⟨s,hw⟩:=Sat.qu.1 hw
 apply call170
 refine new_rule hw fun b w hw=>?_
 have hw:Sat R (pts q (quCell s)::pts b (.cells [.int .i64 id].toArray 3 (0,0))::OwnN 5 s wtT (l.map wtV)::Hs) w:=hw.swap
 refine NilP.mk rfl ⟨s,At.own (eqS hw) (by exact ⟨rfl,trivial⟩),?_⟩
 have hw:Sat R (OwnN 5 s wtT (l.map wtV)::pts b (.cells [.int .i64 id].toArray 3 (0,0))::pts q (quCell s)::Hs) w:=hw.arr
 refine (qidx_spec (p:=fun x=>decide (x.id=id)) hl (fun x w hw=>CalW.mk (by kernel_rfl) ((isId_spec hw.swap).use fun v w' h=>⟨by rw [h.1],h.2.swap⟩)) hw).use ?_
 clear hw
 rintro _ w ⟨⟨i,rfl,hi⟩,hw⟩
 refine ⟨i,rfl,⟨i,rfl,?_⟩,?_⟩
 ·rcases hi with hi|⟨k,rfl,hk,h1,h2⟩
  ·exact .inl hi
  ·exact .inr ⟨k,rfl,hk,of_decide_eq_true h1,h2⟩
 ·have hw:Sat R (pts b (.cells [.int .i64 id].toArray 3 (0,0))::pts q (quCell s)::OwnN 5 s wtT (l.map wtV)::Hs) w:=hw.arr
  exact Sat.qu.2 ⟨s,hw.drop⟩
end Go.Proofs.YtlplemdmegpoeaaGreatDoor
/- Package slices: Insert of one who waits; Delete. Condition: a bound on the length. -/
namespace Go.Proofs.YtlplemdmegpoeaaGreatDoor
set_option linter.unusedVariables false
set_option linter.unusedSimpArgs false
open Go Go.VC
open Classical
variable {R:Cx} {Hs Rest:List HP} {w:World}
theorem ovq_name : (Tryz.f245.name == "runtime.NumGoroutine") = false := by kernel_rfl
theorem ovq_body:Tryz.f245.body.isNone=true:=by kernel_rfl
theorem ovq_next:Extern.findNext Tryz.f245=none:=by kernel_rfl
theorem ovq_find:∃ tR,Extern.find Tryz.f245=some (Extern.SlicesOverlaps.overlaps #[ 188,188 ] #[tR]):=⟨4,by kernel_rfl⟩
theorem elW:ElN Tryz.prog 188 188 wtT 5 40:=⟨Tryz.underlying188,⟨_,Tryz.underlying188⟩,by kernel_rfl⟩
theorem szW1:szOf Tryz.prog wtT=5:=by kernel_rfl
theorem szW (w:World):(sizeOf wtT).run Tryz.prog w=.ok 5 w:=by
 obtain ⟨i,hi⟩:=szOf_pos (P:=Tryz.prog) (t:=wtT) (by rw [szW1];decide)
 have:=sizeOf_run hi w
 rw [szW1] at this
 exact this
theorem wtV_len (x:Wt):(wtV x).length=5:=rfl
theorem wtV_wid (l:List Wt):Wid 5 (l.map wtV):=fun y hy=>by
 obtain ⟨x,_,rfl⟩:=List.mem_map.1 hy
 rfl
theorem wtV_one (x:Wt):oneAll (wtV x)=true:=rfl
theorem wtV_all (l:List Wt):oneAll (l.map wtV).flatten=true:=by
 unfold oneAll
 rw [List.all_eq_true]
 intro v hv
 obtain ⟨r,h1,h2⟩:=List.mem_flatten.1 hv
 obtain ⟨x,_,rfl⟩:=List.mem_map.1 h1
 exact List.all_eq_true.1 (wtV_one x) v h2
theorem cut_5 {b k m:Nat} (h:m≠k):cutA (some ⟨b,0,none⟩) k m 5=some ⟨b,k * 5,none⟩:=by
 simp only [cutA,if_neg h,Option.map_some,add_off];simp
theorem overlapsQ_spec {b1 b2 o:Nat} {x:Wt} {T2:TypeId} {l:List Value} {fr:Nat × Nat} {la lc:Nat} {Q:Ending→World→Prop} (hl:l≠[])
  (hw:Sat R (pts b2 (.cells l.toArray T2 fr)::wtC b1 x::Hs) w) (k:Q (.returned (.bool false)) w):
  Ext Tryz.prog 245 #[.slice (some ⟨b1,0,none⟩) 1 1,.slice (some ⟨b2,o,none⟩) la lc] w Q:=by
 have h2:=hw.at
 have h1:=hw.swap.at
 have hne:b1≠b2:=by
  rintro rfl
  obtain ⟨h,hA,hd,h',hB,hd',_⟩:=hw
  rw [show h=_ from hA] at hd hd'
  rw [show h'=_ from hB] at hd'
  have:=hd' b1 (by simp [Heap.one])
  simp only [Cx.add,Heap.add,Heap.one] at this
  split at this<;>simp_all
 obtain ⟨tR,hf⟩:=ovq_find
 refine ⟨.bool false,w,?_,k⟩
 rw [run_callFunc_extern Tryz.func245 ovq_name ovq_body ovq_next hf]
 rw [Lib.run_overlaps_apart (P:=Tryz.prog) w 188 tR wtT Tryz.underlying188 5 (fun w=>szW w) ⟨b1,0,none⟩ ⟨b2,o,none⟩ 1 1 la lc hne wtT T2 5 l.length ?_ ?_ ?_ ?_ ?_]
 ·rfl
 ·simp only [World.shape?,h1];rfl
 ·simp only [World.shape?,h2];simp
 ·cases l with
  |nil=>exact absurd rfl hl
  |cons a l=>simp
 ·simp [World.frozen?,h1]
 ·simp [World.frozen?,h1]
theorem src_wt {b:Nat} {x:Wt} (h:w.heap[b]? =some (.cells (wtV x).toArray wtT (0,0))):∀ j v,(wtV x)[j]? =some v→w.cell? ((⟨b,0,none⟩:Addr).add j)=some v:=by
 intro j v hj
 rw [add_off,cell_of h,Nat.zero_add];exact hj
theorem src_partN {b o:Nat} {xs rest:List Value} {T:TypeId} {fr:Nat × Nat} (h:w.heap[b]? =some (.cells (xs++rest).toArray T fr)):∀ j v,(xs.drop o)[j]? =some v→w.cell? ((⟨b,o,none⟩:Addr).add j)=some v:=by
 intro j v hj
 rw [add_off,cell_of h]
 rw [List.getElem?_drop] at hj
 have hlt:=(List.getElem?_eq_some_iff.1 hj).1
 rw [List.getElem?_append_left (by omega)];exact hj
theorem qinsert_spec {s:Sl} {l:List Wt} {x:Wt} {p b:Nat} (hl:l.length≤1000000000) (hp:p≤l.length) (hw:Sat R (OwnN 5 s wtT (l.map wtV)::wtC b x::Hs) w):
  Gets Tryz.prog 173 #[.slice s.a s.len s.cap,.int .i64 p,.slice (some ⟨b,0,none⟩) 1 1] w fun v w'=>∃ t:Sl,v=.slice t.a t.len t.cap∧Sat R (OwnN 5 t wtT ((l.take p++x::l.drop p).map wtV)::wtC b x::Hs) w':=by
 have hlen:=OwnN.len hw
 have hcap:=OwnN.cap (by omega) hw
 rw [List.length_map] at hlen
 have hrl:(l.map wtV).length=l.length:=List.length_map _
 refine call173 s p ⟨some ⟨b,0,none⟩,1,1⟩ _ _ ?_
 unfold B173
 dsimp only
 have w1:IntKind.i64.wrap ((s.len:Int) + ((1:Nat):Int))=((l.length + 1:Nat):Int):=by rw [wrap64 (by omega) (by omega)];omega
 have w2:IntKind.i64.wrap (((l.length + 1:Nat):Int) - p)=((l.length + 1 - p:Nat):Int):=by rw [wrap64 (by omega) (by omega)];omega
 have w3:IntKind.i64.wrap ((p:Int) + ((1:Nat):Int))=((p + 1:Nat):Int):=by rw [wrap64 (by omega) (by omega)];omega
 rw [w1,w2,w3]
 simp only [Int.toNat_natCast]
 have hA:((l.map wtV).take p).flatten.length=p * 5:=by rw [(wtV_wid l).take.len,List.length_take,hrl,Nat.min_eq_left hp]
 have hD:((l.map wtV).drop p).flatten.length=(l.length - p) * 5:=by rw [(wtV_wid l).drop.len,List.length_drop,hrl]
 have hDo:oneAll ((l.map wtV).drop p).flatten=true:=by rw [←List.map_drop];exact wtV_all _
 have hrows:(l.map wtV).flatten=((l.map wtV).take p).flatten++((l.map wtV).drop p).flatten:=by rw [←List.flatten_append,List.take_append_drop]
 have hin:((l.map wtV).take p).flatten++wtV x++((l.map wtV).drop p).flatten=((l.take p++x::l.drop p).map wtV).flatten:=by simp [List.map_take,List.map_drop]
 have hinl:(l.take p++x::l.drop p).length=l.length + 1:=by simp;omega
 refine ⟨by omega,by omega,Br.f rfl (Br.e (fun h=>?_) (fun h=>Br.d (fun h2=>?_) (fun h2=>?_)))⟩
 ·-- behind all
  refine appendN_rule elW hw (SrcN_one elW.hk 1 hw rfl rfl) (Wid.one rfl) (by simp;omega) (by simp;omega) fun t w hw=>⟨t,rfl,?_⟩
  have e:l.map wtV++[wtV x]=(l.take p++x::l.drop p).map wtV:=by
   rw [List.take_of_length_le (by omega),List.drop_eq_nil_of_le (by omega)];simp
  rw [e] at hw;exact hw
 ·-- no room
  refine ⟨by omega,by omega,?_⟩
  refine zerosGrowN_rule Tryz.underlying188 Tryz.underlying3 elW.hi (by omega) (by omega) (by rw [hrl];omega) (by omega) (by omega) (by omega) hw fun t w ys hys hw=>?_
  have hyw:Wid 5 ys:=fun y hy=>OwnN.wid hw y (List.mem_append_right _ hy)
  have htl:=OwnN.len hw
  have hxs:((l.map wtV).take p++ys).length=l.length + 1:=by rw [List.length_append,List.length_take,hrl,hys,Nat.min_eq_left hp];omega
  rw [hxs] at htl
  refine ⟨by omega,by omega,?_⟩
  obtain ⟨hwid,⟨_,h0,_⟩|⟨b',rest,fr,cap,rfl,hcl,hfr,hw⟩⟩:=OwnN.cases hw
  ·have:=congrArg List.length h0
   rw [hxs] at this;cases this
  dsimp only at htl ⊢
  rw [List.flatten_append] at hw hcl
  have hY:ys.flatten.length=(l.length + 1 - p) * 5:=by rw [hyw.len,hys]
  have hcl2:=hcl
  rw [List.length_append,List.length_append,hA,hY] at hcl2
  have hb1:=(hw.takeP (b:=b) inferInstance).at
  rw [hxs,cut_5 (by omega)]
  refine copyN_rule Tryz.underlying188 (by kernel_rfl) hw (by rw [hcl];exact hfr) (cs:=wtV x) (by show 5=Nat.min 1 _ * 5;rw [show Nat.min 1 (l.length + 1 - p)=1 from Nat.min_eq_left (by omega)]) (by rw [hcl];show p * 5 + 5≤_;omega) (src_wt hb1) rfl fun _ w hw=>?_
  refine drw_rule hw fun w hw=>⟨by omega,by omega,by omega,by omega,?_⟩
  obtain ⟨_,⟨_,h0,_⟩|⟨bs,rest2,fr2,cap2,rfl,hcl3,hfr2,hws⟩⟩:=OwnN.cases hw.swap
  ·have h3:l.length=0:=by
    have:=congrArg List.length h0
    rw [hrl] at this;exact this
   omega
  clear w1 w2 w3
  dsimp only at hlen hcap h h2 ⊢
  rw [hrl] at h hcap
  have hsat:=hws.at
  rw [cut_5 (by omega),cut_5 (by omega)]
  have hdrop:(l.map wtV).flatten.drop (p * 5)=((l.map wtV).drop p).flatten:=(wtV_wid l).drop_flat p
  refine copyN_rule Tryz.underlying188 (by kernel_rfl) hws.swap (by rw [putL_len,hcl];exact hfr) (cs:=((l.map wtV).drop p).flatten) (by rw [hD,hrl,show Nat.min (l.length - p) (l.length + 1 - (p + 1))=l.length - p from Nat.min_eq_left (by omega)])
   (by rw [putL_len,hcl,hD];omega) (by rw [←hdrop];exact src_partN hsat) hDo fun _ w hw=>?_
  rw [show (p + 1) * 5=p * 5 + (wtV x).length by rw [wtV_len];omega,putN hA (by rw [hY,hD,wtV_len];omega),hin] at hw
  have hfin:=OwnN.of_pts (cap:=cap) (wtV_wid _) (by rw [List.length_append,(wtV_wid _).len,List.length_map,hinl];omega) hw hfr
  rw [List.length_map,hinl] at hfin
  refine ⟨⟨some ⟨b',0,none⟩,l.length + 1,cap⟩,rfl,?_⟩
  exact Sat.cons (fun R' h=>h.drop) hfin
 ·-- room
  obtain ⟨_,⟨_,h0,_⟩|⟨bs,rest,fr,cap,rfl,hcl,hfr,hws⟩⟩:=OwnN.cases hw
  ·have h3:l.length=0:=by
    have:=congrArg List.length h0
    rw [hrl] at this;exact this
   omega
  clear w1 w2 w3
  dsimp only at hlen hcap h h2 ⊢
  rw [hrl] at h hcap
  have hcl2:=hcl
  rw [List.length_append,(wtV_wid l).len,hrl] at hcl2
  have hroom:5≤rest.length:=by omega
  refine ⟨by omega,by omega,by omega,by omega,?_⟩
  rw [cut_5 (by omega)]
  refine overlapsQ_spec (by intro h0;have h5:=congrArg List.length h0;rw [hcl,List.length_nil] at h5;omega) hws ?_
  refine ⟨_,rfl,Br.t rfl ?_⟩
  refine drw_rule hws fun w hws=>⟨by omega,by omega,by omega,by omega,?_⟩
  rw [cut_5 (by omega)]
  have hsat:=hws.at
  have hdrop:(l.map wtV).flatten.drop (p * 5)=((l.map wtV).drop p).flatten:=(wtV_wid l).drop_flat p
  refine copyN_rule Tryz.underlying188 (by kernel_rfl) hws (by rw [hcl];exact hfr) (cs:=((l.map wtV).drop p).flatten) (by rw [hD,show Nat.min (l.length + 1 - p) (l.length + 1 - (p + 1))=l.length - p from (Nat.min_eq_right (by omega)).trans (by omega)])
   (by rw [hcl,hD];omega) (by rw [←hdrop];exact src_partN hsat) hDo fun _ w hw=>?_
  refine ⟨by omega,by omega,?_⟩
  have hb1:=hw.swap.at
  refine copyN_rule Tryz.underlying188 (by kernel_rfl) hw (by rw [putL_len,hcl];exact hfr) (cs:=wtV x) (by show 5=Nat.min 1 _ * 5;rw [show Nat.min 1 (l.length + 1 - p)=1 from Nat.min_eq_left (by omega)]) (by rw [putL_len,hcl];show p * 5 + 5≤_;omega) (src_wt hb1) rfl fun _ w hw=>?_
  rw [hrows,show (p + 1) * 5=p * 5 + (wtV x).length by rw [wtV_len];omega,putN' hA (by rw [wtV_len];exact hroom),hin] at hw
  have hfin:=OwnN.of_pts (cap:=cap) (wtV_wid _) (by rw [List.length_append,(wtV_wid _).len,List.length_map,hinl,List.length_drop,wtV_len];omega) hw hfr
  rw [List.length_map,hinl] at hfin
  exact ⟨_,rfl,hfin⟩
end Go.Proofs.YtlplemdmegpoeaaGreatDoor
/- Package queue: Add, Remove, First, All. Condition: a bound on the length. -/
namespace Go.Proofs.YtlplemdmegpoeaaGreatDoor
set_option linter.unusedVariables false
set_option linter.unusedSimpArgs false
open Go Go.VC
open Classical
variable {R:Cx} {Hs Rest:List HP} {w:World}
theorem qst_lt {q:List Wt} (h:QSt q) {i j:Nat} (hij:i<j) (hj:j<q.length):q[i].ahead q[j]=true:=List.pairwise_iff_getElem.1 h i j (by omega) hj hij
theorem qsearch_spec {s:Sl} {l:List Wt} {x:Wt} (hl:l.length≤1000000000) (hst:QSt l) (hw:Sat R (OwnN 5 s wtT (l.map wtV)::Hs) w):
  Gets Tryz.prog 171 #[.slice s.a s.len s.cap,wtA x,.func (.func 172) #[] #[]] w fun v w'=>(∃ (p:Nat) (b:Bool),v=.tuple #[.int .i64 p,.bool b]∧p≤l.length∧(∀ k (h:k<l.length),k<p→l[k].ahead x=true)∧(∀ k (h:k<l.length),p≤k→l[k].ahead x=false))∧Sat R (OwnN 5 s wtT (l.map wtV)::Hs) w':=by
 have hlen:=OwnN.len hw
 rw [List.length_map] at hlen
 apply call171
 refine new_rule hw fun b w hw=>?_
 have ordC:∀ (y:Wt) w,Sat R (OwnN 5 s wtT (l.map wtV)::wtC b x::Hs) w→CalW Tryz.prog cl (.func (.func 172) #[] #[]) [wtA y,wtA x] w (fun e w'=>e=.returned (.int .i64 (y.ord x))∧Sat R (OwnN 5 s wtT (l.map wtV)::wtC b x::Hs) w'):=fun y w hw=>CalW.mk (by kernel_rfl) ((order_spec hw).use fun v w' h=>⟨by rw [h.1],h.2⟩)
 have hw:Sat R (OwnN 5 s wtT (l.map wtV)::wtC b x::Hs) w:=Sat.swap hw
 refine ⟨fun i j w=>∃ a b':Nat,i=a∧j=b'∧a≤b'∧b'≤l.length∧(∀ k (h:k<l.length),k<a→l[k].ahead x=true)∧(∀ k (h:k<l.length),b'≤k→l[k].ahead x=false)∧Sat R (OwnN 5 s wtT (l.map wtV)::wtC b x::Hs) w,fun i j _=>(j - i).toNat,⟨0,l.length,rfl,by omega,by omega,by omega,fun k _ hk=>by omega,fun k h hk=>by omega,hw⟩,?_⟩
 clear hw
 rintro _ _ _ w ⟨a,c,rfl,rfl,hac,hc,h1,h2,hw⟩
 refine Br.d (fun h=>?_) (fun h=>?_)
 ·refine drw_rule hw fun w hw=>?_
  rw [half_eq (by omega)]
  have hm:(a + c) / 2<l.length:=by omega
  refine (OwnN.reads (S:=Sat R (OwnN 5 s wtT (l.map wtV)::wtC b x::Hs)) hw (fun _ h=>h)).rngM (E:=l) (g:=wtV) hm fun ad _ he=>?_
  refine ⟨_,_,_,_,_,he.z (by exact ⟨rfl,rfl,rfl,rfl,rfl,trivial⟩),x.id,x.cls,x.many,x.time,x.sc,At.own (fun _ h=>h) (by exact ⟨rfl,rfl,rfl,rfl,rfl,trivial⟩),?_⟩
  refine (ordC l[(a + c) / 2] _ hw).mono ?_
  clear hw
  rintro _ w ⟨rfl,hw⟩
  refine ⟨_,rfl,Br.d (fun h3=>?_) (fun h3=>?_)⟩
  ·have ha:=ord_neg.1 h3
   rw [show IntKind.i64.wrap ((((a + c) / 2:Nat):Int) + 1)=(((a + c) / 2 + 1:Nat):Int) from wrap64 (by omega) (by omega)]
   refine ⟨⟨(a + c) / 2 + 1,c,rfl,rfl,by omega,hc,fun k hk hk2=>?_,h2,hw⟩,by dsimp only;omega⟩
   by_cases hkm:k=(a + c) / 2
   ·subst hkm;exact ha
   ·exact ahead_trans (qst_lt hst (show k<(a + c) / 2 by omega) hm) ha
  ·have ha:l[(a + c) / 2].ahead x=false:=by
    rw [←Bool.not_eq_true]
    exact fun h=>h3 (ord_neg.2 h)
   refine ⟨⟨a,(a + c) / 2,rfl,rfl,by omega,by omega,h1,fun k hk hk2=>?_,hw⟩,by dsimp only;omega⟩
   by_cases hkm:k=(a + c) / 2
   ·subst hkm;exact ha
   ·rw [←Bool.not_eq_true] at ha ⊢
    exact fun h=>ha (ahead_trans (qst_lt hst (show (a + c) / 2<k by omega) hk) h)
 ·obtain rfl:a=c:=by omega
  have fin:∀ (t:Bool) w,Sat R (OwnN 5 s wtT (l.map wtV)::wtC b x::Hs) w→(∃ (p:Nat) (b:Bool),Value.tuple #[.int .i64 a,.bool t]=.tuple #[.int .i64 p,.bool b]∧p≤l.length∧(∀ k (h:k<l.length),k<p→l[k].ahead x=true)∧(∀ k (h:k<l.length),p≤k→l[k].ahead x=false))∧Sat R (OwnN 5 s wtT (l.map wtV)::Hs) w:=fun t w hw=>⟨⟨a,t,rfl,hc,h1,h2⟩,hw.cons fun _ h=>h.drop⟩
  refine drw_rule hw fun w hw=>?_
  refine Br.d (fun h3=>?_) (fun h3=>fin _ _ hw)
  have ha:a<l.length:=by omega
  refine (OwnN.reads (S:=Sat R (OwnN 5 s wtT (l.map wtV)::wtC b x::Hs)) hw (fun _ h=>h)).rngM (E:=l) (g:=wtV) ha fun ad _ he=>?_
  refine ⟨_,_,_,_,_,he.z (by exact ⟨rfl,rfl,rfl,rfl,rfl,trivial⟩),x.id,x.cls,x.many,x.time,x.sc,At.own (fun _ h=>h) (by exact ⟨rfl,rfl,rfl,rfl,rfl,trivial⟩),?_⟩
  refine (ordC l[a] _ hw).mono ?_
  clear hw
  rintro _ w ⟨rfl,hw⟩
  exact ⟨_,rfl,fin _ _ hw⟩
theorem hasQ_tk {l:List Wt} {id:Int} {k:Nat} (hk:k<l.length) (h1:l[k].id=id) (h2:hasQ id (l.take k)=false):hasQ id l=true∧delQ id l=l.take k++l.drop (k + 1):=by
 induction l generalizing k with
 |nil=>simp at hk
 |cons w l ih=>
  cases k with
  |zero=>
   have h1:w.id=id:=h1
   refine ⟨by simp [hasQ,h1],?_⟩
   show (if w.id=id then l else _)=_
   rw [if_pos h1];simp
  |succ k=>
   rw [List.take_succ_cons] at h2
   have h3:¬ w.id=id∧hasQ id (l.take k)=false:=by simpa [hasQ] using h2
   obtain ⟨a1,a2⟩:=ih (by simpa using hk) (by simpa using h1) h3.2
   refine ⟨by simp only [hasQ,List.any_cons];rw [show l.any _=true from a1];simp,?_⟩
   show (if w.id=id then _ else w::delQ id l)=_
   rw [if_neg h3.1,a2];simp
theorem qadd_spec {q:Nat} {l:List Wt} {x:Wt} (hq:QOk l) (hw:Sat R (QuAt q l::Hs) w):
  Gets Tryz.prog 102 #[.pointer (some ⟨q,0,none⟩),wtA x] w fun v w'=>v=.int .i64 (qadd l x).2∧Sat R (QuAt q (qadd l x).1::Hs) w':=by
 have hl:l.length≤1000000000:=by have:=hq.len;omega
 apply call102
 refine new_rule hw fun b1 w hw=>?_
 have hw:Sat R (wtD b1 x::QuAt q l::Hs) w:=hw
 refine ⟨x.id,x.cls,x.many,x.time,x.sc,At.own (eqS hw) (by exact ⟨rfl,rfl,rfl,rfl,rfl,trivial⟩),?_⟩
 refine new_rule hw fun b2 w hw=>?_
 refine store_rule hw (by kernel_rfl) rfl (by simp [Value.cells]) fun w hw=>?_
 have hw:=hw.re (wtC b2 x)
 refine ⟨x.id,x.cls,x.many,x.time,x.sc,At.own (eqS hw) (by exact ⟨rfl,rfl,rfl,rfl,rfl,trivial⟩),?_⟩
 refine (qright_spec hw).use ?_
 clear hw
 rintro _ w ⟨rfl,hw⟩
 refine ⟨_,rfl,Br.nd (fun h=>?_) (fun hok=>?_)⟩
 ·unfold qadd
  rw [if_pos h]
  exact ⟨rfl,hw.drop.drop⟩
 refine ⟨x.id,At.own (eqS hw) (by exact ⟨rfl,trivial⟩),?_⟩
 have hw:Sat R (QuAt q l::wtC b2 x::wtD b1 x::Hs) w:=hw.arr
 refine (qplace_spec hl hw).use ?_
 clear hw
 rintro _ w ⟨⟨i,rfl,hi⟩,hw⟩
 have close:∀ {w l},Sat R (QuAt q l::wtC b2 x::wtD b1 x::Hs) w→Sat R (QuAt q l::Hs) w:=fun h=>h.cons fun _ h=>h.drop.drop
 refine ⟨i,rfl,Br.d (fun h=>?_) (fun h=>?_)⟩
 ·rcases hi with ⟨h1,_⟩|⟨k,rfl,hk,h1,h2⟩
  ·omega
  unfold qadd
  rw [if_neg (fun h=>h hok),if_pos (hasQ_tk hk h1 h2).1]
  exact ⟨rfl,close hw⟩
 have hno:hasQ x.id l=false:=by
  rcases hi with ⟨_,h1⟩|⟨k,rfl,_⟩
  ·exact h1
  ·omega
 obtain ⟨s,hw⟩:=Sat.qu.1 hw
 have hlen:=OwnN.len hw.swap
 rw [List.length_map] at hlen
 refine NilP.mk rfl ⟨s,At.own (eqS hw) (by exact ⟨rfl,trivial⟩),Br.d (fun h3=>?_) (fun h3=>?_)⟩
 ·unfold qadd
  rw [if_neg (fun h=>h hok),hno,if_neg (by simp),if_pos (by omega)]
  exact ⟨rfl,close (Sat.qu.2 ⟨s,hw⟩)⟩
 have hadd:qadd l x=(insQ x l,0):=by
  unfold qadd
  rw [if_neg (fun h=>h hok),hno,if_neg (by simp),if_neg (by omega)]
 rw [hadd]
 refine drw_rule hw fun w hw=>NilP.mk rfl ?_
 refine ⟨s,At.own (fun _ h=>h) (by exact ⟨rfl,trivial⟩),x.id,x.cls,x.many,x.time,x.sc,At.own (fun _ h=>h) (by exact ⟨rfl,rfl,rfl,rfl,rfl,trivial⟩),?_⟩
 refine (qsearch_spec hl hq.st hw.swap).use ?_
 clear hw
 rintro _ w ⟨⟨p,fb,rfl,hp,h1,h2⟩,hw⟩
 refine ⟨_,_,rfl,?_⟩
 refine drw_rule' (Sat R [pts q (quCell s),wtC b2 x,VC.tru]) hw (fun w hw=>?_) fun w hw=>?_
 ·exact (hw.arr (Hs':=pts q (quCell s)::wtC b2 x::OwnN 5 s wtT (l.map wtV)::wtD b1 x::Hs)).cons fun _ h=>h.restTru2
 refine NilP.mk rfl ⟨s,At.own (fun _ h=>h) (by exact ⟨rfl,trivial⟩),x.id,x.cls,x.many,x.time,x.sc,At.own (fun _ h=>h) (by exact ⟨rfl,rfl,rfl,rfl,rfl,trivial⟩),?_⟩
 refine new_rule hw fun b3 w hw=>?_
 have hw:Sat R (wtC b3 x::OwnN 5 s wtT (l.map wtV)::pts q (quCell s)::wtC b2 x::wtD b1 x::Hs) w:=hw
 refine ⟨?_,?_⟩
 ·exact (hw.arr (Hs':=pts q (quCell s)::wtC b2 x::OwnN 5 s wtT (l.map wtV)::wtD b1 x::wtC b3 x::Hs)).cons fun _ h=>h.restTru2
 refine (qinsert_spec hl hp hw.swap).use ?_
 clear hw
 rintro _ w ⟨t,rfl,hw⟩
 refine ⟨t,rfl,?_,NilP.mk rfl ?_⟩
 ·exact (hw.arr (Hs':=pts q (quCell s)::wtC b2 x::OwnN 5 t wtT ((l.take p++x::l.drop p).map wtV)::wtD b1 x::wtC b3 x::Hs)).cons fun _ h=>h.restTru2
 have hw:Sat R (pts q (quCell s)::OwnN 5 t wtT ((l.take p++x::l.drop p).map wtV)::wtC b2 x::wtD b1 x::wtC b3 x::Hs) w:=hw.arr
 refine store_rule hw (by kernel_rfl) rfl (by simp [Value.cells]) fun w hw=>?_
 have hw:=hw.re (pts q (quCell t))
 have e:insQ x l=l.take p++x::l.drop p:=by
  refine insQ_at hq.st ?_ (fun h=>h2 p h (Nat.le_refl _)) hp
  by_cases h0:p=0
  ·exact .inl h0
  ·exact .inr ⟨by omega,h1 (p - 1) (by omega) (by omega)⟩
 rw [e]
 exact ⟨rfl,Sat.qu.2 ⟨t,hw.cons fun _ h=>h.cons fun _ h=>h.drop.drop.drop⟩⟩
end Go.Proofs.YtlplemdmegpoeaaGreatDoor

/- Package queue: First, All. Condition: a bound on the length. -/
namespace Go.Proofs.YtlplemdmegpoeaaGreatDoor
set_option linter.unusedVariables false
set_option linter.unusedSimpArgs false
open Go Go.VC
open Classical
variable {R:Cx} {Hs Rest:List HP} {w:World}
theorem elWt:ElN Tryz.prog 100 100 168 5 40:=⟨Tryz.underlying100,⟨_,Tryz.underlying100⟩,by kernel_rfl⟩
theorem qall_spec {q:Nat} {l:List Wt} (hl:l.length≤1000000000) (hw:Sat R (QuAt q l::Hs) w):
  Gets Tryz.prog 56 #[.pointer (some ⟨q,0,none⟩)] w fun v w'=>∃ t:Sl,v=.slice t.a t.len t.cap∧Sat R (OwnN 5 t 168 (l.map wtV)::QuAt q l::Hs) w':=by
 obtain ⟨s,hw⟩:=Sat.qu.1 hw
 apply call56
 refine NilP.mk rfl ⟨s,At.own (eqS hw) (by exact ⟨rfl,trivial⟩),?_⟩
 have hlen:=OwnN.len hw.swap
 rw [List.length_map] at hlen
 refine ⟨fun t i w=>∃ j:Nat,i=j∧j≤l.length∧Sat R (OwnN 5 t 168 ((l.take j).map wtV)::OwnN 5 s wtT (l.map wtV)::pts q (quCell s)::Hs) w,fun _ i _=>l.length - i.toNat,⟨0,rfl,by omega,OwnN.nil hw.swap⟩,?_⟩
 clear hw
 rintro _ t _ w ⟨j,rfl,hj,hw⟩
 refine Br.d (fun h=>?_) (fun h=>?_)
 ·have hj2:j<l.length:=by omega
  have hw2:=hw.swap
  refine (OwnN.reads hw2 (S:=fun w'=>w'=w) (Hs':=OwnN 5 t 168 ((l.take j).map wtV)::pts q (quCell s)::Hs) (fun w' e=>by rw [e];exact hw2)).rngM (E:=l) (g:=wtV) hj2 fun a _ he=>?_
  refine ⟨_,_,_,_,_,he.z (by exact ⟨rfl,rfl,rfl,rfl,rfl,trivial⟩),?_⟩
  refine new_rule hw fun b2 w hw=>?_
  refine store_rule hw (by kernel_rfl) rfl (by simp [Value.cells]) fun w hw=>?_
  have hw:=hw.re (wtC b2 l[j])
  refine ⟨l[j].id,l[j].cls,l[j].many,l[j].time,l[j].sc,At.own (eqS hw) (by exact ⟨rfl,rfl,rfl,rfl,rfl,trivial⟩),?_⟩
  have hw:=hw.drop
  refine pushN_rule (x:=wtV l[j]) elWt hw rfl rfl (by rw [List.length_map,List.length_take];omega) (by rw [List.length_map,List.length_take];omega) fun t2 w hw=>⟨?_,?_⟩
  ·refine ⟨j + 1,wrap64 (by omega) (by omega),by omega,?_⟩
   rw [List.take_add_one,List.getElem?_eq_getElem hj2,List.map_append]
   exact hw
  ·rw [wrap64 (x:=(j:Int) + 1) (by omega) (by omega)]
   dsimp only;omega
 ·rw [List.take_of_length_le (by omega)] at hw
  exact ⟨t,rfl,hw.cons fun _ h=>Sat.qu.2 ⟨s,h.swap⟩⟩
end Go.Proofs.YtlplemdmegpoeaaGreatDoor


/- Package booking: the book in memory, opened at a flight, at a booking; at, named. Condition: none. -/
namespace Go.Proofs.YtlplemdmegpoeaaGreatDoor
set_option linter.unusedVariables false
set_option linter.unusedSimpArgs false
open Go Go.VC
open Classical
variable {R:Cx} {Hs Rest:List HP} {w:World}
theorem star_mid {A C:List HP} {x:HP}:Sat R (Star (A++x::C)::Hs) w↔Sat R (x::Star (A++C)::Hs) w:=by
 have hp:((A++x::C)++Hs).Perm (x::((A++C)++Hs)):=List.perm_middle.append_right Hs
 constructor
 ·intro h
  exact ((Sat.star.1 h).perm hp).cons fun _ h=>Sat.star.2 h
 ·intro h
  have h2:Sat R (x::((A++C)++Hs)) w:=h.cons fun _ h=>Sat.star.1 h
  exact Sat.star.2 (h2.perm hp.symm)
theorem fls_mid {A C:List FE} {f q:Nat} {p:Pl}:Sat R (FlsAt (A++(f,q,p)::C)::Hs) w↔Sat R (LoneAt f p.r::QuAt q p.q::FlsAt (A++C)::Hs) w:=by
 unfold FlsAt
 rw [List.map_append,List.map_cons,star_mid,List.map_append]
 exact Sat.star
theorem bks_mid {A C:List BE} {a:Nat} {x:Bk}:Sat R (BksAt (A++(a,x)::C)::Hs) w↔Sat R (pts a (bkObj x)::BksAt (A++C)::Hs) w:=by
 unfold BksAt
 rw [List.map_append,List.map_cons,star_mid,List.map_append]
 exact Iff.rfl
theorem getM_mid {β:Type} {k:Int} {v:β} {a b:List (Int × β)} (h:∀ e∈a,e.1≠k):getM k (a++(k,v)::b)=some v:=getM_app (getM_ne.2 h) (by simp)
structure FlMid (A C:List FE) (n:Int) (p:Pl):Prop where
 num:p.n=n
 a:∀ e∈A,e.2.2.n≠n
 c:∀ e∈C,e.2.2.n≠n
structure BkMid (A C:List BE) (x:Bk):Prop where
 a:∀ e∈A,e.2.id≠x.id
 c:∀ e∈C,e.2.id≠x.id
theorem fl_split {b:Book} {fs:List FE} {xs:List BE} (hl:BookL b fs xs) (c:KRise Pl.n b.fl) {n:Int} {p:Pl} (h:b.at n=some p):∃ A f q C,fs=A++(f,q,p)::C∧FlMid A C n p:=by
 have h1:=kget_some h
 obtain ⟨⟨f,q,p'⟩,he,hp⟩:=List.mem_map.1 (hl.fl.mem_iff.2 h1.1)
 dsimp only at hp
 subst hp
 obtain ⟨A,C,rfl⟩:=List.append_of_mem he
 have hnd:((A++(f,q,p')::C).map fun e=>e.2.2).Pairwise fun a b=>a.n≠b.n:=(hl.fl.pairwise_iff (fun h=>Ne.symm h)).2 (KRise.ne c)
 rw [List.map_append,List.map_cons,List.pairwise_append,List.pairwise_cons] at hnd
 refine ⟨A,f,q,C,rfl,h1.2,fun e he2=>?_,fun e he2=>?_⟩
 ·have:=hnd.2.2 e.2.2 (List.mem_map.2 ⟨e,he2,rfl⟩) p' (by simp)
  rw [←h1.2];exact this
 ·have:=hnd.2.1.1 e.2.2 (List.mem_map.2 ⟨e,he2,rfl⟩)
  rw [←h1.2];exact this.symm
theorem fl_get {A C:List FE} {f q:Nat} {n:Int} {p:Pl} (h:FlMid A C n p):getM n ((A++(f,q,p)::C).map flV)=some (.agg #[.pointer (some ⟨f,0,none⟩),.pointer (some ⟨q,0,none⟩)]):=by
 rw [List.map_append,List.map_cons]
 unfold flV
 dsimp only
 rw [h.num]
 exact getM_mid fun e he=>by
  obtain ⟨e',h1,rfl⟩:=List.mem_map.1 he
  exact h.a e' h1
theorem bk_split {b:Book} {fs:List FE} {xs:List BE} (hl:BookL b fs xs) (c:KRise Bk.id b.L) {x:Bk} (h:x∈b.L):∃ A a C,xs=A++(a,x)::C∧BkMid A C x:=by
 rw [←hl.bk] at h
 obtain ⟨⟨a,x'⟩,he,hp⟩:=List.mem_map.1 h
 dsimp only at hp
 subst hp
 obtain ⟨A,C,rfl⟩:=List.append_of_mem he
 have hnd:((A++(a,x')::C).map fun e=>e.2).Pairwise fun a b=>a.id≠b.id:=by rw [hl.bk];exact KRise.ne c
 rw [List.map_append,List.map_cons,List.pairwise_append,List.pairwise_cons] at hnd
 refine ⟨A,a,C,rfl,fun e he2=>?_,fun e he2=>?_⟩
 ·exact hnd.2.2 e.2 (List.mem_map.2 ⟨e,he2,rfl⟩) x' (by simp)
 ·exact (hnd.2.1.1 e.2 (List.mem_map.2 ⟨e,he2,rfl⟩)).symm
theorem bk_get {A C:List BE} {a:Nat} {x:Bk} (h:BkMid A C x):getM x.id ((A++(a,x)::C).map bkV)=some (.pointer (some ⟨a,0,none⟩)):=by
 rw [List.map_append,List.map_cons]
 exact getM_mid fun e he=>by
  obtain ⟨e',h1,rfl⟩:=List.mem_map.1 he
  exact h.a e' h1
theorem bk_len {b:Book} {fs:List FE} {xs:List BE} (hl:BookL b fs xs):xs.length=b.L.length:=by
 have:=congrArg List.length hl.bk
 rwa [List.length_map] at this
abbrev plC (b:Nat) (v1 v2:Option Addr):HP:=pts b (.cells [.pointer v1,.pointer v2].toArray 97 (0,0))
end Go.Proofs.YtlplemdmegpoeaaGreatDoor

/- Package booking: room is given to those who wait. Condition: none. -/
namespace Go.Proofs.YtlplemdmegpoeaaGreatDoor
set_option linter.unusedVariables false
set_option linter.unusedSimpArgs false
open Go Go.VC
open Classical
variable {R:Cx} {Hs Rest:List HP} {w:World}
abbrev fqC (b f q:Nat):HP:=plC b (some ⟨f,0,none⟩) (some ⟨q,0,none⟩)
end Go.Proofs.YtlplemdmegpoeaaGreatDoor
/- Package booking: a booking is held. Condition: bounds. -/
namespace Go.Proofs.YtlplemdmegpoeaaGreatDoor
set_option linter.unusedVariables false
set_option linter.unusedSimpArgs false
open Go Go.VC
open Classical
variable {R:Cx} {Hs Rest:List HP} {w:World}
theorem bks_snoc {xs:List BE} {a:Nat} {x:Bk} (hw:Sat R (pts a (bkObj x)::BksAt xs::Hs) w):Sat R (BksAt (xs++[(a,x)])::Hs) w:=by
 have:Sat R (pts a (bkObj x)::BksAt (xs++[])::Hs) w:=by rw [List.append_nil];exact hw
 exact bks_mid.2 this
end Go.Proofs.YtlplemdmegpoeaaGreatDoor


/- Package booking: the sorted keys of its maps; the clock. Condition: bounds. -/
namespace Go.Proofs.YtlplemdmegpoeaaGreatDoor
set_option linter.unusedVariables false
set_option linter.unusedSimpArgs false
open Go Go.VC
open Classical
variable {R:Cx} {Hs Rest:List HP} {w:World}
theorem sortI_eq {l m:List Int} (hp:l.Perm m) (h:m.Pairwise fun a b=>a<b):sortI l=m:=by
 have tr:∀ a b c:Int,decide (a≤b)=true→decide (b≤c)=true→decide (a≤c)=true:=fun a b c h1 h2=>by simp only [decide_eq_true_eq] at *;omega
 have to:∀ a b:Int,(decide (a≤b)||decide (b≤a))=true:=fun a b=>by simp only [Bool.or_eq_true,decide_eq_true_eq];omega
 exact List.Perm.eq_of_pairwise (fun a b _ _ h1 h2=>by simp only [decide_eq_true_eq] at h1 h2;omega) (List.pairwise_mergeSort tr to l) (h.imp fun hab=>by simp only [decide_eq_true_eq];omega) ((List.mergeSort_perm l _).trans hp)
theorem bk_keys {b:Book} {fs:List FE} {xs:List BE} (hl:BookL b fs xs):(xs.map bkV).map (·.1)=b.L.map Bk.id:=by
 rw [←hl.bk,List.map_map,List.map_map]
 rfl
theorem fl_keys {b:Book} {fs:List FE} {xs:List BE} (hl:BookL b fs xs):((fs.map flV).map (·.1)).Perm (b.fl.map Pl.n):=by
 have:=hl.fl.map Pl.n
 rw [List.map_map] at this ⊢
 exact this
theorem rise_ids {b:Book} (k:Core b):(b.L.map Bk.id).Pairwise fun a b=>a<b:=List.pairwise_map.2 k.ids
theorem rise_nums {b:Book} (k:Core b):(b.fl.map Pl.n).Pairwise fun a b=>a<b:=List.pairwise_map.2 k.nums
theorem nd_lt {l:List Int} (h:l.Pairwise fun a b=>a<b):l.Nodup:=h.imp fun hab=>by omega
theorem sortB_rule {m:Nat} {b:Book} {fs:List FE} {xs:List BE} {K:Sl→World→Prop} (k:Core b) (hl:BookL b fs xs) (hw:Sat R (MapAt m (xs.map bkV)::Hs) w)
  (kk:∀ s w',Sat R (Own s 3 (intsI (b.L.map Bk.id))::MapAt m (xs.map bkV)::Hs) w'→K s w'):
  Calls Tryz.prog 66 #[.map (some m)] w fun e w1=>∃ t:Value,e=.returned t∧Calls Tryz.prog 61 #[t] w1 fun e w2=>∃ t:Sl,e=.returned (.slice t.a t.len t.cap)∧K t w2:=by
 have hk:=bk_keys hl
 obtain ⟨l,c,hs,hst,hp⟩:=MapAt.iff.1 hw
 obtain ⟨D0,hown,hsz,hperm⟩:=keysI_map hs hst (by rw [hk];exact nd_lt (rise_ids k)) (fun i hi=>by
  rw [hk] at hi
  obtain ⟨x,hx,rfl⟩:=List.mem_map.1 hi
  have:=(k.each x hx).id
  have:=k.next
  omega) (by rw [List.length_map,bk_len hl];have:=k.many;omega) hp.at
 refine (callsIn_wide.1 (Tryz.maps_Keys_66 (some m) w)).mono ?_
 rintro _ _ ⟨rfl,rfl⟩
 refine ⟨_,rfl,?_⟩
 refine (callsIn_wide.1 (Tryz.slices_Sorted_keys_61_66 m _ D0 _ w hown (by unfold maxLen;omega) (by omega))).mono ?_
 rintro _ w' ⟨v,ss,rfl,hS,hrow,hnil,hb⟩
 have hw1:Sat R (MapAt m (xs.map bkV)::Hs) (w.alloc (.cells #[.map (some m)] 78)):=(Sat.alloc _ hw).drop
 obtain ⟨s,rfl,h3⟩:=Sat.ownsRow hw1 hb hrow
 refine ⟨s,rfl,kk s _ ?_⟩
 have e:=sortI_eq (List.Perm.of_eq hk) (rise_ids k)
 rw [←sortI_perm (hperm ss hS)] at e
 rw [←e]
 exact h3
theorem sortF_rule {m:Nat} {b:Book} {fs:List FE} {xs:List BE} {K:Sl→World→Prop} (k:Core b) (hl:BookL b fs xs) (hw:Sat R (MapAt m (fs.map flV)::Hs) w)
  (kk:∀ s w',Sat R (Own s 3 (intsI (b.fl.map Pl.n))::MapAt m (fs.map flV)::Hs) w'→K s w'):
  Calls Tryz.prog 62 #[.map (some m)] w fun e w1=>∃ t:Value,e=.returned t∧Calls Tryz.prog 61 #[t] w1 fun e w2=>∃ t:Sl,e=.returned (.slice t.a t.len t.cap)∧K t w2:=by
 have hk:=fl_keys hl
 obtain ⟨l,c,hs,hst,hp⟩:=MapAt.iff.1 hw
 obtain ⟨D0,hown,hsz,hperm⟩:=keysI_map hs hst (hk.nodup_iff.2 (nd_lt (rise_nums k))) (fun i hi=>by
  obtain ⟨x,hx,rfl⟩:=List.mem_map.1 (hk.mem_iff.1 hi)
  have:=(k.good x hx).num
  show -1000000000≤x.r.num∧x.r.num≤1000000000
  omega) (by rw [List.length_map,fl_len hl];have:=k.few;omega) hp.at
 refine (callsIn_wide.1 (Tryz.maps_Keys_62 (some m) w)).mono ?_
 rintro _ _ ⟨rfl,rfl⟩
 refine ⟨_,rfl,?_⟩
 refine (callsIn_wide.1 (Tryz.slices_Sorted_keys_61_62 m _ D0 _ w hown (by unfold maxLen;omega) (by omega))).mono ?_
 rintro _ w' ⟨v,ss,rfl,hS,hrow,hnil,hb⟩
 have hw1:Sat R (MapAt m (fs.map flV)::Hs) (w.alloc (.cells #[.map (some m)] 77)):=(Sat.alloc _ hw).drop
 obtain ⟨s,rfl,h3⟩:=Sat.ownsRow hw1 hb hrow
 refine ⟨s,rfl,kk s _ ?_⟩
 have e:=sortI_eq hk (rise_nums k)
 rw [←sortI_perm (hperm ss hS)] at e
 rw [←e]
 exact h3
end Go.Proofs.YtlplemdmegpoeaaGreatDoor





/- Chapter 18: BookingBack. Condition: the sizes of what is handed. -/
namespace Go.Proofs.YtlplemdmegpoeaaGreatDoor
set_option linter.unusedVariables false
set_option linter.unusedSimpArgs false
open Go Go.VC
open Classical
variable {R:Cx} {Hs Rest:List HP} {w:World}
theorem bytes_app {a b:List Int} (h1:Bytes a) (h2:Bytes b):Bytes (a++b):=fun x hx=>(List.mem_append.1 hx).elim (h1 x) (h2 x)
theorem bytes_flat {α:Type} {f:α→List Int} {l:List α} (h:∀ x∈l,Bytes (f x)):Bytes (l.map f).flatten:=fun y hy=>by
 obtain ⟨r,h1,h2⟩:=List.mem_flatten.1 hy
 obtain ⟨x,hx,rfl⟩:=List.mem_map.1 h1
 exact h x hx y h2
theorem bytes_num {x:Int} (h:0≤x∧x<18446744073709551616):Bytes (numsB [x]):=numsB_bd fun y hy=>by rw [List.mem_singleton.1 hy];exact h
theorem bytes_flt {x:Nat} (h:x<18446744073709551616):Bytes (fltB x):=numB_bd (key_lt h)
end Go.Proofs.YtlplemdmegpoeaaGreatDoor
/- Requests and answers of sessions as bytes, plainly. No condition. -/
namespace Go.Proofs.YtlplemdmegpoeaaGreatDoor
set_option linter.unusedVariables false
set_option linter.unusedSimpArgs false
open Go Go.VC
open Classical
abbrev mI:Int:=1099511627776
structure Rq where
 kind:Int
 client:Int
 seq:Int
 token:Int
 cmd:List Int
def inI (n:Int):Prop:=0≤n∧n≤1099511627776
structure RightQ (q:Rq):Prop where
 client:inI q.client
 seq:inI q.seq
 token:inI q.token
 cmd:q.cmd.length≤4000
 kind:(q.kind=1∧q.client=0∧q.seq=0∧q.cmd.length=0)∨(q.kind=2∧q.token=0)∨(q.kind=3∧q.token=0∧q.seq=0∧q.cmd.length=0)∨(q.kind=4∧q.client=0∧q.seq=0∧q.token=0)
def rqB (q:Rq):List Int:=numsB [q.kind,q.client,q.seq,q.token]++textB q.cmd
def rqRd (m:Int) (r:Rd):Rq × Rd:=
 let k:=rdNum m r
 let c:=rdNum mI k.2
 let s:=rdNum mI c.2
 let t:=rdNum mI s.2
 let d:=rdText 4000 t.2
 (⟨k.1,c.1,s.1,t.1,d.1⟩,d.2)
def zeroQ:Rq:=⟨0,0,0,0,[]⟩
noncomputable def rqDec (m:Int) (bs:List Int):Rq × Int:=if rdWhole (rqRd m ⟨bs,false⟩).2=true∧RightQ (rqRd m ⟨bs,false⟩).1 then ((rqRd m ⟨bs,false⟩).1,0) else (zeroQ,6)
noncomputable def encQ (q:Rq):List Int × Int:=if RightQ q then (rqB q,0) else ([],1)
theorem RightQ.k4 {q:Rq} (h:RightQ q):1≤q.kind∧q.kind≤4:=by
 have:=h.kind
 omega
theorem rqB_len {q:Rq} (h:RightQ q):(rqB q).length≤5000:=by
 have h1:=h.k4
 obtain ⟨a1,a2⟩:=h.client
 obtain ⟨a3,a4⟩:=h.seq
 obtain ⟨a5,a6⟩:=h.token
 have h2:=h.cmd
 unfold rqB
 have l1:=numsB_len (l:=[q.kind,q.client,q.seq,q.token]) fun x hx=>by
  simp only [List.mem_cons,List.not_mem_nil,or_false] at hx
  rcases hx with rfl|rfl|rfl|rfl<;>omega
 have l2:=textB_len (d:=q.cmd) (by omega)
 rw [List.length_append]
 simp only [List.length_cons,List.length_nil] at l1
 omega
theorem numsB4 (a b c d:Int) (rest:List Int):numsB [a,b,c,d]++rest=numsB [a]++(numsB [b]++(numsB [c]++(numsB [d]++rest))):=by
 rw [show numsB [a,b,c,d]=numsB [a]++(numsB [b]++(numsB [c]++numsB [d])) by rw [numsB_one a,numsB_one b,numsB_one c]]
 simp only [List.append_assoc]
theorem rq_back {q:Rq} (h:RightQ q):rqRd mI ⟨rqB q,false⟩=(q,⟨[],false⟩):=by
 have h1:=h.k4
 obtain ⟨a1,a2⟩:=h.client
 obtain ⟨a3,a4⟩:=h.seq
 obtain ⟨a5,a6⟩:=h.token
 have h2:=h.cmd
 unfold rqRd rqB
 rw [numsB4]
 rw [rdNum_nums (by omega) (by show q.kind≤1099511627776;omega) (by omega)]
 dsimp only
 rw [rdNum_nums (by omega) (by show q.client≤1099511627776;omega) (by omega)]
 dsimp only
 rw [rdNum_nums (by omega) (by show q.seq≤1099511627776;omega) (by omega)]
 dsimp only
 rw [rdNum_nums (by omega) (by show q.token≤1099511627776;omega) (by omega)]
 dsimp only
 have:=rdText_code (d:=q.cmd) (rest:=[]) (most:=4000) (by omega) (by omega)
 rw [List.append_nil] at this
 rw [this]
theorem rqDec_back {q:Rq} (h:RightQ q):rqDec mI (rqB q)=(q,0):=by
 unfold rqDec
 rw [rq_back h,if_pos ⟨rfl,h⟩]
structure Told where
 code:Int
 client:Int
 seq:Int
 reply:List Int
def zeroT:Told:=⟨0,0,0,[]⟩
end Go.Proofs.YtlplemdmegpoeaaGreatDoor
/- The formulas of functions of this seat's translation, printed by a program of mine off the translation; each is proved equal to 'fnF' of the function's body, so it is enough for the call. No condition. -/
namespace Go.Proofs.YtlplemdmegpoeaaGreatDoor
open Go Go.VC
set_option linter.unusedVariables false
set_option maxRecDepth 10000
def B140 (C:Int) (D:Int) (E:Int) (F:Int) (m:Sl) (K:Value→World→Prop) (w:World):Prop:=
 New (.cells #[.int .i64 C,.int .i64 D,.int .i64 E,.int .i64 F,.slice m.a m.len m.cap] 58 (0,0)) (fun d j=>
 ∃ (o:World→Prop),(∃ y:Int,(At (fun b=>b=j) ⟨d,0 + 1,none⟩ [.int .i64 y])∧
 ∃ A:Int,(At (fun b=>b=j) ⟨d,0 + 2,none⟩ [.int .i64 A])∧
 ∃ p:Int,(At (fun b=>b=j) ⟨d,0 + 3,none⟩ [.int .i64 p])∧
 New (.cells #[.int .i64 y,.int .i64 A,.int .i64 p] 3 (0,0)) (fun G I=>
 Calls Tryz.prog 212 #[.slice ((some ⟨G,0,none⟩)) 3 3,.func (.func 211) #[] #[]] I fun H k=>
 ∃ q:Bool,(H=.returned (.bool q))∧
 Br q
 (K (.bool false) k)
 (∃ g:Sl,(At (fun b=>b=k) ⟨d,0 + 4,none⟩ [.slice g.a g.len g.cap])∧
 Br (decide ((↑g.len:Int)>4000))
 (K (.bool false) k)
 (o  k))) j)∧
 ∀ (J:Env)  (f:World),o  f→
 ∃ (l:Bool→World→Prop),(∃ r:Int,(At (fun b=>b=f) ⟨d,0 + 2,none⟩ [.int .i64 r])∧
 Br (r==0)
 (∃ i:Sl,(At (fun b=>b=f) ⟨d,0 + 4,none⟩ [.slice i.a i.len i.cap])∧
 l ((↑i.len:Int)==0) f)
 (l false f))∧
 ∀ (L:Env) (n:Bool) (c:World),l n c→
 ∃ e:Int,(At (fun b=>b=c) ⟨d,0,none⟩ [.int .i64 e])∧
 Br (e==1)
 (∃ s:Int,(At (fun b=>b=c) ⟨d,0 + 1,none⟩ [.int .i64 s])∧
 Br (s==0)
 (K (.bool n) c)
 (K (.bool false) c))
 (Br (e==2)
 (∃ t:Int,(At (fun b=>b=c) ⟨d,0 + 3,none⟩ [.int .i64 t])∧
 K (.bool (t==0)) c)
 (Br (e==3)
 (∃ u:Int,(At (fun b=>b=c) ⟨d,0 + 3,none⟩ [.int .i64 u])∧
 Br (u==0)
 (K (.bool n) c)
 (K (.bool false) c))
 (Br (e==4)
 (∃ v:Int,(At (fun b=>b=c) ⟨d,0 + 1,none⟩ [.int .i64 v])∧
 Br (v==0)
 (∃ x:Int,(At (fun b=>b=c) ⟨d,0 + 2,none⟩ [.int .i64 x])∧
 Br (x==0)
 (∃ z:Int,(At (fun b=>b=c) ⟨d,0 + 3,none⟩ [.int .i64 z])∧
 K (.bool (z==0)) c)
 (K (.bool false) c))
 (K (.bool false) c))
 (K (.bool false) c))))) w
def sk140:Sk:=(.seq .leaf (.seq .leaf (.cut [] [] [2,5,6,7,8,9,10,11,12,13,14,15,16,17,18,19] .leaf (.cut [4] [.bool] [4,20,21,22,23,24,25,26,27,28] .leaf .leaf))))
theorem call140 (c:Int) (d:Int) (e:Int) (f:Int) (b:Sl) (K:Value→World→Prop) (w:World) (h:B140 c d e f b K w):Gets Tryz.prog 140 #[.agg #[.int .i64 c,.int .i64 d,.int .i64 e,.int .i64 f,.slice b.a b.len b.cap]] w K:=cq (sk:=sk140) h Tryz.func140
def B211 (a:Int) (K:Value→World→Prop) (w:World):Prop:=
 Br (decide (a<0))
 (K (.bool true) w)
 (K (.bool (decide (a>1099511627776))) w)
theorem call211 (a:Int) (K:Value→World→Prop) (w:World) (h:B211 a K w):Gets Tryz.prog 211 #[.int .i64 a] w K:=cq (sk:=.leaf) h Tryz.func211
def B81 (i:Sl) (K:Value→World→Prop) (w:World):Prop:=
 ∃ (g:Sl→Int→World→Prop) (l:Sl→Int→World→Nat),(g ⟨none,0,0⟩ 0 w)∧∀ (q:Env) (b:Sl) (c:Int) (f:World),g b c f→
 Br (decide (c<(↑i.len:Int)))
 (Rng c i.len (NilP i.a fun m=>
 ∃ j:Int,(At (fun o=>o=f) (Addr.add m c.toNat) [.int .i64 j])∧
 Calls Tryz.prog 128 #[.int .u64 (IntKind.u64.wrap (if 0>j then 0 else j))] f fun n p=>
 ∃ d:Sl,(n=.returned (.slice d.a d.len d.cap))∧
 ∃ k:World,∃ e:Sl,((Builtin.append_ #[47,47] 47 #[.slice b.a b.len b.cap,.slice d.a d.len d.cap]).run Tryz.prog p=.ok (.slice e.a e.len e.cap) k)∧
 (g e (IntKind.i64.wrap (c + 1)) k)∧l e (IntKind.i64.wrap (c + 1)) k<l b c f))
 (K (.slice b.a b.len b.cap) f)
def sk81:Sk:=(.seq .leaf (.seq .leaf (.seq (.seq .leaf (.block (.loop [3,8] [.sl,(.int .i64)] [3,5,8,9,10,11,12,13,14,15,16,17,18] .leaf))) .leaf)))
theorem call81 (b:Sl) (K:Value→World→Prop) (w:World) (h:B81 b K w):Gets Tryz.prog 81 #[.slice b.a b.len b.cap] w K:=cq (sk:=sk81) h Tryz.func81
def B76 (A:Int) (C:Int) (D:Int) (E:Int) (j:Sl) (K:Value→World→Prop) (w:World):Prop:=
 New (.cells #[.int .i64 A,.int .i64 C,.int .i64 D,.int .i64 E,.slice j.a j.len j.cap] 58 (0,0)) (fun c u=>
 ∃ o:Int,∃ p:Int,∃ q:Int,∃ r:Int,∃ i:Sl,(At (fun J=>J=u) ⟨c,0,none⟩ [.int .i64 o,.int .i64 p,.int .i64 q,.int .i64 r,.slice i.a i.len i.cap])∧
 Calls Tryz.prog 140 #[.agg #[.int .i64 o,.int .i64 p,.int .i64 q,.int .i64 r,.slice i.a i.len i.cap]] u fun G v=>
 ∃ s:Bool,(G=.returned (.bool s))∧
 Br (!s)
 (K (.tuple #[.slice none 0 0,.int .i64 1]) v)
 (Drw v fun b L=>
 ∃ t:Int,(At b ⟨c,0,none⟩ [.int .i64 t])∧
 ∃ l:Int,(At b ⟨c,0 + 1,none⟩ [.int .i64 l])∧
 ∃ m:Int,(At b ⟨c,0 + 2,none⟩ [.int .i64 m])∧
 ∃ n:Int,(At b ⟨c,0 + 3,none⟩ [.int .i64 n])∧
 ∃ e:Sl,(At b ⟨c,0 + 4,none⟩ [.slice e.a e.len e.cap])∧
 New (.cells #[.int .i64 t,.int .i64 l,.int .i64 m,.int .i64 n] 3 (0,0)) (fun F x=>
 (b x)∧
 Calls Tryz.prog 81 #[.slice ((some ⟨F,0,none⟩)) 4 4] x fun H y=>
 ∃ d:Sl,(H=.returned (.slice d.a d.len d.cap))∧
 (b y)∧
 Calls Tryz.prog 83 #[.slice e.a e.len e.cap] y fun I z=>
 ∃ f:Sl,(I=.returned (.slice f.a f.len f.cap))∧
 (b z)∧
 ∃ k:World,∃ g:Sl,((Builtin.append_ #[47,47] 47 #[.slice d.a d.len d.cap,.slice f.a f.len f.cap]).run Tryz.prog z=.ok (.slice g.a g.len g.cap) k)∧
 (b k)∧
 K (.tuple #[.slice g.a g.len g.cap,.int .i64 0]) k) L)) w
theorem call76 (c:Int) (d:Int) (e:Int) (f:Int) (b:Sl) (K:Value→World→Prop) (w:World) (h:B76 c d e f b K w):Gets Tryz.prog 76 #[.agg #[.int .i64 c,.int .i64 d,.int .i64 e,.int .i64 f,.slice b.a b.len b.cap]] w K:=cq (sk:=.leaf) h Tryz.func76
def B92 (c:Option Addr) (K:Value→World→Prop) (w:World):Prop:=
 Calls Tryz.prog 93 #[.pointer c,.int .u64 1099511627776] w fun b d=>
 ∃ a:Int,(b=.returned (.int .u64 a))∧
 K (.int .i64 (IntKind.i64.wrap a)) d
theorem call92 (a:Option Addr) (K:Value→World→Prop) (w:World) (h:B92 a K w):Gets Tryz.prog 92 #[.pointer a] w K:=cq (sk:=.leaf) h Tryz.func92
def B71 (m:Sl) (K:Value→World→Prop) (w:World):Prop:=
 New (.cells #[.int .i64 0,.int .i64 0,.int .i64 0,.int .i64 0,.slice none 0 0] 58 (0,0)) (fun d aj=>
 Calls Tryz.prog 91 #[.slice m.a m.len m.cap] aj fun ab ak=>
 ∃ c:Option Addr,(ab=.returned (.pointer c))∧
 Calls Tryz.prog 92 #[.pointer c] ak fun ac al=>
 ∃ Y:Int,(ac=.returned (.int .i64 Y))∧
 Calls Tryz.prog 92 #[.pointer c] al fun ad am=>
 ∃ s:Int,(ad=.returned (.int .i64 s))∧
 Calls Tryz.prog 92 #[.pointer c] am fun ae an=>
 ∃ t:Int,(ae=.returned (.int .i64 t))∧
 Calls Tryz.prog 92 #[.pointer c] an fun af ao=>
 ∃ u:Int,(af=.returned (.int .i64 u))∧
 New (.cells #[.int .i64 0,.int .i64 0,.int .i64 0,.int .i64 0,.slice none 0 0] 58 (0,0)) (fun l ap=>
 ∃ aa:World,((Instr.storeAt 58 (.pointer ((some ⟨l,0,none⟩))) (.agg #[.int .i64 Y,.int .i64 s,.int .i64 t,.int .i64 u,.slice none 0 0])).run Tryz.prog ap=.ok () aa)∧
 Calls Tryz.prog 94 #[.pointer c,.int .i64 4000] aa fun ag aq=>
 ∃ e:Sl,(ag=.returned (.slice e.a e.len e.cap))∧
 ∃ Z:World,((Instr.storeAt 47 (.pointer ((some ⟨l,0 + 4,none⟩))) (.slice e.a e.len e.cap)).run Tryz.prog aq=.ok () Z)∧
 Calls Tryz.prog 96 #[.pointer c] Z fun ah n=>
 ∃ v:Bool,(ah=.returned (.bool v))∧
 Br (!v)
 (∃ o:World,((Instr.storeAt 58 (.pointer ((some ⟨d,0,none⟩))) (.agg #[.int .i64 0,.int .i64 0,.int .i64 0,.int .i64 0,.slice none 0 0])).run Tryz.prog n=.ok () o)∧
 ∃ H:Int,∃ I:Int,∃ O:Int,∃ Q:Int,∃ j:Sl,(At (fun b=>b=o) ⟨d,0,none⟩ [.int .i64 H,.int .i64 I,.int .i64 O,.int .i64 Q,.slice j.a j.len j.cap])∧
 K (.tuple #[.agg #[.int .i64 H,.int .i64 I,.int .i64 O,.int .i64 Q,.slice j.a j.len j.cap],.int .i64 6]) o)
 (∃ x:Int,∃ y:Int,∃ z:Int,∃ A:Int,∃ f:Sl,(At (fun b=>b=n) ⟨l,0,none⟩ [.int .i64 x,.int .i64 y,.int .i64 z,.int .i64 A,.slice f.a f.len f.cap])∧
 Calls Tryz.prog 140 #[.agg #[.int .i64 x,.int .i64 y,.int .i64 z,.int .i64 A,.slice f.a f.len f.cap]] n fun ai p=>
 ∃ C:Bool,(ai=.returned (.bool C))∧
 Br (!C)
 (∃ q:World,((Instr.storeAt 58 (.pointer ((some ⟨d,0,none⟩))) (.agg #[.int .i64 0,.int .i64 0,.int .i64 0,.int .i64 0,.slice none 0 0])).run Tryz.prog p=.ok () q)∧
 ∃ T:Int,∃ U:Int,∃ V:Int,∃ X:Int,∃ k:Sl,(At (fun b=>b=q) ⟨d,0,none⟩ [.int .i64 T,.int .i64 U,.int .i64 V,.int .i64 X,.slice k.a k.len k.cap])∧
 K (.tuple #[.agg #[.int .i64 T,.int .i64 U,.int .i64 V,.int .i64 X,.slice k.a k.len k.cap],.int .i64 6]) q)
 (∃ D:Int,∃ E:Int,∃ F:Int,∃ G:Int,∃ g:Sl,(At (fun b=>b=p) ⟨l,0,none⟩ [.int .i64 D,.int .i64 E,.int .i64 F,.int .i64 G,.slice g.a g.len g.cap])∧
 ∃ r:World,((Instr.storeAt 58 (.pointer ((some ⟨d,0,none⟩))) (.agg #[.int .i64 D,.int .i64 E,.int .i64 F,.int .i64 G,.slice g.a g.len g.cap])).run Tryz.prog p=.ok () r)∧
 ∃ J:Int,∃ L:Int,∃ M:Int,∃ N:Int,∃ i:Sl,(At (fun b=>b=r) ⟨d,0,none⟩ [.int .i64 J,.int .i64 L,.int .i64 M,.int .i64 N,.slice i.a i.len i.cap])∧
 K (.tuple #[.agg #[.int .i64 J,.int .i64 L,.int .i64 M,.int .i64 N,.slice i.a i.len i.cap],.int .i64 0]) r))) ao) w
theorem call71 (b:Sl) (K:Value→World→Prop) (w:World) (h:B71 b K w):Gets Tryz.prog 71 #[.slice b.a b.len b.cap] w K:=cq (sk:=.leaf) h Tryz.func71
def B22  (K:Value→World→Prop) (w:World):Prop:=
 Calls Tryz.prog 10 #[] w fun d e=>
 ∃ a:Option Addr,(d=.returned (.pointer a))∧
 New (.map #[] 0) (fun b f=>
 New (.cells #[.pointer a,.int .i64 1,.map ((some b))] 128 (0,0)) (fun c g=>
 K (.pointer ((some ⟨c,0,none⟩))) g) f) e
theorem call22  (K:Value→World→Prop) (w:World) (h:B22  K w):Gets Tryz.prog 22 #[] w K:=cq (sk:=.leaf) h Tryz.func22
def B72 (i:Int) (K:Value→World→Prop) (w:World):Prop:=
 New (.cells #[.int .i64 0,.int .i64 0,.int .i64 0,.slice none 0 0] 54 (0,0)) (fun d k=>
 ∃ c:World,((Instr.storeAt 54 (.pointer ((some ⟨d,0,none⟩))) (.agg #[.int .i64 i,.int .i64 0,.int .i64 0,.slice none 0 0])).run Tryz.prog k=.ok () c)∧
 ∃ e:Int,∃ f:Int,∃ g:Int,∃ b:Sl,(At (fun j=>j=c) ⟨d,0,none⟩ [.int .i64 e,.int .i64 f,.int .i64 g,.slice b.a b.len b.cap])∧
 K (.agg #[.int .i64 e,.int .i64 f,.int .i64 g,.slice b.a b.len b.cap]) c) w
theorem call72 (a:Int) (K:Value→World→Prop) (w:World) (h:B72 a K w):Gets Tryz.prog 72 #[.int .i64 a] w K:=cq (sk:=.leaf) h Tryz.func72
def B23 (J:Option Addr) (V:Sl) (K:Value→World→Prop) (w:World):Prop:=
 New (.cells #[.int .i64 0,.int .i64 0,.int .i64 0,.slice none 0 0] 54 (0,0)) (fun d dx=>
 Calls Tryz.prog 71 #[.slice V.a V.len V.cap] dx fun dl d2=>
 ∃ a7:Int,∃ ba:Int,∃ bb:Int,∃ bc:Int,∃ j:Sl,∃ X:Int,(dl=.returned (.tuple #[.agg #[.int .i64 a7,.int .i64 ba,.int .i64 bb,.int .i64 bc,.slice j.a j.len j.cap],.int .i64 X]))∧
 New (.cells #[.int .i64 0,.int .i64 0,.int .i64 0,.int .i64 0,.slice none 0 0] 58 (0,0)) (fun c d6=>
 ∃ f:World,((Instr.storeAt 58 (.pointer ((some ⟨c,0,none⟩))) (.agg #[.int .i64 a7,.int .i64 ba,.int .i64 bb,.int .i64 bc,.slice j.a j.len j.cap])).run Tryz.prog d6=.ok () f)∧
 Br (X !=0)
 (Calls Tryz.prog 72 #[.int .i64 X] f fun dm d9=>
 ∃ bh:Int,∃ bi:Int,∃ bj:Int,∃ p:Sl,(dm=.returned (.agg #[.int .i64 bh,.int .i64 bi,.int .i64 bj,.slice p.a p.len p.cap]))∧
 ∃ al:World,((Instr.storeAt 54 (.pointer ((some ⟨d,0,none⟩))) (.agg #[.int .i64 bh,.int .i64 bi,.int .i64 bj,.slice p.a p.len p.cap])).run Tryz.prog d9=.ok () al)∧
 ∃ cj:Int,∃ ck:Int,∃ cs:Int,∃ C:Sl,(At (fun b=>b=al) ⟨d,0,none⟩ [.int .i64 cj,.int .i64 ck,.int .i64 cs,.slice C.a C.len C.cap])∧
 K (.agg #[.int .i64 cj,.int .i64 ck,.int .i64 cs,.slice C.a C.len C.cap]) al)
 (∃ bk:Int,(At (fun b=>b=f) ⟨c,0,none⟩ [.int .i64 bk])∧
 Br (bk==4)
 (Calls Tryz.prog 72 #[.int .i64 1] f fun dp ea=>
 ∃ bl:Int,∃ bm:Int,∃ bn:Int,∃ q:Sl,(dp=.returned (.agg #[.int .i64 bl,.int .i64 bm,.int .i64 bn,.slice q.a q.len q.cap]))∧
 ∃ am:World,((Instr.storeAt 54 (.pointer ((some ⟨d,0,none⟩))) (.agg #[.int .i64 bl,.int .i64 bm,.int .i64 bn,.slice q.a q.len q.cap])).run Tryz.prog ea=.ok () am)∧
 ∃ c8:Int,∃ c9:Int,∃ da:Int,∃ G:Sl,(At (fun b=>b=am) ⟨d,0,none⟩ [.int .i64 c8,.int .i64 c9,.int .i64 da,.slice G.a G.len G.cap])∧
 K (.agg #[.int .i64 c8,.int .i64 c9,.int .i64 da,.slice G.a G.len G.cap]) am)
 (∃ bo:Int,(At (fun b=>b=f) ⟨c,0,none⟩ [.int .i64 bo])∧
 Br (bo==1)
 (∃ bp:Int,(At (fun b=>b=f) ⟨c,0 + 3,none⟩ [.int .i64 bp])∧
 Calls Tryz.prog 73 #[.pointer J,.int .i64 bp] f fun dq eb=>
 ∃ bq:Int,∃ br:Int,∃ bs:Int,∃ r:Sl,(dq=.returned (.agg #[.int .i64 bq,.int .i64 br,.int .i64 bs,.slice r.a r.len r.cap]))∧
 ∃ Z:World,((Instr.storeAt 54 (.pointer ((some ⟨d,0,none⟩))) (.agg #[.int .i64 bq,.int .i64 br,.int .i64 bs,.slice r.a r.len r.cap])).run Tryz.prog eb=.ok () Z)∧
 ∃ db:Int,∃ dc:Int,∃ cl:Int,∃ v:Sl,(At (fun b=>b=Z) ⟨d,0,none⟩ [.int .i64 db,.int .i64 dc,.int .i64 cl,.slice v.a v.len v.cap])∧
 K (.agg #[.int .i64 db,.int .i64 dc,.int .i64 cl,.slice v.a v.len v.cap]) Z)
 (Drw f fun Q dy=>
 NilP J fun ax=>
 ∃ bt:Option Nat,(At Q ⟨ax.block,ax.off + 2,none⟩ [.map bt])∧
 ∃ bu:Int,(At Q ⟨c,0 + 1,none⟩ [.int .i64 bu])∧
 ∃ e:Option Addr,∃ Y:Bool,(∀ b,Q b→((Instr.lookup 126 (.map bt) (.int .i64 bu) true)).run Tryz.prog b=.ok (.tuple #[.pointer e,.bool Y]) b)∧
 ∃ (L:Bool→World→Prop),(Drw dy fun T aa=>
 Br (!Y)
 (∃ bw:Int,(At T ⟨c,0 + 1,none⟩ [.int .i64 bw])∧
 Br (decide (bw ≥ 1))
 (∃ bx:Int,(At T ⟨c,0 + 1,none⟩ [.int .i64 bx])∧
 NilP J fun ay=>
 ∃ bz:Int,(At T ⟨ay.block,ay.off + 1,none⟩ [.int .i64 bz])∧
 L (decide (bx<bz)) aa)
 (L false aa))
 (L false aa))∧
 ∀ (ec:Env) (bv:Bool) (H:World),L bv H→
 Br bv
 (Calls Tryz.prog 72 #[.int .i64 10] H fun dr dz=>
 ∃ b0:Int,∃ b1:Int,∃ b2:Int,∃ s:Sl,(dr=.returned (.agg #[.int .i64 b0,.int .i64 b1,.int .i64 b2,.slice s.a s.len s.cap]))∧
 ∃ ab:World,((Instr.storeAt 54 (.pointer ((some ⟨d,0,none⟩))) (.agg #[.int .i64 b0,.int .i64 b1,.int .i64 b2,.slice s.a s.len s.cap])).run Tryz.prog dz=.ok () ab)∧
 ∃ cm:Int,∃ cn:Int,∃ co:Int,∃ x:Sl,(At (fun b=>b=ab) ⟨d,0,none⟩ [.int .i64 cm,.int .i64 cn,.int .i64 co,.slice x.a x.len x.cap])∧
 K (.agg #[.int .i64 cm,.int .i64 cn,.int .i64 co,.slice x.a x.len x.cap]) ab)
 (Br (!Y)
 (Calls Tryz.prog 72 #[.int .i64 2] H fun ds d0=>
 ∃ b3:Int,∃ b4:Int,∃ b5:Int,∃ t:Sl,(ds=.returned (.agg #[.int .i64 b3,.int .i64 b4,.int .i64 b5,.slice t.a t.len t.cap]))∧
 ∃ ac:World,((Instr.storeAt 54 (.pointer ((some ⟨d,0,none⟩))) (.agg #[.int .i64 b3,.int .i64 b4,.int .i64 b5,.slice t.a t.len t.cap])).run Tryz.prog d0=.ok () ac)∧
 ∃ cp:Int,∃ cq:Int,∃ cr:Int,∃ y:Sl,(At (fun b=>b=ac) ⟨d,0,none⟩ [.int .i64 cp,.int .i64 cq,.int .i64 cr,.slice y.a y.len y.cap])∧
 K (.agg #[.int .i64 cp,.int .i64 cq,.int .i64 cr,.slice y.a y.len y.cap]) ac)
 (∃ b6:Int,(At (fun b=>b=H) ⟨c,0,none⟩ [.int .i64 b6])∧
 Br (b6==3)
 (Drw H fun an d1=>
 NilP J fun az=>
 ∃ b7:Option Nat,(At an ⟨az.block,az.off + 2,none⟩ [.map b7])∧
 ∃ b8:Int,(At an ⟨c,0 + 1,none⟩ [.int .i64 b8])∧
 ∃ ad:World,((Builtin.delete_ #[126,3] 0 #[.map b7,.int .i64 b8]).run Tryz.prog d1=.ok (.tuple #[]) ad)∧
 ∃ b9:Int,(At (fun b=>b=ad) ⟨c,0 + 1,none⟩ [.int .i64 b9])∧
 ∃ ae:World,((Instr.storeAt 54 (.pointer ((some ⟨d,0,none⟩))) (.agg #[.int .i64 0,.int .i64 b9,.int .i64 0,.slice none 0 0])).run Tryz.prog ad=.ok () ae)∧
 ∃ ct:Int,∃ cu:Int,∃ cv:Int,∃ z:Sl,(At (fun b=>b=ae) ⟨d,0,none⟩ [.int .i64 ct,.int .i64 cu,.int .i64 cv,.slice z.a z.len z.cap])∧
 K (.agg #[.int .i64 ct,.int .i64 cu,.int .i64 cv,.slice z.a z.len z.cap]) ae)
 (Drw H fun ao dd=>
 ∃ ca:Int,(At ao ⟨c,0 + 2,none⟩ [.int .i64 ca])∧
 NilP e fun a0=>
 ∃ cb:Int,(At ao ⟨a0.block,a0.off + 1,none⟩ [.int .i64 cb])∧
 Br (decide (ca>IntKind.i64.wrap (cb + 1)))
 (Calls Tryz.prog 72 #[.int .i64 7] dd fun dt d3=>
 ∃ cc:Int,∃ cd:Int,∃ ce:Int,∃ u:Sl,(dt=.returned (.agg #[.int .i64 cc,.int .i64 cd,.int .i64 ce,.slice u.a u.len u.cap]))∧
 ∃ af:World,((Instr.storeAt 54 (.pointer ((some ⟨d,0,none⟩))) (.agg #[.int .i64 cc,.int .i64 cd,.int .i64 ce,.slice u.a u.len u.cap])).run Tryz.prog d3=.ok () af)∧
 ∃ cw:Int,∃ cx:Int,∃ cy:Int,∃ A:Sl,(At (fun b=>b=af) ⟨d,0,none⟩ [.int .i64 cw,.int .i64 cx,.int .i64 cy,.slice A.a A.len A.cap])∧
 K (.agg #[.int .i64 cw,.int .i64 cx,.int .i64 cy,.slice A.a A.len A.cap]) af)
 (∃ (O:Bool→World→Prop),(Drw dd fun U de=>
 ∃ cg:Int,(At U ⟨c,0 + 2,none⟩ [.int .i64 cg])∧
 NilP e fun a1=>
 ∃ ch:Int,(At U ⟨a1.block,a1.off + 1,none⟩ [.int .i64 ch])∧
 Br (decide (cg<ch))
 (O true de)
 (∃ ci:Int,(At U ⟨c,0 + 2,none⟩ [.int .i64 ci])∧
 O (ci==0) de))∧
 ∀ (ed:Env) (cf:Bool) (ag:World),O cf ag→
 Br cf
 (Calls Tryz.prog 72 #[.int .i64 11] ag fun du d4=>
 ∃ a2:Int,∃ a3:Int,∃ a4:Int,∃ g:Sl,(du=.returned (.agg #[.int .i64 a2,.int .i64 a3,.int .i64 a4,.slice g.a g.len g.cap]))∧
 ∃ ah:World,((Instr.storeAt 54 (.pointer ((some ⟨d,0,none⟩))) (.agg #[.int .i64 a2,.int .i64 a3,.int .i64 a4,.slice g.a g.len g.cap])).run Tryz.prog d4=.ok () ah)∧
 ∃ cz:Int,∃ c0:Int,∃ c1:Int,∃ D:Sl,(At (fun b=>b=ah) ⟨d,0,none⟩ [.int .i64 cz,.int .i64 c0,.int .i64 c1,.slice D.a D.len D.cap])∧
 K (.agg #[.int .i64 cz,.int .i64 c0,.int .i64 c1,.slice D.a D.len D.cap]) ah)
 (Drw ag fun ap df=>
 ∃ a5:Int,(At ap ⟨c,0 + 2,none⟩ [.int .i64 a5])∧
 NilP e fun aq=>
 ∃ a6:Int,(At ap ⟨aq.block,aq.off + 1,none⟩ [.int .i64 a6])∧
 Br (decide (a5>a6))
 (Drw df fun I d5=>
 ∃ a8:Int,(At I ⟨c,0 + 2,none⟩ [.int .i64 a8])∧
 ∃ i:Sl,(At I ⟨c,0 + 4,none⟩ [.slice i.a i.len i.cap])∧
 NilP J fun dk=>
 ∃ a9:Option Addr,(At I (Addr.add dk 0) [.pointer a9])∧
 Calls Tryz.prog 74 #[.slice i.a i.len i.cap,.func (.func 12) #[.pointer a9] #[]] d5 fun dv dg=>
 ∃ k:Sl,(dv=.returned (.slice k.a k.len k.cap))∧
 (I dg)∧
 NilP e fun ar=>
 ∃ ai:World,((Instr.storeAt 3 (.pointer ((some ⟨ar.block,ar.off + 1,none⟩))) (.int .i64 a8)).run Tryz.prog dg=.ok () ai)∧
 (I ai)∧
 NilP e fun au=>
 ∃ dh:World,((Instr.storeAt 47 (.pointer ((some ⟨au.block,au.off + 2,none⟩))) (.slice k.a k.len k.cap)).run Tryz.prog ai=.ok () dh)∧
 Drw dh fun M d7=>
 ∃ bd:Int,(At M ⟨c,0 + 1,none⟩ [.int .i64 bd])∧
 ∃ bf:Int,(At M ⟨c,0 + 2,none⟩ [.int .i64 bf])∧
 NilP e fun av=>
 ∃ l:Sl,(At M ⟨av.block,av.off + 2,none⟩ [.slice l.a l.len l.cap])∧
 Calls Tryz.prog 75 #[.slice l.a l.len l.cap] d7 fun dw di=>
 ∃ n:Sl,(dw=.returned (.slice n.a n.len n.cap))∧
 (M di)∧
 ∃ aj:World,((Instr.storeAt 54 (.pointer ((some ⟨d,0,none⟩))) (.agg #[.int .i64 0,.int .i64 bd,.int .i64 bf,.slice n.a n.len n.cap])).run Tryz.prog di=.ok () aj)∧
 ∃ c2:Int,∃ c3:Int,∃ c4:Int,∃ E:Sl,(At (fun b=>b=aj) ⟨d,0,none⟩ [.int .i64 c2,.int .i64 c3,.int .i64 c4,.slice E.a E.len E.cap])∧
 K (.agg #[.int .i64 c2,.int .i64 c3,.int .i64 c4,.slice E.a E.len E.cap]) aj)
 (Drw df fun N d8=>
 ∃ be:Int,(At N ⟨c,0 + 1,none⟩ [.int .i64 be])∧
 ∃ bg:Int,(At N ⟨c,0 + 2,none⟩ [.int .i64 bg])∧
 NilP e fun aw=>
 ∃ m:Sl,(At N ⟨aw.block,aw.off + 2,none⟩ [.slice m.a m.len m.cap])∧
 Calls Tryz.prog 75 #[.slice m.a m.len m.cap] d8 fun dn dj=>
 ∃ o:Sl,(dn=.returned (.slice o.a o.len o.cap))∧
 (N dj)∧
 ∃ ak:World,((Instr.storeAt 54 (.pointer ((some ⟨d,0,none⟩))) (.agg #[.int .i64 0,.int .i64 be,.int .i64 bg,.slice o.a o.len o.cap])).run Tryz.prog dj=.ok () ak)∧
 ∃ c5:Int,∃ c6:Int,∃ c7:Int,∃ F:Sl,(At (fun b=>b=ak) ⟨d,0,none⟩ [.int .i64 c5,.int .i64 c6,.int .i64 c7,.slice F.a F.len F.cap])∧
 K (.agg #[.int .i64 c5,.int .i64 c6,.int .i64 c7,.slice F.a F.len F.cap]) ak)))))))))) d2) w
def sk23:Sk:=(.seq .leaf (.seq .leaf (.seq .leaf (.seq .leaf (.seq (.block (.cut [42] [.bool] [42,43,44,45,46,47,48,49,50,51,52,53,54,55,56,57,58] .leaf (.cond .leaf (.seq .leaf (.cond .leaf (.seq .leaf (.cond .leaf (.seq .leaf (.cond .leaf (.cut [87] [.bool] [87,88,89,90,91,92,93,94,95,96,97,98,99] .leaf .leaf)))))))))) .leaf)))))
theorem call23 (c:Option Addr) (b:Sl) (K:Value→World→Prop) (w:World) (h:B23 c b K w):Gets Tryz.prog 23 #[.pointer c,.slice b.a b.len b.cap] w K:=cq (sk:=sk23) h Tryz.func23
def B73 (d:Option Addr) (T:Int) (K:Value→World→Prop) (w:World):Prop:=
 New (.cells #[.int .i64 0,.int .i64 0,.int .i64 0,.slice none 0 0] 54 (0,0)) (fun e ae=>
 NilP d fun A=>
 ∃ C:Option Nat,(At (fun b=>b=ae) ⟨A.block,A.off + 2,none⟩ [.map C])∧
 ∃ af:World,∃ k:Option Addr,((Instr.range 126 (.map C)).run Tryz.prog ae=.ok (.pointer k) af)∧
 ∃ (m:World→Prop) (ah:World→Nat),(m  af)∧∀ (ap:Env)  (l:World),m  l→
 ∃ c:World,(((Instr.next (.pointer k) false 0).run Tryz.prog l=.ok (.tuple #[.bool false]) c)∧
 NilP d fun t=>
 ∃ G:Option Nat,(At (fun b=>b=c) ⟨t.block,t.off + 2,none⟩ [.map G])∧
 ∃ H:Int,(∀ b,(fun b=>b=c) b→((Builtin.len_ #[126] 3 #[.map G])).run Tryz.prog b=.ok (.int .i64 H) b)∧
 Br (decide (H ≥ 64))
 (Calls Tryz.prog 72 #[.int .i64 3] c fun ak an=>
 ∃ I:Int,∃ J:Int,∃ L:Int,∃ f:Sl,(ak=.returned (.agg #[.int .i64 I,.int .i64 J,.int .i64 L,.slice f.a f.len f.cap]))∧
 ∃ r:World,((Instr.storeAt 54 (.pointer ((some ⟨e,0,none⟩))) (.agg #[.int .i64 I,.int .i64 J,.int .i64 L,.slice f.a f.len f.cap])).run Tryz.prog an=.ok () r)∧
 ∃ U:Int,∃ V:Int,∃ aa:Int,∃ i:Sl,(At (fun b=>b=r) ⟨e,0,none⟩ [.int .i64 U,.int .i64 V,.int .i64 aa,.slice i.a i.len i.cap])∧
 K (.agg #[.int .i64 U,.int .i64 V,.int .i64 aa,.slice i.a i.len i.cap]) r)
 (Drw c fun n ao=>
 NilP d fun u=>
 ∃ M:Option Nat,(At n ⟨u.block,u.off + 2,none⟩ [.map M])∧
 NilP d fun v=>
 ∃ N:Int,(At n ⟨v.block,v.off + 1,none⟩ [.int .i64 N])∧
 New (.cells #[.int .i64 T,.int .i64 0,.slice none 0 0] 134 (0,0)) (fun aj ag=>
 (n ag)∧
 ∃ s:World,((Instr.mapUpdate 126 (.map M) (.int .i64 N) (.pointer ((some ⟨aj,0,none⟩)))).run Tryz.prog ag=.ok () s)∧
 NilP d fun x=>
 ∃ O:Int,(At (fun b=>b=s) ⟨x.block,x.off + 1,none⟩ [.int .i64 O])∧
 NilP d fun y=>
 ∃ o:World,((Instr.storeAt 3 (.pointer ((some ⟨y.block,y.off + 1,none⟩))) (.int .i64 (IntKind.i64.wrap (O + 1)))).run Tryz.prog s=.ok () o)∧
 NilP d fun z=>
 ∃ Q:Int,(At (fun b=>b=o) ⟨z.block,z.off + 1,none⟩ [.int .i64 Q])∧
 ∃ p:World,((Instr.storeAt 54 (.pointer ((some ⟨e,0,none⟩))) (.agg #[.int .i64 0,.int .i64 (IntKind.i64.wrap (Q - 1)),.int .i64 0,.slice none 0 0])).run Tryz.prog o=.ok () p)∧
 ∃ ab:Int,∃ ac:Int,∃ ad:Int,∃ j:Sl,(At (fun b=>b=p) ⟨e,0,none⟩ [.int .i64 ab,.int .i64 ac,.int .i64 ad,.slice j.a j.len j.cap])∧
 K (.agg #[.int .i64 ab,.int .i64 ac,.int .i64 ad,.slice j.a j.len j.cap]) p) ao))∨
 (∃ al:Value,∃ am:Value,((Instr.next (.pointer k) false 0).run Tryz.prog l=.ok (.tuple #[.bool true,al,am]) c)∧
 ∃ D:Int,∃ E:Option Addr,(∀ b,(fun b=>b=c) b→((Instr.entry (.pointer k))).run Tryz.prog b=.ok (.tuple #[.int .i64 D,.pointer E]) b)∧
 NilP E fun ai=>
 ∃ F:Int,(At (fun b=>b=c) (Addr.add ai 0) [.int .i64 F])∧
 Br (F==T)
 (∃ q:World,((Instr.storeAt 54 (.pointer ((some ⟨e,0,none⟩))) (.agg #[.int .i64 0,.int .i64 D,.int .i64 0,.slice none 0 0])).run Tryz.prog c=.ok () q)∧
 ∃ X:Int,∃ Y:Int,∃ Z:Int,∃ g:Sl,(At (fun b=>b=q) ⟨e,0,none⟩ [.int .i64 X,.int .i64 Y,.int .i64 Z,.slice g.a g.len g.cap])∧
 K (.agg #[.int .i64 X,.int .i64 Y,.int .i64 Z,.slice g.a g.len g.cap]) q)
 ((m  c)∧ah  c<ah  l))) w
def sk73:Sk:=(.seq .leaf (.seq (.seq .leaf (.block (.loop [] [] [5,6,12,13,14,15,16,17,18,19,20,21,22,23,24] .leaf))) .leaf))
theorem call73 (a:Option Addr) (b:Int) (K:Value→World→Prop) (w:World) (h:B73 a b K w):Gets Tryz.prog 73 #[.pointer a,.int .i64 b] w K:=cq (sk:=sk73) h Tryz.func73
def B24 (k:Int) (l:Int) (m:Int) (n:Int) (d:Sl) (K:Value→World→Prop) (w:World):Prop:=
 New (.cells #[.int .i64 k,.int .i64 l,.int .i64 m,.int .i64 n,.slice d.a d.len d.cap] 58 (0,0)) (fun o j=>
 ∃ e:Int,∃ f:Int,∃ g:Int,∃ i:Int,∃ b:Sl,(At (fun r=>r=j) ⟨o,0,none⟩ [.int .i64 e,.int .i64 f,.int .i64 g,.int .i64 i,.slice b.a b.len b.cap])∧
 Calls Tryz.prog 76 #[.agg #[.int .i64 e,.int .i64 f,.int .i64 g,.int .i64 i,.slice b.a b.len b.cap]] j fun p s=>
 ∃ c:Sl,∃ q:Int,(p=.returned (.tuple #[.slice c.a c.len c.cap,.int .i64 q]))∧
 K (.slice c.a c.len c.cap) s) w
theorem call24 (c:Int) (d:Int) (e:Int) (f:Int) (b:Sl) (K:Value→World→Prop) (w:World) (h:B24 c d e f b K w):Gets Tryz.prog 24 #[.agg #[.int .i64 c,.int .i64 d,.int .i64 e,.int .i64 f,.slice b.a b.len b.cap]] w K:=cq (sk:=.leaf) h Tryz.func24
def B20  (K:Value→World→Prop) (w:World):Prop:=
 Calls Tryz.prog 22 #[] w fun o n=>
 ∃ f:Option Addr,(o=.returned (.pointer f))∧
 Br f.isNone
 (K (.bool false) n)
 (Calls Tryz.prog 24 #[.agg #[.int .i64 1,.int .i64 0,.int .i64 0,.int .i64 9,.slice none 0 0]] n fun p r=>
 ∃ b:Sl,(p=.returned (.slice b.a b.len b.cap))∧
 Calls Tryz.prog 23 #[.pointer f,.slice b.a b.len b.cap] r fun q s=>
 ∃ k:Int,∃ l:Int,∃ m:Int,∃ c:Sl,(q=.returned (.agg #[.int .i64 k,.int .i64 l,.int .i64 m,.slice c.a c.len c.cap]))∧
 New (.cells #[.int .i64 0,.int .i64 0,.int .i64 0,.slice none 0 0] 54 (0,0)) (fun e t=>
 ∃ d:World,((Instr.storeAt 54 (.pointer ((some ⟨e,0,none⟩))) (.agg #[.int .i64 k,.int .i64 l,.int .i64 m,.slice c.a c.len c.cap])).run Tryz.prog t=.ok () d)∧
 ∃ i:Int,(At (fun g=>g=d) ⟨e,0,none⟩ [.int .i64 i])∧
 Br (i==0)
 (∃ j:Int,(At (fun g=>g=d) ⟨e,0 + 1,none⟩ [.int .i64 j])∧
 K (.bool (j==1)) d)
 (K (.bool false) d)) s)
theorem call20  (K:Value→World→Prop) (w:World) (h:B20  K w):Gets Tryz.prog 20 #[] w K:=cq (sk:=.leaf) h Tryz.func20
end Go.Proofs.YtlplemdmegpoeaaGreatDoor
/- Package session: requests and answers as bytes. Condition: bounds on lengths. -/
namespace Go.Proofs.YtlplemdmegpoeaaGreatDoor
set_option linter.unusedVariables false
set_option linter.unusedSimpArgs false
open Go Go.VC
open Classical
variable {R:Cx} {Hs Rest:List HP} {w:World}
abbrev rqV (q:Rq) (s:Sl):List Value:=[.int .i64 q.kind,.int .i64 q.client,.int .i64 q.seq,.int .i64 q.token,.slice s.a s.len s.cap]
abbrev rqC (b:Nat) (q:Rq) (s:Sl):HP:=pts b (.cells (rqV q s).toArray 58 (0,0))
abbrev tdV (t:Told) (s:Sl):List Value:=[.int .i64 t.code,.int .i64 t.client,.int .i64 t.seq,.slice s.a s.len s.cap]
abbrev tdC (b:Nat) (t:Told) (s:Sl):HP:=pts b (.cells (tdV t s).toArray 54 (0,0))
abbrev nilS:Sl:=⟨none,0,0⟩
theorem snums_spec {s:Sl} {xs:List Int} (hxs:∀ x∈xs,x<9223372036854775808) (hl:9 * xs.length≤1099511627776) (hs:RoI R s xs) (hw:Sat R Hs w):
  Gets Tryz.prog 81 #[.slice s.a s.len s.cap] w fun v w'=>∃ t:Sl,v=.slice t.a t.len t.cap∧Sat R (Own t 5 (b8 (numsB (xs.map nn)))::Hs) w':=by
 have hlen:=hs.len
 apply call81
 refine ⟨fun out i w=>∃ k:Nat,i=k∧k≤xs.length∧Sat R (Own out 5 (b8 (numsB ((xs.take k).map nn)))::Hs) w,fun _ i _=>xs.length - i.toNat,⟨0,rfl,by omega,Own.nil hw⟩,?_⟩
 clear hw
 rintro _ out _ w ⟨k,rfl,hk,hw⟩
 refine Br.d (fun h=>?_) (fun h=>?_)
 ·have hkx:k<xs.length:=by omega
  have hx:=nn_bd (hxs xs[k] (List.getElem_mem _))
  have hxt:∀ x∈(xs.take k).map nn,0≤x∧x<18446744073709551616:=fun x hx=>by
   obtain ⟨y,hy,rfl⟩:=List.mem_map.1 hx
   have:=nn_bd (hxs y (List.mem_of_mem_take hy));omega
  have hnl:=numsB_len hxt
  rw [List.length_map,List.length_take] at hnl
  refine Ro.ix hs (eqS hw) k rfl hkx ?_
  rw [nn_if]
  obtain ⟨n,hn⟩:=Int.eq_ofNat_of_zero_le hx.1
  rw [hn,wrapU64 (by omega) (by omega)]
  refine (number_spec (by omega) hw).use ?_
  rintro _ w ⟨t,rfl,hw⟩
  refine ⟨t,rfl,?_⟩
  have hnb:=numB_len (n:=n) (by omega)
  refine app8 (by omega) hw fun s2 w hw=>?_
  rw [wrap64 (by omega) (by omega)]
  refine ⟨⟨k + 1,by omega,by omega,?_⟩,by dsimp only;omega⟩
  have e:(xs.take (k + 1)).map nn=(xs.take k).map nn++[nn xs[k]]:=by rw [List.take_add_one,List.getElem?_eq_getElem hkx,List.map_append];rfl
  rw [e,numsB_app,show numsB [nn xs[k]]=numB (nn xs[k]).toNat by simp [numsB],hn,Int.toNat_natCast]
  exact hw
 ·rw [List.take_of_length_le (l:=xs) (by omega)] at hw
  exact ⟨out,rfl,hw⟩
theorem slit_spec {b n:Nat} {xs:List Int} (hn:n=xs.length) (hxs:∀ x∈xs,x<9223372036854775808) (hl:9 * xs.length≤1099511627776) (hw:Sat R (pts b (.cells (intsI xs).toArray 3 (0,0))::Hs) w):
  Gets Tryz.prog 81 #[.slice (some ⟨b,0,none⟩) n n] w fun v w'=>∃ t:Sl,v=.slice t.a t.len t.cap∧Sat R (Own t 5 (b8 (numsB (xs.map nn)))::Hs) w':=by
 have hw:Sat R (Own ⟨some ⟨b,0,none⟩,n,n⟩ 3 (intsI xs)::Hs) w:=own_lit hw (by rw [List.length_map];exact hn)
 obtain ⟨R',hr,_,hw,back⟩:=Own.lendI hw (by omega)
 refine (snums_spec hxs hl hr hw).use ?_
 rintro _ w ⟨t,rfl,hw⟩
 exact ⟨_,rfl,t,rfl,(back hw).swap.cons fun _ h=>h.drop⟩
theorem sodd_spec {n:Int} (hw:Sat R Hs w):Gets Tryz.prog 211 #[.int .i64 n] w fun v w'=>v=.bool (!decide (inI n))∧Sat R Hs w':=by
 apply call211
 refine Br.d (fun h=>⟨?_,hw⟩) (fun h=>⟨?_,hw⟩)
 ·rw [decide_eq_false (p:=inI n) (fun h2=>by unfold inI at h2;omega)];rfl
 ·by_cases h2:n>1099511627776
  ·rw [decide_eq_true h2,decide_eq_false (p:=inI n) (fun h3=>by unfold inI at h3;omega)];rfl
  ·rw [decide_eq_false h2,decide_eq_true (p:=inI n) ⟨by omega,by omega⟩];rfl
theorem srightQ_spec {q:Rq} {s:Sl} (hs:s.len=q.cmd.length) (hw:Sat R Hs w):
  Gets Tryz.prog 140 #[.agg #[.int .i64 q.kind,.int .i64 q.client,.int .i64 q.seq,.int .i64 q.token,.slice s.a s.len s.cap]] w fun v w'=>v=.bool (decide (RightQ q))∧Sat R Hs w':=by
 apply call140
 refine new_rule hw fun b w hw=>?_
 have hw:Sat R (rqC b q s::Hs) w:=hw
 have no:¬ RightQ q→∀ {w},Sat R (rqC b q s::Hs) w→(Value.bool false=.bool (decide (RightQ q))∧Sat R Hs w):=fun h w hw=>⟨by rw [decide_eq_false h],hw.drop⟩
 refine ⟨fun w=>((inI q.client∧inI q.seq∧inI q.token)∧q.cmd.length≤4000)∧Sat R (rqC b q s::Hs) w,?_,?_⟩
 ·refine ⟨q.client,At.own (eqS hw) (by exact ⟨rfl,trivial⟩),q.seq,At.own (eqS hw) (by exact ⟨rfl,trivial⟩),q.token,At.own (eqS hw) (by exact ⟨rfl,trivial⟩),?_⟩
  refine new_rule hw fun b2 w hw=>?_
  have hw:Sat R (Own ⟨some ⟨b2,0,none⟩,3,3⟩ 3 (intsI [q.client,q.seq,q.token])::rqC b q s::Hs) w:=own_lit hw
  obtain ⟨R',hr,_,hw,back⟩:=Own.lendI hw (by simp)
  refine (contF_spec (p:=fun n=>!decide (inI n)) (s:=⟨some ⟨b2,0,none⟩,3,3⟩) hr (fun x w hw=>CalW.mk (by kernel_rfl) ((sodd_spec hw).use fun v w h=>⟨by rw [h.1],h.2⟩)) hw).use ?_
  clear hw
  rintro _ w ⟨rfl,hw⟩
  have hw:=(back hw).drop
  refine ⟨_,rfl,Br.mk (fun h=>no (fun hq=>?_) hw) (fun h=>?_)⟩
  ·have h1:=hq.client
   have h2:=hq.seq
   have h3:=hq.token
   simp [h1,h2,h3] at h
  ·have hI:inI q.client∧inI q.seq∧inI q.token:=by simpa using h
   refine ⟨s,At.own (eqS hw) (by exact ⟨rfl,trivial⟩),Br.d (fun h2=>no (fun hq=>by have:=hq.cmd;omega) hw) (fun h2=>⟨⟨hI,by omega⟩,hw⟩)⟩
 clear hw
 rintro _ w ⟨⟨⟨h1,h2,h3⟩,h4⟩,hw⟩
 refine ⟨fun t w=>t=decide (q.seq=0∧q.cmd.length=0)∧Sat R (rqC b q s::Hs) w,?_,?_⟩
 ·refine ⟨q.seq,At.own (eqS hw) (by exact ⟨rfl,trivial⟩),Br.e (fun h5=>?_) (fun h5=>⟨by rw [decide_eq_false (by omega)],hw⟩)⟩
  refine ⟨s,At.own (eqS hw) (by exact ⟨rfl,trivial⟩),?_,hw⟩
  show decide ((s.len:Int)=0)=_
  exact decide_eq_decide.2 (by omega)
 clear hw
 rintro _ _ w ⟨rfl,hw⟩
 have fin:∀ {p:Prop} {i:Decidable p},(p↔RightQ q)→(Value.bool (@decide p i)=.bool (decide (RightQ q))∧Sat R Hs w):=fun h=>⟨by congr 1;exact decide_eq_decide.2 h,hw.drop⟩
 have mk:∀ (hk:(q.kind=1∧q.client=0∧q.seq=0∧q.cmd.length=0)∨(q.kind=2∧q.token=0)∨(q.kind=3∧q.token=0∧q.seq=0∧q.cmd.length=0)∨(q.kind=4∧q.client=0∧q.seq=0∧q.token=0)),RightQ q:=fun hk=>⟨h1,h2,h3,h4,hk⟩
 refine ⟨q.kind,At.own (eqS hw) (by exact ⟨rfl,trivial⟩),Br.e (fun k=>?_) (fun k1=>?_)⟩
 ·refine ⟨q.client,At.own (eqS hw) (by exact ⟨rfl,trivial⟩),Br.e (fun h5=>fin ?_) (fun h5=>no (fun hq=>by have:=hq.kind;omega) hw)⟩
  exact ⟨fun h6=>mk (by omega),fun hq=>by have:=hq.kind;omega⟩
 refine Br.e (fun k=>?_) (fun k2=>?_)
 ·refine ⟨q.token,At.own (eqS hw) (by exact ⟨rfl,trivial⟩),fin (p:=q.token=0) ?_⟩
  exact ⟨fun h6=>mk (by omega),fun hq=>by have:=hq.kind;omega⟩
 refine Br.e (fun k=>?_) (fun k3=>?_)
 ·refine ⟨q.token,At.own (eqS hw) (by exact ⟨rfl,trivial⟩),Br.e (fun h5=>fin ?_) (fun h5=>no (fun hq=>by have:=hq.kind;omega) hw)⟩
  exact ⟨fun h6=>mk (by omega),fun hq=>by have:=hq.kind;omega⟩
 refine Br.e (fun k=>?_) (fun k4=>no (fun hq=>by have:=hq.kind;omega) hw)
 refine ⟨q.client,At.own (eqS hw) (by exact ⟨rfl,trivial⟩),Br.e (fun h5=>?_) (fun h5=>no (fun hq=>by have:=hq.kind;omega) hw)⟩
 refine ⟨q.seq,At.own (eqS hw) (by exact ⟨rfl,trivial⟩),Br.e (fun h6=>?_) (fun h6=>no (fun hq=>by have:=hq.kind;omega) hw)⟩
 refine ⟨q.token,At.own (eqS hw) (by exact ⟨rfl,trivial⟩),fin (p:=q.token=0) ?_⟩
 exact ⟨fun h7=>mk (by omega),fun hq=>by have:=hq.kind;omega⟩
theorem nnq {q:Rq} (h:RightQ q):[q.kind,q.client,q.seq,q.token].map nn=[q.kind,q.client,q.seq,q.token]:=by
 have h1:=h.k4
 obtain ⟨a1,a2⟩:=h.client
 obtain ⟨a3,a4⟩:=h.seq
 obtain ⟨a5,a6⟩:=h.token
 show [nn q.kind,nn q.client,nn q.seq,nn q.token]=_
 rw [nn_id (by omega),nn_id a1,nn_id a3,nn_id a5]
theorem senc_spec {q:Rq} {s:Sl} (hs:Ro R s (b8 q.cmd)) (hw:Sat R Hs w):
  Gets Tryz.prog 76 #[.agg #[.int .i64 q.kind,.int .i64 q.client,.int .i64 q.seq,.int .i64 q.token,.slice s.a s.len s.cap]] w fun v w'=>
   ∃ t:Sl,v=.tuple #[.slice t.a t.len t.cap,.int .i64 (encQ q).2]∧Sat R (Own t 5 (b8 (encQ q).1)::Hs) w':=by
 have hslen:s.len=q.cmd.length:=by have:=hs.len;simpa using this
 apply call76
 refine new_rule hw fun b w hw=>?_
 have hw:Sat R (rqC b q s::Hs) w:=hw
 refine ⟨q.kind,q.client,q.seq,q.token,s,At.own (eqS hw) (by exact ⟨rfl,rfl,rfl,rfl,rfl,trivial⟩),?_⟩
 refine (srightQ_spec hslen hw).use ?_
 clear hw
 rintro _ w ⟨rfl,hw⟩
 refine ⟨_,rfl,Br.nd (fun h=>?_) (fun h=>?_)⟩
 ·unfold encQ
  rw [if_neg h]
  exact ⟨nilS,rfl,Own.nil hw.drop⟩
 have h1:=h.k4
 obtain ⟨a1,a2⟩:=h.client
 obtain ⟨a3,a4⟩:=h.seq
 obtain ⟨a5,a6⟩:=h.token
 have h2:=h.cmd
 refine drw_rule' (Sat R [rqC b q s,VC.tru]) hw (fun w hw=>hw.restTru2) fun w hw=>?_
 refine ⟨q.kind,At.own (fun _ h=>h) (by exact ⟨rfl,trivial⟩),q.client,At.own (fun _ h=>h) (by exact ⟨rfl,trivial⟩),q.seq,At.own (fun _ h=>h) (by exact ⟨rfl,trivial⟩),q.token,At.own (fun _ h=>h) (by exact ⟨rfl,trivial⟩),s,At.own (fun _ h=>h) (by exact ⟨rfl,trivial⟩),?_⟩
 refine new_rule hw fun b2 w hw=>⟨hw.swap.restTru2,?_⟩
 refine (slit_spec (xs:=[q.kind,q.client,q.seq,q.token]) rfl (fun x hx=>by
  simp only [List.mem_cons,List.not_mem_nil,or_false] at hx
  omega) (by simp) hw).use ?_
 clear hw
 rintro _ w ⟨t1,rfl,hw⟩
 rw [nnq h] at hw
 refine ⟨t1,rfl,hw.swap.restTru2,?_⟩
 refine (ftext_spec hs (by omega) hw).use ?_
 clear hw
 rintro _ w ⟨t2,rfl,hw⟩
 refine ⟨t2,rfl,(hw.arr (Hs':=rqC b q s::Own t2 5 (b8 (textB q.cmd))::Own t1 5 (b8 (numsB [q.kind,q.client,q.seq,q.token]))::Hs)).restTru2,?_⟩
 have l1:=numsB_len (l:=[q.kind,q.client,q.seq,q.token]) fun x hx=>by
  simp only [List.mem_cons,List.not_mem_nil,or_false] at hx
  rcases hx with rfl|rfl|rfl|rfl<;>omega
 have l2:=textB_len (d:=q.cmd) (by omega)
 simp only [List.length_cons,List.length_nil] at l1
 refine app8 (by omega) hw fun t w hw=>⟨hw.swap.restTru2,t,?_,?_⟩
 ·unfold encQ;rw [if_pos h]
 ·unfold encQ;rw [if_pos h]
  exact hw.cons fun _ h=>h.drop
end Go.Proofs.YtlplemdmegpoeaaGreatDoor
/- Package session: Decode, Read. Condition: bounds on lengths. -/
namespace Go.Proofs.YtlplemdmegpoeaaGreatDoor
set_option linter.unusedVariables false
set_option linter.unusedSimpArgs false
open Go Go.VC
open Classical
variable {R:Cx} {Hs Rest:List HP} {w:World}
theorem snum_spec {r:Nat} {rd:Rd} (hb:Bytes rd.bs) (hw:Sat R (RdAt r rd::Hs) w):
  Gets Tryz.prog 92 #[.pointer (some ⟨r,0,none⟩)] w fun v w'=>v=.int .i64 (rdNum mI rd).1∧Sat R (RdAt r (rdNum mI rd).2::Hs) w':=by
 have hv:=rdNum_val (most:=mI) hb (by decide)
 apply call92
 refine (rnum_spec (most:=mI) hb hw).use ?_
 rintro _ w ⟨rfl,hw⟩
 refine ⟨_,rfl,?_,hw⟩
 have:(rdNum mI rd).1≤1099511627776:=hv.2
 rw [wrap64 (by omega) (by omega)]
abbrev rqNew (b:Nat):HP:=rqC b zeroQ nilS
set_option maxHeartbeats 1000000 in
theorem sdec_spec {s:Sl} {bs:List Int} (hb:Bytes bs) (hl:bs.length≤1099511627776) (hs:Ro R s (b8 bs)) (hw:Sat R Hs w):
  Gets Tryz.prog 71 #[.slice s.a s.len s.cap] w fun v w'=>∃ t:Sl,v=.tuple #[.agg (rqV (rqDec mI bs).1 t).toArray,.int .i64 (rqDec mI bs).2]∧Sat R (Own t 5 (b8 (rqDec mI bs).1.cmd)::Hs) w':=by
 apply call71
 have b0:Bytes (⟨bs,false⟩:Rd).bs:=hb
 have l0:(⟨bs,false⟩:Rd).bs.length≤1099511627776:=hl
 obtain ⟨rd0,e0⟩:∃ rd:Rd,rd=⟨bs,false⟩:=⟨_,rfl⟩
 rw [←e0] at b0 l0
 refine new_rule hw fun b2 w hw=>?_
 have hw:Sat R (rqNew b2::Hs) w:=hw
 refine (fnew_spec hs hl hw).use ?_
 clear hw
 rintro _ w ⟨r,rfl,hw⟩
 refine ⟨_,rfl,?_⟩
 rw [←e0] at hw
 have b1:=rdNum_bd (most:=mI) b0
 have l1:(rdNum mI rd0).2.bs.length≤1099511627776:=Nat.le_trans rdNum_len l0
 obtain ⟨k,rd1,e1⟩:∃ y rd,rdNum mI rd0=(y,rd):=⟨_,_,rfl⟩
 refine (snum_spec b0 hw).use ?_
 clear hw
 rintro _ w ⟨rfl,hw⟩
 rw [e1] at b1 l1 hw ⊢
 dsimp only at b1 l1 hw ⊢
 refine ⟨_,rfl,?_⟩
 have b2':=rdNum_bd (most:=mI) b1
 have l2:(rdNum mI rd1).2.bs.length≤1099511627776:=Nat.le_trans rdNum_len l1
 obtain ⟨c,rd2,e2⟩:∃ y rd,rdNum mI rd1=(y,rd):=⟨_,_,rfl⟩
 refine (snum_spec b1 hw).use ?_
 clear hw
 rintro _ w ⟨rfl,hw⟩
 rw [e2] at b2' l2 hw ⊢
 dsimp only at b2' l2 hw ⊢
 refine ⟨_,rfl,?_⟩
 have b3:=rdNum_bd (most:=mI) b2'
 have l3:(rdNum mI rd2).2.bs.length≤1099511627776:=Nat.le_trans rdNum_len l2
 obtain ⟨q,rd3,e3⟩:∃ y rd,rdNum mI rd2=(y,rd):=⟨_,_,rfl⟩
 refine (snum_spec b2' hw).use ?_
 clear hw
 rintro _ w ⟨rfl,hw⟩
 rw [e3] at b3 l3 hw ⊢
 dsimp only at b3 l3 hw ⊢
 refine ⟨_,rfl,?_⟩
 have b4:=rdNum_bd (most:=mI) b3
 have l4:(rdNum mI rd3).2.bs.length≤1099511627776:=Nat.le_trans rdNum_len l3
 obtain ⟨t,rd4,e4⟩:∃ y rd,rdNum mI rd3=(y,rd):=⟨_,_,rfl⟩
 refine (snum_spec b3 hw).use ?_
 clear hw
 rintro _ w ⟨rfl,hw⟩
 rw [e4] at b4 l4 hw ⊢
 dsimp only at b4 l4 hw ⊢
 refine ⟨_,rfl,?_⟩
 refine new_rule hw fun b w hw=>?_
 refine store_rule hw (by kernel_rfl) rfl (by simp [Value.cells]) fun w hw=>?_
 have hw:Sat R (RdAt r rd4::rqC b ⟨k,c,q,t,[]⟩ nilS::rqNew b2::Hs) w:=(hw.re (rqC b ⟨k,c,q,t,[]⟩ nilS)).swap
 have htl:=rdText_len (most:=4000) (rd:=rd4)
 obtain ⟨d,rd5,e5⟩:∃ y rd,rdText 4000 rd4=(y,rd):=⟨_,_,rfl⟩
 refine (rtext_spec (most:=4000) (by omega) l4 b4 hw).use ?_
 clear hw
 rintro _ w ⟨sd,rfl,hw⟩
 rw [e5] at hw htl
 dsimp only at hw htl
 refine ⟨sd,rfl,?_⟩
 refine store_rule hw (by kernel_rfl) rfl (by simp [Value.cells]) fun w hw=>?_
 have hC:rqRd mI ⟨bs,false⟩=(⟨k,c,q,t,d⟩,rd5):=by
  rw [←e0]
  unfold rqRd
  simp only [e1,e2,e3,e4,e5]
 obtain ⟨C,eC⟩:∃ C:Rq,C=⟨k,c,q,t,d⟩:=⟨_,rfl⟩
 have hw:Sat R (rqC b C sd::Own sd 5 (b8 C.cmd)::RdAt r rd5::rqNew b2::Hs) w:=by rw [eC];exact hw.re (rqC b ⟨k,c,q,t,d⟩ sd)
 rw [←eC] at hC
 have hdec:rqDec mI bs=if rdWhole rd5=true∧RightQ C then (C,0) else (zeroQ,6):=by unfold rqDec;rw [hC]
 clear hC eC e0 e1 e2 e3 e4 e5 b0 b1 b2' b3 b4 l0 l1 l2 l3
 have hw:Sat R (RdAt r rd5::rqC b C sd::Own sd 5 (b8 C.cmd)::rqNew b2::Hs) w:=hw.arr
 refine (whole_spec hw).use ?_
 clear hw
 rintro _ w ⟨rfl,hw⟩
 have no:rqDec mI bs=(zeroQ,6)→∀ {w},Sat R (rqNew b2::Hs) w→∃ t:Sl,Value.tuple #[.agg (rqV zeroQ nilS).toArray,.int .i64 6]=.tuple #[.agg (rqV (rqDec mI bs).1 t).toArray,.int .i64 (rqDec mI bs).2]∧Sat R (Own t 5 (b8 (rqDec mI bs).1.cmd)::Hs) w:=fun e {w} hw=>by
  rw [e]
  exact ⟨nilS,rfl,Own.nil hw.drop⟩
 refine ⟨_,rfl,Br.nb (fun h=>?_) (fun h=>?_)⟩
 ·have hw:Sat R (rqNew b2::Hs) w:=hw.drop.drop.drop
  refine store_rule hw (by kernel_rfl) rfl (by simp [Value.cells]) fun w hw=>?_
  have hw:=hw.re (rqNew b2)
  refine ⟨_,_,_,_,nilS,At.own (eqS hw) (by exact ⟨rfl,rfl,rfl,rfl,rfl,trivial⟩),no ?_ hw⟩
  rw [hdec,if_neg (by rintro ⟨h1,_⟩;rw [h1] at h;cases h)]
 refine ⟨C.kind,C.client,C.seq,C.token,sd,At.own (eqS hw) (by exact ⟨rfl,rfl,rfl,rfl,rfl,trivial⟩),?_⟩
 have hsl:sd.len=C.cmd.length:=by
  have:=Own.len (hw.arr (Hs':=Own sd 5 (b8 C.cmd)::RdAt r rd5::rqC b C sd::rqNew b2::Hs))
  simpa using this
 refine (srightQ_spec hsl hw).use ?_
 clear hw
 rintro _ w ⟨rfl,hw⟩
 refine ⟨_,rfl,Br.nb (fun h2=>?_) (fun h2=>?_)⟩
 ·have hw:Sat R (rqNew b2::Hs) w:=hw.drop.drop.drop
  refine store_rule hw (by kernel_rfl) rfl (by simp [Value.cells]) fun w hw=>?_
  have hw:=hw.re (rqNew b2)
  refine ⟨_,_,_,_,nilS,At.own (eqS hw) (by exact ⟨rfl,rfl,rfl,rfl,rfl,trivial⟩),no ?_ hw⟩
  rw [hdec,if_neg (by rintro ⟨_,h1⟩;rw [decide_eq_true h1] at h2;cases h2)]
 refine ⟨C.kind,C.client,C.seq,C.token,sd,At.own (eqS hw) (by exact ⟨rfl,rfl,rfl,rfl,rfl,trivial⟩),?_⟩
 have hw:Sat R (rqNew b2::Own sd 5 (b8 C.cmd)::RdAt r rd5::rqC b C sd::Hs) w:=hw.arr
 refine store_rule hw (by kernel_rfl) rfl (by simp [Value.cells]) fun w hw=>?_
 have hw:=hw.re (rqC b2 C sd)
 refine ⟨C.kind,C.client,C.seq,C.token,sd,At.own (eqS hw) (by exact ⟨rfl,rfl,rfl,rfl,rfl,trivial⟩),?_⟩
 rw [hdec,if_pos ⟨h,of_decide_eq_true h2⟩]
 exact ⟨sd,rfl,hw.drop.cons fun _ h=>h.drop.drop⟩
abbrev tdNew (b:Nat):HP:=tdC b zeroT nilS
end Go.Proofs.YtlplemdmegpoeaaGreatDoor
/- Package session, plain: a table of sessions, and the book. No condition. -/
namespace Go.Proofs.YtlplemdmegpoeaaGreatDoor
set_option linter.unusedVariables false
set_option linter.unusedSimpArgs false
open Go Go.VC
open Classical
structure Cl where
 id:Int
 tok:Int
 last:Int
 rep:List Int
structure Tb where
 next:Int
 cl:List Cl
 bk:Book
def refT (e:Int):Told:=⟨e,0,0,[]⟩
def Tb.beginT (t:Tb) (tok:Int):Told × Tb:=
 match t.cl.find? (fun c=>c.tok==tok) with
 |some c=>(⟨0,c.id,0,[]⟩,t)
 |none=>if t.cl.length ≥ 64 then (refT 3,t) else (⟨0,t.next,0,[]⟩,{ t with next:=t.next + 1,cl:=t.cl++[⟨t.next,tok,0,[]⟩] })
structure TdOk (t:Told):Prop where
 code:0≤t.code∧t.code≤1099511627776
 client:0≤t.client∧t.client≤1099511627776
 seq:0≤t.seq∧t.seq≤1099511627776
 rep:t.reply.length≤65536
 by':Bytes t.reply
structure ClOk (next:Int) (c:Cl):Prop where
 id:1≤c.id∧c.id<next
 tok:0≤c.tok∧c.tok≤1099511627776
 last:0≤c.last∧c.last≤1099511627776
 rep:c.rep.length≤65536
 by':Bytes c.rep
structure TbOk (t:Tb):Prop where
 nx:1≤t.next
 each:∀ c∈t.cl,ClOk t.next c
 ids:(t.cl.map Cl.id).Nodup
 toks:(t.cl.map Cl.tok).Nodup
 few:t.cl.length≤64
 bk:BookOk t.bk
end Go.Proofs.YtlplemdmegpoeaaGreatDoor
/- Package session: the table in memory with its book; done, begin, New. Condition: bounds. -/
namespace Go.Proofs.YtlplemdmegpoeaaGreatDoor
set_option linter.unusedVariables false
set_option linter.unusedSimpArgs false
open Go Go.VC
open Classical
variable {R:Cx} {Hs Rest:List HP} {w:World}
abbrev SE:=Nat × Cl
abbrev cliObj (c:Cl) (s:Sl):Obj:=.cells [.int .i64 c.tok,.int .i64 c.last,.slice s.a s.len s.cap].toArray 134 (0,0)
def cliAt (e:SE):HP:=exs fun s:Sl=>Star [pts e.1 (cliObj e.2 s),Own s 5 (b8 e.2.rep)]
def cliV (e:SE):Int × Value:=(e.2.id,.pointer (some ⟨e.1,0,none⟩))
abbrev tblC (bk:Nat) (next:Int) (m:Nat):Obj:=.cells [.pointer (some ⟨bk,0,none⟩),.int .i64 next,.map (some m)].toArray 128 (0,0)
def TbAt (p:Nat) (t:Tb):HP:=exs fun m:Nat=>exs fun bk:Nat=>exs fun E:List SE=>Star [pur (E.map Prod.snd=t.cl),pts p (tblC bk t.next m),MapAt m (E.map cliV),Star (E.map cliAt),BookAt bk t.bk]
theorem Sat.tb {p:Nat} {t:Tb}:Sat R (TbAt p t::Hs) w↔∃ m bk,∃ E:List SE,E.map Prod.snd=t.cl∧Sat R (pts p (tblC bk t.next m)::MapAt m (E.map cliV)::Star (E.map cliAt)::BookAt bk t.bk::Hs) w:=by
 unfold TbAt
 simp only [Sat.exs]
 constructor
 ·rintro ⟨m,b,E,h⟩
  obtain ⟨h1,h2⟩:=Sat.pur.1 (Sat.star.1 h)
  exact ⟨m,b,E,h1,h2⟩
 ·rintro ⟨m,b,E,h1,h2⟩
  exact ⟨m,b,E,Sat.star.2 (Sat.pur.2 ⟨h1,h2⟩)⟩
theorem Sat.cli {e:SE}:Sat R (cliAt e::Hs) w↔∃ s:Sl,Sat R (pts e.1 (cliObj e.2 s)::Own s 5 (b8 e.2.rep)::Hs) w:=by
 unfold cliAt
 simp only [Sat.exs]
 exact ⟨fun ⟨s,h⟩=>⟨s,Sat.star.1 h⟩,fun ⟨s,h⟩=>⟨s,Sat.star.2 h⟩⟩
theorem cl_mid {A:HP} {B C:List HP}:Sat R (Star (B++A::C)::Hs) w↔Sat R (A::Star (B++C)::Hs) w:=by
 have key:∀ (B:List HP) {R:Cx} {Hs:List HP},Sat R (B++A::Hs) w↔Sat R (A::(B++Hs)) w:=fun B=>by
  induction B with
  |nil=>exact fun {R Hs}=>Iff.rfl
  |cons X B ih=>
   intro R Hs
   constructor
   ·intro h
    have h:Sat R (X::(B++A::Hs)) w:=h
    exact (h.cons fun _ h=>ih.1 h).swap
   ·intro h
    have h:Sat R (A::X::(B++Hs)) w:=h
    exact (h.swap.cons fun _ h=>ih.2 h)
 rw [Sat.star,List.append_assoc,List.cons_append,key B]
 constructor
 ·intro h
  exact h.cons fun _ h=>Sat.star.2 (by rw [List.append_assoc];exact h)
 ·intro h
  refine h.cons fun _ h=>?_
  have:=Sat.star.1 h
  rwa [List.append_assoc] at this
theorem cl_pick {A C:List SE} {e:SE}:Sat R (Star ((A++e::C).map cliAt)::Hs) w↔∃ s:Sl,Sat R (pts e.1 (cliObj e.2 s)::Own s 5 (b8 e.2.rep)::Star (A.map cliAt++C.map cliAt)::Hs) w:=by
 rw [List.map_append,List.map_cons,cl_mid,Sat.cli]
abbrev cMap:MapT Tryz.prog 126 Int 3 131 (.pointer none):=⟨Tryz.underlying126,Tryz.underlying3,Tryz.zeroValue131⟩
theorem cl_get {k:Int}:∀ {E:List SE},getM k (E.map cliV)=(E.find? fun e=>e.2.id==k).map fun e=>.pointer (some ⟨e.1,0,none⟩)
 |[]=>rfl
 |e::E=>by
  rw [List.map_cons,getM,List.find?_cons]
  show (if k==e.2.id then some (Value.pointer (some ⟨e.1,0,none⟩)) else _)=_
  by_cases h:e.2.id=k
  ·rw [if_pos (by rw [h];simp),show (e.2.id==k)=true by simpa using h]
   rfl
  ·rw [if_neg (by simpa using fun h2=>h h2.symm),show (e.2.id==k)=false by simpa using h,cl_get]
theorem find_key {l:List Cl} {f:Cl→Int} (h:(l.map f).Nodup) {c:Cl} (hc:c∈l):l.find? (fun d=>f d==f c)=some c:=by
 induction l with
 |nil=>cases hc
 |cons x l ih=>
  rw [List.map_cons,List.nodup_cons] at h
  rw [List.find?_cons]
  rcases List.mem_cons.1 hc with h1|h1
  ·subst h1
   simp
  ·have:f x≠f c:=fun e=>h.1 (List.mem_map.2 ⟨c,h1,e.symm⟩)
   rw [show (f x==f c)=false by simpa using this]
   exact ih h.2 h1
theorem put_td {b4:Nat} {t4 τ:Told} {s0 s:Sl} {K:Int→Int→Int→Sl→World→Prop} (hw:Sat R (tdC b4 t4 s0::Hs) w) (k:∀ w',Sat R Hs w'→K τ.code τ.client τ.seq s w'):
  ∃ w_6:World,((Instr.storeAt 54 (.pointer ((some ⟨b4,0,none⟩))) (.agg #[.int .i64 τ.code,.int .i64 τ.client,.int .i64 τ.seq,.slice s.a s.len s.cap])).run Tryz.prog w=.ok () w_6)∧
  ∃ u:Int,∃ u_1:Int,∃ u_2:Int,∃ u_3:Sl,(At (fun w'=>w'=w_6) ⟨b4,0,none⟩ [.int .i64 u,.int .i64 u_1,.int .i64 u_2,.slice u_3.a u_3.len u_3.cap])∧
  K u u_1 u_2 u_3 w_6:=by
 refine store_rule hw (by kernel_rfl) rfl (by simp [Value.cells]) fun w hw=>?_
 have hw:=hw.re (tdC b4 τ s)
 exact ⟨τ.code,τ.client,τ.seq,s,At.own (eqS hw) (by exact ⟨rfl,rfl,rfl,rfl,trivial⟩),k _ hw.drop⟩
theorem refused_spec {e:Int} (hw:Sat R Hs w):Gets Tryz.prog 72 #[.int .i64 e] w fun v w'=>v=.agg (tdV (refT e) nilS).toArray∧Sat R Hs w':=by
 apply call72
 refine new_rule hw fun b w hw=>?_
 have hw:Sat R (tdNew b::Hs) w:=hw
 exact put_td (τ:=refT e) (s:=nilS) hw fun w hw=>⟨rfl,hw⟩
set_option maxHeartbeats 1000000 in
theorem sbegin_spec {p:Nat} {t:Tb} {tok:Int} (ok:TbOk t) (hn:t.next<1000000) (hw:Sat R (TbAt p t::Hs) w):
  Gets Tryz.prog 73 #[.pointer (some ⟨p,0,none⟩),.int .i64 tok] w fun v w'=>v=.agg (tdV (t.beginT tok).1 nilS).toArray∧Sat R (TbAt p (t.beginT tok).2::Hs) w':=by
 obtain ⟨m,bk,E,hE,hw⟩:=Sat.tb.1 hw
 have hnx:=ok.nx
 have hlE:E.length=t.cl.length:=by rw [←hE,List.length_map]
 apply call73
 refine new_rule hw fun b4 w hw=>?_
 have hw:Sat R (MapAt m (E.map cliV)::pts p (tblC bk t.next m)::Star (E.map cliAt)::BookAt bk t.bk::tdNew b4::Hs) w:=by
  have hw:Sat R (tdNew b4::pts p (tblC bk t.next m)::MapAt m (E.map cliV)::Star (E.map cliAt)::BookAt bk t.bk::Hs) w:=hw
  exact hw.arr
 refine NilP.mk rfl ⟨some m,At.own (eqS hw) (by exact ⟨rfl,trivial⟩),?_⟩
 refine range_rule Tryz.underlying126 hw fun r w hw=>?_
 refine ⟨fun w=>∃ left:List (Int × Value),(∀ e∈E,e.2.tok=tok→cliV e∈left)∧(∀ x∈left,x∈E.map cliV)∧Sat R (ItAt r m (E.map cliV) left::pts p (tblC bk t.next m)::Star (E.map cliAt)::BookAt bk t.bk::tdNew b4::Hs) w,itLeft r m,⟨_,fun e he _=>List.mem_map.2 ⟨e,he,rfl⟩,fun x hx=>hx,hw⟩,?_⟩
 clear hw
 rintro _ w ⟨left,hall,hin,hw⟩
 have hlen:=itLeft_eq hw
 rcases next_cases (P:=Tryz.prog) (T:=0) hw with ⟨rfl,hrun⟩|⟨a,k,v,b,w',rfl,hrun,hent,hw'⟩
 ·refine ⟨w,.inl ⟨hrun,?_⟩⟩
  have hno:t.cl.find? (fun c=>c.tok==tok)=none:=List.find?_eq_none.2 fun c hc h=>by
   rw [←hE] at hc
   obtain ⟨e,he,rfl⟩:=List.mem_map.1 hc
   have:=hall e he (beq_iff_eq.1 h)
   cases this
  unfold Tb.beginT
  rw [hno]
  dsimp only
  have hw:=ItAt.map hw
  refine NilP.mk rfl ⟨some m,At.own (eqS hw) (by exact ⟨rfl,trivial⟩),((E.map cliV).length:Int),fun w' e=>?_,?_⟩
  ·rw [show w'=w from e]
   exact MapAt.len (by kernel_rfl) hw
  rw [List.length_map]
  refine Br.d (fun h=>?_) (fun h=>?_)
  ·rw [if_pos (by omega)]
   refine (refused_spec (e:=3) hw).use ?_
   clear hw
   rintro _ w ⟨rfl,hw⟩
   refine ⟨3,0,0,nilS,rfl,?_⟩
   have hw:Sat R (tdNew b4::pts p (tblC bk t.next m)::MapAt m (E.map cliV)::Star (E.map cliAt)::BookAt bk t.bk::Hs) w:=hw.arr
   exact put_td (τ:=refT 3) (s:=nilS) hw fun w hw=>⟨rfl,Sat.tb.2 ⟨m,bk,E,hE,hw⟩⟩
  rw [if_neg (by omega)]
  refine drw_rule hw fun w hw=>?_
  refine NilP.mk rfl ⟨some m,At.own selfS (by exact ⟨rfl,trivial⟩),NilP.mk rfl ⟨t.next,At.own selfS (by exact ⟨rfl,trivial⟩),?_⟩⟩
  refine new_rule hw fun c w hw=>⟨hw.drop,?_⟩
  obtain ⟨n,hnc⟩:∃ n:Cl,n=⟨t.next,tok,0,[]⟩:=⟨_,rfl⟩
  have hw:Sat R (pts c (cliObj n nilS)::MapAt m (E.map cliV)::pts p (tblC bk t.next m)::Star (E.map cliAt)::BookAt bk t.bk::tdNew b4::Hs) w:=by rw [hnc];exact hw
  refine MapAt.put cMap hw.swap t.next (.pointer (some ⟨c,0,none⟩)) fun w hw=>?_
  have hput:putM t.next (.pointer (some ⟨c,0,none⟩)) (E.map cliV)=(E++[(c,n)]).map cliV:=by
   unfold putM
   have:getM t.next (E.map cliV)=none:=getM_ne.2 fun x hx=>by
    obtain ⟨e,he,rfl⟩:=List.mem_map.1 hx
    have:=(ok.each e.2 (by rw [←hE];exact List.mem_map.2 ⟨e,he,rfl⟩)).id
    show e.2.id≠t.next
    omega
   rw [this]
   simp [cliV,hnc]
  rw [hput] at hw
  have hw:Sat R (pts p (tblC bk t.next m)::MapAt m ((E++[(c,n)]).map cliV)::pts c (cliObj n nilS)::Star (E.map cliAt)::BookAt bk t.bk::tdNew b4::Hs) w:=hw.arr
  refine NilP.mk rfl ⟨t.next,At.own (eqS hw) (by exact ⟨rfl,trivial⟩),NilP.mk rfl ?_⟩
  rw [wrap64 (by omega) (by omega)]
  refine store_rule hw (by kernel_rfl) rfl (by simp [Value.cells]) fun w hw=>?_
  have hw:=hw.re (pts p (tblC bk (t.next + 1) m))
  refine NilP.mk rfl ⟨t.next + 1,At.own (eqS hw) (by exact ⟨rfl,trivial⟩),?_⟩
  rw [wrap64 (by omega) (by omega),show t.next + 1 - 1=t.next by omega]
  have hw:Sat R (tdNew b4::pts p (tblC bk (t.next + 1) m)::MapAt m ((E++[(c,n)]).map cliV)::pts c (cliObj n nilS)::Star (E.map cliAt)::BookAt bk t.bk::Hs) w:=hw.arr
  refine put_td (τ:=⟨0,t.next,0,[]⟩) (s:=nilS) hw fun w hw=>⟨rfl,?_⟩
  refine Sat.tb.2 ⟨m,bk,E++[(c,n)],by rw [List.map_append,hE,hnc];rfl,?_⟩
  refine hw.cons fun _ h=>h.cons fun _ h=>?_
  refine cl_pick (A:=E) (C:=[])|>.2 ⟨nilS,?_⟩
  refine h.cons fun _ h=>?_
  rw [show b8 (c,n).2.rep=[] by rw [hnc];rfl]
  refine Own.nil ?_
  rw [List.map_nil,List.append_nil]
  exact h
 ·obtain ⟨e,he,hkv⟩:=List.mem_map.1 (hin (k,v) (by simp))
  have hk:e.2.id=k:=congrArg Prod.fst hkv
  have hv:Value.pointer (some ⟨e.1,0,none⟩)=v:=congrArg Prod.snd hkv
  subst hk hv
  have hec:e.2∈t.cl:=by rw [←hE];exact List.mem_map.2 ⟨e,he,rfl⟩
  refine ⟨w',.inr ⟨_,_,hrun,e.2.id,some ⟨e.1,0,none⟩,fun w2 h2=>by rw [show w2=w' from h2];exact hent,NilP.mk rfl ?_⟩⟩
  obtain ⟨A,C,hAC⟩:=List.append_of_mem he
  obtain ⟨s,hp⟩:∃ s:Sl,Sat R (pts e.1 (cliObj e.2 s)::Own s 5 (b8 e.2.rep)::Star (A.map cliAt++C.map cliAt)::ItAt r m (E.map cliV) (a++b)::pts p (tblC bk t.next m)::BookAt bk t.bk::tdNew b4::Hs) w':=by
   have h3:Sat R (Star (E.map cliAt)::ItAt r m (E.map cliV) (a++b)::pts p (tblC bk t.next m)::BookAt bk t.bk::tdNew b4::Hs) w':=hw'.arr
   rw [hAC] at h3
   rw [hAC]
   exact cl_pick.1 h3
  refine ⟨e.2.tok,At.own (b:=e.1) (eqS hp) (by exact ⟨rfl,trivial⟩),Br.e (fun ht=>?_) (fun ht=>?_)⟩
  ·have hw':Sat R (tdNew b4::ItAt r m (E.map cliV) (a++b)::pts p (tblC bk t.next m)::Star (E.map cliAt)::BookAt bk t.bk::Hs) w':=hw'.arr
   have hfd:t.cl.find? (fun c=>c.tok==tok)=some e.2:=by rw [←ht];exact find_key (f:=Cl.tok) ok.toks hec
   unfold Tb.beginT
   rw [hfd]
   refine put_td (τ:=⟨0,e.2.id,0,[]⟩) (s:=nilS) hw' fun w hw=>⟨rfl,?_⟩
   exact Sat.tb.2 ⟨m,bk,E,hE,(ItAt.map hw).swap⟩
  ·have hlen':=itLeft_eq hw'
   refine ⟨⟨a++b,fun e0 he0 h0=>?_,fun x hx=>hin x ?_,hw'⟩,?_⟩
   ·have h1:=hall e0 he0 h0
    rcases List.mem_append.1 h1 with h1|h1
    ·exact List.mem_append.2 (.inl h1)
    ·rcases List.mem_cons.1 h1 with h1|h1
     ·have hid:e0.2.id=e.2.id:=show (cliV e0).1=(cliV e).1 from congrArg Prod.fst h1
      have:e0.2=e.2:=by
       have k1:=find_key (f:=Cl.id) ok.ids hec
       have k2:=find_key (f:=Cl.id) ok.ids (c:=e0.2) (by rw [←hE];exact List.mem_map.2 ⟨e0,he0,rfl⟩)
       rw [hid,k1] at k2
       exact (Option.some.inj k2).symm
      rw [this] at h0
      exact absurd h0 ht
     ·exact List.mem_append.2 (.inr h1)
   ·rcases List.mem_append.1 hx with h1|h1
    ·exact List.mem_append.2 (.inl h1)
    ·exact List.mem_append.2 (.inr (List.mem_cons_of_mem _ h1))
   ·rw [hlen,hlen']
    simp
def newT:Tb:=⟨1,[],newBook⟩
theorem newT_ok:TbOk newT:=⟨Int.le_refl 1,fun _ h=>(by cases h),List.nodup_nil,List.nodup_nil,Nat.zero_le _,ok_new⟩
theorem snew_spec (hw:Sat R Hs w):Gets Tryz.prog 22 #[] w fun v w'=>∃ p,v=.pointer (some ⟨p,0,none⟩)∧Sat R (TbAt p newT::Hs) w':=by
 apply call22
 refine (bnew_spec hw).use ?_
 clear hw
 rintro _ w ⟨p0,rfl,hw⟩
 refine ⟨_,rfl,new_rule hw fun m w hw=>?_⟩
 have hw:=MapAt.new (α:=Int) rfl hw
 refine new_rule hw fun p w hw=>⟨p,rfl,Sat.tb.2 ⟨m,p0,[],rfl,?_⟩⟩
 exact hw.cons fun _ h=>h.cons fun _ h=>Sat.star.2 h
end Go.Proofs.YtlplemdmegpoeaaGreatDoor

/- The formulas of functions of this seat's translation, printed by a program of mine off the translation; each is proved equal to 'fnF' of the function's body, so it is enough for the call. No condition. -/
namespace Go.Proofs.YtlplemdmegpoeaaGreatDoor
open Go Go.VC
set_option linter.unusedVariables false
set_option maxRecDepth 10000
def B26 (p:Option Addr) (K:Value→World→Prop) (w:World):Prop:=
 Drw w fun o al=>
 NilP p fun G=>
 ∃ H:Int,(At o ⟨G.block,G.off + 1,none⟩ [.int .i64 H])∧
 NilP p fun A=>
 ∃ I:Option Nat,(At o ⟨A.block,A.off + 2,none⟩ [.map I])∧
 ∃ J:Int,(∀ b,o b→((Builtin.len_ #[126] 3 #[.map I])).run Tryz.prog b=.ok (.int .i64 J) b)∧
 New (.cells #[.int .i64 H,.int .i64 J] 3 (0,0)) (fun ac V=>
 (o V)∧
 Calls Tryz.prog 81 #[.slice ((some ⟨ac,0,none⟩)) 2 2] V fun ae z=>
 ∃ s:Sl,(ae=.returned (.slice s.a s.len s.cap))∧
 (o z)∧
 NilP p fun C=>
 ∃ L:Option Nat,(At (fun b=>b=z) ⟨C.block,C.off + 2,none⟩ [.map L])∧
 Calls Tryz.prog 82 #[.map L] z fun af ap=>
 ∃ M:Value,(af=.returned (M))∧
 Calls Tryz.prog 61 #[M] ap fun ag aq=>
 ∃ f:Sl,(ag=.returned (.slice f.a f.len f.cap))∧
 ∃ (v:Sl→Int→World→Prop) (Y:Sl→Int→World→Nat),(v s 0 aq)∧∀ (av:Env) (c:Sl) (e:Int) (d:World),v c e d→
 Br (decide (e<(↑f.len:Int)))
 (Rng e f.len (NilP f.a fun Z=>
 ∃ x:Int,(At (fun b=>b=d) (Addr.add Z e.toNat) [.int .i64 x])∧
 NilP p fun D=>
 ∃ N:Option Nat,(At (fun b=>b=d) ⟨D.block,D.off + 2,none⟩ [.map N])∧
 ∃ t:Option Addr,(∀ b,(fun b=>b=d) b→((Instr.lookup 126 (.map N) (.int .i64 x) false)).run Tryz.prog b=.ok (.pointer t) b)∧
 Drw d fun r ar=>
 NilP t fun aa=>
 ∃ O:Int,(At r (Addr.add aa 0) [.int .i64 O])∧
 NilP t fun E=>
 ∃ Q:Int,(At r ⟨E.block,E.off + 1,none⟩ [.int .i64 Q])∧
 New (.cells #[.int .i64 x,.int .i64 O,.int .i64 Q] 3 (0,0)) (fun ad au=>
 Calls Tryz.prog 81 #[.slice ((some ⟨ad,0,none⟩)) 3 3] au fun ah X=>
 ∃ g:Sl,(ah=.returned (.slice g.a g.len g.cap))∧
 (r X)∧
 ∃ u:World,∃ i:Sl,((Builtin.append_ #[47,47] 47 #[.slice c.a c.len c.cap,.slice g.a g.len g.cap]).run Tryz.prog X=.ok (.slice i.a i.len i.cap) u)∧
 (r u)∧
 NilP t fun F=>
 ∃ j:Sl,(At (fun b=>b=u) ⟨F.block,F.off + 2,none⟩ [.slice j.a j.len j.cap])∧
 Calls Tryz.prog 83 #[.slice j.a j.len j.cap] u fun ai am=>
 ∃ k:Sl,(ai=.returned (.slice k.a k.len k.cap))∧
 ∃ y:World,∃ q:Sl,((Builtin.append_ #[47,47] 47 #[.slice i.a i.len i.cap,.slice k.a k.len k.cap]).run Tryz.prog am=.ok (.slice q.a q.len q.cap) y)∧
 (v q (IntKind.i64.wrap (e + 1)) y)∧Y q (IntKind.i64.wrap (e + 1)) y<Y c e d) ar))
 (NilP p fun ab=>
 ∃ T:Option Addr,(At (fun b=>b=d) (Addr.add ab 0) [.pointer T])∧
 Calls Tryz.prog 18 #[.pointer T] d fun aj an=>
 ∃ l:Sl,(aj=.returned (.slice l.a l.len l.cap))∧
 Calls Tryz.prog 83 #[.slice l.a l.len l.cap] an fun ak ao=>
 ∃ m:Sl,(ak=.returned (.slice m.a m.len m.cap))∧
 ∃ U:World,∃ n:Sl,((Builtin.append_ #[47,47] 47 #[.slice c.a c.len c.cap,.slice m.a m.len m.cap]).run Tryz.prog ao=.ok (.slice n.a n.len n.cap) U)∧
 K (.slice n.a n.len n.cap) U)) al
def sk26:Sk:=(.seq .leaf (.seq .leaf (.seq (.seq .leaf (.block (.loop [3,25] [.sl,(.int .i64)] [3,5,6,25,26,27,28,29,30,31,32,33,34,35,36,37,38,39,40,41,42,43,44,45,46,47,48,49,50,51,52,53,54,55] .leaf))) .leaf)))
theorem call26 (a:Option Addr) (K:Value→World→Prop) (w:World) (h:B26 a K w):Gets Tryz.prog 26 #[.pointer a] w K:=cq (sk:=sk26) h Tryz.func26
end Go.Proofs.YtlplemdmegpoeaaGreatDoor
/- The formulas of functions of this seat's translation, printed by a program of mine off the translation; each is proved equal to 'fnF' of the function's body, so it is enough for the call. No condition. -/
namespace Go.Proofs.YtlplemdmegpoeaaGreatDoor
open Go Go.VC
set_option linter.unusedVariables false
set_option maxRecDepth 10000
def B34 (r:Sl) (K:Value→World→Prop) (w:World):Prop:=
 Calls Tryz.prog 91 #[.slice r.a r.len r.cap] w fun af ar=>
 ∃ d:Option Addr,(af=.returned (.pointer d))∧
 Calls Tryz.prog 22 #[] ar fun ag az=>
 ∃ f:Option Addr,(ag=.returned (.pointer f))∧
 Calls Tryz.prog 92 #[.pointer d] az fun ai a2=>
 ∃ G:Int,(ai=.returned (.int .i64 G))∧
 NilP f fun y=>
 ∃ aa:World,((Instr.storeAt 3 (.pointer ((some ⟨y.block,y.off + 1,none⟩))) (.int .i64 G)).run Tryz.prog a2=.ok () aa)∧
 New (.map #[] 0) (fun s a3=>
 Drw a3 fun ac a4=>
 NilP f fun z=>
 ∃ H:Int,(At ac ⟨z.block,z.off + 1,none⟩ [.int .i64 H])∧
 Calls Tryz.prog 93 #[.pointer d,.int .u64 64] a4 fun aj a5=>
 ∃ I:Int,(aj=.returned (.int .u64 I))∧
 ∃ (q:Int→Bool→Int→World→Prop) (ab:Int→Bool→Int→World→Nat),(q 0 (decide (H ≥ 1)) 0 a5)∧∀ (a7:Env) (u:Int) (m:Bool) (l:Int) (p:World),q u m l p→
 Br (decide (l<I))
 (Calls Tryz.prog 92 #[.pointer d] p fun ak a6=>
 ∃ i:Int,(ak=.returned (.int .i64 i))∧
 Calls Tryz.prog 92 #[.pointer d] a6 fun al au=>
 ∃ J:Int,(al=.returned (.int .i64 J))∧
 Calls Tryz.prog 92 #[.pointer d] au fun am av=>
 ∃ L:Int,(am=.returned (.int .i64 L))∧
 New (.cells #[.int .i64 J,.int .i64 L,.slice none 0 0] 134 (0,0)) (fun g aw=>
 Calls Tryz.prog 94 #[.pointer d,.int .i64 65536] aw fun an ax=>
 ∃ j:Sl,(an=.returned (.slice j.a j.len j.cap))∧
 ∃ c:World,((Instr.storeAt 47 (.pointer ((some ⟨g,0 + 2,none⟩))) (.slice j.a j.len j.cap)).run Tryz.prog ax=.ok () c)∧
 ∃ (e:Bool→World→Prop),(Br m
 (Br (decide (i>u))
 (NilP f fun A=>
 ∃ M:Int,(At (fun b=>b=c) ⟨A.block,A.off + 1,none⟩ [.int .i64 M])∧
 Br (decide (i<M))
 (∃ N:Int,(At (fun b=>b=c) ⟨g,0,none⟩ [.int .i64 N])∧
 ∃ O:Bool,(∀ b,(fun b=>b=c) b→((Instr.lookup 156 (.map ((some s))) (.int .i64 N) false)).run Tryz.prog b=.ok (.bool O) b)∧
 Br (!O)
 (∃ Q:Int,(At (fun b=>b=c) ⟨g,0 + 1,none⟩ [.int .i64 Q])∧
 Br (decide (Q>0))
 (e true c)
 (∃ n:Sl,(At (fun b=>b=c) ⟨g,0 + 2,none⟩ [.slice n.a n.len n.cap])∧
 e ((↑n.len:Int)==0) c))
 (e false c))
 (e false c))
 (e false c))
 (e false c))∧
 ∀ (a8:Env) (t:Bool) (X:World),e t X→
 Drw X fun ad ay=>
 ∃ T:Int,(At ad ⟨g,0,none⟩ [.int .i64 T])∧
 ∃ Y:World,∃ aq:Bool,∃ U:Int,((Instr.mapEntry 156 (.map ((some s))) (.int .i64 T)).run Tryz.prog ay=.ok (.tuple #[.bool aq,.int .i64 U]) Y)∧
 ∃ v:World,((Instr.entryStore 156 (.map ((some s))) (.int .i64 U) (.bool true)).run Tryz.prog Y=.ok () v)∧
 NilP f fun C=>
 ∃ V:Option Nat,(At (fun b=>b=v) ⟨C.block,C.off + 2,none⟩ [.map V])∧
 ∃ x:World,((Instr.mapUpdate 126 (.map V) (.int .i64 i) (.pointer ((some ⟨g,0,none⟩)))).run Tryz.prog v=.ok () x)∧
 (q i t (IntKind.u64.wrap (l + 1)) x)∧ab i t (IntKind.u64.wrap (l + 1)) x<ab u m l p) av)
 (Calls Tryz.prog 94 #[.pointer d,.int .i64 1048576] p fun ao a0=>
 ∃ k:Sl,(ao=.returned (.slice k.a k.len k.cap))∧
 Calls Tryz.prog 95 #[.slice k.a k.len k.cap] a0 fun ap a1=>
 ∃ D:Option Addr,∃ E:Int,(ap=.returned (.tuple #[.pointer D,.int .i64 E]))∧
 Calls Tryz.prog 96 #[.pointer d] a1 fun ah o=>
 ∃ F:Bool,(ah=.returned (.bool F))∧
 Br (!F)
 (K (.tuple #[.pointer none,.int .i64 6]) o)
 (Br (!m)
 (K (.tuple #[.pointer none,.int .i64 6]) o)
 (Br (E !=0)
 (K (.tuple #[.pointer none,.int .i64 6]) o)
 (NilP f fun ae=>
 ∃ Z:World,((Instr.storeAt 25 (.pointer ((some (Addr.add ae 0)))) (.pointer D)).run Tryz.prog o=.ok () Z)∧
 K (.tuple #[.pointer f,.int .i64 0]) Z))))) aa
def sk34:Sk:=(.seq .leaf (.seq .leaf (.seq .leaf (.seq .leaf (.seq .leaf (.seq .leaf (.seq (.seq .leaf (.block (.loop [7,8,29] [(.int .i64),.bool,(.int .u64)] [7,8,9,10,29,30,31,32,33,34,35,36,37,38,39,40,41,42,43,44,45,46,47,48,49,50,51,52,53,54,55,56,57,58,59,60,61,62,63,64,65,66,67,68,69,70,71,72,73,74,75,76,77,78,79,80,81,82,83,84,85,86,87,88,89,90,91,92,93,94,95,96] (.seq .leaf (.seq .leaf (.seq (.block (.seq .leaf (.seq .leaf (.seq .leaf (.cut [8] [.bool] [8,44,45,46,47,48,49,50,51,52,53,54,55,56,57,58,59,60,61,62,63,64,65,66,67,68,69,70,71,72,73,74,75,76,77,78,79,80,81] .leaf .leaf))))) .leaf)))))) .leaf)))))))
theorem call34 (b:Sl) (K:Value→World→Prop) (w:World) (h:B34 b K w):Gets Tryz.prog 34 #[.slice b.a b.len b.cap] w K:=cq (sk:=sk34) h Tryz.func34
end Go.Proofs.YtlplemdmegpoeaaGreatDoor
/- The formulas of functions of this seat's translation, printed by a program of mine off the translation; each is proved equal to 'fnF' of the function's body, so it is enough for the call. No condition. -/
namespace Go.Proofs.YtlplemdmegpoeaaGreatDoor
open Go Go.VC
set_option linter.unusedVariables false
set_option maxRecDepth 10000
def B25 (H:Sl) (K:Value→World→Prop) (w:World):Prop:=
 New (.cells #[.slice H.a H.len H.cap,.int .i64 0,.bool false] 140 (0,0)) (fun e ba=>
 Calls Tryz.prog 77 #[.pointer ((some ⟨e,0,none⟩)),.int .u64 1099511627776] ba fun a1 bd=>
 ∃ ad:Int,(a1=.returned (.int .u64 ad))∧
 New (.cells #[.int .i64 (IntKind.i64.wrap ad),.slice none 0 0,.pointer none] 64 (0,0)) (fun b bh=>
 Calls Tryz.prog 77 #[.pointer ((some ⟨e,0,none⟩)),.int .u64 64] bh fun a2 bi=>
 ∃ ae:Int,(a2=.returned (.int .u64 ae))∧
 ∃ (y:Int→World→Prop) (F:Int→World→Nat),(y 0 bi)∧∀ (bn:Env) (f:Int) (x:World),y f x→
 Br (decide (f<ae))
 (Calls Tryz.prog 77 #[.pointer ((some ⟨e,0,none⟩)),.int .u64 1099511627776] x fun a3 bj=>
 ∃ af:Int,(a3=.returned (.int .u64 af))∧
 Calls Tryz.prog 77 #[.pointer ((some ⟨e,0,none⟩)),.int .u64 1099511627776] bj fun a4 bk=>
 ∃ ag:Int,(a4=.returned (.int .u64 ag))∧
 Calls Tryz.prog 77 #[.pointer ((some ⟨e,0,none⟩)),.int .u64 1099511627776] bk fun a5 bl=>
 ∃ ah:Int,(a5=.returned (.int .u64 ah))∧
 New (.cells #[.int .i64 0,.int .i64 0,.int .i64 0,.slice none 0 0] 66 (0,0)) (fun c bm=>
 ∃ aq:World,((Instr.storeAt 66 (.pointer ((some ⟨c,0,none⟩))) (.agg #[.int .i64 (IntKind.i64.wrap af),.int .i64 (IntKind.i64.wrap ag),.int .i64 (IntKind.i64.wrap ah),.slice none 0 0])).run Tryz.prog bm=.ok () aq)∧
 Calls Tryz.prog 78 #[.pointer ((some ⟨e,0,none⟩)),.int .i64 65536] aq fun a6 bb=>
 ∃ p:Sl,(a6=.returned (.slice p.a p.len p.cap))∧
 ∃ ar:World,((Instr.storeAt 47 (.pointer ((some ⟨c,0 + 3,none⟩))) (.slice p.a p.len p.cap)).run Tryz.prog bb=.ok () ar)∧
 ∃ (G:Int→World→Prop) (ax:Int→World→Nat),(G 0 ar)∧∀ (bo:Env) (d:Int) (t:World),G d t→
 ∃ C:Sl,(At (fun I=>I=t) ⟨b,0 + 1,none⟩ [.slice C.a C.len C.cap])∧
 Br (decide (d<(↑C.len:Int)))
 (Drw t fun g E=>
 ∃ r:Sl,(At g ⟨b,0 + 1,none⟩ [.slice r.a r.len r.cap])∧
 Rng d r.len (NilP r.a fun O=>
 ∃ ai:Int,(At g ⟨(O.add (mulS d.toNat 4)).block,(O.add (mulS d.toNat 4)).off + 1,none⟩ [.int .i64 ai])∧
 ∃ aj:Int,(At g ⟨c,0 + 1,none⟩ [.int .i64 aj])∧
 Br (ai==aj)
 (K (.tuple #[.pointer none,.int .i64 6]) E)
 (∃ s:Sl,(At g ⟨b,0 + 1,none⟩ [.slice s.a s.len s.cap])∧
 Rng d s.len (NilP s.a fun ay=>
 ∃ ak:Int,(At g (Addr.add (Addr.add ay (mulS d.toNat 4)) 0) [.int .i64 ak])∧
 ∃ al:Int,(At g ⟨c,0,none⟩ [.int .i64 al])∧
 Br (decide (ak ≥ al))
 (K (.tuple #[.pointer none,.int .i64 6]) E)
 ((G (IntKind.i64.wrap (d + 1)) E)∧ax (IntKind.i64.wrap (d + 1)) E<ax d t)))))
 (Drw t fun q u=>
 ∃ am:Int,(At q ⟨c,0,none⟩ [.int .i64 am])∧
 Br (decide (am<1))
 (K (.tuple #[.pointer none,.int .i64 6]) u)
 (∃ an:Int,(At q ⟨c,0,none⟩ [.int .i64 an])∧
 ∃ ao:Int,(At q ⟨b,0,none⟩ [.int .i64 ao])∧
 Br (decide (an ≥ ao))
 (K (.tuple #[.pointer none,.int .i64 6]) u)
 (∃ ap:Int,(At q ⟨c,0 + 2,none⟩ [.int .i64 ap])∧
 Br (ap==0)
 (∃ D:Sl,(At q ⟨c,0 + 3,none⟩ [.slice D.a D.len D.cap])∧
 Br (decide ((↑D.len:Int)>0))
 (K (.tuple #[.pointer none,.int .i64 6]) u)
 (Drw u fun z bc=>
 ∃ i:Sl,(At z ⟨b,0 + 1,none⟩ [.slice i.a i.len i.cap])∧
 ∃ Q:Int,∃ T:Int,∃ U:Int,∃ k:Sl,(At z ⟨c,0,none⟩ [.int .i64 Q,.int .i64 T,.int .i64 U,.slice k.a k.len k.cap])∧
 New (.cells #[.int .i64 Q,.int .i64 T,.int .i64 U,.slice k.a k.len k.cap] 66 (0,0)) (fun az au=>
 (z au)∧
 ∃ J:World,∃ m:Sl,((Builtin.append_ #[62,62] 62 #[.slice i.a i.len i.cap,.slice ((some ⟨az,0,none⟩)) 1 1]).run Tryz.prog au=.ok (.slice m.a m.len m.cap) J)∧
 (z J)∧
 ∃ L:World,((Instr.storeAt 62 (.pointer ((some ⟨b,0 + 1,none⟩))) (.slice m.a m.len m.cap)).run Tryz.prog J=.ok () L)∧
 (y (IntKind.u64.wrap (f + 1)) L)∧F (IntKind.u64.wrap (f + 1)) L<F f x) bc))
 (Drw u fun A be=>
 ∃ j:Sl,(At A ⟨b,0 + 1,none⟩ [.slice j.a j.len j.cap])∧
 ∃ V:Int,∃ X:Int,∃ Y:Int,∃ l:Sl,(At A ⟨c,0,none⟩ [.int .i64 V,.int .i64 X,.int .i64 Y,.slice l.a l.len l.cap])∧
 New (.cells #[.int .i64 V,.int .i64 X,.int .i64 Y,.slice l.a l.len l.cap] 66 (0,0)) (fun a0 av=>
 (A av)∧
 ∃ M:World,∃ n:Sl,((Builtin.append_ #[62,62] 62 #[.slice j.a j.len j.cap,.slice ((some ⟨a0,0,none⟩)) 1 1]).run Tryz.prog av=.ok (.slice n.a n.len n.cap) M)∧
 (A M)∧
 ∃ N:World,((Instr.storeAt 62 (.pointer ((some ⟨b,0 + 1,none⟩))) (.slice n.a n.len n.cap)).run Tryz.prog M=.ok () N)∧
 (y (IntKind.u64.wrap (f + 1)) N)∧F (IntKind.u64.wrap (f + 1)) N<F f x) be))))) bl)
 (Calls Tryz.prog 78 #[.pointer ((some ⟨e,0,none⟩)),.int .i64 1048576] x fun a7 bf=>
 ∃ o:Sl,(a7=.returned (.slice o.a o.len o.cap))∧
 Calls Tryz.prog 79 #[.slice o.a o.len o.cap] bf fun a8 bg=>
 ∃ Z:Option Addr,∃ aa:Int,(a8=.returned (.tuple #[.pointer Z,.int .i64 aa]))∧
 Calls Tryz.prog 80 #[.pointer ((some ⟨e,0,none⟩))] bg fun a9 v=>
 ∃ ab:Bool,(a9=.returned (.bool ab))∧
 Br (!ab)
 (K (.tuple #[.pointer none,.int .i64 6]) v)
 (Br (aa !=0)
 (K (.tuple #[.pointer none,.int .i64 6]) v)
 (∃ ac:Int,(At (fun I=>I=v) ⟨b,0,none⟩ [.int .i64 ac])∧
 Br (decide (ac<1))
 (K (.tuple #[.pointer none,.int .i64 6]) v)
 (∃ aw:World,((Instr.storeAt 27 (.pointer ((some ⟨b,0 + 2,none⟩))) (.pointer Z)).run Tryz.prog v=.ok () aw)∧
 K (.tuple #[.pointer ((some ⟨b,0,none⟩)),.int .i64 0]) aw))))) bd) w
def sk25:Sk:=(.seq .leaf (.seq .leaf (.seq .leaf (.seq .leaf (.seq (.seq .leaf (.block (.loop [7] [(.int .u64)] [2,3,7,8,9,23,24,25,26,27,28,29,30,31,32,33,34,35,36,37,38,39,40,41,42,43,44,45,46,47,48,49,50,51,52,53,54,55,56,57,58,59,60,61,62,63,64,65,66,67,68,69,70,71,72,73,74,75,76,77,78,79,80,81,82,83,84,85,86,87,88,89,90,91,92,93,94,95,96,97,98,99,100,101,102,103,104,105,106] (.seq .leaf (.seq (.block (.seq .leaf (.seq .leaf (.seq (.seq .leaf (.block (.loop [9] [(.int .i64)] [2,3,9,41,42,43,44,45,46,47,48,49,50,51,52,53,54,55,56,57,58,59,60,61,62,63,64,65,66,67,68,69,70,71,72,73] .leaf))) .leaf)))) .leaf))))) .leaf)))))
theorem call25 (b:Sl) (K:Value→World→Prop) (w:World) (h:B25 b K w):Gets Tryz.prog 25 #[.slice b.a b.len b.cap] w K:=cq (sk:=sk25) h Tryz.func25
end Go.Proofs.YtlplemdmegpoeaaGreatDoor

/- Chapter 19: SessionBack: what was encoded is read as it was. Condition: bounds on lengths. -/
namespace Go.Proofs.YtlplemdmegpoeaaGreatDoor
set_option linter.unusedVariables false
set_option linter.unusedSimpArgs false
open Go Go.VC
open Classical
variable {R:Cx} {Hs Rest:List HP} {w:World}
def begQ (tok:Int):Rq:=⟨1,0,0,tok,[]⟩
theorem begQ_right {tok:Int} (h:inI tok):RightQ (begQ tok):=⟨⟨Int.le_refl 0,by show (0:Int)≤1099511627776;omega⟩,⟨Int.le_refl 0,by show (0:Int)≤1099511627776;omega⟩,h,by show 0≤4000;omega,.inl ⟨rfl,rfl,rfl,rfl⟩⟩
theorem rqB_bytes {q:Rq} (h:RightQ q) (hc:Bytes q.cmd):Bytes (rqB q):=by
 have h1:=h.k4
 obtain ⟨a1,a2⟩:=h.client
 obtain ⟨a3,a4⟩:=h.seq
 obtain ⟨a5,a6⟩:=h.token
 have h2:=h.cmd
 intro y hy
 unfold rqB at hy
 rcases List.mem_append.1 hy with hy|hy
 ·refine numsB_bd (l:=[q.kind,q.client,q.seq,q.token]) (fun x hx=>?_) y hy
  simp only [List.mem_cons,List.not_mem_nil,or_false] at hx
  rcases hx with rfl|rfl|rfl|rfl<;>omega
 ·unfold textB at hy
  rcases List.mem_append.1 hy with hy|hy
  ·exact numB_bd (n:=q.cmd.length) (by omega) y hy
  ·exact hc y hy
theorem encoded_spec {q:Rq} {s:Sl} (hs:Ro R s (b8 q.cmd)) (hw:Sat R Hs w):
  Gets Tryz.prog 24 #[.agg #[.int .i64 q.kind,.int .i64 q.client,.int .i64 q.seq,.int .i64 q.token,.slice s.a s.len s.cap]] w fun v w'=>∃ t:Sl,v=.slice t.a t.len t.cap∧Sat R (Own t 5 (b8 (encQ q).1)::Hs) w':=by
 apply call24
 refine new_rule hw fun b w hw=>?_
 have hw:Sat R (rqC b q s::Hs) w:=hw
 refine ⟨q.kind,q.client,q.seq,q.token,s,At.own (eqS hw) (by exact ⟨rfl,rfl,rfl,rfl,rfl,trivial⟩),?_⟩
 refine (senc_spec hs hw).use ?_
 clear hw
 rintro _ w ⟨t,rfl,hw⟩
 exact ⟨t,_,rfl,t,rfl,hw.cons fun _ h=>h.drop⟩
end Go.Proofs.YtlplemdmegpoeaaGreatDoor
/- Package queue: Encode. Condition: bounds. -/
namespace Go.Proofs.YtlplemdmegpoeaaGreatDoor
set_option linter.unusedVariables false
set_option linter.unusedSimpArgs false
open Go Go.VC
open Classical
variable {R:Cx} {Hs Rest:List HP} {w:World}
theorem _root_.Go.VC.At.vals {S:World→Prop} {b:Nat} {vs:List Value} {T:TypeId} {fr:Nat × Nat} (hS:∀ w,S w→Sat R Hs w)
  [t:TakeP b Hs (.cells vs.toArray T fr) Rest] {i:Nat} (hi:i<vs.length):At S (Addr.add ⟨b,0,none⟩ i) [vs[i]]:=by
 rw [add_off]
 refine At.own hS ?_
 rw [Nat.zero_add,List.drop_eq_getElem_cons hi]
 exact ⟨rfl,trivial⟩
def wtN (x:Wt):List Nat:=[x.id.toNat,x.cls.toNat,x.many.toNat,x.time.toNat,keyF x.sc]
def numsN (l:List Nat):List Int:=(l.map numB).flatten
theorem wtB_N (x:Wt):wtB x=numsN (wtN x):=by
 simp [wtB,numsN,wtN,numsB,fltB]
theorem numsN_snoc {l:List Nat} {j:Nat} (hj:j<l.length):numsN (l.take (j + 1))=numsN (l.take j)++numB l[j]:=by
 unfold numsN
 rw [List.take_add_one,List.getElem?_eq_getElem hj,List.map_append,List.flatten_append]
 simp
theorem numsN_len {l:List Nat} (h:∀ x∈l,x<18446744073709551616):(numsN l).length≤9 * l.length:=flat_len fun x hx=>numB_len (h x hx)
theorem wtN_lt {x:Wt} (h:x.Ok) (hf:x.sc<18446744073709551616):∀ y∈wtN x,y<18446744073709551616:=by
 obtain ⟨h1,h2,h3,h4⟩:=h
 intro y hy
 simp only [wtN,List.mem_cons,List.not_mem_nil,or_false] at hy
 have:=key_lt hf
 omega
theorem flat_snoc {α β:Type} {f:α→List β} {l:List α} {j:Nat} (hj:j<l.length):((l.take (j + 1)).map f).flatten=((l.take j).map f).flatten++f l[j]:=by
 rw [List.take_add_one,List.getElem?_eq_getElem hj,List.map_append,List.flatten_append]
 simp
set_option maxHeartbeats 1000000 in
theorem qenc_spec {q:Nat} {l:List Wt} (hq:QOk l) (hw:Sat R (QuAt q l::Hs) w):
  Gets Tryz.prog 65 #[.pointer (some ⟨q,0,none⟩)] w fun v w'=>∃ t:Sl,v=.slice t.a t.len t.cap∧Sat R (Own t 5 (b8 (qB l))::QuAt q l::Hs) w':=by
 apply call65
 suffices H:∀ K:Value→World→Prop,(∀ (t:Sl) w',Sat R (Own t 5 (b8 (qB l))::QuAt q l::Hs) w'→K (.slice t.a t.len t.cap) w')→B65 (some ⟨q,0,none⟩) K w from H _ fun t w' h=>⟨t,rfl,h⟩
 intro K hK
 have hlen:=hq.len
 obtain ⟨s,hw⟩:=Sat.qu.1 hw
 have hsl:=OwnN.len hw.swap
 rw [List.length_map] at hsl
 refine NilP.mk rfl ⟨s,At.own (eqS hw) (by exact ⟨rfl,trivial⟩),?_⟩
 rw [wrapU64 (by omega) (by omega)]
 refine (number_spec (by omega) hw).use ?_
 clear hw
 rintro _ w ⟨t0,rfl,hw⟩
 refine ⟨t0,rfl,NilP.mk rfl ⟨s,At.own (eqS hw) (by exact ⟨rfl,trivial⟩),?_⟩⟩
 have e0:numB s.len=numsB [(l.length:Int)]:=by rw [hsl];simp [numsB]
 rw [e0] at hw
 refine ⟨fun t i w=>∃ k:Nat,i=k∧k≤l.length∧Sat R (Own t 5 (b8 (numsB [(l.length:Int)]++((l.take k).map wtB).flatten))::pts q (quCell s)::OwnN 5 s wtT (l.map wtV)::Hs) w,
  fun _ i _=>l.length - i.toNat,⟨0,rfl,by omega,by simpa using hw⟩,?_⟩
 clear hw
 rintro _ t _ w ⟨k,rfl,hk,hw⟩
 refine Br.d (fun h=>?_) (fun h=>?_)
 ·have hk2:k<l.length:=by omega
  have hx:=List.getElem_mem hk2
  have hok:=hq.ok _ hx
  have hfl:=hq.fl _ hx
  have hu:=wtN_lt hok hfl
  obtain ⟨h1,h2,h3,h4⟩:=id hok
  refine (OwnN.readsM (n:=5) (s:=s) (T:=wtT) (rows:=l.map wtV) hw (eqS hw)).rngM (E:=l) (g:=wtV) hk2 fun a _ he=>?_
  refine ⟨_,_,_,_,_,he.z (by exact ⟨rfl,rfl,rfl,rfl,rfl,trivial⟩),?_⟩
  refine new_rule hw fun b2 w hw=>?_
  refine store_rule hw (by kernel_rfl) rfl (by simp [Value.cells]) fun w hw=>?_
  have hw:=hw.re (wtC b2 l[k])
  refine drw_ruleT hw fun w hw=>?_
  refine ⟨l[k].id,At.own selfS (by exact ⟨rfl,trivial⟩),l[k].cls,At.own selfS (by exact ⟨rfl,trivial⟩),l[k].many,At.own selfS (by exact ⟨rfl,trivial⟩),l[k].time,At.own selfS (by exact ⟨rfl,trivial⟩),l[k].sc,At.own selfS (by exact ⟨rfl,trivial⟩),?_⟩
  refine (key_spec hfl hw).use ?_
  clear hw
  rintro _ w ⟨rfl,hw⟩
  refine ⟨_,rfl,hw,?_⟩
  rw [wrapU64 (x:=l[k].id) (by omega) (by omega),wrapU64 (x:=l[k].cls) (by omega) (by omega),wrapU64 (x:=l[k].many) (by omega) (by omega),wrapU64 (x:=l[k].time) (by omega) (by omega)]
  refine new_rule hw fun b5 w hw=>⟨hw.absorb,?_⟩
  obtain ⟨us,hus⟩:∃ us,us=wtN l[k]:=⟨_,rfl⟩
  have hul:us.length=5:=by rw [hus];rfl
  have hw:Sat R (pts b5 (.cells (us.map fun n=>Value.int .u64 (n:Nat)).toArray 141 (0,0))::wtC b2 l[k]::Own t 5 (b8 (numsB [(l.length:Int)]++((l.take k).map wtB).flatten))::pts q (quCell s)::OwnN 5 s wtT (l.map wtV)::Hs) w:=by
   have e:([.int .u64 l[k].id,.int .u64 l[k].cls,.int .u64 l[k].many,.int .u64 l[k].time,.int .u64 ((keyF l[k].sc:Nat):Int)]:List Value)=us.map fun n=>Value.int .u64 (n:Nat):=by
    subst hus
    simp only [wtN,List.map_cons,List.map_nil,Int.toNat_of_nonneg h2.1,Int.toNat_of_nonneg h4.1,Int.toNat_of_nonneg (show 0≤l[k].id by omega),Int.toNat_of_nonneg (show 0≤l[k].many by omega)]
   rw [←e]
   exact hw.cons fun _ h=>h.drop
  rw [←hus] at hu
  have hblen:=flat_len (l:=l.take k) (code:=wtB) (m:=45) fun w hw=>wtB_len (hq.ok w (List.mem_of_mem_take hw)) (hq.fl w (List.mem_of_mem_take hw))
  rw [List.length_take] at hblen
  have h0:=nums1_len (x:=(l.length:Int)) (by omega)
  obtain ⟨bs,hbs⟩:∃ bs,bs=numsB [(l.length:Int)]++((l.take k).map wtB).flatten:=⟨_,rfl⟩
  have hbl:bs.length≤10000:=by rw [hbs,List.length_append];omega
  rw [←hbs] at hw
  refine ⟨fun t i w=>∃ j:Nat,i=j∧j≤5∧Sat R (Own t 5 (b8 (bs++numsN (us.take j)))::pts b5 (.cells (us.map fun n=>Value.int .u64 (n:Nat)).toArray 141 (0,0))::wtC b2 l[k]::pts q (quCell s)::OwnN 5 s wtT (l.map wtV)::Hs) w,
   fun _ i _=>5 - i.toNat,⟨0,rfl,by omega,?_⟩,?_⟩
  ·have hw:Sat R (Own t 5 (b8 bs)::pts b5 (.cells (us.map fun n=>Value.int .u64 (n:Nat)).toArray 141 (0,0))::wtC b2 l[k]::pts q (quCell s)::OwnN 5 s wtT (l.map wtV)::Hs) w:=hw.arr
   simpa [numsN] using hw
  clear hw
  rintro _ t _ w ⟨j,rfl,hj,hw⟩
  refine Br.d (fun hj5=>?_) (fun hj5=>?_)
  ·have hj2:j<us.length:=by omega
   have hul2:=numsN_len (l:=us.take j) fun x hx=>hu x (List.mem_of_mem_take hx)
   rw [List.length_take] at hul2
   have huj:=hu _ (List.getElem_mem hj2)
   refine Rng.mk (by omega) (by omega) ⟨((us[j]:Nat):Int),?_,?_⟩
   ·have hjm:j<(us.map fun n=>Value.int .u64 (n:Nat)).length:=by rw [List.length_map];exact hj2
    have:=At.vals (b:=b5) (vs:=us.map fun n=>Value.int .u64 (n:Nat)) (eqS hw) hjm
    rw [List.getElem_map] at this
    exact this
   refine (number_spec huj hw).use ?_
   clear hw
   rintro _ w ⟨t1,rfl,hw⟩
   refine ⟨t1,rfl,?_⟩
   have hnb:=numB_len huj
   refine appendOO elB8 (s:=t) (n:=1099511627790) Tryz.underlying47 hw.swap (by rw [List.length_append];omega) (by omega) (by omega) fun s2 w hw=>?_
   have hw:=hw.cons fun _ h=>h.drop
   rw [wrap64 (x:=(j:Int) + 1) (by omega) (by omega)]
   refine ⟨⟨j + 1,by omega,by omega,?_⟩,by dsimp only;omega⟩
   rw [numsN_snoc hj2,←List.append_assoc]
   exact hw
  ·rw [List.take_of_length_le (by omega:us.length≤j),hus,←wtB_N,hbs,List.append_assoc,←flat_snoc hk2] at hw
   rw [wrap64 (x:=(k:Int) + 1) (by omega) (by omega)]
   exact ⟨⟨k + 1,by omega,by omega,hw.cons fun _ h=>h.drop.drop⟩,by dsimp only;omega⟩
 ·rw [List.take_of_length_le (by omega:l.length≤k)] at hw
  exact hK t w (hw.cons fun _ h=>Sat.qu.2 ⟨s,h⟩)
end Go.Proofs.YtlplemdmegpoeaaGreatDoor
/- Package booking: Save. Condition: bounds. -/
namespace Go.Proofs.YtlplemdmegpoeaaGreatDoor
set_option linter.unusedVariables false
set_option linter.unusedSimpArgs false
open Go Go.VC
open Classical
variable {R:Cx} {Hs Rest:List HP} {w:World}
theorem nn3s {a b c:Int} (h0:0≤a) (h1:0≤b) (h2:0≤c):numsB ([a,b,c].map nn)=numsB [a]++(numsB [b]++numsB [c]):=by
 show numsB [nn a,nn b,nn c]=_
 rw [nn_id h0,nn_id h1,nn_id h2,numsB_sp a,numsB_sp b]
theorem nn6s {a b c d e f:Int} (h0:0≤a) (h1:0≤b) (h2:0≤c) (h3:0≤d) (h4:0≤e) (h5:0≤f):numsB ([a,b,c,d,e,f].map nn)=numsB [a]++(numsB [b]++(numsB [c]++(numsB [d]++(numsB [e]++numsB [f])))):=by
 show numsB [nn a,nn b,nn c,nn d,nn e,nn f]=_
 rw [nn_id h0,nn_id h1,nn_id h2,nn_id h3,nn_id h4,nn_id h5,numsB_sp a,numsB_sp b,numsB_sp c,numsB_sp d,numsB_sp e]
theorem wtext_own {p:Nat} {s:Sl} {d bs:List Int} {T:TypeId} (hl:bs.length + d.length≤1099511627776) (hd:d.length≤1099511627776) (hw:Sat R (Own s T (b8 d)::WrB p bs::Hs) w):
  Gets Tryz.prog 63 #[.pointer (some ⟨p,0,none⟩),.slice s.a s.len s.cap] w fun v w'=>v=.tuple #[]∧Sat R (WrB p (bs++textB d)::Hs) w':=by
 obtain ⟨R1,e1,g1,hw⟩:=Own.leak hw
 refine (wtext_spec hl hd (g1.ro (by rw [List.length_map];omega)) hw).mono ?_
 rintro _ w ⟨rfl,hw⟩
 exact ⟨rfl,e1.back hw⟩
set_option maxHeartbeats 2000000 in
theorem bsave_spec {p:Nat} {b:Book} (k:Core b) (hw:Sat R (BookAt p b::Hs) w):
  Gets Tryz.prog 18 #[.pointer (some ⟨p,0,none⟩)] w fun v w'=>∃ t:Sl,v=.slice t.a t.len t.cap∧Sat R (Own t 5 (b8 (saveB b))::BookAt p b::Hs) w':=by
 apply call18
 suffices H:∀ K:Value→World→Prop,(∀ (t:Sl) w',Sat R (Own t 5 (b8 (saveB b))::BookAt p b::Hs) w'→K (.slice t.a t.len t.cap) w')→B18 (some ⟨p,0,none⟩) K w from H _ fun t w' h=>⟨t,rfl,h⟩
 intro K hK
 have k1:=k.now
 have k2:=k.next
 have k3:=k.few
 have k4:=k.many
 have a1:=nums1_len (x:=b.now) (by omega)
 have a2:=nums1_len (x:=b.next) (by omega)
 have a3:=nums1_len (x:=(b.fl.length:Int)) (by omega)
 have a4:=nums1_len (x:=(b.L.length:Int)) (by omega)
 have a5:∀ j,(((b.fl.take j).map plB).flatten).length≤304000:=fun j=>by
  have:=flat_len (l:=b.fl.take j) (code:=plB) (m:=38000) fun p hp=>plB_len (k.good p (List.mem_of_mem_take hp)) (k.qok p (List.mem_of_mem_take hp))
  rw [List.length_take] at this
  omega
 have a6:∀ j,(((b.L.take j).map bkB).flatten).length≤16200:=fun j=>by
  have:=flat_len (l:=b.L.take j) (code:=bkB) (m:=54) fun x hx=>bkB_len k2.2 (k.each x (List.mem_of_mem_take hx))
  rw [List.length_take] at this
  omega
 obtain ⟨m1,m2,fs,xs,hl,hw⟩:=Sat.book.1 hw
 have hfl:=fl_len hl
 have hbl:=bk_len hl
 refine new_rule hw fun pw w hw=>?_
 have hw:Sat R (WrB pw []::pts p (bookC b m1 m2)::MapAt m1 (fs.map flV)::MapAt m2 (xs.map bkV)::FlsAt fs::BksAt xs::Hs) w:=Sat.wrB.2 ⟨nilSl,(Own.nil hw).swap⟩
 have toS:∀ {A:List HP} {R:Cx} {w:World},Sat R (pts p (bookC b m1 m2)::MapAt m1 (fs.map flV)::A) w→Sat R [pts p (bookC b m1 m2),MapAt m1 (fs.map flV),VC.tru] w:=fun h=>h.cons fun _ h=>h.restTru2
 refine drw_rule' (Sat R [pts p (bookC b m1 m2),MapAt m1 (fs.map flV),VC.tru]) hw (fun w hw=>?_) fun w hw=>?_
 ·exact toS (hw.arr (Hs':=pts p (bookC b m1 m2)::MapAt m1 (fs.map flV)::WrB pw []::MapAt m2 (xs.map bkV)::FlsAt fs::BksAt xs::Hs))
 refine NilP.mk rfl ⟨b.now,At.own (fun _ h=>h) (by exact ⟨rfl,trivial⟩),NilP.mk rfl ⟨b.next,At.own (fun _ h=>h) (by exact ⟨rfl,trivial⟩),NilP.mk rfl ⟨some m1,At.own (fun _ h=>h) (by exact ⟨rfl,trivial⟩),((fs.map flV).length:Int),fun w' h=>MapAt.len (by kernel_rfl) h.swap,?_⟩⟩⟩
 rw [List.length_map,hfl]
 refine new_rule hw fun b26 w hw=>⟨?_,?_⟩
 ·exact toS (hw.arr (Hs':=pts p (bookC b m1 m2)::MapAt m1 (fs.map flV)::pts b26 (.cells #[.int .i64 b.now,.int .i64 b.next,.int .i64 (b.fl.length:Int)] 3 (0,0))::WrB pw []::MapAt m2 (xs.map bkV)::FlsAt fs::BksAt xs::Hs))
 refine (wlit_spec (xs:=[b.now,b.next,(b.fl.length:Int)]) rfl (by simp;omega) (by simp) hw).use ?_
 clear hw
 rintro _ w ⟨rfl,hw⟩
 refine ⟨rfl,?_,?_⟩
 ·exact toS (hw.arr (Hs':=pts p (bookC b m1 m2)::MapAt m1 (fs.map flV)::WrB pw ([]++numsB ([b.now,b.next,(b.fl.length:Int)].map nn))::MapAt m2 (xs.map bkV)::FlsAt fs::BksAt xs::Hs))
 rw [nn3s (by omega) (by omega) (by omega),List.nil_append] at hw
 obtain ⟨h0,hh0⟩:∃ h,h=numsB [b.now]++(numsB [b.next]++numsB [(b.fl.length:Int)]):=⟨_,rfl⟩
 have hl0:h0.length≤27:=by rw [hh0];simp only [List.length_append];omega
 rw [←hh0] at hw
 have hw:Sat R (pts p (bookC b m1 m2)::MapAt m1 (fs.map flV)::WrB pw h0::MapAt m2 (xs.map bkV)::FlsAt fs::BksAt xs::Hs) w:=hw.arr
 refine NilP.mk rfl ⟨some m1,At.own (eqS hw) (by exact ⟨rfl,trivial⟩),?_⟩
 refine sortF_rule k hl hw.swap ?_
 clear hw
 intro s w hw
 have hsl:=Own.len hw
 rw [List.length_map,List.length_map] at hsl
 obtain ⟨MF,hMF⟩:∃ M,M=fs.map flV:=⟨_,rfl⟩
 obtain ⟨MB,hMB⟩:∃ M,M=xs.map bkV:=⟨_,rfl⟩
 obtain ⟨nums,hnums⟩:∃ n,n=b.fl.map Pl.n:=⟨_,rfl⟩
 have hnl:nums.length=b.fl.length:=by rw [hnums,List.length_map]
 rw [←hMF,←hMB,←hnums] at hw
 have hw:Sat R (WrB pw h0::Own s 3 (intsI nums)::pts p (bookC b m1 m2)::MapAt m1 MF::MapAt m2 MB::FlsAt fs::BksAt xs::Hs) w:=hw.arr
 refine ⟨fun i w=>∃ j:Nat,i=j∧j≤b.fl.length∧Sat R (WrB pw (h0++((b.fl.take j).map plB).flatten)::Own s 3 (intsI nums)::pts p (bookC b m1 m2)::MapAt m1 MF::MapAt m2 MB::FlsAt fs::BksAt xs::Hs) w,
  fun i _=>b.fl.length - i.toNat,⟨0,rfl,by omega,by simpa using hw⟩,?_⟩
 clear hw
 rintro _ _ w ⟨j,rfl,hj,hw⟩
 have hla:=a5 j
 refine Br.d (fun h=>?_) (fun h=>?_)
 ·have hj2:j<b.fl.length:=by omega
  obtain ⟨pl,hpl⟩:∃ pl,pl=b.fl[j]:=⟨_,rfl⟩
  have hmem:pl∈b.fl:=by rw [hpl];exact List.getElem_mem _
  have hat:b.at pl.n=some pl:=(at_iff k).2 ⟨hmem,rfl⟩
  have hnj:nums[j]'(by omega)=pl.n:=by subst hnums;rw [List.getElem_map,hpl]
  have hg:=k.good pl hmem
  have hq:=k.qok pl hmem
  have e1:=renc_tight hg
  have e2:=qB_len hq
  have hw2:Sat R (Own s 3 (intsI nums)::WrB pw (h0++((b.fl.take j).map plB).flatten)::pts p (bookC b m1 m2)::MapAt m1 MF::MapAt m2 MB::FlsAt fs::BksAt xs::Hs) w:=hw.swap
  refine Own.ix hw2 (eqS hw2) j rfl (by omega) ?_
  rw [hnj]
  refine NilP.mk rfl ⟨some m1,At.own (eqS hw) (by exact ⟨rfl,trivial⟩),?_⟩
  obtain ⟨A,f,q,C,hfs,hm⟩:=fl_split hl k.nums hat
  have hgm:getM pl.n MF=some (.agg #[.pointer (some ⟨f,0,none⟩),.pointer (some ⟨q,0,none⟩)]):=by rw [hMF,hfs];exact fl_get hm
  refine ⟨some ⟨f,0,none⟩,some ⟨q,0,none⟩,fun w' e=>?_,?_⟩
  ·rw [show w'=w from e]
   have hm1:Sat R (MapAt m1 MF::WrB pw (h0++((b.fl.take j).map plB).flatten)::Own s 3 (intsI nums)::pts p (bookC b m1 m2)::MapAt m2 MB::FlsAt fs::BksAt xs::Hs) w:=hw.arr
   have:=MapAt.look pMap hm1 pl.n false
   rw [hgm] at this
   exact this
  clear hw2
  refine new_rule hw fun b6 w hw=>?_
  refine store_rule hw (by kernel_rfl) rfl (by simp [Value.cells]) fun w hw=>?_
  have hw:=hw.re (fqC b6 f q)
  rw [hfs] at hw
  have hw:Sat R (FlsAt (A++(f,q,pl)::C)::fqC b6 f q::WrB pw (h0++((b.fl.take j).map plB).flatten)::Own s 3 (intsI nums)::pts p (bookC b m1 m2)::MapAt m1 MF::MapAt m2 MB::BksAt xs::Hs) w:=hw.arr
  have hw:=fls_mid.1 hw
  refine ⟨some ⟨f,0,none⟩,At.own (eqS hw) (by exact ⟨rfl,trivial⟩),?_⟩
  refine (lone_encode hw).use ?_
  clear hw
  rintro _ w ⟨t1,rfl,hw⟩
  refine ⟨t1,rfl,?_⟩
  have hw:Sat R (Own t1 5 (b8 (rencB pl.r))::WrB pw (h0++((b.fl.take j).map plB).flatten)::QuAt q pl.q::LoneAt f pl.r::FlsAt (A++C)::fqC b6 f q::Own s 3 (intsI nums)::pts p (bookC b m1 m2)::MapAt m1 MF::MapAt m2 MB::BksAt xs::Hs) w:=hw.arr
  refine (wtext_own (by rw [List.length_append];omega) (by omega) hw).use ?_
  clear hw
  rintro _ w ⟨rfl,hw⟩
  refine ⟨rfl,some ⟨q,0,none⟩,At.own (eqS hw) (by exact ⟨rfl,trivial⟩),?_⟩
  refine (qenc_spec hq hw.swap).use ?_
  clear hw
  rintro _ w ⟨t2,rfl,hw⟩
  refine ⟨t2,rfl,?_⟩
  have e3:=textB_len (d:=rencB pl.r) (by omega)
  have hw:Sat R (Own t2 5 (b8 (qB pl.q))::WrB pw (h0++((b.fl.take j).map plB).flatten++textB (rencB pl.r))::QuAt q pl.q::LoneAt f pl.r::FlsAt (A++C)::fqC b6 f q::Own s 3 (intsI nums)::pts p (bookC b m1 m2)::MapAt m1 MF::MapAt m2 MB::BksAt xs::Hs) w:=hw.arr
  refine (wtext_own (by simp only [List.length_append];omega) (by omega) hw).use ?_
  clear hw
  rintro _ w ⟨rfl,hw⟩
  rw [wrap64 (x:=(j:Int) + 1) (by omega) (by omega)]
  refine ⟨rfl,⟨j + 1,by omega,by omega,?_⟩,by dsimp only;omega⟩
  have ebs:h0++((b.fl.take j).map plB).flatten++textB (rencB pl.r)++textB (qB pl.q)=h0++((b.fl.take (j + 1)).map plB).flatten:=by
   rw [flat_snoc hj2,←hpl]
   unfold plB
   simp only [List.append_assoc]
  rw [ebs] at hw
  have hw:Sat R (LoneAt f pl.r::QuAt q pl.q::FlsAt (A++C)::WrB pw (h0++((b.fl.take (j + 1)).map plB).flatten)::fqC b6 f q::Own s 3 (intsI nums)::pts p (bookC b m1 m2)::MapAt m1 MF::MapAt m2 MB::BksAt xs::Hs) w:=hw.arr
  have hw:=fls_mid.2 hw
  rw [←hfs] at hw
  have hw:Sat R (fqC b6 f q::WrB pw (h0++((b.fl.take (j + 1)).map plB).flatten)::Own s 3 (intsI nums)::pts p (bookC b m1 m2)::MapAt m1 MF::MapAt m2 MB::FlsAt fs::BksAt xs::Hs) w:=hw.arr
  exact hw.drop
 ·have hjf:j=b.fl.length:=by omega
  rw [hjf,List.take_length] at hw
  have a50:=a5 b.fl.length
  rw [List.take_length] at a50
  refine NilP.mk rfl ⟨some m2,At.own (eqS hw) (by exact ⟨rfl,trivial⟩),(MB.length:Int),fun w' e=>?_,?_⟩
  ·rw [show w'=w from e]
   have hm2:Sat R (MapAt m2 MB::WrB pw (h0++(b.fl.map plB).flatten)::Own s 3 (intsI nums)::pts p (bookC b m1 m2)::MapAt m1 MF::FlsAt fs::BksAt xs::Hs) w:=hw.arr
   exact MapAt.len (by kernel_rfl) hm2
  rw [show MB.length=b.L.length by rw [hMB,List.length_map,hbl]]
  refine new_rule hw fun b62 w hw=>?_
  refine (wlit_spec (xs:=[(b.L.length:Int)]) rfl (by simp;omega) (by simp only [List.length_append,List.length_cons,List.length_nil];omega) hw).use ?_
  clear hw
  rintro _ w ⟨rfl,hw⟩
  rw [nn1 (by omega)] at hw
  obtain ⟨h1,hh1⟩:∃ h,h=h0++(b.fl.map plB).flatten++numsB [(b.L.length:Int)]:=⟨_,rfl⟩
  have hl1:h1.length≤305000:=by rw [hh1];simp only [List.length_append];omega
  rw [←hh1] at hw
  refine ⟨rfl,NilP.mk rfl ⟨some m2,At.own (eqS hw) (by exact ⟨rfl,trivial⟩),?_⟩⟩
  have hw:Sat R (MapAt m2 MB::WrB pw h1::pts p (bookC b m1 m2)::MapAt m1 MF::FlsAt fs::BksAt xs::Own s 3 (intsI nums)::Hs) w:=hw.arr
  rw [hMB] at hw
  refine sortB_rule k hl hw ?_
  clear hw
  intro s2 w hw
  have hsl2:=Own.len hw
  rw [List.length_map,List.length_map] at hsl2
  obtain ⟨ids,hids⟩:∃ n,n=b.L.map Bk.id:=⟨_,rfl⟩
  have hil:ids.length=b.L.length:=by rw [hids,List.length_map]
  rw [←hMB,←hids] at hw
  have hw:Sat R (WrB pw h1::Own s2 3 (intsI ids)::pts p (bookC b m1 m2)::MapAt m1 MF::MapAt m2 MB::FlsAt fs::BksAt xs::Hs) w:=by
   have h:Sat R (Own s 3 (intsI nums)::WrB pw h1::Own s2 3 (intsI ids)::pts p (bookC b m1 m2)::MapAt m1 MF::MapAt m2 MB::FlsAt fs::BksAt xs::Hs) w:=hw.arr
   exact h.drop
  refine ⟨fun i w=>∃ j:Nat,i=j∧j≤b.L.length∧Sat R (WrB pw (h1++((b.L.take j).map bkB).flatten)::Own s2 3 (intsI ids)::pts p (bookC b m1 m2)::MapAt m1 MF::MapAt m2 MB::FlsAt fs::BksAt xs::Hs) w,
   fun i _=>b.L.length - i.toNat,⟨0,rfl,by omega,by simpa using hw⟩,?_⟩
  clear hw
  rintro _ _ w ⟨j,rfl,hj,hw⟩
  have hlb:=a6 j
  refine Br.d (fun h=>?_) (fun h=>?_)
  ·have hj2:j<b.L.length:=by omega
   obtain ⟨x,hx⟩:∃ x,x=b.L[j]:=⟨_,rfl⟩
   have hmem:x∈b.L:=by rw [hx];exact List.getElem_mem _
   have hnj:ids[j]'(by omega)=x.id:=by subst hids;rw [List.getElem_map,hx]
   obtain ⟨A,a,C,hxs,hm⟩:=bk_split hl k.ids hmem
   have hgm:getM x.id MB=some (.pointer (some ⟨a,0,none⟩)):=by rw [hMB,hxs];exact bk_get hm
   have ke:=k.each x hmem
   have x1:=ke.id
   have x2:=ke.flt
   have x3:=ke.cls
   have x4:=ke.many
   have x5:=ke.state
   have x6:=ke.till
   have hw2:Sat R (Own s2 3 (intsI ids)::WrB pw (h1++((b.L.take j).map bkB).flatten)::pts p (bookC b m1 m2)::MapAt m1 MF::MapAt m2 MB::FlsAt fs::BksAt xs::Hs) w:=hw.swap
   refine Own.ix hw2 (eqS hw2) j rfl (by omega) ?_
   rw [hnj]
   refine NilP.mk rfl ⟨some m2,At.own (eqS hw) (by exact ⟨rfl,trivial⟩),?_⟩
   refine ⟨some ⟨a,0,none⟩,fun w' e=>?_,?_⟩
   ·rw [show w'=w from e]
    have hm1:Sat R (MapAt m2 MB::WrB pw (h1++((b.L.take j).map bkB).flatten)::Own s2 3 (intsI ids)::pts p (bookC b m1 m2)::MapAt m1 MF::FlsAt fs::BksAt xs::Hs) w:=hw.arr
    have:=MapAt.look bMap hm1 x.id false
    rw [hgm] at this
    exact this
   clear hw2
   rw [hxs] at hw
   have hw:Sat R (BksAt (A++(a,x)::C)::WrB pw (h1++((b.L.take j).map bkB).flatten)::Own s2 3 (intsI ids)::pts p (bookC b m1 m2)::MapAt m1 MF::MapAt m2 MB::FlsAt fs::Hs) w:=hw.arr
   have hw:=bks_mid.1 hw
   have toS2:∀ {A:List HP} {R:Cx} {w:World},Sat R (pts a (bkObj x)::A) w→Sat R [pts a (bkObj x),VC.tru] w:=fun h=>h.restTru2
   refine drw_rule' (Sat R [pts a (bkObj x),VC.tru]) hw (fun w hw=>toS2 hw) fun w hw=>?_
   refine NilP.mk rfl ⟨x.flt,At.own (fun _ h=>h) (by exact ⟨rfl,trivial⟩),NilP.mk rfl ⟨x.cls,At.own (fun _ h=>h) (by exact ⟨rfl,trivial⟩),NilP.mk rfl ⟨x.many,At.own (fun _ h=>h) (by exact ⟨rfl,trivial⟩),NilP.mk rfl ⟨x.state,At.own (fun _ h=>h) (by exact ⟨rfl,trivial⟩),NilP.mk rfl ⟨x.till,At.own (fun _ h=>h) (by exact ⟨rfl,trivial⟩),?_⟩⟩⟩⟩⟩
   have hw:Sat R (WrB pw (h1++((b.L.take j).map bkB).flatten)::pts a (bkObj x)::BksAt (A++C)::Own s2 3 (intsI ids)::pts p (bookC b m1 m2)::MapAt m1 MF::MapAt m2 MB::FlsAt fs::Hs) w:=hw.arr
   refine new_rule hw fun b103 w hw=>?_
   refine (wlit_spec (xs:=[x.id,x.flt,x.cls,x.many,x.state,x.till]) rfl (by simp;omega) (by simp only [List.length_append,List.length_cons,List.length_nil];omega) hw).use ?_
   clear hw
   rintro _ w ⟨rfl,hw⟩
   rw [nn6s (by omega) (by omega) (by omega) (by omega) (by omega) (by omega)] at hw
   have ebs:h1++((b.L.take j).map bkB).flatten++(numsB [x.id]++(numsB [x.flt]++(numsB [x.cls]++(numsB [x.many]++(numsB [x.state]++numsB [x.till])))))=h1++((b.L.take (j + 1)).map bkB).flatten:=by
    rw [flat_snoc hj2,←hx,List.append_assoc]
    rfl
   rw [ebs] at hw
   rw [wrap64 (x:=(j:Int) + 1) (by omega) (by omega)]
   have hw:Sat R (pts a (bkObj x)::BksAt (A++C)::WrB pw (h1++((b.L.take (j + 1)).map bkB).flatten)::Own s2 3 (intsI ids)::pts p (bookC b m1 m2)::MapAt m1 MF::MapAt m2 MB::FlsAt fs::Hs) w:=hw.arr
   refine ⟨rfl,toS2 hw,⟨j + 1,by omega,by omega,?_⟩,by dsimp only;omega⟩
   have hw:=bks_mid.2 hw
   rw [←hxs] at hw
   exact hw.arr
  ·have hjf:j=b.L.length:=by omega
   rw [hjf,List.take_length] at hw
   obtain ⟨t,hw⟩:=Sat.wrB.1 hw
   refine ⟨t,At.own (eqS hw) (by exact ⟨rfl,trivial⟩),hK t w ?_⟩
   have e:h1++(b.L.map bkB).flatten=saveB b:=by
    rw [hh1,hh0]
    unfold saveB
    simp only [List.append_assoc]
   rw [e] at hw
   rw [hMF,hMB] at hw
   have hw:=hw.drop
   refine hw.cons fun _ h=>Sat.book.2 ⟨m1,m2,fs,xs,hl,h.drop⟩
end Go.Proofs.YtlplemdmegpoeaaGreatDoor
/- Package session: Save. Condition: bounds. -/
namespace Go.Proofs.YtlplemdmegpoeaaGreatDoor
set_option linter.unusedVariables false
set_option linter.unusedSimpArgs false
open Go Go.VC
open Classical
variable {R:Cx} {Hs Rest:List HP} {w:World}
def RiseT (t:Tb):Prop:=(t.cl.map Cl.id).Pairwise fun a b=>a<b
structure TbC (t:Tb):Prop where
 nx:1≤t.next
 each:∀ c∈t.cl,ClOk t.next c
 ids:(t.cl.map Cl.id).Nodup
 few:t.cl.length≤64
 core:Core t.bk
def clB (c:Cl):List Int:=numsB ([c.id,c.tok,c.last].map nn)++textB c.rep
def saveT (t:Tb):List Int:=numsB ([t.next,(t.cl.length:Int)].map nn)++(t.cl.map clB).flatten++textB (saveB t.bk)
theorem nnl {l:List Int} (h:∀ x∈l,x<9223372036854775808):(numsB (l.map nn)).length≤9 * l.length:=by
 have:=numsB_len (l:=l.map nn) fun y hy=>by
  obtain ⟨x,hx,rfl⟩:=List.mem_map.1 hy
  have:=nn_bd (h x hx)
  omega
 rwa [List.length_map] at this
theorem clB_len {n:Int} {c:Cl} (h:ClOk n c) (hn:n≤1099511627776):(clB c).length≤66000:=by
 have h1:=h.id
 have h2:=h.tok
 have h3:=h.last
 have h4:=h.rep
 have l1:=nnl (l:=[c.id,c.tok,c.last]) fun x hx=>by
  simp only [List.mem_cons,List.not_mem_nil,or_false] at hx
  rcases hx with rfl|rfl|rfl<;>omega
 have l2:=textB_len (d:=c.rep) (by omega)
 simp only [List.length_cons,List.length_nil] at l1
 unfold clB
 rw [List.length_append]
 omega
theorem find_keyG {α:Type} {l:List α} {f:α→Int} (h:(l.map f).Nodup) {c:α} (hc:c∈l):l.find? (fun d=>f d==f c)=some c:=by
 induction l with
 |nil=>cases hc
 |cons x l ih=>
  rw [List.map_cons,List.nodup_cons] at h
  rw [List.find?_cons]
  rcases List.mem_cons.1 hc with h1|h1
  ·subst h1
   simp
  ·have:f x≠f c:=fun e=>h.1 (List.mem_map.2 ⟨c,h1,e.symm⟩)
   rw [show (f x==f c)=false by simpa using this]
   exact ih h.2 h1
theorem sortC_rule {m:Nat} {t:Tb} {E:List SE} {K:Sl→World→Prop} (k:TbC t) (hr:RiseT t) (hn:t.next≤1099511627776) (hE:E.map Prod.snd=t.cl) (hw:Sat R (MapAt m (E.map cliV)::Hs) w)
  (kk:∀ s w',Sat R (Own s 3 (intsI (t.cl.map Cl.id))::MapAt m (E.map cliV)::Hs) w'→K s w'):
  Calls Tryz.prog 82 #[.map (some m)] w fun e w1=>∃ t:Value,e=.returned t∧Calls Tryz.prog 61 #[t] w1 fun e w2=>∃ t:Sl,e=.returned (.slice t.a t.len t.cap)∧K t w2:=by
 have hk:(E.map cliV).map (·.1)=t.cl.map Cl.id:=by
  rw [←hE,List.map_map,List.map_map]
  rfl
 obtain ⟨l,c,hs,hst,hp⟩:=MapAt.iff.1 hw
 obtain ⟨D0,hown,hsz,hperm⟩:=keysB_map hs hst (by rw [hk];exact k.ids) (fun i hi=>by
  rw [hk] at hi
  obtain ⟨x,hx,rfl⟩:=List.mem_map.1 hi
  have:=(k.each x hx).id
  omega) (by have:=k.few;rw [←hE,List.length_map] at this;rw [List.length_map];omega) hp.at
 refine (callsIn_wide.1 (Tryz.maps_Keys_82 (some m) w)).mono ?_
 rintro _ _ ⟨rfl,rfl⟩
 refine ⟨_,rfl,?_⟩
 refine (callsIn_wide.1 (Tryz.slices_Sorted_keys_61_82 m _ D0 _ w hown (by unfold maxLen;omega) (by omega))).mono ?_
 rintro _ w' ⟨v,ss,rfl,hS,hrow,hnil,hb⟩
 have hw1:Sat R (MapAt m (E.map cliV)::Hs) (w.alloc (.cells #[.map (some m)] 126)):=(Sat.alloc _ hw).drop
 obtain ⟨s,rfl,h3⟩:=Sat.ownsRow hw1 hb hrow
 refine ⟨s,rfl,kk s _ ?_⟩
 have e:=sortI_eq (List.Perm.of_eq hk) hr
 rw [←sortI_perm (hperm ss hS)] at e
 rw [←e]
 exact h3
theorem cl_flat {j:Nat} {l:List Cl} (h:j<l.length):((l.take (j + 1)).map clB).flatten=((l.take j).map clB).flatten++clB l[j]:=by
 rw [List.take_add_one,List.getElem?_eq_getElem h,List.map_append,List.flatten_append]
 simp
set_option maxHeartbeats 2000000 in
theorem ssave_spec {p:Nat} {t:Tb} (k:TbC t) (hr:RiseT t) (hn:t.next≤1099511627776) (hw:Sat R (TbAt p t::Hs) w):
  Gets Tryz.prog 26 #[.pointer (some ⟨p,0,none⟩)] w fun v w'=>∃ s:Sl,v=.slice s.a s.len s.cap∧Sat R (Own s 5 (b8 (saveT t))::TbAt p t::Hs) w':=by
 apply call26
 suffices H:∀ K:Value→World→Prop,(∀ (s:Sl) w',Sat R (Own s 5 (b8 (saveT t))::TbAt p t::Hs) w'→K (.slice s.a s.len s.cap) w')→B26 (some ⟨p,0,none⟩) K w from H _ fun t w' h=>⟨t,rfl,h⟩
 intro K hK
 have knx:=k.nx
 have kfew:=k.few
 obtain ⟨m,bk,E,hE,hw⟩:=Sat.tb.1 hw
 have hlE:E.length=t.cl.length:=by rw [←hE,List.length_map]
 have hnE:(E.map fun e:SE=>e.2.id).Nodup:=by
  have:=k.ids
  rw [←hE,List.map_map] at this
  exact this
 have a5:∀ j,(((t.cl.take j).map clB).flatten).length≤66000 * 64:=fun j=>by
  have:=flat_len (l:=t.cl.take j) (code:=clB) (m:=66000) fun c hc=>clB_len (k.each c (List.mem_of_mem_take hc)) hn
  rw [List.length_take] at this
  have h2:min j t.cl.length≤64:=by omega
  have:=Nat.mul_le_mul_left 66000 h2
  omega
 have hw:Sat R (pts p (tblC bk t.next m)::MapAt m (E.map cliV)::Star (E.map cliAt)::BookAt bk t.bk::Hs) w:=hw
 have toS:∀ {A:List HP} {R:Cx} {w:World},Sat R (pts p (tblC bk t.next m)::MapAt m (E.map cliV)::A) w→Sat R [pts p (tblC bk t.next m),MapAt m (E.map cliV),VC.tru] w:=fun h=>h.cons fun _ h=>h.restTru2
 refine drw_rule' (Sat R [pts p (tblC bk t.next m),MapAt m (E.map cliV),VC.tru]) hw (fun w hw=>toS hw) fun w hw=>?_
 refine NilP.mk rfl ⟨t.next,At.own (fun _ h=>h) (by exact ⟨rfl,trivial⟩),NilP.mk rfl ⟨some m,At.own (fun _ h=>h) (by exact ⟨rfl,trivial⟩),((E.map cliV).length:Int),fun w' h=>MapAt.len (by kernel_rfl) h.swap,?_⟩⟩
 rw [List.length_map,hlE]
 refine new_rule hw fun b16 w hw=>⟨?_,?_⟩
 ·exact toS hw.drop
 refine (slit_spec (xs:=[t.next,(t.cl.length:Int)]) rfl (fun x hx=>by
  simp only [List.mem_cons,List.not_mem_nil,or_false] at hx
  rcases hx with rfl|rfl<;>omega) (by simp) hw).use ?_
 clear hw
 rintro _ w ⟨s1,rfl,hw⟩
 refine ⟨s1,rfl,toS hw.drop,?_⟩
 obtain ⟨h0,hh0⟩:∃ h,h=numsB ([t.next,(t.cl.length:Int)].map nn):=⟨_,rfl⟩
 have hl0:h0.length≤18:=by
  rw [hh0]
  exact nnl (l:=[t.next,(t.cl.length:Int)]) fun x hx=>by
   simp only [List.mem_cons,List.not_mem_nil,or_false] at hx
   rcases hx with rfl|rfl<;>omega
 have hsv:saveT t=h0++(t.cl.map clB).flatten++textB (saveB t.bk):=by rw [hh0];rfl
 rw [←hh0] at hw
 refine NilP.mk rfl ⟨some m,At.own (eqS hw) (by exact ⟨rfl,trivial⟩),?_⟩
 have hw:Sat R (MapAt m (E.map cliV)::Own s1 5 (b8 h0)::pts p (tblC bk t.next m)::Star (E.map cliAt)::BookAt bk t.bk::Hs) w:=hw.arr
 refine sortC_rule k hr hn hE hw ?_
 clear hw
 intro s w hw
 obtain ⟨MC,hMC⟩:∃ M,M=E.map cliV:=⟨_,rfl⟩
 obtain ⟨nums,hnums⟩:∃ n,n=t.cl.map Cl.id:=⟨_,rfl⟩
 have hnl:nums.length=t.cl.length:=by rw [hnums,List.length_map]
 rw [←hMC,←hnums] at hw
 have hsl:=Own.len hw
 rw [List.length_map] at hsl
 have hw:Sat R (Own s1 5 (b8 h0)::Own s 3 (intsI nums)::pts p (tblC bk t.next m)::MapAt m MC::Star (E.map cliAt)::BookAt bk t.bk::Hs) w:=hw.arr
 refine ⟨fun o i w=>∃ j:Nat,i=j∧j≤t.cl.length∧Sat R (Own o 5 (b8 (h0++((t.cl.take j).map clB).flatten))::Own s 3 (intsI nums)::pts p (tblC bk t.next m)::MapAt m MC::Star (E.map cliAt)::BookAt bk t.bk::Hs) w,
  fun _ i _=>t.cl.length - i.toNat,⟨0,rfl,by omega,by simpa using hw⟩,?_⟩
 clear hw
 rintro _ o _ w ⟨j,rfl,hj,hw⟩
 have hla:=a5 j
 refine Br.d (fun h=>?_) (fun h=>?_)
 ·have hj2:j<t.cl.length:=by omega
  have hjE:j<E.length:=by omega
  obtain ⟨e,he⟩:∃ e,e=E[j]:=⟨_,rfl⟩
  have hec:t.cl[j]=e.2:=by
   rw [he]
   have:t.cl[j]? =(E.map Prod.snd)[j]?:=by rw [hE]
   rw [List.getElem?_eq_getElem hj2,List.getElem?_eq_getElem (by rw [List.length_map];omega),List.getElem_map] at this
   exact Option.some.inj this
  have hem:e∈E:=by rw [he];exact List.getElem_mem _
  have hcm:e.2∈t.cl:=by rw [←hec];exact List.getElem_mem _
  have hnj:nums[j]'(by omega)=e.2.id:=by subst hnums;rw [List.getElem_map,hec]
  have hck:=k.each _ hcm
  have c1:=hck.id
  have c2:=hck.tok
  have c3:=hck.last
  have c4:=hck.rep
  obtain ⟨A,C,hAC⟩:=List.append_of_mem hem
  have hgm:getM e.2.id MC=some (.pointer (some ⟨e.1,0,none⟩)):=by
   rw [hMC,cl_get,find_keyG (f:=fun e:SE=>e.2.id) hnE hem]
   rfl
  have hw2:Sat R (Own s 3 (intsI nums)::Own o 5 (b8 (h0++((t.cl.take j).map clB).flatten))::pts p (tblC bk t.next m)::MapAt m MC::Star (E.map cliAt)::BookAt bk t.bk::Hs) w:=hw.swap
  refine Own.ix hw2 (eqS hw2) j rfl (by omega) ?_
  rw [hnj]
  refine NilP.mk rfl ⟨some m,At.own (eqS hw) (by exact ⟨rfl,trivial⟩),some ⟨e.1,0,none⟩,fun w' e2=>?_,?_⟩
  ·rw [show w'=w from e2]
   have hm1:Sat R (MapAt m MC::Own s 3 (intsI nums)::Own o 5 (b8 (h0++((t.cl.take j).map clB).flatten))::pts p (tblC bk t.next m)::Star (E.map cliAt)::BookAt bk t.bk::Hs) w:=hw.arr
   have:=MapAt.look cMap hm1 e.2.id false
   rw [hgm] at this
   exact this
  clear hw2
  obtain ⟨sr,hw⟩:∃ sr:Sl,Sat R (pts e.1 (cliObj e.2 sr)::Own sr 5 (b8 e.2.rep)::Star (A.map cliAt++C.map cliAt)::Own o 5 (b8 (h0++((t.cl.take j).map clB).flatten))::Own s 3 (intsI nums)::pts p (tblC bk t.next m)::MapAt m MC::BookAt bk t.bk::Hs) w:=by
   have h3:Sat R (Star (E.map cliAt)::Own o 5 (b8 (h0++((t.cl.take j).map clB).flatten))::Own s 3 (intsI nums)::pts p (tblC bk t.next m)::MapAt m MC::BookAt bk t.bk::Hs) w:=hw.arr
   rw [hAC] at h3
   exact cl_pick.1 h3
  refine drw_rule' (Sat R [pts e.1 (cliObj e.2 sr),VC.tru]) hw (fun w hw=>hw.restTru2) fun w hw=>?_
  refine NilP.mk rfl ⟨e.2.tok,by rw [add_off];exact At.own (fun _ h=>h) (by exact ⟨rfl,trivial⟩),NilP.mk rfl ⟨e.2.last,At.own (fun _ h=>h) (by exact ⟨rfl,trivial⟩),?_⟩⟩
  refine new_rule hw fun b45 w hw=>?_
  have hb3:∀ x∈[e.2.id,e.2.tok,e.2.last],x<9223372036854775808:=fun x hx=>by
   simp only [List.mem_cons,List.not_mem_nil,or_false] at hx
   rcases hx with rfl|rfl|rfl<;>omega
  refine (slit_spec (xs:=[e.2.id,e.2.tok,e.2.last]) rfl hb3 (by simp) hw).use ?_
  clear hw
  rintro _ w ⟨s2,rfl,hw⟩
  refine ⟨s2,rfl,hw.drop.restTru2,?_⟩
  have l3:=nnl hb3
  simp only [List.length_cons,List.length_nil] at l3
  have hw:Sat R (Own s2 5 (b8 (numsB ([e.2.id,e.2.tok,e.2.last].map nn)))::Own o 5 (b8 (h0++((t.cl.take j).map clB).flatten))::pts e.1 (cliObj e.2 sr)::Own sr 5 (b8 e.2.rep)::Star (A.map cliAt++C.map cliAt)::Own s 3 (intsI nums)::pts p (tblC bk t.next m)::MapAt m MC::BookAt bk t.bk::Hs) w:=hw.arr
  refine app8 (by rw [List.length_append];omega) hw fun o2 w hw=>?_
  have hw:Sat R (pts e.1 (cliObj e.2 sr)::Own sr 5 (b8 e.2.rep)::Own o2 5 (b8 (h0++((t.cl.take j).map clB).flatten++numsB ([e.2.id,e.2.tok,e.2.last].map nn)))::Star (A.map cliAt++C.map cliAt)::Own s 3 (intsI nums)::pts p (tblC bk t.next m)::MapAt m MC::BookAt bk t.bk::Hs) w:=hw.arr
  refine ⟨hw.restTru2,NilP.mk rfl ⟨sr,At.own (eqS hw) (by exact ⟨rfl,trivial⟩),?_⟩⟩
  obtain ⟨R2,r2,_,hw,back⟩:=Own.lend hw.swap (by rw [List.length_map];omega)
  refine (ftext_spec r2 (by omega) hw).use ?_
  clear hw
  rintro _ w ⟨s3,rfl,hw⟩
  have hw:=back hw
  have l4:=textB_len (d:=e.2.rep) (by omega)
  refine ⟨s3,rfl,?_⟩
  have hw:Sat R (Own s3 5 (b8 (textB e.2.rep))::Own o2 5 (b8 (h0++((t.cl.take j).map clB).flatten++numsB ([e.2.id,e.2.tok,e.2.last].map nn)))::pts e.1 (cliObj e.2 sr)::Own sr 5 (b8 e.2.rep)::Star (A.map cliAt++C.map cliAt)::Own s 3 (intsI nums)::pts p (tblC bk t.next m)::MapAt m MC::BookAt bk t.bk::Hs) w:=hw.arr
  refine app8 (by simp only [List.length_append];omega) hw fun o3 w hw=>?_
  rw [wrap64 (x:=(j:Int) + 1) (by omega) (by omega)]
  refine ⟨⟨j + 1,by omega,by omega,?_⟩,by dsimp only;omega⟩
  have ebs:h0++((t.cl.take j).map clB).flatten++numsB ([e.2.id,e.2.tok,e.2.last].map nn)++textB e.2.rep=h0++((t.cl.take (j + 1)).map clB).flatten:=by
   rw [cl_flat hj2,hec]
   unfold clB
   simp only [List.append_assoc]
  rw [ebs] at hw
  have hw:Sat R (pts e.1 (cliObj e.2 sr)::Own sr 5 (b8 e.2.rep)::Star (A.map cliAt++C.map cliAt)::Own o3 5 (b8 (h0++((t.cl.take (j + 1)).map clB).flatten))::Own s 3 (intsI nums)::pts p (tblC bk t.next m)::MapAt m MC::BookAt bk t.bk::Hs) w:=hw.arr
  have hw:=cl_pick.2 ⟨sr,hw⟩
  rw [←hAC] at hw
  exact hw.arr
 ·refine NilP.mk rfl ⟨some ⟨bk,0,none⟩,by rw [add_off];exact At.own (eqS hw) (by exact ⟨rfl,trivial⟩),?_⟩
  have hw:Sat R (BookAt bk t.bk::Own o 5 (b8 (h0++((t.cl.take j).map clB).flatten))::Own s 3 (intsI nums)::pts p (tblC bk t.next m)::MapAt m MC::Star (E.map cliAt)::Hs) w:=hw.arr
  refine (bsave_spec k.core hw).use ?_
  clear hw
  rintro _ w ⟨s4,rfl,hw⟩
  have hsl4:=saveB_len k.core
  refine ⟨s4,rfl,?_⟩
  obtain ⟨R2,r2,_,hw,back⟩:=Own.lend hw (by rw [List.length_map];omega)
  refine (ftext_spec r2 (by omega) hw).use ?_
  clear hw
  rintro _ w ⟨s5,rfl,hw⟩
  have hw:=(back hw).drop
  have l5:=textB_len (d:=saveB t.bk) (by omega)
  refine ⟨s5,rfl,?_⟩
  have hw:Sat R (Own s5 5 (b8 (textB (saveB t.bk)))::Own o 5 (b8 (h0++((t.cl.take j).map clB).flatten))::Own s 3 (intsI nums)::pts p (tblC bk t.next m)::MapAt m MC::Star (E.map cliAt)::BookAt bk t.bk::Hs) w:=hw.arr
  refine app8 (by rw [List.length_append];omega) hw fun o2 w hw=>?_
  rw [List.take_of_length_le (by omega),←hsv] at hw
  rw [hMC] at hw
  refine hK _ _ (hw.cons fun _ h=>Sat.tb.2 ⟨m,bk,E,hE,?_⟩)
  have h:=h.drop
  exact h
end Go.Proofs.YtlplemdmegpoeaaGreatDoor


/- Chapter 18: BookingRefused. Condition: the sizes of what is handed. -/
namespace Go.Proofs.YtlplemdmegpoeaaGreatDoor
set_option linter.unusedVariables false
set_option linter.unusedSimpArgs false
open Go Go.VC
open Classical
variable {R:Cx} {Hs Rest:List HP} {w:World}
theorem conv_own {t:Sl} {bs:List Int} {T:TypeId} (hl:bs.length≤9223372036854775807) (hw:Sat R Hs w) [tk:Take (Own t T (b8 bs)) Hs Rest]:∀ w',(fun w'=>w'=w) w'→(convert 47 9 (.slice t.a t.len t.cap)).run Tryz.prog w'=.ok (.string (VC.strOf bs)) w':=fun w' e=>by
 rw [show w'=w from e]
 obtain ⟨_,q1,_,hw1,_⟩:=Own.lend (hw.perm tk.perm) (by rw [List.length_map];exact hl)
 exact convS_ro Tryz.underlying47 Tryz.underlying5 Tryz.underlying9 hw1 q1
end Go.Proofs.YtlplemdmegpoeaaGreatDoor
/- Package queue: Decode. Condition: a bound on the length. -/
namespace Go.Proofs.YtlplemdmegpoeaaGreatDoor
set_option linter.unusedVariables false
set_option linter.unusedSimpArgs false
open Go Go.VC
open Classical
variable {R:Cx} {Hs Rest:List HP} {w:World}
theorem rdEach_add {α:Type} (one:Rd→α × Rd) (m:Nat):∀ (k:Nat) (r:Rd),(rdEach one (k + m) r).1=(rdEach one k r).1++(rdEach one m (rdEach one k r).2).1
  |0,r=>by rw [Nat.zero_add];rfl
  |k + 1,r=>by
    rw [show k + 1 + m=(k + m) + 1 by omega,rdEach_succ,rdEach_succ]
    dsimp only
    rw [rdEach_add one m k]
    rfl
theorem qnum_spec {br r:Nat} {rd:Rd} {most:Int} (h0:0≤most) (h1:most<9223372036854775808) (hb:Bytes rd.bs) (hw:Sat R (pts br (brCell r)::RdAt r rd::Hs) w):
    Gets Tryz.prog 228 #[.int .i64 most,.pointer (some ⟨br,0,none⟩)] w fun v w'=>v=.int .i64 (rdNum most rd).1∧Sat R (pts br (brCell r)::RdAt r (rdNum most rd).2::Hs) w':=by
  have hv:=rdNum_val (most:=most) hb h0
  apply call228
  refine NilP.mk rfl ⟨some ⟨r,0,none⟩,At.own (eqS hw) (by exact ⟨rfl,trivial⟩),?_⟩
  rw [wrapU64 (by omega) (by omega)]
  refine (rnum_spec (most:=most) hb hw.swap).use ?_
  rintro _ w ⟨rfl,hw⟩
  refine ⟨_,rfl,?_,hw.swap⟩
  rw [wrap64 (by omega) (by omega)]
theorem qread_step {l:List Wt} {x:Wt} (hl:QRight l) (hf:∀ y∈l,y.sc<18446744073709551616) (hn:l.length<200) (hx:x.sc<18446744073709551616):
    ((∃ h:0<l.length,0<(l[l.length - 1]'(by omega)).ord x)→¬ QRight (l++[x]))∧
    (¬ (∃ h:0<l.length,0<(l[l.length - 1]'(by omega)).ord x)→((qadd l x).2≠0→¬ QRight (l++[x]))∧((qadd l x).2=0→QRight (l++[x])∧(qadd l x).1=l++[x])):=by
  constructor
  · rintro ⟨h,ho⟩ hr
    have h1:=hr.last.2.2 l[l.length - 1] (List.getElem_mem _)
    have h2:=ord_pos.1 ho
    rw [ahead_asym h1] at h2
    cases h2
  · intro hno
    unfold qadd
    by_cases hok:x.Ok
    · rw [if_neg (fun h=>h hok)]
      by_cases hid:hasQ x.id l=true
      · rw [if_pos hid]
        refine ⟨fun _ hr=>?_,fun h=>by cases h⟩
        obtain ⟨y,hy,he⟩:=hasQ_iff.1 hid
        exact hr.last.2.1 y hy he
      · rw [if_neg hid,if_neg (by omega)]
        have hid:=hasQ_no.1 (by simpa using hid)
        have hall:∀ y∈l,y.ahead x=true:=by
          intro y hy
          obtain ⟨i,hi,rfl⟩:=List.getElem_of_mem hy
          have hl1:l[l.length - 1].ahead x=true:=by
            have h1:l[l.length - 1].id≠x.id:=hid _ (List.getElem_mem _)
            have h2:x.ahead l[l.length - 1]=false:=by
              cases h3:x.ahead l[l.length - 1] with
              |false=>rfl
              |true=>exact absurd ⟨by omega,ord_pos.2 h3⟩ hno
            exact ahead_tot (fun e=>h1 e.symm) h2
          by_cases hil:i=l.length - 1
          · subst hil;exact hl1
          · exact ahead_trans (qst_lt hl.st (i:=i) (j:=l.length - 1) (by omega) (by omega)) hl1
        exact ⟨fun h=>absurd rfl h,fun _=>⟨hl.snoc hok hid hall,insQ_end hall⟩⟩
    · rw [if_pos hok]
      exact ⟨fun _ hr=>hok hr.last.1,fun h=>by cases h⟩
theorem decQ_no {bs:List Int} {l m:List Wt} {x:Wt} (h:(qRaw bs).1=l++[x]++m) (hn:¬ QRight (l++[x])):decQ bs=none:=by
  unfold decQ
  rw [if_neg]
  rintro ⟨_,hq⟩
  rw [h] at hq
  exact hn hq.pre
set_option maxHeartbeats 2000000 in
theorem qdecode_spec {s:Sl} {bs:List Int} (hb:Bytes bs) (hl:bs.length≤1099511627776) (hs:Ro R s (b8 bs)) (hw:Sat R Hs w):
    Gets Tryz.prog 159 #[.slice s.a s.len s.cap] w fun v w'=>(decQ bs=none∧v=.tuple #[.pointer none,.int .i64 6]∧Sat R Hs w')∨(∃ l q,decQ bs=some l∧v=.tuple #[.pointer (some ⟨q,0,none⟩),.int .i64 0]∧Sat R (QuAt q l::Hs) w'):=by
  apply call159
  suffices H:∀ K:Value→World→Prop,(decQ bs=none→∀ w',Sat R Hs w'→K (.tuple #[.pointer none,.int .i64 6]) w')→(∀ l q w',decQ bs=some l→Sat R (QuAt q l::Hs) w'→K (.tuple #[.pointer (some ⟨q,0,none⟩),.int .i64 0]) w')→B159 s K w from
    H _ (fun e w' h=>.inl ⟨e,rfl,h⟩) fun l q w' e h=>.inr ⟨l,q,e,rfl,h⟩
  intro K hK1 hK2
  refine (fnew_spec hs hl hw).use ?_
  clear hw
  rintro _ w ⟨r,rfl,hw⟩
  refine ⟨_,rfl,?_⟩
  refine new_rule hw fun br w hw=>?_
  refine store_rule hw (by kernel_rfl) rfl (by simp [Value.cells]) fun w hw=>?_
  have hw:=hw.re (pts br (brCell r))
  refine (qnew_spec hw).use ?_
  clear hw
  rintro _ w ⟨q,rfl,hw⟩
  refine ⟨_,rfl,?_⟩
  have hw:Sat R (pts br (brCell r)::RdAt r ⟨bs,false⟩::QuAt q []::Hs) w:=hw.arr
  refine (qnum_spec (by omega) (by omega) hb hw).use ?_
  clear hw
  rintro _ w ⟨rfl,hw⟩
  refine ⟨_,rfl,?_⟩
  have hv:=rdNum_val (most:=200) (rd:=⟨bs,false⟩) hb (by omega)
  have hb0:Bytes (rdNum 200 ⟨bs,false⟩).2.bs:=rdNum_bd hb
  obtain ⟨n,hn⟩:∃ n:Nat,(rdNum 200 ⟨bs,false⟩).1=n:=⟨_,(Int.toNat_of_nonneg hv.1).symm⟩
  obtain ⟨r0,hr0⟩:∃ x,x=(rdNum 200 ⟨bs,false⟩).2:=⟨_,rfl⟩
  have hraw:qRaw bs=rdEach wtRd n r0:=by unfold qRaw;rw [hn,hr0,Int.toNat_natCast]
  rw [←hr0] at hw hb0
  rw [hn] at hv ⊢
  have inv:=fun k=>rdEach_inv (one:=wtRd) (P:=fun r=>Bytes r.bs) (Q:=fun x=>x.sc<18446744073709551616) (fun r hr=>⟨wtRd_fl hr,wtRd_bd hr⟩) k hb0
  refine ⟨fun i w=>∃ k:Nat,i=k∧k≤n∧QRight (rdEach wtRd k r0).1∧Sat R (pts br (brCell r)::RdAt r (rdEach wtRd k r0).2::QuAt q (rdEach wtRd k r0).1::Hs) w,fun i _=>(n - i).toNat,⟨0,rfl,by omega,QRight.nil,hw⟩,?_⟩
  clear hw
  rintro _ _ w ⟨k,rfl,hk,hq,hw⟩
  have hi:=inv k
  have hlen:=rdEach_len wtRd k r0
  have hsn:=rdEach_snoc wtRd k r0
  refine Br.d (fun h=>?_) (fun h=>?_)
  · have hkn:k<n:=by omega
    have hadd:(qRaw bs).1=(rdEach wtRd (k + 1) r0).1++(rdEach wtRd (n - (k + 1)) (rdEach wtRd (k + 1) r0).2).1:=by
      rw [hraw,←rdEach_add,show k + 1 + (n - (k + 1))=n by omega]
    obtain ⟨l,hll⟩:∃ l,l=(rdEach wtRd k r0).1:=⟨_,rfl⟩
    obtain ⟨rd,hrd⟩:∃ rd,rd=(rdEach wtRd k r0).2:=⟨_,rfl⟩
    rw [←hll] at hq hw hi hlen hsn
    rw [←hrd] at hw hi hsn
    have hb1:=hi.2
    refine (qnum_spec (by omega) (by omega) hb1 hw).use ?_
    clear hw
    rintro _ w ⟨rfl,hw⟩
    have hb2:Bytes (rdNum 28629151 rd).2.bs:=rdNum_bd hb1
    refine ⟨_,rfl,(qnum_spec (by omega) (by omega) hb2 hw).use ?_⟩
    clear hw
    rintro _ w ⟨rfl,hw⟩
    have hb3:Bytes (rdNum 7 (rdNum 28629151 rd).2).2.bs:=rdNum_bd hb2
    refine ⟨_,rfl,(qnum_spec (by omega) (by omega) hb3 hw).use ?_⟩
    clear hw
    rintro _ w ⟨rfl,hw⟩
    have hb4:Bytes (rdNum 600 (rdNum 7 (rdNum 28629151 rd).2).2).2.bs:=rdNum_bd hb3
    refine ⟨_,rfl,(qnum_spec (by omega) (by omega) hb4 hw).use ?_⟩
    clear hw
    rintro _ w ⟨rfl,hw⟩
    have hb5:Bytes (rdNum 1099511627776 (rdNum 600 (rdNum 7 (rdNum 28629151 rd).2).2).2).2.bs:=rdNum_bd hb4
    refine ⟨_,rfl,?_⟩
    refine new_rule hw fun bw w hw=>?_
    refine store_rule hw (by kernel_rfl) rfl (by simp [Value.cells]) fun w hw=>?_
    obtain ⟨x,hx⟩:∃ x,x=(wtRd rd).1:=⟨_,rfl⟩
    obtain ⟨rd',hrd'⟩:∃ x,x=(wtRd rd).2:=⟨_,rfl⟩
    have hw:Sat R (wtD bw { x with sc:=0 }::pts br (brCell r)::RdAt r (rdNum 1099511627776 (rdNum 600 (rdNum 7 (rdNum 28629151 rd).2).2).2).2::QuAt q l::Hs) w:=by rw [hx];exact hw
    refine ⟨some ⟨r,0,none⟩,At.own (eqS hw) (by exact ⟨rfl,trivial⟩),?_⟩
    have hw:Sat R (RdAt r (rdNum 1099511627776 (rdNum 600 (rdNum 7 (rdNum 28629151 rd).2).2).2).2::wtD bw { x with sc:=0 }::pts br (brCell r)::QuAt q l::Hs) w:=hw.arr
    have hv5:=rdNum_val (most:=18446744073709551615) hb5 (by omega)
    refine (rnum_spec (most:=18446744073709551615) hb5 hw).use ?_
    clear hw
    rintro _ w ⟨rfl,hw⟩
    refine ⟨_,rfl,?_⟩
    obtain ⟨u,hu⟩:∃ u:Nat,(rdNum 18446744073709551615 (rdNum 1099511627776 (rdNum 600 (rdNum 7 (rdNum 28629151 rd).2).2).2).2).1=u:=⟨_,(Int.toNat_of_nonneg hv5.1).symm⟩
    have hxs:x.sc=ofF u:=by
      rw [hx]
      show ofF (rdNum 18446744073709551615 (rdNum 1099511627776 (rdNum 600 (rdNum 7 (rdNum 28629151 rd).2).2).2).2).1.toNat=_
      rw [hu,Int.toNat_natCast]
    rw [hu] at hv5 ⊢
    refine (of_spec (by omega) hw).use ?_
    clear hw
    rintro _ w ⟨rfl,hw⟩
    refine ⟨_,rfl,?_⟩
    have hw:Sat R (wtD bw { x with sc:=0 }::RdAt r rd'::pts br (brCell r)::QuAt q l::Hs) w:=by rw [hrd'];exact hw.swap
    refine store_rule hw (by kernel_rfl) rfl (by simp [Value.cells,wtV]) fun w hw=>?_
    rw [←hxs] at hw
    have hw:=hw.re (wtD bw x)
    have hsn:rdEach wtRd (k + 1) r0=(l++[x],rd'):=by rw [hsn,hx,hrd']
    rw [hsn] at hadd
    have hxf:x.sc<18446744073709551616:=by rw [hx];exact wtRd_fl hb1
    obtain ⟨st1,st2⟩:=qread_step (x:=x) hq hi.1 (by omega) hxf
    have hqok:QOk l:=⟨hq.st,hq.ids,hq.ok,hi.1,by omega⟩
    have w1:IntKind.i64.wrap ((k:Int) + 1)=(k:Int) + 1:=wrap64 (by omega) (by omega)
    have hw:Sat R (QuAt q l::wtD bw x::RdAt r rd'::pts br (brCell r)::Hs) w:=hw.arr
    obtain ⟨s1,hw⟩:=Sat.qu.1 hw
    have hsl:=OwnN.len hw.swap
    rw [List.length_map] at hsl
    refine NilP.mk rfl ⟨s1,At.own (eqS hw) (by exact ⟨rfl,trivial⟩),?_⟩
    have fin:¬ (∃ h:0<l.length,0<(l[l.length - 1]'(by omega)).ord x)→∀ {w:World} {S:World→Prop},(∀ w,S w)→Sat R (QuAt q l::wtD bw x::RdAt r rd'::pts br (brCell r)::Hs) w→
        ∃ t53:Int,∃ t53_1:Int,∃ t53_2:Int,∃ t53_3:Int,∃ t53_4:Nat,(At (fun w'=>w'=w) ⟨bw,0,none⟩ [.int .i64 t53,.int .i64 t53_1,.int .i64 t53_2,.int .i64 t53_3,.float .f64 t53_4])∧
        Calls Tryz.prog 102 #[.pointer (some ⟨q,0,none⟩),.agg #[.int .i64 t53,.int .i64 t53_1,.int .i64 t53_2,.int .i64 t53_3,.float .f64 t53_4]] w fun e_10 w_18=>
        ∃ t54:Int,(e_10=.returned (.int .i64 t54))∧
        (S w_18)∧
        Br (t54 !=0)
         (K (.tuple #[.pointer none,.int .i64 6]) w_18)
         ((∃ k':Nat,IntKind.i64.wrap ((k:Int) + 1)=k'∧k'≤n∧QRight (rdEach wtRd k' r0).1∧Sat R (pts br (brCell r)::RdAt r (rdEach wtRd k' r0).2::QuAt q (rdEach wtRd k' r0).1::Hs) w_18)∧((n:Int) - IntKind.i64.wrap ((k:Int) + 1)).toNat<((n:Int) - k).toNat):=fun hno {w S} hS hw=>by
      refine ⟨x.id,x.cls,x.many,x.time,x.sc,At.own (eqS hw) (by exact ⟨rfl,rfl,rfl,rfl,rfl,trivial⟩),?_⟩
      refine (qadd_spec hqok hw).use ?_
      clear hw
      rintro _ w ⟨rfl,hw⟩
      obtain ⟨a1,a2⟩:=st2 hno
      refine ⟨_,rfl,hS _,Br.ne (fun h0=>hK1 (decQ_no hadd (a1 h0)) _ hw.drop.drop.drop.drop) (fun h0=>?_)⟩
      obtain ⟨b1,b2⟩:=a2 h0
      rw [b2] at hw
      rw [w1]
      refine ⟨⟨k + 1,by omega,by omega,?_,?_⟩,by omega⟩
      · rw [hsn];exact b1
      · rw [hsn]
        have hw:Sat R (wtD bw x::pts br (brCell r)::RdAt r rd'::QuAt q (l++[x])::Hs) w:=hw.arr
        exact hw.drop
    refine drw_rule' (fun _=>True) hw (fun _ _=>trivial) fun w hw=>?_
    refine Br.d (fun hpos=>?_) (fun hpos=>fin (fun ⟨h,_⟩=>by omega) (fun _=>trivial) (Sat.qu.2 ⟨s1,hw⟩))
    have hlp:0<l.length:=by omega
    refine NilP.mk rfl ⟨s1,At.own (eqS hw) (by exact ⟨rfl,trivial⟩),?_⟩
    rw [wrap64 (x:=(s1.len:Int) - 1) (by omega) (by omega),show (s1.len:Int) - 1=((l.length - 1:Nat):Int) by omega]
    have hw2:=hw.swap
    refine (OwnN.reads hw2 (S:=fun w'=>w'=w) (fun w' e=>by rw [e];exact hw2)).rngM (E:=l) (g:=wtV) (k:=l.length - 1) (by omega) fun a _ he=>?_
    refine ⟨_,_,_,_,_,he.z (by exact ⟨rfl,rfl,rfl,rfl,rfl,trivial⟩),x.id,x.cls,x.many,x.time,x.sc,At.own (eqS hw) (by exact ⟨rfl,rfl,rfl,rfl,rfl,trivial⟩),?_⟩
    refine (order_spec (a:=l[l.length - 1]) (b:=x) hw).use ?_
    clear hw hw2
    rintro _ w ⟨rfl,hw⟩
    refine ⟨_,rfl,trivial,Br.d (fun ho=>?_) (fun ho=>?_)⟩
    · exact hK1 (decQ_no hadd (st1 ⟨hlp,by omega⟩)) _ hw.drop.drop.drop.drop.drop
    · exact fin (fun ⟨_,h2⟩=>by omega) (fun _=>trivial) (Sat.qu.2 ⟨s1,hw⟩)
  · have hkn:k=n:=by omega
    subst hkn
    rw [←hraw] at hw hq
    refine ⟨some ⟨r,0,none⟩,At.own (eqS hw) (by exact ⟨rfl,trivial⟩),?_⟩
    refine (whole_spec hw.swap).use ?_
    clear hw
    rintro _ w ⟨rfl,hw⟩
    refine ⟨_,rfl,Br.nb (fun h0=>?_) (fun h0=>?_)⟩
    · refine hK1 ?_ _ hw.drop.drop.drop
      unfold decQ
      rw [if_neg (fun h=>by rw [h.1] at h0;cases h0)]
    · refine hK2 (qRaw bs).1 q _ ?_ hw.drop.drop
      unfold decQ
      rw [if_pos ⟨h0,hq⟩]
end Go.Proofs.YtlplemdmegpoeaaGreatDoor
/- Package booking: has a flight what a booking says? Condition: none. -/
namespace Go.Proofs.YtlplemdmegpoeaaGreatDoor
set_option linter.unusedVariables false
set_option linter.unusedSimpArgs false
open Go Go.VC
open Classical
variable {R:Cx} {Hs Rest:List HP} {w:World}
abbrev bxC (b a:Nat):HP:=pts b (.cells [.pointer (some ⟨a,0,none⟩)].toArray 86 (0,0))
theorem hasw_spec {bx a:Nat} {x:Bk} {y:Wt} (hw:Sat R (bxC bx a::pts a (bkObj x)::Hs) w):
  Gets Tryz.prog 231 #[wtA y,.pointer (some ⟨bx,0,none⟩)] w fun v w'=>v=.bool (decide (y.id=x.id∧y.cls=x.cls∧y.many=x.many))∧Sat R (bxC bx a::pts a (bkObj x)::Hs) w':=by
 apply call231
 refine new_rule hw fun b w hw=>?_
 have hw:Sat R (wtD b y::bxC bx a::pts a (bkObj x)::Hs) w:=hw
 refine drw_rule hw fun w hw=>?_
 refine ⟨y.id,At.own selfS (by exact ⟨rfl,trivial⟩),NilP.mk rfl ⟨some ⟨a,0,none⟩,At.own selfS (by exact ⟨rfl,trivial⟩),NilP.mk rfl ⟨x.id,At.own selfS (by exact ⟨rfl,trivial⟩),Br.e (fun h1=>?_) (fun h1=>⟨?_,hw.drop⟩)⟩⟩⟩
 ·refine ⟨y.cls,At.own selfS (by exact ⟨rfl,trivial⟩),NilP.mk rfl ⟨some ⟨a,0,none⟩,At.own selfS (by exact ⟨rfl,trivial⟩),NilP.mk rfl ⟨x.cls,At.own selfS (by exact ⟨rfl,trivial⟩),Br.e (fun h2=>?_) (fun h2=>⟨?_,hw.drop⟩)⟩⟩⟩
  ·refine ⟨y.many,At.own selfS (by exact ⟨rfl,trivial⟩),NilP.mk rfl ⟨some ⟨a,0,none⟩,At.own selfS (by exact ⟨rfl,trivial⟩),NilP.mk rfl ⟨x.many,At.own selfS (by exact ⟨rfl,trivial⟩),?_,hw.drop⟩⟩⟩
   congr 1
   rw [Bool.eq_iff_iff,beq_iff_eq,decide_eq_true_iff]
   exact ⟨fun h3=>⟨h1,h2,h3⟩,fun h=>h.2.2⟩
  ·rw [decide_eq_false (fun h=>h2 h.2.1)]
 ·rw [decide_eq_false (fun h=>h1 h.1)]
theorem hash_spec {bx a:Nat} {x:Bk} {y:Hold} {t:Sl} (hw:Sat R (bxC bx a::pts a (bkObj x)::Hs) w):
  Gets Tryz.prog 233 #[.agg (rowH y t).toArray,.pointer (some ⟨bx,0,none⟩)] w fun v w'=>v=.bool (decide (y.owner=x.id∧y.cls=x.cls∧y.many=x.many))∧Sat R (bxC bx a::pts a (bkObj x)::Hs) w':=by
 apply call233
 refine new_rule hw fun b w hw=>?_
 have hw:Sat R (pts b (.cells (rowH y t).toArray 197 (0,0))::bxC bx a::pts a (bkObj x)::Hs) w:=hw
 refine drw_rule hw fun w hw=>?_
 refine ⟨y.owner,At.own selfS (by exact ⟨rfl,trivial⟩),NilP.mk rfl ⟨some ⟨a,0,none⟩,At.own selfS (by exact ⟨rfl,trivial⟩),NilP.mk rfl ⟨x.id,At.own selfS (by exact ⟨rfl,trivial⟩),Br.e (fun h1=>?_) (fun h1=>⟨?_,hw.drop⟩)⟩⟩⟩
 ·refine ⟨y.cls,At.own selfS (by exact ⟨rfl,trivial⟩),NilP.mk rfl ⟨some ⟨a,0,none⟩,At.own selfS (by exact ⟨rfl,trivial⟩),NilP.mk rfl ⟨x.cls,At.own selfS (by exact ⟨rfl,trivial⟩),Br.e (fun h2=>?_) (fun h2=>⟨?_,hw.drop⟩)⟩⟩⟩
  ·refine ⟨y.many,At.own selfS (by exact ⟨rfl,trivial⟩),NilP.mk rfl ⟨some ⟨a,0,none⟩,At.own selfS (by exact ⟨rfl,trivial⟩),NilP.mk rfl ⟨x.many,At.own selfS (by exact ⟨rfl,trivial⟩),?_,hw.drop⟩⟩⟩
   congr 1
   rw [Bool.eq_iff_iff,beq_iff_eq,decide_eq_true_iff]
   exact ⟨fun h3=>⟨h1,h2,h3⟩,fun h=>h.2.2⟩
  ·rw [decide_eq_false (fun h=>h2 h.2.1)]
 ·rw [decide_eq_false (fun h=>h1 h.1)]
theorem cfw_spec {s:Sl} {T:TypeId} {l:List Wt} {f:Value} {p:Wt→Bool} (hl:l.length≤1000000000)
  (hf:∀ x w,Sat R (OwnN 5 s T (l.map wtV)::Hs) w→CalW Tryz.prog cl f [wtA x] w fun e w'=>e=.returned (.bool (p x))∧Sat R (OwnN 5 s T (l.map wtV)::Hs) w')
  (hw:Sat R (OwnN 5 s T (l.map wtV)::Hs) w):
  Gets Tryz.prog 230 #[.slice s.a s.len s.cap,f] w fun v w'=>v=.bool (l.any p)∧Sat R (OwnN 5 s T (l.map wtV)::Hs) w':=by
 have hlen:=OwnN.len hw
 rw [List.length_map] at hlen
 apply call230
 have h1:Gets Tryz.prog 274 #[.slice s.a s.len s.cap,f] w fun v w'=>(∃ i:Int,v=.int .i64 i∧decide (i ≥ 0)=l.any p)∧Sat R (OwnN 5 s T (l.map wtV)::Hs) w':=by
  apply call274
  refine ⟨fun i w=>∃ j:Nat,i=j∧j≤l.length∧(l.take j).any p=false∧Sat R (OwnN 5 s T (l.map wtV)::Hs) w,fun i _=>l.length - i.toNat,⟨0,rfl,by omega,by simp,hw⟩,?_⟩
  clear hw
  rintro _ _ w ⟨j,rfl,hj,hn,hw⟩
  refine Br.d (fun h=>?_) (fun h=>?_)
  ·have hj2:j<l.length:=by omega
   refine (OwnN.reads hw (eqS hw)).rngM (E:=l) (g:=wtV) hj2 fun a _ he=>?_
   refine ⟨_,_,_,_,_,he.z (by exact ⟨rfl,rfl,rfl,rfl,rfl,trivial⟩),?_⟩
   refine (hf l[j] _ hw).mono ?_
   rintro _ w ⟨rfl,hw⟩
   refine ⟨_,rfl,Br.mk (fun h=>⟨⟨j,rfl,?_⟩,hw⟩) (fun h=>?_)⟩
   ·rw [decide_eq_true (by omega)]
    exact (List.any_eq_true.2 ⟨_,List.getElem_mem hj2,h⟩).symm
   rw [wrap64 (by omega) (by omega)]
   refine ⟨⟨j + 1,by omega,by omega,?_,hw⟩,by dsimp only;omega⟩
   rw [List.take_add_one,List.getElem?_eq_getElem hj2,List.any_append,hn]
   simp [h]
  ·rw [List.take_of_length_le (by omega)] at hn
   exact ⟨⟨-1,rfl,by rw [hn];rfl⟩,hw⟩
 refine h1.use ?_
 clear hw
 rintro _ w ⟨⟨i,rfl,hi⟩,hw⟩
 exact ⟨i,rfl,by rw [hi],hw⟩
theorem cfh_spec {s:Sl} {L:List Hold} {ts:List Sl} {f:Value} {p:Hold→Bool} (hl:L.length≤1000000000) (hr:HsR R s L ts)
  (hf:∀ x t w,Sat R Hs w→CalW Tryz.prog cl f [.agg (rowH x t).toArray] w fun e w'=>e=.returned (.bool (p x))∧Sat R Hs w') (hw:Sat R Hs w):
  Gets Tryz.prog 232 #[.slice s.a s.len s.cap,f] w fun v w'=>v=.bool (L.any p)∧Sat R Hs w':=by
 have hlen:s.len=L.length:=by rw [hr.rows.len,rowsH_len hr.len]
 have htl:=hr.len
 apply call232
 have h1:Gets Tryz.prog 275 #[.slice s.a s.len s.cap,f] w fun v w'=>(∃ i:Int,v=.int .i64 i∧decide (i ≥ 0)=L.any p)∧Sat R Hs w':=by
  apply call275
  refine ⟨fun i w=>∃ j:Nat,i=j∧j≤L.length∧(L.take j).any p=false∧Sat R Hs w,fun i _=>L.length - i.toNat,⟨0,rfl,by omega,by simp,hw⟩,?_⟩
  clear hw
  rintro _ _ w ⟨j,rfl,hj,hn,hw⟩
  refine Br.d (fun h=>?_) (fun h=>?_)
  ·have hj2:j<L.length:=by omega
   refine hr.row (eqS hw) hj2 (by omega) fun a he=>?_
   refine ⟨L[j].owner,L[j].cls,L[j].many,ts[j]'(by omega),he,?_⟩
   refine (hf L[j] (ts[j]'(by omega)) _ hw).mono ?_
   rintro _ w ⟨rfl,hw⟩
   refine ⟨_,rfl,Br.mk (fun h=>⟨⟨j,rfl,?_⟩,hw⟩) (fun h=>?_)⟩
   ·rw [decide_eq_true (by omega)]
    exact (List.any_eq_true.2 ⟨_,List.getElem_mem hj2,h⟩).symm
   rw [wrap64 (by omega) (by omega)]
   refine ⟨⟨j + 1,by omega,by omega,?_,hw⟩,by dsimp only;omega⟩
   rw [List.take_add_one,List.getElem?_eq_getElem hj2,List.any_append,hn]
   simp [h]
  ·rw [List.take_of_length_le (by omega)] at hn
   exact ⟨⟨-1,rfl,by rw [hn];rfl⟩,hw⟩
 refine h1.use ?_
 clear hw
 rintro _ w ⟨⟨i,rfl,hi⟩,hw⟩
 exact ⟨i,rfl,by rw [hi],hw⟩
set_option maxHeartbeats 1000000 in
theorem bhas_spec {f q a:Nat} {pl:Pl} {x:Bk} (g:Good pl.r) (hq:pl.q.length≤200) (hh:pl.r.L.length≤1000000) (hw:Sat R (pts a (bkObj x)::LoneAt f pl.r::QuAt q pl.q::Hs) w):
  Gets Tryz.prog 162 #[.agg #[.pointer (some ⟨f,0,none⟩),.pointer (some ⟨q,0,none⟩)],.pointer (some ⟨a,0,none⟩)] w fun v w'=>v=.bool (decide (HasP pl x))∧Sat R (pts a (bkObj x)::LoneAt f pl.r::QuAt q pl.q::Hs) w':=by
 apply call162
 suffices H:∀ K:Value→World→Prop,(∀ w',Sat R (pts a (bkObj x)::LoneAt f pl.r::QuAt q pl.q::Hs) w'→K (.bool (decide (HasP pl x))) w')→B162 (some ⟨f,0,none⟩) (some ⟨q,0,none⟩) (some ⟨a,0,none⟩) K w from H _ fun w' h=>⟨rfl,h⟩
 intro K hK
 refine new_rule hw fun b2 w hw=>new_rule hw fun bx w hw=>?_
 have hw:Sat R (bxC bx a::pts a (bkObj x)::fqC b2 f q::LoneAt f pl.r::QuAt q pl.q::Hs) w:=by
  have h:Sat R (bxC bx a::fqC b2 f q::pts a (bkObj x)::LoneAt f pl.r::QuAt q pl.q::Hs) w:=hw
  exact h.arr
 have fin:∀ {w},Sat R (bxC bx a::pts a (bkObj x)::fqC b2 f q::LoneAt f pl.r::QuAt q pl.q::Hs) w→K (.bool (decide (HasP pl x))) w:=fun hw=>hK _ (hw.drop.cons fun _ h=>h.drop)
 refine ⟨some ⟨f,0,none⟩,At.own (eqS hw) (by exact ⟨rfl,trivial⟩),Br.f rfl ?_⟩
 refine ⟨some ⟨a,0,none⟩,At.own (eqS hw) (by exact ⟨rfl,trivial⟩),NilP.mk rfl ⟨x.state,At.own (eqS hw) (by exact ⟨rfl,trivial⟩),Br.e (fun h3=>?_) (fun h3=>?_)⟩⟩
 ·have hdef:HasP pl x↔(∃ w∈pl.q,w.id=x.id∧w.cls=x.cls∧w.many=x.many)∧x.cls<pl.r.lims.length:=by unfold HasP;rw [if_pos h3]
  have toS:∀ {A:List HP} {R:Cx} {w:World},Sat R (bxC bx a::pts a (bkObj x)::fqC b2 f q::A) w→Sat R [bxC bx a,pts a (bkObj x),fqC b2 f q,VC.tru] w:=fun h=>h.cons fun _ h=>h.cons fun _ h=>h.restTru2
  refine drw_rule' (Sat R [bxC bx a,pts a (bkObj x),fqC b2 f q,VC.tru]) hw (fun w hw=>toS hw) fun w hw=>?_
  refine ⟨some ⟨a,0,none⟩,At.own (fun _ h=>h) (by exact ⟨rfl,trivial⟩),NilP.mk rfl ⟨x.cls,At.own (fun _ h=>h) (by exact ⟨rfl,trivial⟩),some ⟨f,0,none⟩,At.own (fun _ h=>h) (by exact ⟨rfl,trivial⟩),?_⟩⟩
  have hw:Sat R (LoneAt f pl.r::bxC bx a::pts a (bkObj x)::fqC b2 f q::QuAt q pl.q::Hs) w:=hw.arr
  refine (lone_left hw).use ?_
  clear hw
  rintro _ w ⟨sl,rfl,hw⟩
  have hlen:=Own.len hw
  rw [List.length_map,lefts_len] at hlen
  have hw:Sat R (bxC bx a::pts a (bkObj x)::fqC b2 f q::LoneAt f pl.r::QuAt q pl.q::Hs) w:=by
   have h:=hw.drop
   exact h.arr
  refine ⟨sl,rfl,toS hw,Br.d (fun hc=>?_) (fun hc=>?_)⟩
  ·refine ⟨some ⟨q,0,none⟩,At.own (fun _ h=>h) (by exact ⟨rfl,trivial⟩),?_⟩
   have hw:Sat R (QuAt q pl.q::bxC bx a::pts a (bkObj x)::fqC b2 f q::LoneAt f pl.r::Hs) w:=hw.arr
   refine (qall_spec (by omega) hw).use ?_
   clear hw
   rintro _ w ⟨t,rfl,hw⟩
   refine ⟨t,rfl,toS (hw.arr (Hs':=bxC bx a::pts a (bkObj x)::fqC b2 f q::OwnN 5 t 168 (pl.q.map wtV)::QuAt q pl.q::LoneAt f pl.r::Hs)),?_⟩
   have hw:Sat R (OwnN 5 t 168 (pl.q.map wtV)::bxC bx a::pts a (bkObj x)::fqC b2 f q::LoneAt f pl.r::QuAt q pl.q::Hs) w:=hw.arr
   refine (cfw_spec (p:=fun y=>decide (y.id=x.id∧y.cls=x.cls∧y.many=x.many)) (by omega) (fun y w hw=>CalW.mk (by kernel_rfl) ?_) hw).use ?_
   ·have hw:Sat R (bxC bx a::pts a (bkObj x)::OwnN 5 t 168 (pl.q.map wtV)::fqC b2 f q::LoneAt f pl.r::QuAt q pl.q::Hs) w:=hw.arr
    exact (hasw_spec hw).use fun v w' h=>⟨by rw [h.1],h.2.arr⟩
   clear hw
   rintro _ w ⟨rfl,hw⟩
   refine ⟨_,rfl,toS (hw.arr (Hs':=bxC bx a::pts a (bkObj x)::fqC b2 f q::OwnN 5 t 168 (pl.q.map wtV)::LoneAt f pl.r::QuAt q pl.q::Hs)),?_⟩
   have e:(pl.q.any fun y=>decide (y.id=x.id∧y.cls=x.cls∧y.many=x.many))=decide (HasP pl x):=by
    rw [Bool.eq_iff_iff,decide_eq_true_iff,hdef,List.any_eq_true]
    constructor
    ·rintro ⟨y,hy,h⟩
     exact ⟨⟨y,hy,of_decide_eq_true h⟩,by omega⟩
    ·rintro ⟨⟨y,hy,h⟩,_⟩
     exact ⟨y,hy,decide_eq_true h⟩
   rw [e]
   exact fin hw.drop
  ·have:=fin hw
   rw [decide_eq_false (fun h=>by have:=(hdef.1 h).2;omega)] at this
   exact this
 ·have hdef:HasP pl x↔∃ h∈pl.r.L,h.owner=x.id∧h.cls=x.cls∧h.many=x.many:=by unfold HasP;rw [if_neg h3]
  refine ⟨some ⟨f,0,none⟩,At.own (eqS hw) (by exact ⟨rfl,trivial⟩),?_⟩
  have hw:Sat R (LoneAt f pl.r::bxC bx a::pts a (bkObj x)::fqC b2 f q::QuAt q pl.q::Hs) w:=hw.arr
  refine (lone_holds hw).use ?_
  clear hw
  rintro _ w ⟨t,rfl,hw⟩
  refine ⟨t,rfl,?_⟩
  obtain ⟨R1,ts,e1,hr,hw⟩:=HoldsL.leak hw
  have hw:Sat R1 (bxC bx a::pts a (bkObj x)::fqC b2 f q::LoneAt f pl.r::QuAt q pl.q::Hs) w:=hw.arr
  refine (cfh_spec (p:=fun y=>decide (y.owner=x.id∧y.cls=x.cls∧y.many=x.many)) (by omega) hr (fun y t w hw=>CalW.mk (by kernel_rfl) ((hash_spec hw).use fun v w' h=>⟨by rw [h.1],h.2⟩)) hw).use ?_
  clear hw
  rintro _ w ⟨rfl,hw⟩
  refine ⟨_,rfl,?_⟩
  have e:(pl.r.L.any fun y=>decide (y.owner=x.id∧y.cls=x.cls∧y.many=x.many))=decide (HasP pl x):=by
   rw [Bool.eq_iff_iff,decide_eq_true_iff,hdef,List.any_eq_true]
   constructor
   ·rintro ⟨y,hy,h⟩
    exact ⟨y,hy,of_decide_eq_true h⟩
   ·rintro ⟨y,hy,h⟩
    exact ⟨y,hy,decide_eq_true h⟩
  rw [e]
  exact fin (e1.back hw)
theorem bhas_none {v:Option Addr} {a:Nat} {x:Bk} (hw:Sat R (pts a (bkObj x)::Hs) w):
  Gets Tryz.prog 162 #[.agg #[.pointer none,.pointer v],.pointer (some ⟨a,0,none⟩)] w fun v w'=>v=.bool false∧Sat R (pts a (bkObj x)::Hs) w':=by
 apply call162
 refine new_rule hw fun b2 w hw=>new_rule hw fun bx w hw=>?_
 have hw:Sat R (bxC bx a::plC b2 none v::pts a (bkObj x)::Hs) w:=hw
 exact ⟨none,At.own (eqS hw) (by exact ⟨rfl,trivial⟩),Br.t rfl ⟨rfl,hw.drop.drop⟩⟩
end Go.Proofs.YtlplemdmegpoeaaGreatDoor
/- A book that is loaded, plainly: step by step. No condition. -/
namespace Go.Proofs.YtlplemdmegpoeaaGreatDoor
set_option linter.unusedVariables false
set_option linter.unusedSimpArgs false
open Go Go.VC
open Classical
theorem pls_zero (rd:Rd):plsRd 0 rd=some ([],rd):=rfl
theorem pls_some {m:Nat} {rd:Rd} {p:Pl} (h:(plRd rd).1=some p):plsRd (m + 1) rd=(plsRd m (plRd rd).2).map fun y=>(p::y.1,y.2):=by
 show (match (plRd rd).1 with|none=>none|some p=>(plsRd m (plRd rd).2).map fun x:List Pl × Rd=>(p::x.1,x.2))=_
 rw [h]
theorem pls_none {m:Nat} {rd:Rd} (h:(plRd rd).1=none):plsRd (m + 1) rd=none:=by
 show (match (plRd rd).1 with|none=>none|some p=>(plsRd m (plRd rd).2).map fun x:List Pl × Rd=>(p::x.1,x.2))=_
 rw [h]
def PlsI (n:Nat) (r0:Rd) (j:Nat) (rd:Rd) (pls:List Pl):Prop:=plsRd n r0=(plsRd (n - j) rd).map fun y=>(pls++y.1,y.2)
theorem plsI_zero {n:Nat} {r0:Rd}:PlsI n r0 0 r0 []:=by
 unfold PlsI
 rw [Nat.sub_zero]
 cases plsRd n r0<;>rfl
theorem plsI_some {n j:Nat} {r0 rd:Rd} {pls:List Pl} {p:Pl} (h:PlsI n r0 j rd pls) (hj:j<n) (hp:(plRd rd).1=some p):PlsI n r0 (j + 1) (plRd rd).2 (pls++[p]):=by
 unfold PlsI at h ⊢
 rw [h,show n - j=(n - (j + 1)) + 1 by omega,pls_some hp]
 cases plsRd (n - (j + 1)) (plRd rd).2 with
 |none=>rfl
 |some y=>simp
theorem plsI_none {n j:Nat} {r0 rd:Rd} {pls:List Pl} (h:PlsI n r0 j rd pls) (hj:j<n) (hp:(plRd rd).1=none):plsRd n r0=none:=by
 unfold PlsI at h
 rw [h,show n - j=(n - (j + 1)) + 1 by omega,pls_none hp]
 rfl
theorem plsI_end {n:Nat} {r0 rd:Rd} {pls:List Pl} (h:PlsI n r0 n rd pls):plsRd n r0=some (pls,rd):=by
 unfold PlsI at h
 rw [h,Nat.sub_self,pls_zero]
 simp
theorem plsI_pre {n j:Nat} {r0 rd:Rd} {pls:List Pl} {y:List Pl × Rd} (h:PlsI n r0 j rd pls) (hy:plsRd n r0=some y):∃ m,y.1=pls++m:=by
 unfold PlsI at h
 rw [hy] at h
 cases hz:plsRd (n - j) rd with
 |none=>rw [hz] at h;cases h
 |some z=>
  rw [hz] at h
  simp only [Option.map_some,Option.some.injEq] at h
  exact ⟨z.1,by rw [h]⟩
def ldNow (bs:List Int):Int × Rd:=rdNum 1099511627776 ⟨bs,false⟩
def ldNext (bs:List Int):Int × Rd:=rdNum 28629151 (ldNow bs).2
def ldMany (bs:List Int):Int × Rd:=rdNum 8 (ldNext bs).2
def ldBks (r1:Rd):List Bk × Rd:=rdEach bkRd (rdNum 300 r1).1.toNat (rdNum 300 r1).2
theorem raw_eq {bs:List Int}:rawB bs=match plsRd (ldMany bs).1.toNat (ldMany bs).2 with
  |none=>none
  |some y=>some (⟨(ldNow bs).1,(ldNext bs).1,y.1,(ldBks y.2).1⟩,(ldBks y.2).2):=rfl
theorem load_no0 {bs:List Int} (h:plsRd (ldMany bs).1.toNat (ldMany bs).2=none):loadB bs=none:=by
 unfold loadB
 rw [raw_eq,h]
theorem load_no1 {bs:List Int} (h:∀ y,plsRd (ldMany bs).1.toNat (ldMany bs).2=some y→¬ KRise Pl.n y.1):loadB bs=none:=by
 unfold loadB
 rw [raw_eq]
 cases hy:plsRd (ldMany bs).1.toNat (ldMany bs).2 with
 |none=>rfl
 |some y=>
  dsimp only
  rw [if_neg (fun hm=>h y hy hm.2.nums)]
theorem load_eq {bs:List Int} {pls:List Pl} {r1:Rd} (h:plsRd (ldMany bs).1.toNat (ldMany bs).2=some (pls,r1)):
  loadB bs=if rdWhole (ldBks r1).2=true∧MayB ⟨(ldNow bs).1,(ldNext bs).1,pls,(ldBks r1).1⟩ then some ⟨(ldNow bs).1,(ldNext bs).1,pls,(ldBks r1).1⟩ else none:=by
 unfold loadB
 rw [raw_eq,h]
def lastN (pls:List Pl):Int:=(pls.getLast?.map Pl.n).getD 0
theorem lastN_snoc (pls:List Pl) (p:Pl):lastN (pls++[p])=p.n:=by simp [lastN]
theorem rise_last {α:Type} {k:α→Int} {l:List α} {x:α} (h:KRise k l) (hx:x∈l):∃ y,l.getLast? =some y∧k x≤k y:=by
 have hne:l≠[]:=by rintro rfl;cases hx
 refine ⟨l.getLast hne,List.getLast?_eq_some_getLast hne,?_⟩
 obtain ⟨m,y,rfl⟩:∃ m y,l=m++[y]:=⟨l.dropLast,l.getLast hne,(List.dropLast_concat_getLast hne).symm⟩
 rw [List.getLast_concat]
 rcases List.mem_append.1 hx with h1|h1
 ·have:=(List.pairwise_append.1 h).2.2 x h1 y (by simp)
  omega
 ·rw [List.mem_singleton.1 h1];omega
theorem num_step {pls:List Pl} {p:Pl} (h:KRise Pl.n pls) (hp:1≤p.n):(lastN pls<p.n→KRise Pl.n (pls++[p]))∧(¬ lastN pls<p.n→∀ m,¬ KRise Pl.n (pls++[p]++m)):=by
 constructor
 ·intro hl
  refine krise_snoc h fun y hy=>?_
  obtain ⟨z,hz,hle⟩:=rise_last h hy
  unfold lastN at hl
  rw [hz] at hl
  simp at hl
  omega
 ·intro hl m hr
  unfold lastN at hl
  cases hz:pls.getLast? with
  |none=>rw [hz] at hl;simp at hl;omega
  |some z=>
   rw [hz] at hl
   simp at hl
   have h1:=(List.pairwise_append.1 (List.pairwise_append.1 hr).1).2.2 z (List.mem_of_getLast? hz) p (by simp)
   omega
theorem bkRd_bd {r:Rd} (hb:Bytes r.bs):Bytes (bkRd r).2.bs:=rdNum_bd (rdNum_bd (rdNum_bd (rdNum_bd (rdNum_bd (rdNum_bd hb)))))
structure BkIn (x:Bk):Prop where
 id:0≤x.id∧x.id≤28629151
 flt:0≤x.flt∧x.flt≤9999
 cls:0≤x.cls∧x.cls≤9999
 many:0≤x.many∧x.many≤9999
 state:0≤x.state∧x.state≤3
 till:0≤x.till∧x.till≤1099511627776
theorem bkRd_in {r:Rd} (hb:Bytes r.bs):BkIn (bkRd r).1:=
 ⟨rdNum_val hb (by omega),rdNum_val (rdNum_bd hb) (by omega),rdNum_val (rdNum_bd (rdNum_bd hb)) (by omega),rdNum_val (rdNum_bd (rdNum_bd (rdNum_bd hb))) (by omega),rdNum_val (rdNum_bd (rdNum_bd (rdNum_bd (rdNum_bd hb)))) (by omega),rdNum_val (rdNum_bd (rdNum_bd (rdNum_bd (rdNum_bd (rdNum_bd hb))))) (by omega)⟩
def lastI (L:List Bk):Int:=(L.getLast?.map Bk.id).getD 0
theorem lastI_snoc (L:List Bk) (x:Bk):lastI (L++[x])=x.id:=by simp [lastI]
structure Chk (b:Book) (L:List Bk) (x:Bk):Prop where
 last:lastI L<x.id
 next:x.id<b.next
 state:1≤x.state
 held:x.state=1↔b.now<x.till
 free:x.state=1∨x.till=0
 has:∃ p,b.at x.flt=some p∧HasP p x
theorem chk_yes {b:Book} {L:List Bk} {x:Bk} (h:Chk b L x) (hr:KRise Bk.id L) (hL:∀ y∈L,1≤y.id):BkMay b x∧KRise Bk.id (L++[x]):=by
 have h0:0≤lastI L:=by
  unfold lastI
  cases hz:L.getLast? with
  |none=>simp
  |some z=>have:=hL z (List.mem_of_getLast? hz);simp;omega
 refine ⟨⟨⟨by have:=h.last;omega,h.next⟩,h.state,h.held.1,fun hs=>h.free.resolve_left hs,h.has⟩,krise_snoc hr fun y hy=>?_⟩
 obtain ⟨z,hz,hle⟩:=rise_last hr hy
 have hl:=h.last
 unfold lastI at hl
 rw [hz] at hl
 simp at hl
 omega
theorem chk_of {b:Book} {L m:List Bk} {x:Bk} (h:MayB { b with L:=L++[x]++m }) (hn:0≤b.now):Chk b L x:=by
 have hx:=h.each x (by simp)
 have hid:=hx.id
 refine ⟨?_,hid.2,hx.state,⟨hx.held,fun ht=>?_⟩,?_,hx.has⟩
 ·unfold lastI
  cases hz:L.getLast? with
  |none=>simp;omega
  |some z=>
   have h1:=(List.pairwise_append.1 (List.pairwise_append.1 h.ids).1).2.2 z (List.mem_of_getLast? hz) x (by simp)
   simp;omega
 ·by_cases hs:x.state=1
  ·exact hs
  ·have:=hx.free hs;omega
 ·by_cases hs:x.state=1
  ·exact .inl hs
  ·exact .inr (hx.free hs)
theorem load_no2 {bs:List Int} {pls:List Pl} {r1:Rd} {L m:List Bk} {x:Bk} (h:plsRd (ldMany bs).1.toNat (ldMany bs).2=some (pls,r1)) (hb:(ldBks r1).1=L++[x]++m) (hn:0≤(ldNow bs).1)
  (hc:¬ Chk ⟨(ldNow bs).1,(ldNext bs).1,pls,[]⟩ L x):loadB bs=none:=by
 rw [load_eq h,if_neg]
 rintro ⟨_,hm⟩
 rw [hb] at hm
 exact hc (chk_of (b:=⟨(ldNow bs).1,(ldNext bs).1,pls,[]⟩) hm hn)
end Go.Proofs.YtlplemdmegpoeaaGreatDoor
/- Package booking: Load. Condition: a bound on the length. -/
namespace Go.Proofs.YtlplemdmegpoeaaGreatDoor
set_option linter.unusedVariables false
set_option linter.unusedSimpArgs false
open Go Go.VC
open Classical
variable {R:Cx} {Hs Rest:List HP} {w:World}
abbrev ldB (b p:Nat):HP:=pts b (.cells [.pointer (some ⟨p,0,none⟩)].toArray 25 (0,0))
abbrev ldE (b:Nat):HP:=pts b (.cells [.int .i64 0].toArray 29 (0,0))
abbrev ldR (b r:Nat):HP:=pts b (.cells [.pointer (some ⟨r,0,none⟩)].toArray 216 (0,0))
abbrev LdK (b2 e3:Nat) (K:Value→World→Prop) (w:World):Prop:=
 ∃ u:Option Addr,(At (fun w'=>w'=w) ⟨b2,0,none⟩ [.pointer u])∧∃ u_1:Int,(At (fun w'=>w'=w) ⟨e3,0,none⟩ [.int .i64 u_1])∧K (.tuple #[.pointer u,.int .i64 u_1]) w
theorem load_fail {b2 e3 p:Nat} {K:Value→World→Prop} (hw:Sat R (ldB b2 p::ldE e3::Hs) w) (k:∀ w',Sat R Hs w'→K (.tuple #[.pointer none,.int .i64 6]) w'):
  LeaveF Tryz.prog 155 [.pointer (some ⟨b2,0,none⟩),.pointer (some ⟨e3,0,none⟩)] (.panicking (errP 6)) (LdK b2 e3 K) w:=by
 unfold LeaveF
 refine CallsD.mono (callP155 (some ⟨b2,0,none⟩) (some ⟨e3,0,none⟩) (.iface 29 (.int .i64 6)) (LdK b2 e3 K) w ?_) ?_
 ·refine ⟨true,fun w' _=>by kernel_rfl,Br.t rfl ?_⟩
  refine drw_rule' (fun _=>True) hw (fun _ _=>trivial) fun w hw=>?_
  refine ⟨6,fun w' _=>by kernel_rfl,?_⟩
  refine store_rule hw (by kernel_rfl) rfl (by simp [Value.cells]) fun w hw=>⟨trivial,?_⟩
  have hw:Sat R (pts b2 (.cells [.pointer none].toArray 25 (0,0))::ldE e3::Hs) w:=hw
  refine store_rule hw (by kernel_rfl) rfl (by simp [Value.cells]) fun w hw=>?_
  have hw:Sat R (pts e3 (.cells [.int .i64 6].toArray 29 (0,0))::pts b2 (.cells [.pointer none].toArray 25 (0,0))::Hs) w:=hw
  exact ⟨none,At.own (eqS hw) (by exact ⟨rfl,trivial⟩),6,At.own (eqS hw) (by exact ⟨rfl,trivial⟩),k w hw.drop.drop⟩
 ·rintro e v w' ⟨hy,rfl,hk⟩
  exact ⟨hy,rfl,hk⟩
theorem load_ret {b2 e3 p:Nat} {K:Value→World→Prop} (hw:Sat R (ldB b2 p::ldE e3::Hs) w) (k:K (.tuple #[.pointer (some ⟨p,0,none⟩),.int .i64 0]) w):
  LeaveF Tryz.prog 155 [.pointer (some ⟨b2,0,none⟩),.pointer (some ⟨e3,0,none⟩)] .returning (LdK b2 e3 K) w:=by
 unfold LeaveF
 refine CallsD.mono (callR155 (some ⟨b2,0,none⟩) (some ⟨e3,0,none⟩) (LdK b2 e3 K) w ?_) ?_
 ·exact ⟨false,fun w' _=>by kernel_rfl,Br.f rfl ⟨_,At.own (eqS hw) (by exact ⟨rfl,trivial⟩),0,At.own (eqS hw) (by exact ⟨rfl,trivial⟩),k⟩⟩
 ·rintro e v w' ⟨hy,rfl,hk⟩
  exact ⟨hy,rfl,hk⟩
theorem form_c {b:Bool} {Q:Ending→World→Prop} (h1:b=true→Q (.returned (.tuple #[])) w) (h2:b=false→Q (.panicked (errP 6)) w):Calls Tryz.prog 156 #[.bool b] w Q:=by
 have h:GetsX Tryz.prog 156 #[.bool b] w (fun ch w'=>b=false∧ch=errP 6∧w'=w) (fun v w'=>b=true∧v=.tuple #[]∧w'=w):=by
  apply call156
  exact need_c (fun h=>.inl ⟨rfl,h,rfl,rfl⟩) (fun h=>.inr ⟨_,rfl,h,rfl,rfl⟩)
 refine h.use ?_ ?_
 ·rintro v w' ⟨hb,rfl,e⟩;rw [e];exact h1 hb
 ·rintro v w' ⟨hb,rfl,e⟩;rw [e];exact h2 hb
theorem ldnum_spec {b4 r:Nat} {rd:Rd} (hb:Bytes rd.bs) (hw:Sat R (RdAt r rd::ldR b4 r::Hs) w):
  Gets Tryz.prog 161 #[.pointer (some ⟨b4,0,none⟩)] w fun v w'=>v=.int .i64 (rdNum 9999 rd).1∧Sat R (RdAt r (rdNum 9999 rd).2::ldR b4 r::Hs) w':=by
 apply call161
 refine NilP.mk rfl ⟨some ⟨r,0,none⟩,At.own (eqS hw) (by exact ⟨rfl,trivial⟩),?_⟩
 refine (bnum_spec hb (by omega) (by omega) hw).use ?_
 rintro _ w ⟨rfl,hw⟩
 exact ⟨_,rfl,rfl,hw⟩
theorem lone_decode {s:Sl} {T:TypeId} {bs:List Int} (hb:Bytes bs) (hl:bs.length≤1099511627776) (hw:Sat R (Own s T (b8 bs)::Hs) w):
  Gets Tryz.prog 158 #[.slice s.a s.len s.cap] w fun v w'=>(decR bs=none∧v=.tuple #[.pointer none,.int .i64 6]∧Sat R Hs w')∨
   (∃ r p,decR bs=some r∧Good r∧v=.tuple #[.pointer (some ⟨p,0,none⟩),.int .i64 0]∧Sat R (LoneAt p r::Hs) w'):=by
 obtain ⟨R1,e1,g1,hw⟩:=Own.leak hw
 refine (decode_fspec hb (g1.ro (by rw [List.length_map];omega)) hl hw).mono ?_
 rintro v w' h
 rcases dec_tie hb with ⟨d1,d2⟩|⟨f,d1,d2,d3,d4,d5⟩
 ·have hn:decR bs=none:=by unfold decR;rw [if_neg d2]
  rcases h with ⟨_,rfl,hw⟩|⟨f,p,hf,_,_⟩
  ·exact .inl ⟨hn,rfl,e1.back hw⟩
  ·rw [d1] at hf;cases hf
 ·have hs:decR bs=some (rawR bs).rf:=by unfold decR;rw [if_pos ⟨d2,d3⟩]
  rcases h with ⟨hf,_,_⟩|⟨f',p,hf,rfl,hw⟩
  ·rw [d1] at hf;cases hf
  ·rw [d1] at hf
   obtain rfl:=Option.some.inj hf
   exact .inr ⟨_,p,hs,d5,rfl,Sat.lone.2 ⟨f,⟨d4,d5⟩,e1.back hw⟩⟩
theorem queue_decode {s:Sl} {T:TypeId} {bs:List Int} (hb:Bytes bs) (hl:bs.length≤1099511627776) (hw:Sat R (Own s T (b8 bs)::Hs) w):
  Gets Tryz.prog 159 #[.slice s.a s.len s.cap] w fun v w'=>(decQ bs=none∧v=.tuple #[.pointer none,.int .i64 6]∧Sat R Hs w')∨
   (∃ l q,decQ bs=some l∧QOk l∧v=.tuple #[.pointer (some ⟨q,0,none⟩),.int .i64 0]∧Sat R (QuAt q l::Hs) w'):=by
 obtain ⟨R1,e1,g1,hw⟩:=Own.leak hw
 refine (qdecode_spec hb hl (g1.ro (by rw [List.length_map];omega)) hw).mono ?_
 rintro v w' (⟨h1,rfl,hw⟩|⟨l,q,h1,rfl,hw⟩)
 ·exact .inl ⟨h1,rfl,e1.back hw⟩
 ·refine .inr ⟨l,q,h1,?_,rfl,e1.back hw⟩
  unfold decQ at h1
  split at h1
  ·rename_i h
   obtain rfl:=Option.some.inj h1
   exact h.ok hb
  ·cases h1
theorem HoldsL.len {s:Sl} {L:List Hold} (hw:Sat R (HoldsL s L::Hs) w):s.len=L.length:=by
 obtain ⟨_,ts,_,hr,_⟩:=HoldsL.leak hw
 rw [hr.rows.len,rowsH_len hr.len]
theorem put_new {k:Int} {v:Value} {es:List (Int × Value)} (h:∀ e∈es,e.1≠k):putM k v es=es++[(k,v)]:=by
 unfold putM
 rw [getM_ne.2 h]
 rfl
end Go.Proofs.YtlplemdmegpoeaaGreatDoor
