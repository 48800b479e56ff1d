/- ROW, part 3: arguments of any plain type (integers, bools, floats, strings, slices, structs, arrays of such), read as trees. No condition. -/
import Derived.Test.YtfgbbckfikiomaaGreatDoorB3
import Derived.Test.YtfgbbckfikiomaaGreatDoorB2
namespace Go.VC
set_option linter.unusedVariables false
open Go.ChangeShapes Go.WideShapes Go.ChangeAt Go.RowKit
inductive Tr where
 |int (k:IntKind) (n:Int)|bool (b:Bool)|flt (n:Nat)|str (s:ByteArray)|sl (s:Sl) (xs:List Tr)|st (xs:List Tr)
mutual
def Tr.cells:Tr→List Value
 | .int k n=>[.int k n]
 | .bool b=>[.bool b]
 | .flt n=>[.float .f64 n]
 | .str s=>[.string s]
 | .sl s _=>[.slice s.a s.len s.cap]
 | .st xs=>Tr.cellsL xs
def Tr.cellsL:List Tr→List Value
 |[]=>[]
 |x::xs=>x.cells++Tr.cellsL xs
end
inductive U where
 |int (k:IntKind)|bool|flt|str|sl (u:U)|st (us:List U)
mutual
def U.size:U→Nat
 | .st us=>U.sizeL us
 |_=>1
def U.sizeL:List U→Nat
 |[]=>0
 |u::us=>u.size + U.sizeL us
end
mutual
def Tr.Ok (R:Cx):U→Tr→Prop
 | .int k,.int k' n=>k'=k∧(Lit.int k n).wf=true
 | .bool,.bool _=>True
 | .flt,.flt n=>(Lit.float .f64 n).wf=true
 | .str,.str s=>s.size≤maxLen
 | .sl u,.sl s xs=>(RoN u.size R s (xs.map Tr.cells)∧s.len≤s.cap)∧xs.length≤maxLen∧Tr.OkA R u xs
 | .st us,.st xs=>Tr.OkL R us xs
 |_,_=>False
def Tr.OkA (R:Cx) (u:U):List Tr→Prop
 |[]=>True
 |x::xs=>Tr.Ok R u x∧Tr.OkA R u xs
def Tr.OkL (R:Cx):List U→List Tr→Prop
 |[],[]=>True
 |u::us,x::xs=>Tr.Ok R u x∧Tr.OkL R us xs
 |_,_=>False
end
theorem Tr.okA {R:Cx} {u:U}:∀ {xs:List Tr},Tr.OkA R u xs→∀ x∈xs,Tr.Ok R u x
 |[],_,x,hx=>by cases hx
 |y::ys,h,x,hx=>by
  unfold Tr.OkA at h
  rcases List.mem_cons.1 hx with rfl|hx
  ·exact h.1
  ·exact Tr.okA h.2 x hx
theorem Tr.okA_mk {R:Cx} {u:U}:∀ {xs:List Tr},(∀ x∈xs,Tr.Ok R u x)→Tr.OkA R u xs
 |[],_=>by unfold Tr.OkA;trivial
 |y::ys,h=>by
  unfold Tr.OkA
  exact ⟨h y List.mem_cons_self,Tr.okA_mk fun x hx=>h x (List.mem_cons_of_mem _ hx)⟩
def fieldsU (P:Program) (f:TypeId→Option U):Nat→List Field→Option (List U)
 |_,[]=>some []
 |off,x::xs=>match Nat.beq x.offset off with
  |false=>none
  |true=>match f x.type with
   |none=>none
   |some u=>match Nat.beq (P.cellsOf x.type) u.size with
    |false=>none
    |true=>match fieldsU P f (off + u.size) xs with
     |none=>none
     |some us=>some (u::us)
def uOf (P:Program):Nat→TypeId→Option U
 |0,_=>none
 |d + 1,t=>match P.underlying t with
  |some (.int k)=>some (.int k)
  |some .bool=>some .bool
  |some (.float .f64)=>some .flt
  |some .string=>some .str
  |some (.slice e)=>match uOf P d e with
   |some u=>(match Nat.beq (P.cellsOf e) u.size && Nat.blt 0 u.size with|true=>some (.sl u)|false=>none)
   |none=>none
  |some (.struct fs)=>match fieldsU P (uOf P d) 0 fs.toList with
   |some us=>(match Nat.beq (P.cellsOf t) (U.sizeL us) with|true=>some (.st us)|false=>none)
   |none=>none
  |some (.array n e)=>match uOf P d e with
   |some u=>(match Nat.beq (P.cellsOf e) u.size && Nat.beq (P.cellsOf t) (n * u.size) with|true=>some (.st (List.replicate n u))|false=>none)
   |none=>none
  |_=>none
section
variable {H:Type} {enc:TypeId × Value→H} {P:Program} {W:World} {base:Nat} {spare:Nat→Bool} {held:Bool}
def IsTr (R:Cx) (u:U) (cs:List Value):Prop:=∃ x:Tr,x.cells=cs∧x.Ok R u
theorem cells?_cell {w:World} {base:Nat} {a:Addr} {n:Nat} {cs:List Value} (h:w.cells? base a n=some cs):cs.length=n∧∀ i,i<n→w.cell? (a.add i)=cs[i]?:=by
 unfold World.cells? at h
 split at h
 ·refine ⟨by have:=mapM_some_length h;simpa using this,fun i hi=>mapM_some_get h i i (by simp [hi])⟩
 ·cases h
theorem add_add (a:Addr) (i j:Nat) (hs:a.spot=none):(a.add i).add j=⟨a.block,a.off + (i + j),none⟩:=by
 obtain ⟨b,o,s⟩:=a
 simp only at hs
 subst hs
 rw [add_off,add_off,Nat.add_assoc]
theorem fields_read {d:Nat} (ih:∀ {fuel:Nat} {t:TypeId} {cs:List Value} {y:DataW H × List MemPlace} {u:U},uOf P d t=some u→DataW.trod enc P W base spare held fuel t cs=some y→IsTr (Cx.of W) u cs) {n:Nat} {cs:List Value} {xs:List (DataW H × List MemPlace)}:
  ∀ (fs:List Field) (off:Nat) (us:List U),fieldsU P (uOf P d) off fs=some us→(∀ (i:Nat) (f:Field),fs[i]? =some f→∃ y,DataW.trod enc P W base spare held n f.type ((cs.drop f.offset).take (P.cellsOf f.type))=some y)→
   off + U.sizeL us≤cs.length→∃ ts:List Tr,Tr.cellsL ts=(cs.drop off).take (U.sizeL us)∧Tr.OkL (Cx.of W) us ts
 |[],off,us,h,_,_=>by
  simp only [fieldsU,Option.some.injEq] at h
  subst h
  exact ⟨[],by simp [Tr.cellsL,U.sizeL],by unfold Tr.OkL;trivial⟩
 |f::fs,off,us,h,hf,hl=>by
  unfold fieldsU at h
  split at h
  ·cases h
  rename_i hoff
  have hoff:=Nat.eq_of_beq_eq_true hoff
  split at h
  ·cases h
  rename_i u hu
  split at h
  ·cases h
  rename_i hc
  have hc:=Nat.eq_of_beq_eq_true hc
  split at h
  ·cases h
  rename_i us' hus
  cases h
  simp only [U.sizeL] at hl ⊢
  obtain ⟨y,hy⟩:=hf 0 f rfl
  obtain ⟨x,hx,hxo⟩:=ih hu hy
  obtain ⟨ts,hts,htso⟩:=fields_read ih (n:=n) (xs:=xs) fs (off + u.size) us' hus (fun i g hg=>hf (i + 1) g (by simpa using hg)) (by omega)
  refine ⟨x::ts,?_,by unfold Tr.OkL;exact ⟨hxo,htso⟩⟩
  simp only [Tr.cellsL]
  rw [hx,hts,hoff,hc,List.take_add,List.drop_drop]
theorem reps_read {u:U} {n s:Nat}:∀ {m:Nat} {cs:List Value},cs.length=m * s→u.size=s→(∀ i,i<m→IsTr (Cx.of W) u ((cs.drop (i * s)).take s))→∃ ts:List Tr,Tr.cellsL ts=cs∧Tr.OkL (Cx.of W) (List.replicate m u) ts
 |0,cs,hl,_,_=>by
  have:cs=[]:=List.length_eq_zero_iff.1 (by simpa using hl)
  subst this
  exact ⟨[],rfl,by unfold Tr.OkL;trivial⟩
 |m + 1,cs,hl,hs,h=>by
  obtain ⟨x,hx,hxo⟩:=h 0 (by omega)
  obtain ⟨ts,hts,htso⟩:=reps_read (n:=n) (m:=m) (cs:=cs.drop s) (by rw [List.length_drop,hl,Nat.add_mul];omega) hs (fun i hi=>by
   have:=h (i + 1) (by omega)
   rw [Nat.add_mul,Nat.one_mul,Nat.add_comm,←List.drop_drop] at this
   exact this)
  refine ⟨x::ts,?_,by rw [List.replicate_succ];unfold Tr.OkL;exact ⟨hxo,htso⟩⟩
  simp only [Tr.cellsL]
  rw [hx,hts]
  simp
theorem choose_list {α β:Type} {p:Nat→α→Prop}:∀ {n:Nat},(∀ i,i<n→∃ x:α,p i x)→∃ xs:List α,xs.length=n∧∀ i (hi:i<xs.length),p i xs[i]
 |0,_=>⟨[],rfl,fun i hi=>by simp at hi⟩
 |n + 1,h=>by
  obtain ⟨xs,hl,hp⟩:=choose_list (β:=β) (n:=n) fun i hi=>h i (by omega)
  obtain ⟨x,hx⟩:=h n (by omega)
  refine ⟨xs++[x],by simp [hl],fun i hi=>?_⟩
  by_cases h2:i<xs.length
  ·rw [List.getElem_append_left h2];exact hp i h2
  ·have:i=n:=by simp at hi;omega
   subst this
   rw [List.getElem_append_right (by omega)]
   simpa using hx
theorem trod_f64 {fuel:Nat} {t:TypeId} {cs:List Value} {x:DataW H × List MemPlace} (ht:P.underlying t=some (.float .f64)) (h:DataW.trod enc P W base spare held fuel t cs=some x):∃ n,cs=[.float .f64 n]∧(Lit.float .f64 n).wf=true:=by
 cases fuel with
 |zero=>simp [DataW.trod] at h
 |succ n=>
  unfold DataW.trod at h
  rw [ht] at h
  split at h<;>simp_all
theorem tr_read:∀ {d fuel:Nat} {t:TypeId} {cs:List Value} {y:DataW H × List MemPlace} {u:U},uOf P d t=some u→DataW.trod enc P W base spare held fuel t cs=some y→IsTr (Cx.of W) u cs
 |0,_,_,_,_,_,h,_=>by cases h
 |d + 1,fuel,t,cs,y,u,h,hy=>by
  unfold uOf at h
  split at h
  ·rename_i k ht
   cases h
   obtain ⟨n,rfl,_,hw⟩:=DataW.trod_int ht hy
   exact ⟨.int k n,rfl,rfl,hw⟩
  ·rename_i ht
   cases h
   obtain ⟨b,rfl,_⟩:=DataW.trod_bool ht hy
   exact ⟨.bool b,rfl,by unfold Tr.Ok;trivial⟩
  ·rename_i ht
   cases h
   obtain ⟨n,rfl,hn⟩:=trod_f64 ht hy
   exact ⟨.flt n,rfl,by unfold Tr.Ok;exact hn⟩
  ·rename_i ht
   cases h
   obtain ⟨s,rfl,_,hs⟩:=DataW.trod_string ht hy
   exact ⟨.str s,rfl,hs⟩
  ·rename_i e ht
   split at h
   case h_2=>cases h
   rename_i ue hue
   split at h
   case h_2=>cases h
   rename_i hc
   simp only [Bool.and_eq_true] at hc
   have hpos:0<ue.size:=Nat.blt_eq.mp hc.2
   have hc:=Nat.eq_of_beq_eq_true hc.1
   cases h
   rcases DataW.trod_slice ht hy with ⟨rfl,_⟩|⟨a,len,cap,elems,rest,n,_,rfl,_,_,hlc,hcm,hel,helem,_,_⟩
   ·refine ⟨.sl ⟨none,0,0⟩ [],rfl,?_⟩
    unfold Tr.Ok
    exact ⟨⟨⟨Wid.nil,rfl,fun h=>absurd rfl h⟩,Nat.le_refl _⟩,Nat.zero_le _,by unfold Tr.OkA;trivial⟩
   ·obtain ⟨xs,hxl,hxs⟩:=choose_list (β:=Unit) (p:=fun i (x:Tr)=>W.cells? base (a.add (i * P.cellsOf e)) (P.cellsOf e)=some x.cells∧x.Ok (Cx.of W) ue) (n:=len) fun i hi=>by
     have h1:=helem i hi
     rw [List.getElem?_eq_getElem (by omega)] at h1
     obtain ⟨ce,hce,hte⟩:=Option.bind_eq_some_iff.1 h1
     obtain ⟨x,rfl,hx⟩:=tr_read hue hte
     exact ⟨x,hce,hx⟩
    refine ⟨.sl ⟨some a,len,cap⟩ xs,rfl,?_⟩
    unfold Tr.Ok
    have hwid:Wid ue.size (xs.map Tr.cells):=fun r hr=>by
     obtain ⟨x,hx,rfl⟩:=List.mem_map.1 hr
     obtain ⟨i,hi,rfl⟩:=List.getElem_of_mem hx
     have:=(cells?_cell (hxs i hi).1).1
     rw [this,hc]
    refine ⟨⟨⟨hwid,by simp [hxl],fun hne=>?_⟩,hlc⟩,by omega,Tr.okA_mk fun x hx=>by obtain ⟨i,hi,rfl⟩:=List.getElem_of_mem hx;exact (hxs i hi).2⟩
    -- the block
    have h0:0<xs.length:=by
     have:0<(xs.map Tr.cells).length:=List.length_pos_iff.2 hne
     simpa using this
    have hcell:∀ i (hi:i<xs.length) j,j<ue.size→W.cell? ((a.add (i * ue.size)).add j)=(xs[i].cells)[j]?:=fun i hi j hj=>by
     have:=(cells?_cell (hxs i hi).1).2 j (by rw [hc];exact hj)
     rw [hc] at this;exact this
    have hxl0:∀ i (hi:i<xs.length),(xs[i].cells).length=ue.size:=fun i hi=>by rw [(cells?_cell (hxs i hi).1).1,hc]
    have hc0:=hcell 0 h0 0 (by omega)
    rw [List.getElem?_eq_getElem (by rw [hxl0 0 h0];omega)] at hc0
    have hz0:(a.add (0 * ue.size)).add 0=a:=by rw [Nat.zero_mul];simp [Addr.add]
    rw [hz0] at hc0
    obtain ⟨hs,l,T,fr,hl,_⟩:=block_of_cell hc0
    refine ⟨a.block,a.off,l,T,fr,by cases a;simp_all,hl,fun i v hv=>?_⟩
    -- which row, which place
    have hlen:=hwid.len
    rw [List.length_map] at hlen
    have hi:i<(xs.map Tr.cells).flatten.length:=(List.getElem?_eq_some_iff.1 hv).1
    have hq:i / ue.size<xs.length:=by
     rw [hlen] at hi;exact Nat.div_lt_of_lt_mul (by rwa [Nat.mul_comm])
    have hm:i % ue.size<ue.size:=Nat.mod_lt _ (by omega)
    have hcc:=hcell (i / ue.size) hq (i % ue.size) hm
    rw [add_add a _ _ hs,show i / ue.size * ue.size + i % ue.size=i by rw [Nat.mul_comm];exact Nat.div_add_mod _ _] at hcc
    have e1:(xs.map Tr.cells).flatten[i]? =(xs[i / ue.size].cells)[i % ue.size]?:=by
     have h1:i=i / ue.size * ue.size + i % ue.size:=by rw [Nat.mul_comm];exact (Nat.div_add_mod _ _).symm
     conv=>lhs;rw [h1]
     rw [←List.getElem?_drop,hwid.drop_flat,List.drop_eq_getElem_cons (by simpa using hq),List.flatten_cons,List.getElem?_append_left (by rw [List.getElem_map,hxl0 _ hq];exact hm),List.getElem_map]
    rw [←e1,hv] at hcc
    simp only [World.cell?,hl,Option.isSome_none,Bool.false_eq_true,if_false] at hcc
    exact hcc
  ·rename_i fs ht
   split at h
   case h_2=>cases h
   rename_i us hus
   split at h
   case h_2=>cases h
   rename_i hc
   have hc:=Nat.eq_of_beq_eq_true hc
   cases h
   obtain ⟨xs,n,_,_,hl,hxl,hf⟩:=DataW.trod_struct ht hy
   obtain ⟨ts,hts,hto⟩:=fields_read (d:=d) (fun h h2=>tr_read h h2) (n:=n) (cs:=cs) (xs:=xs) fs.toList 0 us hus (fun i f hfi=>by
    have hfi2:fs[i]? =some f:=by simpa using hfi
    have hlt:i<xs.length:=by rw [hxl];exact (Array.getElem?_eq_some_iff.1 hfi2).1
    exact ⟨xs[i],by rw [hf i f hfi2];exact List.getElem?_eq_getElem hlt⟩) (by omega)
   refine ⟨.st ts,?_,by unfold Tr.Ok;exact hto⟩
   unfold Tr.cells
   rw [hts,List.drop_zero,List.take_of_length_le (by omega)]
  ·rename_i m e ht
   split at h
   case h_2=>cases h
   rename_i ue hue
   split at h
   case h_2=>cases h
   rename_i hc
   simp only [Bool.and_eq_true] at hc
   have hc1:=Nat.eq_of_beq_eq_true hc.1
   have hc2:=Nat.eq_of_beq_eq_true hc.2
   cases h
   obtain ⟨xs,n,_,_,hl,hxl,hf⟩:=DataW.trod_array ht hy
   obtain ⟨ts,hts,hto⟩:=reps_read (n:=n) (u:=ue) (s:=ue.size) (m:=m) (cs:=cs) (by rw [hl,hc2]) rfl (fun i hi=>by
    have:=hf i hi
    rw [hc1,List.getElem?_eq_getElem (by omega)] at this
    exact tr_read hue this)
   exact ⟨.st ts,by unfold Tr.cells;exact hts,by unfold Tr.Ok;exact hto⟩
  ·cases h
theorem tr_arg {d:Nat} {t:TypeId} {v:Value} {dt:DataW H} {p:List MemPlace} {u:U} (hu:uOf P d t=some u) (h:DataW.Trod enc P W base spare held t v dt p):IsTr (Cx.of W) u v.cells.toList:=by
 obtain ⟨fuel,hf⟩:=h
 exact tr_read hu hf
theorem sl_form {α:Type} {R:Cx} {u:U} {s:Sl} {xs:List Tr} (g:α→List Value) (Q:α→Prop) (ho:Tr.Ok R (.sl u) (.sl s xs)) (h:∀ x:Tr,x.Ok R u→∃ e:α,x.cells=g e∧Q e):
  ∃ es:List α,RoN u.size R s (es.map g)∧es.length≤maxLen∧∀ e∈es,Q e:=by
 unfold Tr.Ok at ho
 obtain ⟨⟨h1,_⟩,h2,h3⟩:=ho
 have key:∀ l:List Tr,(∀ x∈l,x.Ok R u)→∃ es:List α,l.map Tr.cells=es.map g∧es.length=l.length∧∀ e∈es,Q e:=fun l=>by
  induction l with
  |nil=>exact fun _=>⟨[],rfl,rfl,fun _ h=>by cases h⟩
  |cons x l ih=>
   intro hl
   obtain ⟨es,h1,h2,h3⟩:=ih fun y hy=>hl y (List.mem_cons_of_mem _ hy)
   obtain ⟨e,he,hq⟩:=h x (hl x List.mem_cons_self)
   exact ⟨e::es,by rw [List.map_cons,List.map_cons,he,h1],by simp [h2],fun y hy=>by
    rcases List.mem_cons.1 hy with rfl|hy
    ·exact hq
    ·exact h3 y hy⟩
 obtain ⟨es,e1,e2,e3⟩:=key xs (Tr.okA h3)
 rw [e1] at h1
 exact ⟨es,h1,by omega,e3⟩
theorem sl_cap {R:Cx} {u:U} {s:Sl} {xs:List Tr} (ho:Tr.Ok R (.sl u) (.sl s xs)):s.len≤s.cap:=by
 unfold Tr.Ok at ho
 exact ho.1.2
theorem RoN.one {R:Cx} {s:Sl} {vs:List Value} (h:RoN 1 R s (vs.map fun v=>[v])) (hb:vs.length≤maxLen):Ro R s vs:=by
 refine ⟨by have:=h.len;simpa using this,by unfold maxLen at hb;omega,fun hne=>?_⟩
 obtain ⟨b,off,l,T,fr,h1,h2,h3⟩:=h.mem (by simpa using hne)
 refine ⟨b,off,l,T,fr,h1,h2,fun i v hv=>h3 i v ?_⟩
 have:(vs.map fun v=>[v]).flatten=vs:=by
  clear h3 h hb hne hv
  induction vs with
  |nil=>rfl
  |cons v vs ih=>simp [ih]
 rw [this];exact hv
theorem ints_form {R:Cx} {k:IntKind} {s:Sl} {xs:List Tr} (ho:Tr.Ok R (.sl (.int k)) (.sl s xs)):∃ zs:List Int,Ro R s (zs.map (Value.int k))∧zs.length≤maxLen∧∀ z∈zs,(Lit.int k z).wf=true:=by
 obtain ⟨zs,h1,h2,h3⟩:=sl_form (fun z:Int=>[Value.int k z]) (fun z=>(Lit.int k z).wf=true) ho fun x hx=>by
  cases x<;>simp only [Tr.Ok] at hx
  rename_i k' z
  obtain ⟨rfl,hw⟩:=hx
  exact ⟨z,rfl,hw⟩
 refine ⟨zs,RoN.one ?_ (by simpa using h2),h2,h3⟩
 rw [List.map_map]
 exact h1
theorem strs_form {R:Cx} {s:Sl} {xs:List Tr} (ho:Tr.Ok R (.sl .str) (.sl s xs)):∃ zs:List ByteArray,Ro R s (zs.map Value.string)∧zs.length≤maxLen∧s.len≤s.cap∧∀ z∈zs,z.size≤maxLen:=by
 obtain ⟨zs,h1,h2,h3⟩:=sl_form (fun z:ByteArray=>[Value.string z]) (fun z=>z.size≤maxLen) ho fun x hx=>by
  cases x<;>simp only [Tr.Ok] at hx
  rename_i z
  exact ⟨z,rfl,hx⟩
 refine ⟨zs,RoN.one ?_ (by simpa using h2),h2,sl_cap ho,h3⟩
 rw [List.map_map]
 exact h1
end
end Go.VC
/- The arguments of chapter 18's laws. No condition. -/
namespace Go.Proofs.YtfgbbckfikiomaaGreatDoor
set_option linter.unusedVariables false
open Go Go.VC Go.ChangeShapes Go.WideShapes Go.ChangeAt Go.RowKit
variable {H:Type} {enc:TypeId × Value→H} {W:World} {r:Reach} {b0:Nat} {v:Value} {d:DataW H} {p:List MemPlace}
set_option maxRecDepth 100000 in
theorem bytes18_in (hv:Value.okWide Tryz.prog W r b0 42 v) (h:DataW.Trod enc Tryz.prog W 0 (fun _=>true) true 42 v d p):
  ∃ (s:Sl) (bs:List Int),v=.slice s.a s.len s.cap∧SlR (Cx.of W).m s (b8 bs)∧Bytes bs:=by
 obtain ⟨a,n,c,rfl⟩:=okWide_slice Tryz.underlying42 hv
 obtain ⟨x,hx,ho⟩:=tr_arg (d:=6) (u:=.sl (.int .u8)) (by kernel_rfl) h
 cases x<;>simp only [Tr.Ok] at ho
 rename_i s xs
 have ho:Tr.Ok (Cx.of W) (.sl (.int .u8)) (.sl s xs):=by unfold Tr.Ok;exact ho
 obtain ⟨bs,h1,h2,h3⟩:=ints_form ho
 have e:[Value.slice s.a s.len s.cap]=[Value.slice a n c]:=by simpa [Tr.cells,Value.cells] using hx
 have e:=(List.cons.inj e).1
 simp only [Value.slice.injEq] at e
 obtain ⟨rfl,rfl,rfl⟩:=e
 refine ⟨s,bs,rfl,⟨h1.len,sl_cap ho,h1.mem⟩,fun z hz=>?_⟩
 have:=h3 z hz
 simp [Lit.wf,IntKind.min,IntKind.max,IntKind.bits,IntKind.signed] at this
 omega
abbrev replyU:U:=.st [.int .i64,.str,.int .i64,.int .i64,.int .i64,.int .i64,.int .i64,.sl (.int .i64),.sl .str]
theorem wf_i64 {n:Int} (h:(Lit.int .i64 n).wf=true):n<9223372036854775808:=by
 simp [Lit.wf,IntKind.min,IntKind.max,IntKind.bits,IntKind.signed] at h
 omega
theorem reply_form {R:Cx} {x:Tr} (ho:x.Ok R replyU):∃ (c:Rp) (sl sb:Sl),x.cells=rpV c sl sb∧(∀ x∈[c.code,c.state,c.flt,c.cls,c.many,c.time]++c.left,x<9223372036854775808)∧RoI R sl c.left∧SlR R.m sb (c.labs.map Value.string):=by
 cases x<;>simp only [Tr.Ok] at ho
 rename_i xs
 match xs,ho with
 |[x0,x1,x2,x3,x4,x5,x6,x7,x8],ho=>
  simp only [Tr.OkL,and_true] at ho
  obtain ⟨h0,h1,h2,h3,h4,h5,h6,h7,h8⟩:=ho
  cases x0<;>simp only [Tr.Ok] at h0
  rename_i k0 n0
  obtain ⟨rfl,w0⟩:=h0
  cases x1<;>simp only [Tr.Ok] at h1
  rename_i n1
  cases x2<;>simp only [Tr.Ok] at h2
  rename_i k2 n2
  obtain ⟨rfl,w2⟩:=h2
  cases x3<;>simp only [Tr.Ok] at h3
  rename_i k3 n3
  obtain ⟨rfl,w3⟩:=h3
  cases x4<;>simp only [Tr.Ok] at h4
  rename_i k4 n4
  obtain ⟨rfl,w4⟩:=h4
  cases x5<;>simp only [Tr.Ok] at h5
  rename_i k5 n5
  obtain ⟨rfl,w5⟩:=h5
  cases x6<;>simp only [Tr.Ok] at h6
  rename_i k6 n6
  obtain ⟨rfl,w6⟩:=h6
  cases x7<;>simp only [Tr.Ok] at h7
  rename_i sl lx
  have h7:Tr.Ok R (.sl (.int .i64)) (.sl sl lx):=by unfold Tr.Ok;exact h7
  cases x8<;>simp only [Tr.Ok] at h8
  rename_i sb bx
  have h8:Tr.Ok R (.sl .str) (.sl sb bx):=by unfold Tr.Ok;exact h8
  obtain ⟨left,a1,_,a3⟩:=ints_form h7
  obtain ⟨labs,b1,_,b3,_⟩:=strs_form h8
  refine ⟨⟨n0,n1,n2,n3,n4,n5,n6,left,labs⟩,sl,sb,rfl,fun x hx=>?_,a1,⟨b1.len,b3,b1.mem⟩⟩
  rcases List.mem_append.1 hx with hx|hx
  ·simp only [List.mem_cons,List.not_mem_nil,or_false] at hx
   rcases hx with rfl|rfl|rfl|rfl|rfl|rfl
   ·exact wf_i64 w0
   ·exact wf_i64 w2
   ·exact wf_i64 w3
   ·exact wf_i64 w4
   ·exact wf_i64 w5
   ·exact wf_i64 w6
  ·exact wf_i64 (a3 x hx)
set_option maxRecDepth 100000 in
theorem reply_in (hv:Value.okWide Tryz.prog W r b0 31 v) (h:DataW.Trod enc Tryz.prog W 0 (fun _=>true) true 31 v d p):
  ∃ (c:Rp) (sl sb:Sl),v=.agg (rpV c sl sb).toArray∧(∀ x∈[c.code,c.state,c.flt,c.cls,c.many,c.time]++c.left,x<9223372036854775808)∧RoI (Cx.of W) sl c.left∧SlR (Cx.of W).m sb (c.labs.map Value.string):=by
 obtain ⟨x,hx,ho⟩:=tr_arg (d:=6) (u:=replyU) (by kernel_rfl) h
 obtain ⟨c,sl,sb,e,h1,h2,h3⟩:=reply_form ho
 simp only [Value.okWide,Tryz.underlying31 ] at hv
 obtain ⟨cs,rfl,_⟩:=hv
 refine ⟨c,sl,sb,?_,h1,h2,h3⟩
 have:cs.toList=rpV c sl sb:=by rw [show cs.toList=(Value.agg cs).cells.toList from rfl,←hx,e]
 congr 1
 exact Array.ext' this
end Go.Proofs.YtfgbbckfikiomaaGreatDoor
