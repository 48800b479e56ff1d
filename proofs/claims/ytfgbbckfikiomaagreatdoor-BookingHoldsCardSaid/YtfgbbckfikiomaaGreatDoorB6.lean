/- ROW, part 3: arguments of any plain type (integers, bools, floats, strings, slices, structs, arrays of such), read as trees. No condition. -/
import Derived.Test.YtfgbbckfikiomaaGreatDoorB5
import Derived.Test.YtfgbbckfikiomaaGreatDoorB2
import Derived.Maps.RangeRun
import Derived.Lib.Overlaps
import Derived.Lib.Bytealg
import Derived.Test.YtfgbbckfikiomaaGreatDoorB3
import Derived.SizedLaws
set_option linter.unusedVariables false
namespace Go.VC
section
open Go.ChangeShapes Go.WideShapes Go.ChangeAt Go.RowKit
inductive Tr where
 |int (k:IntKind) (n:Int)|bool (b:Bool)|flt (n:Nat)|str (s:ByteArray)|sl (s:Sl) (xs:List Tr)|st (xs:List Tr)
mutual
def Tr.cells:Tr->List Value
 | .int k n=>[.int k n]
 | .bool b=>[.bool b]
 | .flt n=>[.float .f64 n]
 | .str s=>[.string s]
 | .sl s _=>[.slice s.a s.len s.cap]
 | .st xs=>Tr.cellsL xs
def Tr.cellsL:List Tr->List Value
 |[]=>[]
 |x::xs=>x.cells++Tr.cellsL xs
end
inductive U where
 |int (k:IntKind)|bool|flt|str|sl (u:U)|st (us:List U)
mutual
def U.size:U->Nat
 | .st us=>U.sizeL us
 |_=>1
def U.sizeL:List U->Nat
 |[]=>0
 |u::us=>u.size + U.sizeL us
end
mutual
def Tr.Ok (R:Cx):U->Tr->Prop
 | .int k,.int k' n=>k'=k/\(Lit.int k n).wf=true
 | .bool,.bool _=>True
 | .flt,.flt n=>(Lit.float .f64 n).wf=true
 | .str,.str s=>s.size<=maxLen
 | .sl u,.sl s xs=>(RoN u.size R s (xs.map Tr.cells)/\s.len<=s.cap)/\xs.length<=maxLen/\Tr.OkA R u xs
 | .st us,.st xs=>Tr.OkL R us xs
 |_,_=>False
def Tr.OkA (R:Cx) (u:U):List Tr->Prop
 |[]=>True
 |x::xs=>Tr.Ok R u x/\Tr.OkA R u xs
def Tr.OkL (R:Cx):List U->List Tr->Prop
 |[],[]=>True
 |u::us,x::xs=>Tr.Ok R u x/\Tr.OkL R us xs
 |_,_=>False
end
theorem Tr.okA {R:Cx} {u:U}:∀ {xs:List Tr},Tr.OkA R u xs->∀ x∈xs,Tr.Ok R u x
 |[],_,x,hx=>by cases hx
 |y::ys,h,x,hx=>by
  unfold Tr.OkA at h;rcases List.mem_cons.1 hx with rfl|hx
  ·exact h.1
  ·exact Tr.okA h.2 x hx
theorem Tr.okA_mk {R:Cx} {u:U}:∀ {xs:List Tr},(∀ x∈xs,Tr.Ok R u x)->Tr.OkA R u xs
 |[],_=>by unfold Tr.OkA;trivial
 |y::ys,h=>by
  unfold Tr.OkA;exact ⟨h y List.mem_cons_self,Tr.okA_mk λ x hx=>h x (List.mem_cons_of_mem _ hx)⟩
def ZhC (P:Program) (f:TypeId->Option U):Nat->List Field->Option (List U)
 |_,[]=>some []
 |off,x::xs=>match Nat.beq x.offset off with
  |false=>none
  |true=>match f x.type with
   |none=>none
   |some u=>match Nat.beq (P.cellsOf x.type) u.size with
    |false=>none
    |true=>match ZhC P f (off + u.size) xs with
     |none=>none
     |some us=>some (u::us)
def uOf (P:Program):Nat->TypeId->Option U
 |0,_=>none
 |d + 1,t=>match P.underlying t with
  |some (.int k)=>some (.int k)
  |some .bool=>some .bool
  |some (.float .f64)=>some .flt
  |some .string=>some .str
  |some (.slice e)=>match uOf P d e with
   |some u=>(match Nat.beq (P.cellsOf e) u.size && Nat.blt 0 u.size with|true=>some (.sl u)|false=>none)
   |none=>none
  |some (.struct fs)=>match ZhC P (uOf P d) 0 fs.toList with
   |some us=>(match Nat.beq (P.cellsOf t) (U.sizeL us) with|true=>some (.st us)|false=>none)
   |none=>none
  |some (.array n e)=>match uOf P d e with
   |some u=>(match Nat.beq (P.cellsOf e) u.size && Nat.beq (P.cellsOf t) (n * u.size) with|true=>some (.st (List.replicate n u))|false=>none)
   |none=>none
  |_=>none
section
variable {H:Type} {enc:TypeId × Value->H} {P:Program} {W:World} {base:Nat} {spare:Nat->Bool} {held:Bool}
def ZzR (R:Cx) (u:U) (cs:List Value):Prop:=∃ x:Tr,x.cells=cs/\x.Ok R u
theorem ZeM {w:World} {base:Nat} {a:Addr} {n:Nat} {cs:List Value} (h:w.cells? base a n=some cs):cs.length=n/\∀ i,i<n->w.cell? (a.add i)=cs[i]?:=by
 unfold World.cells? at h;split at h
 ·refine ⟨by have:=mapM_some_length h;simpa using this,λ i hi=>mapM_some_get h i i (by simp [hi])⟩
 ·cases h
theorem Zx9 (a:Addr) (i j:Nat) (hs:a.spot=none):(a.add i).add j=⟨a.block,a.off + (i + j),none⟩:=by
 obtain ⟨b,o,s⟩:=a;simp only at hs;subst hs;rw [Zy,Zy,Nat.add_assoc]
theorem ZhB {d:Nat} (ih:∀ {fuel:Nat} {t:TypeId} {cs:List Value} {y:DataW H × List MemPlace} {u:U},uOf P d t=some u->DataW.trod enc P W base spare held fuel t cs=some y->ZzR (Cx.of W) u cs) {n:Nat} {cs:List Value} {xs:List (DataW H × List MemPlace)}:
  ∀ (fs:List Field) (off:Nat) (us:List U),ZhC P (uOf P d) off fs=some us->(∀ (i:Nat) (f:Field),fs[i]? =some f->∃ y,DataW.trod enc P W base spare held n f.type ((cs.drop f.offset).take (P.cellsOf f.type))=some y)->
   off + U.sizeL us<=cs.length->∃ ts:List Tr,Tr.cellsL ts=(cs.drop off).take (U.sizeL us)/\Tr.OkL (Cx.of W) us ts
 |[],off,us,h,_,_=>by
  simp only [ZhC,Option.some.injEq] at h;subst h;exact ⟨[],by simp [Tr.cellsL,U.sizeL],by unfold Tr.OkL;trivial⟩
 |f::fs,off,us,h,hf,hl=>by
  unfold ZhC at h;split at h
  ·cases h
  rename_i hoff;have hoff:=Nat.eq_of_beq_eq_true hoff;split at h
  ·cases h
  rename_i u hu;split at h
  ·cases h
  rename_i hc;have hc:=Nat.eq_of_beq_eq_true hc;split at h
  ·cases h
  rename_i us' hus;cases h;simp only [U.sizeL] at hl ⊢;obtain ⟨y,hy⟩:=hf 0 f rfl;obtain ⟨x,hx,hxo⟩:=ih hu hy;obtain ⟨ts,hts,htso⟩:=ZhB ih (n:=n) (xs:=xs) fs (off + u.size) us' hus (λ i g hg=>hf (i + 1) g (by simpa using hg)) (by omega);refine ⟨x::ts,?_,by unfold Tr.OkL;exact ⟨hxo,htso⟩⟩;simp only [Tr.cellsL];rw [hx,hts,hoff,hc,List.take_add,List.drop_drop]
theorem ZkP {u:U} {n s:Nat}:∀ {m:Nat} {cs:List Value},cs.length=m * s->u.size=s->(∀ i,i<m->ZzR (Cx.of W) u ((cs.drop (i * s)).take s))->∃ ts:List Tr,Tr.cellsL ts=cs/\Tr.OkL (Cx.of W) (List.replicate m u) ts
 |0,cs,hl,_,_=>by
  have:cs=[]:=List.length_eq_zero_iff.1 (by simpa using hl);subst this;exact ⟨[],rfl,by unfold Tr.OkL;trivial⟩
 |m + 1,cs,hl,hs,h=>by
  obtain ⟨x,hx,hxo⟩:=h 0 (by omega);obtain ⟨ts,hts,htso⟩:=ZkP (n:=n) (m:=m) (cs:=cs.drop s) (by rw [List.length_drop,hl,Nat.add_mul];omega) hs (λ i hi=>by
   have:=h (i + 1) (by omega);rw [Nat.add_mul,Nat.one_mul,Nat.add_comm,<-List.drop_drop] at this;exact this)
  refine ⟨x::ts,?_,by rw [List.replicate_succ];unfold Tr.OkL;exact ⟨hxo,htso⟩⟩;simp only [Tr.cellsL];rw [hx,hts];simp
theorem ZhL {α β:Type} {p:Nat->α->Prop}:∀ {n:Nat},(∀ i,i<n->∃ x:α,p i x)->∃ xs:List α,xs.length=n/\∀ i (hi:i<xs.length),p i xs[i]
 |0,_=>⟨[],rfl,λ i hi=>by simp at hi⟩
 |n + 1,h=>by
  obtain ⟨xs,hl,hp⟩:=ZhL (β:=β) (n:=n) λ i hi=>h i (by omega);obtain ⟨x,hx⟩:=h n (by omega);refine ⟨xs++[x],by simp [hl],λ i hi=>?_⟩;by_cases h2:i<xs.length
  ·rw [List.getElem_append_left h2];exact hp i h2
  ·have:i=n:=by simp at hi;omega
   subst this;rw [List.getElem_append_right (by omega)];simpa using hx
theorem ZsN {fuel:Nat} {t:TypeId} {cs:List Value} {x:DataW H × List MemPlace} (ht:P.underlying t=some (.float .f64)) (h:DataW.trod enc P W base spare held fuel t cs=some x):∃ n,cs=[.float .f64 n]/\(Lit.float .f64 n).wf=true:=by
 cases fuel with
 |zero=>simp [DataW.trod] at h
 |succ n=>
  unfold DataW.trod at h;rw [ht] at h;split at h<;>simp_all
theorem Zi3:∀ {d fuel:Nat} {t:TypeId} {cs:List Value} {y:DataW H × List MemPlace} {u:U},uOf P d t=some u->DataW.trod enc P W base spare held fuel t cs=some y->ZzR (Cx.of W) u cs
 |0,_,_,_,_,_,h,_=>by cases h
 |d + 1,fuel,t,cs,y,u,h,hy=>by
  unfold uOf at h;split at h
  ·rename_i k ht
   cases h;obtain ⟨n,rfl,_,hw⟩:=DataW.trod_int ht hy;exact ⟨.int k n,rfl,rfl,hw⟩
  ·rename_i ht
   cases h;obtain ⟨b,rfl,_⟩:=DataW.trod_bool ht hy;exact ⟨.bool b,rfl,by unfold Tr.Ok;trivial⟩
  ·rename_i ht
   cases h;obtain ⟨n,rfl,hn⟩:=ZsN ht hy;exact ⟨.flt n,rfl,by unfold Tr.Ok;exact hn⟩
  ·rename_i ht
   cases h;obtain ⟨s,rfl,_,hs⟩:=DataW.trod_string ht hy;exact ⟨.str s,rfl,hs⟩
  ·rename_i e ht
   split at h
   case h_2=>cases h
   rename_i ue hue;split at h
   case h_2=>cases h
   rename_i hc;simp only [Bool.and_eq_true] at hc;have hpos:0<ue.size:=Nat.blt_eq.mp hc.2;have hc:=Nat.eq_of_beq_eq_true hc.1;cases h;rcases DataW.trod_slice ht hy with ⟨rfl,_⟩|⟨a,len,cap,elems,rest,n,_,rfl,_,_,hlc,hcm,hel,helem,_,_⟩
   ·refine ⟨.sl ⟨none,0,0⟩ [],rfl,?_⟩
    unfold Tr.Ok;exact ⟨⟨⟨Wid.nil,rfl,λ h=>absurd rfl h⟩,Nat.le_refl _⟩,Nat.zero_le _,by unfold Tr.OkA;trivial⟩
   ·obtain ⟨xs,hxl,hxs⟩:=ZhL (β:=Unit) (p:=λ i (x:Tr)=>W.cells? base (a.add (i * P.cellsOf e)) (P.cellsOf e)=some x.cells/\x.Ok (Cx.of W) ue) (n:=len) λ i hi=>by
     have h1:=helem i hi;rw [List.getElem?_eq_getElem (by omega)] at h1;obtain ⟨ce,hce,hte⟩:=Option.bind_eq_some_iff.1 h1;obtain ⟨x,rfl,hx⟩:=Zi3 hue hte;exact ⟨x,hce,hx⟩
    refine ⟨.sl ⟨some a,len,cap⟩ xs,rfl,?_⟩;unfold Tr.Ok;have hwid:Wid ue.size (xs.map Tr.cells):=λ r hr=>by
     obtain ⟨x,hx,rfl⟩:=List.mem_map.1 hr;obtain ⟨i,hi,rfl⟩:=List.getElem_of_mem hx;have:=(ZeM (hxs i hi).1).1;rw [this,hc]
    refine ⟨⟨⟨hwid,by simp [hxl],λ hne=>?_⟩,hlc⟩,by omega,Tr.okA_mk λ x hx=>by obtain ⟨i,hi,rfl⟩:=List.getElem_of_mem hx;exact (hxs i hi).2⟩
    -- the block
    have h0:0<xs.length:=by
     have:0<(xs.map Tr.cells).length:=List.length_pos_iff.2 hne;simpa using this
    have hcell:∀ i (hi:i<xs.length) j,j<ue.size->W.cell? ((a.add (i * ue.size)).add j)=(xs[i].cells)[j]?:=λ i hi j hj=>by
     have:=(ZeM (hxs i hi).1).2 j (by rw [hc];exact hj);rw [hc] at this;exact this
    have hxl0:∀ i (hi:i<xs.length),(xs[i].cells).length=ue.size:=λ i hi=>by rw [(ZeM (hxs i hi).1).1,hc]
    have hc0:=hcell 0 h0 0 (by omega);rw [List.getElem?_eq_getElem (by rw [hxl0 0 h0];omega)] at hc0;have hz0:(a.add (0 * ue.size)).add 0=a:=by rw [Nat.zero_mul];simp [Addr.add]
    rw [hz0] at hc0;obtain ⟨hs,l,T,fr,hl,_⟩:=Zkb hc0;refine ⟨a.block,a.off,l,T,fr,by cases a;simp_all,hl,λ i v hv=>?_⟩
    -- which row, which place
    have hlen:=hwid.len;rw [List.length_map] at hlen;have hi:i<(xs.map Tr.cells).flatten.length:=(List.getElem?_eq_some_iff.1 hv).1;have hq:i / ue.size<xs.length:=by
     rw [hlen] at hi;exact Nat.div_lt_of_lt_mul (by rwa [Nat.mul_comm])
    have hm:i % ue.size<ue.size:=Nat.mod_lt _ (by omega);have hcc:=hcell (i / ue.size) hq (i % ue.size) hm;rw [Zx9 a _ _ hs,show i / ue.size * ue.size + i % ue.size=i by rw [Nat.mul_comm];exact Nat.div_add_mod _ _] at hcc;have e1:(xs.map Tr.cells).flatten[i]? =(xs[i / ue.size].cells)[i % ue.size]?:=by
     have h1:i=i / ue.size * ue.size + i % ue.size:=by rw [Nat.mul_comm];exact (Nat.div_add_mod _ _).symm
     conv=>lhs;rw [h1]
     rw [<-List.getElem?_drop,hwid.drop_flat,List.drop_eq_getElem_cons (by simpa using hq),List.flatten_cons,List.getElem?_append_left (by rw [List.getElem_map,hxl0 _ hq];exact hm),List.getElem_map]
    rw [<-e1,hv] at hcc;simp only [World.cell?,hl,Option.isSome_none,Bool.false_eq_true,if_false] at hcc;exact hcc
  ·rename_i fs ht
   split at h
   case h_2=>cases h
   rename_i us hus;split at h
   case h_2=>cases h
   rename_i hc;have hc:=Nat.eq_of_beq_eq_true hc;cases h;obtain ⟨xs,n,_,_,hl,hxl,hf⟩:=DataW.trod_struct ht hy;obtain ⟨ts,hts,hto⟩:=ZhB (d:=d) (λ h h2=>Zi3 h h2) (n:=n) (cs:=cs) (xs:=xs) fs.toList 0 us hus (λ i f hfi=>by
    have hfi2:fs[i]? =some f:=by simpa using hfi
    have hlt:i<xs.length:=by rw [hxl];exact (Array.getElem?_eq_some_iff.1 hfi2).1
    exact ⟨xs[i],by rw [hf i f hfi2];exact List.getElem?_eq_getElem hlt⟩) (by omega)
   refine ⟨.st ts,?_,by unfold Tr.Ok;exact hto⟩;unfold Tr.cells;rw [hts,List.drop_zero,List.take_of_length_le (by omega)]
  ·rename_i m e ht
   split at h
   case h_2=>cases h
   rename_i ue hue;split at h
   case h_2=>cases h
   rename_i hc;simp only [Bool.and_eq_true] at hc;have hc1:=Nat.eq_of_beq_eq_true hc.1;have hc2:=Nat.eq_of_beq_eq_true hc.2;cases h;obtain ⟨xs,n,_,_,hl,hxl,hf⟩:=DataW.trod_array ht hy;obtain ⟨ts,hts,hto⟩:=ZkP (n:=n) (u:=ue) (s:=ue.size) (m:=m) (cs:=cs) (by rw [hl,hc2]) rfl (λ i hi=>by
    have:=hf i hi;rw [hc1,List.getElem?_eq_getElem (by omega)] at this;exact Zi3 hue this)
   exact ⟨.st ts,by unfold Tr.cells;exact hts,by unfold Tr.Ok;exact hto⟩
  ·cases h
theorem Zym {d:Nat} {t:TypeId} {v:Value} {dt:DataW H} {p:List MemPlace} {u:U} (hu:uOf P d t=some u) (h:DataW.Trod enc P W base spare held t v dt p):ZzR (Cx.of W) u v.cells.toList:=by
 obtain ⟨fuel,hf⟩:=h;exact Zi3 hu hf
theorem Zl2 {α:Type} {R:Cx} {u:U} {s:Sl} {xs:List Tr} (g:α->List Value) (Q:α->Prop) (ho:Tr.Ok R (.sl u) (.sl s xs)) (h:∀ x:Tr,x.Ok R u->∃ e:α,x.cells=g e/\Q e):
  ∃ es:List α,RoN u.size R s (es.map g)/\es.length<=maxLen/\∀ e∈es,Q e:=by
 unfold Tr.Ok at ho;obtain ⟨⟨h1,_⟩,h2,h3⟩:=ho;have key:∀ l:List Tr,(∀ x∈l,x.Ok R u)->∃ es:List α,l.map Tr.cells=es.map g/\es.length=l.length/\∀ e∈es,Q e:=λ l=>by
  induction l with
  |nil=>exact λ _=>⟨[],rfl,rfl,λ _ h=>by cases h⟩
  |cons x l ih=>
   intro hl;obtain ⟨es,h1,h2,h3⟩:=ih λ y hy=>hl y (List.mem_cons_of_mem _ hy);obtain ⟨e,he,hq⟩:=h x (hl x List.mem_cons_self);exact ⟨e::es,by rw [List.map_cons,List.map_cons,he,h1],by simp [h2],λ y hy=>by
    rcases List.mem_cons.1 hy with rfl|hy
    ·exact hq
    ·exact h3 y hy⟩
 obtain ⟨es,e1,e2,e3⟩:=key xs (Tr.okA h3);rw [e1] at h1;exact ⟨es,h1,by omega,e3⟩
theorem Zyp {R:Cx} {u:U} {s:Sl} {xs:List Tr} (ho:Tr.Ok R (.sl u) (.sl s xs)):s.len<=s.cap:=by
 unfold Tr.Ok at ho;exact ho.1.2
theorem RoN.one {R:Cx} {s:Sl} {vs:List Value} (h:RoN 1 R s (vs.map λ v=>[v])) (hb:vs.length<=maxLen):Ro R s vs:=by
 refine ⟨by have:=h.len;simpa using this,by unfold maxLen at hb;omega,λ hne=>?_⟩;obtain ⟨b,off,l,T,fr,h1,h2,h3⟩:=h.mem (by simpa using hne);refine ⟨b,off,l,T,fr,h1,h2,λ i v hv=>h3 i v ?_⟩;have:(vs.map λ v=>[v]).flatten=vs:=by
  clear h3 h hb hne hv
  induction vs with
  |nil=>rfl
  |cons v vs ih=>simp [ih]
 rw [this];exact hv
theorem Zrg {R:Cx} {k:IntKind} {s:Sl} {xs:List Tr} (ho:Tr.Ok R (.sl (.int k)) (.sl s xs)):∃ zs:List Int,Ro R s (zs.map (Value.int k))/\zs.length<=maxLen/\∀ z∈zs,(Lit.int k z).wf=true:=by
 obtain ⟨zs,h1,h2,h3⟩:=Zl2 (λ z:Int=>[Value.int k z]) (λ z=>(Lit.int k z).wf=true) ho λ x hx=>by
  cases x<;>simp only [Tr.Ok] at hx;rename_i k' z;obtain ⟨rfl,hw⟩:=hx;exact ⟨z,rfl,hw⟩
 refine ⟨zs,RoN.one ?_ (by simpa using h2),h2,h3⟩;rw [List.map_map];exact h1
theorem Zo1 {R:Cx} {s:Sl} {xs:List Tr} (ho:Tr.Ok R (.sl .flt) (.sl s xs)):∃ zs:List Nat,Ro R s (zs.map (Value.float .f64))/\zs.length<=maxLen/\s.len<=s.cap/\∀ z∈zs,z<18446744073709551616:=by
 obtain ⟨zs,h1,h2,h3⟩:=Zl2 (λ z:Nat=>[Value.float .f64 z]) (λ z=>z<18446744073709551616) ho λ x hx=>by
  cases x<;>simp only [Tr.Ok] at hx;rename_i z;exact ⟨z,rfl,of_decide_eq_true hx⟩
 refine ⟨zs,RoN.one ?_ (by simpa using h2),h2,Zyp ho,h3⟩;rw [List.map_map];exact h1
end
end
end Go.VC
namespace Go.Proofs.YtfgbbckfikiomaaGreatDoor
section
open Go Go.VC Go.ChangeShapes Go.WideShapes Go.ChangeAt Go.RowKit
variable {H:Type} {enc:TypeId × Value->H} {W:World} {r:Reach} {b0:Nat} {v:Value} {d:DataW H} {p:List MemPlace}
abbrev ZAW:U:=.st [.int .i64,.str,.int .i64,.int .i64,.int .i64,.int .i64,.flt,.str,.st [.int .i64,.sl (.int .i64)],.sl .flt]
theorem ZtX {R:Cx} {x:Tr} (ho:x.Ok R ZAW):∃ (c:Cm) (sg sp:Sl),x.cells=cmV c sg sp/\ZA1 c/\RoI R sg c.grps/\SlR R.m sp (ZnH c.parts):=by
 cases x<;>simp only [Tr.Ok] at ho;rename_i xs
 match xs,ho with
 |[x0,x1,x2,x3,x4,x5,x6,x7,x8,x9],ho=>
  simp only [Tr.OkL,and_true] at ho;obtain ⟨h0,h1,h2,h3,h4,h5,h6,h7,h8,h9⟩:=ho;cases x0<;>simp only [Tr.Ok] at h0;rename_i k0 n0;obtain ⟨rfl,_⟩:=h0;cases x1<;>simp only [Tr.Ok] at h1;rename_i n1;cases x2<;>simp only [Tr.Ok] at h2;rename_i k2 n2;obtain ⟨rfl,_⟩:=h2;cases x3<;>simp only [Tr.Ok] at h3;rename_i k3 n3;obtain ⟨rfl,_⟩:=h3;cases x4<;>simp only [Tr.Ok] at h4;rename_i k4 n4;obtain ⟨rfl,_⟩:=h4;cases x5<;>simp only [Tr.Ok] at h5;rename_i k5 n5;obtain ⟨rfl,_⟩:=h5;cases x6<;>simp only [Tr.Ok] at h6;rename_i n6;cases x7<;>simp only [Tr.Ok] at h7;rename_i n7;cases x9<;>simp only [Tr.Ok] at h9;rename_i sp px;have h9:Tr.Ok R (.sl .flt) (.sl sp px):=by unfold Tr.Ok;exact h9
  cases x8<;>simp only [Tr.Ok] at h8;rename_i ys
  match ys,h8 with
  |[y0,y1],h8=>
   simp only [Tr.OkL,and_true] at h8;obtain ⟨g0,g1⟩:=h8;cases y0<;>simp only [Tr.Ok] at g0;rename_i k8 rows;obtain ⟨rfl,_⟩:=g0;cases y1<;>simp only [Tr.Ok] at g1;rename_i sg gx;have g1:Tr.Ok R (.sl (.int .i64)) (.sl sg gx):=by unfold Tr.Ok;exact g1
   obtain ⟨grps,a1,_,_⟩:=Zrg g1;obtain ⟨parts,b1,_,b3,b4⟩:=Zo1 h9;exact ⟨⟨n0,n1,n2,n3,n4,n5,n6,n7,rows,grps,parts⟩,sg,sp,rfl,⟨of_decide_eq_true h6,b4⟩,a1,⟨b1.len,b3,b1.mem⟩⟩
end
end Go.Proofs.YtfgbbckfikiomaaGreatDoor

namespace Go.VC
section
open Go Go.RowKit
theorem Zon {P:Program} {n:Nat} (w:World) (dT sT ty elem:TypeId) (b o dLen dCap:Nat) (a:Addr) (sLen sCap:Nat) (cs:List Value)
  (hu:P.underlying dT=some (.slice elem)) (hs:(P.info? elem).map (·.size)=some n) (hn:cs.length=Nat.min sLen dLen * n)
  (hsrc:∀ j v,cs[j]? =some v->w.cell? (a.add j)=some v) (hc:∀ j,j<cs.length->(w.cell? ⟨b,o + j,none⟩).isSome=true) (hf:∀ j,j<cs.length->w.frozen? ⟨b,o + j,none⟩=false) (h1:∀ v∈cs,v.oneCell'=true):
  (Builtin.copy_ #[dT,sT] ty #[.slice (some ⟨b,o,none⟩) dLen dCap,.slice (some a) sLen sCap]).run P w=.ok (goInt (Nat.min sLen dLen)) (w.setCells b o cs):=by
 have hl:=run_loadCells_list (P:=P) w a cs hsrc;have hst:=run_storeCells_cells (P:=P) b o cs 0 w (by simpa using hc) (by simpa using hf) h1;cases hq:P.info? elem with
 |none=>simp [hq] at hs
 |some i=>
  have hi:i.size=n:=by simpa [hq] using hs
  simp [Builtin.copy_,run_underlying hu,Builtin.lenOf,Builtin.firstCells,sizeOf,typeInfo,hq,hi,<-hn,hl,hst]
theorem Zl5 {P:Program} {n m:Nat} (w:World) (t e ty:TypeId) (z:Value) (ht:P.underlying t=some (.slice e)) (hv:∀ w,(zeroValue e).run P w=.ok z w) (hz:z.cells.size=n) (h1:∀ v∈(Builtin.zeroCells z.cells m).toList,v.oneCell'=true) (b o c:Nat) (hm:0<m)
  (hc:∀ j,j<m * n->(w.cell? ⟨b,o + j,none⟩).isSome=true) (hf:∀ j,j<m * n->w.frozen? ⟨b,o + j,none⟩=false):
  (Builtin.clear_ #[t] ty #[.slice (some ⟨b,o,none⟩) m c]).run P w=.ok (.tuple #[]) (w.setCells b o (Builtin.zeroCells z.cells m).toList):=by
 have hl:(Builtin.zeroCells z.cells m).toList.length=m * n:=by simp [Builtin.zeroCells,hz]
 have hst:=run_storeCells_cells (P:=P) b o (Builtin.zeroCells z.cells m).toList 0 w (by rw [hl];simpa using hc) (by rw [hl];simpa using hf) h1;simp only [Nat.add_zero] at hst;obtain ⟨k,rfl⟩:∃ k,m=k + 1:=⟨m - 1,by omega⟩;simp [Builtin.clear_,run_underlying ht,hv,hst]
theorem Zp3 {n:Nat}:∀ (m:Nat) (l:List Value),l.length=m * n->∃ ys:List (List Value),ys.length=m/\Wid n ys/\ys.flatten=l
 |0,l,h=>⟨[],rfl,Wid.nil,by have:l=[]:=List.length_eq_zero_iff.1 (by omega);rw [this];rfl⟩
 |m + 1,l,h=>by
  rw [Nat.add_mul,Nat.one_mul] at h;obtain ⟨ys,h1,h2,h3⟩:=Zp3 (n:=n) m (l.drop n) (by rw [List.length_drop];omega);refine ⟨l.take n::ys,by simp [h1],λ x hx=>?_,by simp [h3]⟩;rcases List.mem_cons.1 hx with rfl|hx
  ·rw [List.length_take];omega
  ·exact h2 x hx
theorem ZeY {A B C V:List Value} {p:Nat} (hp:A.length=p) (hB:B.length=V.length):Zei (A++B++C) p V=A++V++C:=by
 rw [ZeB _ _ _ (by simp only [List.length_append];omega)];have e1:(A++B++C).take p=A:=by rw [List.append_assoc,List.take_left' hp]
 have e2:(A++B++C).drop (p + V.length)=C:=by rw [List.drop_left' (by rw [List.length_append];omega)]
 rw [e1,e2]
theorem putN {A Y D X rest:List Value} {p:Nat} (hA:A.length=p) (hy:Y.length=X.length + D.length):Zei (Zei ((A++Y)++rest) p X) (p + X.length) D=(A++X++D)++rest:=by
 have h1:Zei ((A++Y)++rest) p X=A++X++(Y.drop X.length++rest):=by
  have:=ZeY (A:=A) (B:=Y.take X.length) (C:=Y.drop X.length++rest) (V:=X) hA (by rw [List.length_take];omega);rw [<-this]
  congr 1
  rw [List.append_assoc,List.append_assoc,<-List.append_assoc (Y.take _),List.take_append_drop]
 have h2:=ZeY (A:=A++X) (B:=Y.drop X.length) (C:=rest) (V:=D) (p:=p + X.length) (by simp [hA]) (by rw [List.length_drop];omega);rw [h1,<-List.append_assoc,h2]
theorem ZAI {A D X rest:List Value} {p:Nat} (hA:A.length=p) (hr:X.length<=rest.length):Zei (Zei ((A++D)++rest) (p + X.length) D) p X=(A++X++D)++rest.drop X.length:=by
 have e:(A++D)++rest=(A++(D++rest).take X.length)++((D++rest).drop X.length).take D.length++rest.drop X.length:=by
  have h1:rest.drop X.length=(D++rest).drop (X.length + D.length):=by
   rw [Nat.add_comm,<-List.drop_drop,List.drop_left]
  rw [h1,<-List.drop_drop,List.append_assoc,List.append_assoc,List.append_assoc,List.take_append_drop,List.take_append_drop]
 have hl:((D++rest).take X.length).length=X.length:=by rw [List.length_take,List.length_append];omega
 rw [e,ZeY (p:=p + X.length) (by rw [List.length_append,hl,hA]) (by rw [List.length_take,List.length_drop,List.length_append];omega)];have:=ZeY (A:=A) (B:=(D++rest).take X.length) (C:=D++rest.drop X.length) (V:=X) hA (by rw [hl]);rw [show (A++(D++rest).take X.length)++D++rest.drop X.length=A++(D++rest).take X.length++(D++rest.drop X.length) by simp,this];simp
section
variable {P:Program} {R:Cx} {Hs Rest:List HP} {w:World} {s:Sl} {T:TypeId} {n:Nat}
theorem Zea {dT sT ty elem:TypeId} {b o dLen dCap sLen sCap:Nat} {a:Addr} {cs l:List Value} {fr:Nat × Nat} {K:Int->World->Prop} (hu:P.underlying dT=some (.slice elem)) (hs:(P.info? elem).map (·.size)=some n)
  (hw:Sat R (pts b (.cells l.toArray T fr)::Hs) w) (hfr:Znn l.length fr) (hn:cs.length=Nat.min sLen dLen * n) (hfit:o + cs.length<=l.length) (hsrc:∀ j v,cs[j]? =some v->w.cell? (a.add j)=some v) (h1:ZaS cs=true)
  (k:∀ t w',Sat R (pts b (.cells (Zei l o cs).toArray T fr)::Hs) w'->K t w'):
  ∃ w',∃ t:Int,(Builtin.copy_ #[dT,sT] ty #[.slice (some ⟨b,o,none⟩) dLen dCap,.slice (some a) sLen sCap]).run P w=.ok (.int .i64 t) w'/\K t w':=by
 have hat:=hw.at;have hr:=Zon (P:=P) w dT sT ty elem b o dLen dCap a sLen sCap cs hu hs hn hsrc (λ j hj=>by rw [Zau hat];simp;omega) (λ j hj=>Zct hat hfr (by omega)) (λ v hv=>List.all_eq_true.1 h1 v hv);exact ⟨_,_,hr,k _ _ (ZaG cs l o w hw)⟩
theorem ZgI {t1 t2 ty:TypeId} {bytes k m:Nat} {kd kn:IntKind} {rows:List (List Value)} {K:Sl->World->Prop} (ht:P.underlying t1=some (.slice T)) (htn:P.underlying t2=some (.int kn)) (hi:ZyL P T n bytes=true) (hn1:0<n)
  (h0:0<m) (hk:k<rows.length) (hc:s.cap<k + m) (hb:2 * (k + m) * bytes<=281474976710656) (hb':k + m<=9223372036854775807) (hw:Sat R (Zt n s T rows::Hs) w)
  (h:∀ t w' ys,ys.length=m->Sat R (Zt n t T (rows.take k++ys)::Zt n s T rows::Hs) w'->K t w'):
  ∃ w',∃ t:Sl,(Builtin.append_ #[t1,t2] ty #[.slice s.a k s.cap,.int kd m]).run P w=.ok (.slice t.a t.len t.cap) w'/\K t w':=by
 obtain ⟨i,z,hi,hz,hsize,hbytes,hzc⟩:=ZjX hi;obtain ⟨hwid,⟨_,rfl,_⟩|⟨b,rest,fr,cap,rfl,hl,hfr,hp⟩⟩:=Zt.cases hw
 ·simp at hk
 have hat:=hp.at;dsimp only at hc ⊢;have hcap:Builtin.nextslicecap (k + m) cap * i.bytes<=281474976710656:=by
  have h2:Builtin.nextslicecap (k + m) cap<=2 * (k + m):=by
   unfold Builtin.nextslicecap;split
   ·omega
   ·split
    ·omega
    ·have:=nextslicecap_le_wide hc
     unfold Builtin.nextslicecap at this;rw [if_neg (by assumption),if_neg (by assumption)] at this;omega
  rw [hbytes];exact Nat.le_trans (Nat.mul_le_mul_right _ h2) hb
 have hkl:(rows.take k).flatten.length=k * n:=by rw [hwid.take.len,List.length_take,Nat.min_eq_left (by omega)]
 have hold:(Builtin.firstCells i.size k (.slice (some ⟨b,0,none⟩) k cap)).run P w.drew=.ok (rows.take k).flatten.toArray w.drew:=by
  refine run_firstCells_some w.drew i.size k ⟨b,0,none⟩ k _ (rows.take k).flatten (by rw [hsize,hkl]) ?_;intro j u hj;rw [World.cell?_drew,Zy,Zau hat,Nat.zero_add];obtain ⟨hlt,rfl⟩:=List.getElem?_eq_some_iff.1 hj;rw [hkl] at hlt;rw [<-hj,<-hwid.take_flat,List.getElem?_take,if_pos hlt];have:k * n<=rows.length * n:=Nat.mul_le_mul_right _ (by omega);rw [List.getElem?_append_left (by rw [hwid.len];omega)]
 have hwr:IntKind.i64.wrap (m:Int)=m:=by rw [IntKind.wrap_i64];omega
 have hn:¬ (k + m<=cap):=by omega
 have h63':¬ (9223372036854775807<((k:Int) + (m:Int))):=by omega
 have h48':¬ (281474976710656<Builtin.nextslicecap (k + m) cap * i.bytes):=by omega
 have h48i:¬ (281474976710656<(m:Int) * (i.bytes:Int)):=by
  rw [<-Int.natCast_mul,hbytes];have:m * bytes<=2 * (k + m) * bytes:=Nat.mul_le_mul_right _ (by omega);omega
 have hneg:¬ ((m:Int)<0):=by omega
 have hn0:m≠0:=by omega
 have hns:¬ (m * i.size=0):=by
  rw [hsize];have:=Nat.mul_pos h0 hn1;omega
 have hg:=grownCap_ge w (k + m) cap T;have hr:(Builtin.append_ #[t1,t2] ty #[.slice (some ⟨b,0,none⟩) k cap,.int kd m]).run P w=
   .ok (.slice (some ⟨w.heap.size,0,none⟩) (k + m) (grownCap w (k + m) cap T)) (w.drew.alloc (.cells ((rows.take k).flatten.toArray++Builtin.zeroCells z.cells m++Builtin.zeroCells z.cells (grownCap w (k + m) cap T - (k + m))) T)):=by
  simp [Builtin.append_,run_underlying ht,run_underlying htn,sizeOf,typeInfo,zeroValue,hi,hz,asInt,asIntOf,hwr,hn,hneg,hns,h63',h48',h48i,Question.forced,hold,newRow,grownCap]
 have hzs:∀ m,(Builtin.zeroCells z.cells m).size=m * n:=λ m=>by simp [Builtin.zeroCells,hzc]
 obtain ⟨ys,hy1,hy2,hy3⟩:=Zp3 m (Builtin.zeroCells z.cells m).toList (by rw [Array.length_toList,hzs]);refine ⟨_,⟨some ⟨w.heap.size,0,none⟩,k + m,grownCap w (k + m) cap T⟩,hr,h _ _ ys hy1 ?_⟩;have h3:=Sat.alloc (Obj.cells ((rows.take k).flatten.toArray++Builtin.zeroCells z.cells m++Builtin.zeroCells z.cells (grownCap w (k + m) cap T - (k + m))) T) (Sat.drew hp);have e:Obj.cells ((rows.take k).flatten.toArray++Builtin.zeroCells z.cells m++Builtin.zeroCells z.cells (grownCap w (k + m) cap T - (k + m))) T=.cells ((rows.take k++ys).flatten++(Builtin.zeroCells z.cells (grownCap w (k + m) cap T - (k + m))).toList).toArray T (0,0):=by
  congr 1
  apply Array.ext';rw [List.flatten_append,hy3];simp
 rw [e] at h3 ⊢;have h4:=Zt.of_pts hwid hl (Sat.swap h3) hfr;have hwid2:Wid n (rows.take k++ys):=hwid.take.app hy2;have hlk:(rows.take k++ys).length=k + m:=by rw [List.length_append,List.length_take,hy1,Nat.min_eq_left (by omega)]
 have h5:=Zt.of_pts (cap:=grownCap w (k + m) cap T) hwid2 (by rw [List.length_append,hwid2.len,hlk,Array.length_toList,hzs,<-Nat.add_mul];congr 1;omega) (Sat.swap h4);have e2:(⟨some ⟨w.drew.heap.size,0,none⟩,(rows.take k++ys).length,grownCap w (k + m) cap T⟩:Sl)=⟨some ⟨w.heap.size,0,none⟩,k + m,grownCap w (k + m) cap T⟩:=by
  rw [hlk,World.size_drew]
 rw [e2] at h5;exact h5
theorem ZrH {t1 ty ty':TypeId} {bytes i j:Nat} {z:Value} {rows:List (List Value)} {K:Sl->World->Prop} (ht:P.underlying t1=some (.slice T)) (hi:ZyL P T n bytes=true) (hv:∀ w,(zeroValue T).run P w=.ok z w) (hzc:z.cells.size=n)
  (hz1:∀ m,∀ v∈(Builtin.zeroCells z.cells m).toList,v.oneCell'=true) (ho:ZaS rows.flatten=true)
  (hn1:0<n) (hij:i<j) (hj:j<=rows.length) (hw:Sat R (Zt n s T rows::Hs) w) (k:∀ t w',Sat R (Zt n t T (rows.take i++rows.drop j)::Hs) w'->K t w'):
  ∃ w',∃ t:Sl,(Builtin.append_ #[t1,t1] ty #[.slice s.a i s.cap,.slice (Zb1 s.a j s.cap n) (s.len - j) (s.cap - j)]).run P w=.ok (.slice t.a t.len t.cap) w'/\
   (0:Int)<=(s.len:Int)/\(s.len:Int)<=(t.cap:Int)/\(0:Int)<=(t.len:Int)/\(t.len:Int)<=(((s.len:Int).toNat:Nat):Int)/\
   ∃ w'',(Builtin.clear_ #[t1] ty' #[.slice (Zb1 t.a (t.len:Int).toNat t.cap n) ((s.len:Int).toNat - (t.len:Int).toNat) (t.cap - (t.len:Int).toNat)]).run P w'=.ok (.tuple #[]) w''/\K t w'':=by
 obtain ⟨ti,z',hi,hz',hsize,hbytes,hzc'⟩:=ZjX hi;obtain ⟨hwid,⟨_,rfl,_⟩|⟨b,rest,fr,cap,rfl,hl,hfr,hp⟩⟩:=Zt.cases hw
 ·simp at hj;omega
 have hat:=hp.at;have hl0:=hl;rw [List.length_append,hwid.len] at hl;have hcap:rows.length<=cap:=Nat.le_of_mul_le_mul_right (by omega:rows.length * n<=cap * n) hn1;have hjn:j * n<=rows.length * n:=Nat.mul_le_mul_right _ hj;have hin:i * n + (rows.length - j) * n + (j - i) * n=rows.length * n:=by
  rw [<-Nat.add_mul,<-Nat.add_mul]
  congr 1;omega
 have hdl:(rows.drop j).flatten.length=(rows.length - j) * n:=by rw [hwid.drop.len,List.length_drop]
 have hdo:∀ v∈(rows.drop j).flatten,v.oneCell'=true:=λ v hv=>List.all_eq_true.1 ho v (by
  obtain ⟨l,h1,h2⟩:=List.mem_flatten.1 hv;exact List.mem_flatten.2 ⟨l,List.mem_of_mem_drop h1,h2⟩)
 have hsrc:Src P ti.size t1 (.slice (Zb1 (some ⟨b,0,none⟩) j cap n) (rows.length - j) (cap - j)) (rows.length - j) (rows.drop j).flatten w:=by
  rw [hsize];by_cases hjc:cap=j
  ·have hr:rows.length - j=0:=by omega
   have hd:rows.drop j=[]:=List.drop_eq_nil_of_le (by omega);rw [hr,hd];unfold Zb1;rw [if_pos hjc];exact Go.Src.ofSlice w ht _ 0 _ [] (by simp) (λ j u hj=>by simp at hj) (λ u hu=>by cases hu)
  ·unfold Zb1
   rw [if_neg hjc];refine Go.Src.ofSlice w ht _ _ _ _ (by rw [hdl]) (λ x u hx=>?_) hdo;show w.cell? (Addr.add (Addr.add ⟨b,0,none⟩ (j * n)) x)=some u;rw [Zy,Zy,Nat.zero_add,Zau hat];rw [<-hwid.drop_flat,List.getElem?_drop] at hx;have hlt:=(List.getElem?_eq_some_iff.1 hx).1;rw [List.getElem?_append_left (by omega)];exact hx
 have hroom:i + (rows.length - j)<=cap:=by omega
 have hr:=run_append_room_src w t1 t1 ty T ti ht hi b 0 i cap _ (rows.length - j) (rows.drop j).flatten hsrc hroom
  (λ x hx=>by
   rw [Zau hat,hsize,List.getElem?_eq_getElem (by rw [hl0];omega)];rfl) (λ x hx=>Zct hat hfr (by rw [hsize];omega))
 have h2:=ZaG (rows.drop j).flatten (rows.flatten++rest) (i * n) w hp;rw [hsize,Nat.zero_add] at hr;have e1:Zei (rows.flatten++rest) (i * n) (rows.drop j).flatten=(rows.take i++rows.drop j).flatten++(rows.flatten++rest).drop (i * n + (rows.length - j) * n):=by
  rw [ZeB _ _ _ (by rw [hdl,hl0];omega),hdl,List.take_append_of_le_length (by rw [hwid.len];omega),hwid.take_flat,List.flatten_append]
 rw [e1] at h2;have hwid2:Wid n (rows.take i++rows.drop j):=hwid.take.app hwid.drop;have hll:(rows.take i++rows.drop j).length=i + (rows.length - j):=by rw [List.length_append,List.length_take,List.length_drop,Nat.min_eq_left (by omega)]
 refine ⟨_,⟨some ⟨b,0,none⟩,i + (rows.length - j),cap⟩,hr,by dsimp only;omega,by dsimp only;omega,by dsimp only;omega,by dsimp only;omega,?_⟩;dsimp only;rw [Int.toNat_natCast,Int.toNat_natCast];have hca:Zb1 (some ⟨b,0,none⟩) (i + (rows.length - j)) cap n=some ⟨b,(i + (rows.length - j)) * n,none⟩:=by
  unfold Zb1;rw [if_neg (by omega)];simp [Zy]
 rw [hca];have hat2:=h2.at;have hml:(rows.length - (i + (rows.length - j))) * n=(j - i) * n:=by congr 1;omega
 have hpos:(i + (rows.length - j)) * n=i * n + (rows.length - j) * n:=Nat.add_mul _ _ _;have hlen2:((rows.take i++rows.drop j).flatten++(rows.flatten++rest).drop (i * n + (rows.length - j) * n)).length=cap * n:=by
  rw [List.length_append,hwid2.len,hll,List.length_drop,hl0,hpos];omega
 refine ⟨_,Zl5 _ t1 T ty' z ht hv hzc (hz1 _) b ((i + (rows.length - j)) * n) _ (by omega) (λ x hx=>?_) (λ x hx=>?_),k _ _ ?_⟩
 ·rw [Zau hat2,List.getElem?_eq_getElem (by rw [hlen2];omega)];rfl
 ·exact Zct hat2 hfr (by omega)
 ·have h3:=ZaG (Builtin.zeroCells z.cells (rows.length - (i + (rows.length - j)))).toList _ ((i + (rows.length - j)) * n) _ h2
  have hzl:(Builtin.zeroCells z.cells (rows.length - (i + (rows.length - j)))).toList.length=(j - i) * n:=by simp [Builtin.zeroCells,hzc,hml]
  rw [ZeB _ _ _ (by rw [hzl,hlen2,hpos];omega),List.take_left' (by rw [hwid2.len,hll]),List.append_assoc] at h3;have h4:=Zt.of_pts (cap:=cap) hwid2 (by
   rw [List.length_append,List.length_append,hwid2.len,hll,hzl,List.length_drop,hlen2];omega) h3 hfr
  rw [hll] at h4;exact h4
end
end
end Go.VC
namespace Go.Proofs.YtfgbbckfikiomaaGreatDoor
section
open Go Go.VC Tryz
open Classical
variable {R:Cx} {Hs Rest:List HP} {w:World}
abbrev wtA (x:Wt):Value:=.agg #[.int .i64 x.id,.int .i64 x.cls,.int .i64 x.many,.int .i64 x.time,.float .f64 x.sc]
abbrev wtC (b:Nat) (x:Wt):HP:=pts b (.cells (wtV x).toArray 181 (0,0))
abbrev wtD (b:Nat) (x:Wt):HP:=pts b (.cells (wtV x).toArray 65 (0,0))
theorem ZcD {n lo hi:Int} (hw:Sat R Hs w):Zm prog 229 #[.int .i64 n,.int .i64 lo,.int .i64 hi] w λ v w'=>v=.bool (decide (lo<=n/\n<=hi))/\Sat R Hs w':=by
 apply Zwy;refine Br.d (λ h=>⟨?_,hw⟩) (λ h=>⟨?_,hw⟩)
 ·congr 1
  rw [decide_eq_decide];omega
 ·rw [decide_eq_false (by omega)]
theorem Zma {x:Wt} (hw:Sat R Hs w):Zm prog 179 #[wtA x] w λ v w'=>v=.bool (decide x.Ok)/\Sat R Hs w':=by
 apply Zw7;refine Zb hw λ b w hw=>?_;have hw:Sat R (wtC b x::Hs) w:=hw;have no:∀ {w},¬ x.Ok->Sat R (wtC b x::Hs) w->(Value.bool false=.bool (decide x.Ok))/\Sat R Hs w:=λ h hw=>⟨by rw [decide_eq_false h],hw.drop⟩;refine ⟨x.id,oA hw,?_⟩;refine (ZcD hw).use ?_;clear hw;rintro _ w ⟨rfl,hw⟩;refine ⟨_,rfl,Br.d (λ h1=>?_) (λ h1=>no (λ h=>h1 h.1) hw)⟩;refine ⟨x.cls,oA hw,?_⟩;refine (ZcD hw).use ?_;clear hw;rintro _ w ⟨rfl,hw⟩;refine ⟨_,rfl,Br.d (λ h2=>?_) (λ h2=>no (λ h=>h2 h.2.1) hw)⟩;refine ⟨x.many,oA hw,?_⟩;refine (ZcD hw).use ?_;clear hw;rintro _ w ⟨rfl,hw⟩;refine ⟨_,rfl,Br.d (λ h3=>?_) (λ h3=>no (λ h=>h3 h.2.2.1) hw)⟩;refine ⟨x.time,oA hw,?_⟩;refine (ZcD hw).use ?_;clear hw;rintro _ w ⟨rfl,hw⟩;refine ⟨_,rfl,?_,hw.drop⟩
 congr 1
 rw [decide_eq_decide];exact ⟨λ h=>⟨h1,h2,h3,h⟩,λ h=>h.2.2.2⟩
def orL (l:List Int):Int:=(l.find? λ x=>decide (x≠0)).getD 0
theorem Zvg {s:Sl} {l:List Int} (hl:l.length<=1000000000) (hw:Sat R (Own s 3 (Zd l)::Hs) w):Zm prog 220 #[.slice s.a s.len s.cap] w λ v w'=>v=.int .i64 (orL l)/\Sat R (Own s 3 (Zd l)::Hs) w':=by
 have hlen:=Own.len hw;rw [List.length_map] at hlen;apply ZwG;refine ⟨λ i w=>∃ j:Nat,i=j/\j<=l.length/\(∀ x∈l.take j,x=0)/\Sat R (Own s 3 (Zd l)::Hs) w,λ i _=>l.length - i.toNat,⟨0,rfl,by omega,by simp,hw⟩,?_⟩;clear hw;rintro _ _ w ⟨j,rfl,hj,hz,hw⟩;refine Br.d (λ h=>?_) (λ h=>?_)
 ·have hj2:j<l.length:=by omega
  refine Own.ix hw (eqS hw) j rfl hj2 ?_;refine Br.ne (λ h2=>⟨?_,hw⟩) (λ h2=>?_)
  ·congr 1
   have e:l.find? (λ x=>decide (x≠0))=some l[j]:=by
    have h3:l=l.take j++l[j]::l.drop (j + 1):=by rw [<-List.drop_eq_getElem_cons hj2,List.take_append_drop]
    rw [List.find?_eq_some_iff_append];exact ⟨by simpa using h2,l.take j,l.drop (j + 1),h3,λ x hx=>by simpa using hz x hx⟩
   unfold orL;rw [e];rfl
  ·rw [Zh (by omega) (by omega)]
   refine ⟨⟨j + 1,by omega,by omega,λ x hx=>?_,hw⟩,by dsimp only;omega⟩;rw [List.take_add_one,List.getElem?_eq_getElem hj2] at hx;rcases List.mem_append.1 hx with hx|hx
   ·exact hz x hx
   ·simp at hx
    rw [hx];exact h2
 ·rw [List.take_of_length_le (by omega)] at hz
  refine ⟨?_,hw⟩
  congr 1
  unfold orL;rw [List.find?_eq_none.2 (λ x hx=>by simpa using hz x hx)];rfl
theorem Zvf {a b:Wt}:orL [Zeh b.sc a.sc,ZtW a.time b.time,ZtW a.id b.id]=a.ord b:=by
 unfold orL Wt.ord ZtW;by_cases h:Zeh b.sc a.sc=0
 ·simp only [List.find?_cons,h,ne_eq,not_true_eq_false,decide_false]
  by_cases h1:a.time<b.time
  ·simp [h1]
  ·by_cases h2:b.time<a.time
   ·simp [h1,h2]
   ·by_cases h3:a.id<b.id
    ·simp [h1,h2,h3]
    ·by_cases h4:b.id<a.id
     ·simp [h1,h2,h3,h4]
     ·simp [h1,h2,h3,h4]
 ·simp [h]
theorem Zir {a b:Wt} (hw:Sat R Hs w):Zm prog 170 #[wtA a,wtA b] w λ v w'=>v=.int .i64 (a.ord b)/\Sat R Hs w':=by
 apply Zxf;refine Zb hw λ p w hw=>Zb hw λ q w hw=>?_;have hw:Sat R (wtC q b::wtC p a::Hs) w:=hw;refine ZaN hw λ w hw=>?_;refine ⟨b.sc,At.own (λ _ h=>h) (by exact ⟨rfl,trivial⟩),a.sc,At.own (λ _ h=>h) (by exact ⟨rfl,trivial⟩),a.time,At.own (λ _ h=>h) (by exact ⟨rfl,trivial⟩),b.time,At.own (λ _ h=>h) (by exact ⟨rfl,trivial⟩),a.id,At.own (λ _ h=>h) (by exact ⟨rfl,trivial⟩),b.id,At.own (λ _ h=>h) (by exact ⟨rfl,trivial⟩),?_⟩;refine (Zqk hw).use ?_;clear hw;rintro _ w ⟨rfl,hw⟩;refine ⟨_,rfl,hw,?_⟩;refine (Zfm hw).use ?_;clear hw;rintro _ w ⟨rfl,hw⟩;refine ⟨_,rfl,hw,?_⟩;refine (Zfm hw).use ?_;clear hw;rintro _ w ⟨rfl,hw⟩;refine ⟨_,rfl,hw,?_⟩;refine Zb hw λ r w hw=>⟨hw.absorb,?_⟩;have hw:Sat R (pts r (.cells (Zd [Zeh b.sc a.sc,ZtW a.time b.time,ZtW a.id b.id]).toArray 3 (0,0))::VC.tru::wtC q b::wtC p a::Hs) w:=hw;refine (Zvg (l:=[Zeh b.sc a.sc,ZtW a.time b.time,ZtW a.id b.id]) (by simp) (ZbI (n:=3) hw)).use ?_;clear hw;rintro _ w ⟨rfl,hw⟩;rw [Zvf];exact ⟨_,rfl,hw.absorb,rfl,hw.drop.drop.drop.drop⟩
abbrev wtT:TypeId:=181
theorem Zqp {s:Sl} {l:List Wt} {f:Value} {p:Wt->Bool} (hl:l.length<=1000000000)
  (hf:∀ x w,Sat R (Zt 5 s wtT (l.map wtV)::Hs) w->ZaK prog cl f [wtA x] w λ e w'=>e=.returned (.bool (p x))/\Sat R (Zt 5 s wtT (l.map wtV)::Hs) w')
  (hw:Sat R (Zt 5 s wtT (l.map wtV)::Hs) w):
  Zm prog 230 #[.slice s.a s.len s.cap,f] w λ v w'=>(∃ i:Int,v=.int .i64 i/\((i=-1/\l.any p=false)\/∃ k:Nat,i=k/\∃ (hk:k<l.length),p l[k]=true/\(l.take k).any p=false))/\Sat R (Zt 5 s wtT (l.map wtV)::Hs) w':=by
 have hlen:=Zt.len hw;rw [List.length_map] at hlen;apply Zwx;refine ⟨λ i w=>∃ j:Nat,i=j/\j<=l.length/\(l.take j).any p=false/\Sat R (Zt 5 s wtT (l.map wtV)::Hs) w,λ i _=>l.length - i.toNat,⟨0,rfl,by omega,by simp,hw⟩,?_⟩;clear hw;rintro _ _ w ⟨j,rfl,hj,hn,hw⟩;refine Br.d (λ h=>?_) (λ h=>?_)
 ·have hj2:j<l.length:=by omega
  refine (Zt.reads hw (eqS hw)).rngM (E:=l) (g:=wtV) hj2 λ a _ he=>?_;refine ⟨_,_,_,_,_,he.z (by exact ⟨rfl,rfl,rfl,rfl,rfl,trivial⟩),?_⟩;refine (hf l[j] _ hw).mono ?_;rintro _ w ⟨rfl,hw⟩;refine ⟨_,rfl,Br.mk (λ h=>⟨⟨j,rfl,.inr ⟨j,rfl,hj2,h,hn⟩⟩,hw⟩) (λ h=>?_)⟩;rw [Zh (by omega) (by omega)];refine ⟨⟨j + 1,by omega,by omega,?_,hw⟩,by dsimp only;omega⟩;rw [List.take_add_one,List.getElem?_eq_getElem hj2,List.any_append,hn];simp [h]
 ·rw [List.take_of_length_le (by omega)] at hn
  exact ⟨⟨-1,rfl,.inl ⟨rfl,hn⟩⟩,hw⟩
theorem Zre {b:Nat} {id:Int} {x:Wt} (hw:Sat R (pts b (.cells [.int .i64 id].toArray 3 (0,0))::Hs) w):Zm prog 231 #[wtA x,.pointer (some ⟨b,0,none⟩)] w λ v w'=>v=.bool (decide (x.id=id))/\Sat R (pts b (.cells [.int .i64 id].toArray 3 (0,0))::Hs) w':=by
 apply Zww;refine Zb hw λ p w hw=>?_;have hw:Sat R (wtC p x::pts b (.cells [.int .i64 id].toArray 3 (0,0))::Hs) w:=hw;refine ⟨x.id,oA hw,Zc.mk rfl ⟨id,oA hw,?_,hw.drop⟩⟩
 congr 1
theorem Zg7 {q:Nat} {l:List Wt} {id:Int} (hl:l.length<=1000000000) (hw:Sat R (ZC q l::Hs) w):
  Zm prog 180 #[.pointer (some ⟨q,0,none⟩),.int .i64 id] w λ v w'=>(∃ i:Int,v=.int .i64 i/\((i=-1/\Zel id l=false)\/∃ k:Nat,i=k/\∃ (hk:k<l.length),l[k].id=id/\Zel id (l.take k)=false))/\Sat R (ZC q l::Hs) w':=by
 obtain ⟨s,hw⟩:=Sat.qu.1 hw;apply Zw6;refine Zb hw λ b w hw=>?_;have hw:Sat R (pts q (Zax s)::pts b (.cells [.int .i64 id].toArray 3 (0,0))::Zt 5 s wtT (l.map wtV)::Hs) w:=hw.swap;refine Zc.mk rfl ⟨s,oA hw,?_⟩;have hw:Sat R (Zt 5 s wtT (l.map wtV)::pts b (.cells [.int .i64 id].toArray 3 (0,0))::pts q (Zax s)::Hs) w:=hw.arr;refine (Zqp (p:=λ x=>decide (x.id=id)) hl (λ x w hw=>ZaK.mk (by kernel_rfl) ((Zre hw.swap).use λ v w' h=>⟨by rw [h.1],h.2.swap⟩)) hw).use ?_;clear hw;rintro _ w ⟨⟨i,rfl,hi⟩,hw⟩;refine ⟨i,rfl,⟨i,rfl,?_⟩,?_⟩
 ·rcases hi with hi|⟨k,rfl,hk,h1,h2⟩
  ·exact .inl hi
  ·exact .inr ⟨k,rfl,hk,of_decide_eq_true h1,h2⟩
 ·have hw:Sat R (pts b (.cells [.int .i64 id].toArray 3 (0,0))::pts q (Zax s)::Zt 5 s wtT (l.map wtV)::Hs) w:=hw.arr
  exact Sat.qu.2 ⟨s,hw.drop⟩
end
section
open Go Go.VC Tryz
open Classical
variable {R:Cx} {Hs Rest:List HP} {w:World}
theorem Ztc : (f232.name == "runtime.NumGoroutine") = false := by kernel_rfl
theorem Zte:f232.body.isNone=true:=by kernel_rfl
theorem Ztb:Extern.findNext f232=none:=by kernel_rfl
theorem Ztd:∃ tR,Extern.find f232=some (Extern.SlicesOverlaps.overlaps #[ 177,177 ] #[tR]):=⟨4,by kernel_rfl⟩
theorem elW:ElN prog 177 177 wtT 5 40:=⟨underlying177,⟨_,underlying177⟩,by kernel_rfl⟩
theorem szW1:ZgS prog wtT=5:=by kernel_rfl
theorem szW (w:World):(sizeOf wtT).run prog w=.ok 5 w:=by
 obtain ⟨i,hi⟩:=Zm3 (P:=prog) (t:=wtT) (by rw [szW1];decide);have:=Za2 hi w;rw [szW1] at this;exact this
theorem ZgJ (x:Wt):(wtV x).length=5:=rfl
theorem Zc8 (l:List Wt):Wid 5 (l.map wtV):=λ y hy=>by
 obtain ⟨x,_,rfl⟩:=List.mem_map.1 hy;rfl
theorem ZuM (x:Wt):ZaS (wtV x)=true:=rfl
theorem ZiZ (l:List Wt):ZaS (l.map wtV).flatten=true:=by
 unfold ZaS;rw [List.all_eq_true];intro v hv;obtain ⟨r,h1,h2⟩:=List.mem_flatten.1 hv;obtain ⟨x,_,rfl⟩:=List.mem_map.1 h1;exact List.all_eq_true.1 (ZuM x) v h2
theorem ZrL {b k m:Nat} (h:m≠k):Zb1 (some ⟨b,0,none⟩) k m 5=some ⟨b,k * 5,none⟩:=by
 simp only [Zb1,if_neg h,Option.map_some,Zy];simp
theorem ZhX {b1 b2 o:Nat} {x:Wt} {T2:TypeId} {l:List Value} {fr:Nat × Nat} {la lc:Nat} {Q:Ending->World->Prop} (hl:l≠[])
  (hw:Sat R (pts b2 (.cells l.toArray T2 fr)::wtC b1 x::Hs) w) (k:Q (.returned (.bool false)) w):
  Ext prog 232 #[.slice (some ⟨b1,0,none⟩) 1 1,.slice (some ⟨b2,o,none⟩) la lc] w Q:=by
 have h2:=hw.at;have h1:=hw.swap.at;have hne:b1≠b2:=by
  rintro rfl;obtain ⟨h,hA,hd,h',hB,hd',_⟩:=hw;rw [show h=_ from hA] at hd hd'
  rw [show h'=_ from hB] at hd'
  have:=hd' b1 (by simp [ZU.one]);simp only [Cx.add,ZU.add,ZU.one] at this;split at this<;>simp_all
 obtain ⟨tR,hf⟩:=Ztd;refine ⟨.bool false,w,?_,k⟩;rw [run_callFunc_extern func232 Ztc Zte Ztb hf];rw [Lib.run_overlaps_apart (P:=prog) w 177 tR wtT underlying177 5 (λ w=>szW w) ⟨b1,0,none⟩ ⟨b2,o,none⟩ 1 1 la lc hne wtT T2 5 l.length ?_ ?_ ?_ ?_ ?_]
 ·rfl
 ·simp only [World.shape?,h1];rfl
 ·simp only [World.shape?,h2];simp
 ·cases l with
  |nil=>exact absurd rfl hl
  |cons a l=>simp
 ·simp [World.frozen?,h1]
 ·simp [World.frozen?,h1]
theorem Zuf {b:Nat} {x:Wt} (h:w.heap[b]? =some (.cells (wtV x).toArray wtT (0,0))):∀ j v,(wtV x)[j]? =some v->w.cell? ((⟨b,0,none⟩:Addr).add j)=some v:=by
 intro j v hj;rw [Zy,Zau h,Nat.zero_add];exact hj
theorem Zkv {b o:Nat} {xs rest:List Value} {T:TypeId} {fr:Nat × Nat} (h:w.heap[b]? =some (.cells (xs++rest).toArray T fr)):∀ j v,(xs.drop o)[j]? =some v->w.cell? ((⟨b,o,none⟩:Addr).add j)=some v:=by
 intro j v hj;rw [Zy,Zau h];rw [List.getElem?_drop] at hj;have hlt:=(List.getElem?_eq_some_iff.1 hj).1;rw [List.getElem?_append_left (by omega)];exact hj
theorem Zk1 {s:Sl} {l:List Wt} {x:Wt} {p b:Nat} (hl:l.length<=1000000000) (hp:p<=l.length) (hw:Sat R (Zt 5 s wtT (l.map wtV)::wtC b x::Hs) w):
  Zm prog 182 #[.slice s.a s.len s.cap,.int .i64 p,.slice (some ⟨b,0,none⟩) 1 1] w λ v w'=>∃ t:Sl,v=.slice t.a t.len t.cap/\Sat R (Zt 5 t wtT ((l.take p++x::l.drop p).map wtV)::wtC b x::Hs) w':=by
 have hlen:=Zt.len hw;have hcap:=Zt.cap (by omega) hw;rw [List.length_map] at hlen;have hrl:(l.map wtV).length=l.length:=List.length_map _;refine Zw4 s p ⟨some ⟨b,0,none⟩,1,1⟩ _ _ ?_;unfold B182;dsimp only;have w1:IntKind.i64.wrap ((s.len:Int) + ((1:Nat):Int))=((l.length + 1:Nat):Int):=by rw [Zh (by omega) (by omega)];omega
 have w2:IntKind.i64.wrap (((l.length + 1:Nat):Int) - p)=((l.length + 1 - p:Nat):Int):=by rw [Zh (by omega) (by omega)];omega
 have w3:IntKind.i64.wrap ((p:Int) + ((1:Nat):Int))=((p + 1:Nat):Int):=by rw [Zh (by omega) (by omega)];omega
 rw [w1,w2,w3];simp only [Int.toNat_natCast];have hA:((l.map wtV).take p).flatten.length=p * 5:=by rw [(Zc8 l).take.len,List.length_take,hrl,Nat.min_eq_left hp]
 have hD:((l.map wtV).drop p).flatten.length=(l.length - p) * 5:=by rw [(Zc8 l).drop.len,List.length_drop,hrl]
 have hDo:ZaS ((l.map wtV).drop p).flatten=true:=by rw [<-List.map_drop];exact ZiZ _
 have hrows:(l.map wtV).flatten=((l.map wtV).take p).flatten++((l.map wtV).drop p).flatten:=by rw [<-List.flatten_append,List.take_append_drop]
 have hin:((l.map wtV).take p).flatten++wtV x++((l.map wtV).drop p).flatten=((l.take p++x::l.drop p).map wtV).flatten:=by simp [List.map_take,List.map_drop]
 have hinl:(l.take p++x::l.drop p).length=l.length + 1:=by simp;omega
 refine ⟨by omega,by omega,Br.f rfl (Br.e (λ h=>?_) (λ h=>Br.d (λ h2=>?_) (λ h2=>?_)))⟩
 ·-- behind all
  refine Za1 elW hw (Zfq elW.hk 1 hw rfl rfl) (Wid.one rfl) (by simp;omega) (by simp;omega) λ t w hw=>⟨t,rfl,?_⟩;have e:l.map wtV++[wtV x]=(l.take p++x::l.drop p).map wtV:=by
   rw [List.take_of_length_le (by omega),List.drop_eq_nil_of_le (by omega)];simp
  rw [e] at hw;exact hw
 ·-- no room
  refine ⟨by omega,by omega,?_⟩;refine ZgI underlying177 underlying3 elW.hi (by omega) (by omega) (by rw [hrl];omega) (by omega) (by omega) (by omega) hw λ t w ys hys hw=>?_;have hyw:Wid 5 ys:=λ y hy=>Zt.wid hw y (List.mem_append_right _ hy);have htl:=Zt.len hw;have hxs:((l.map wtV).take p++ys).length=l.length + 1:=by rw [List.length_append,List.length_take,hrl,hys,Nat.min_eq_left hp];omega
  rw [hxs] at htl;refine ⟨by omega,by omega,?_⟩;obtain ⟨hwid,⟨_,h0,_⟩|⟨b',rest,fr,cap,rfl,hcl,hfr,hw⟩⟩:=Zt.cases hw
  ·have:=congrArg List.length h0
   rw [hxs] at this;cases this
  dsimp only at htl ⊢;rw [List.flatten_append] at hw hcl;have hY:ys.flatten.length=(l.length + 1 - p) * 5:=by rw [hyw.len,hys]
  have hcl2:=hcl;rw [List.length_append,List.length_append,hA,hY] at hcl2;have hb1:=(hw.takeP (b:=b) inferInstance).at;rw [hxs,ZrL (by omega)];refine Zea underlying177 (by kernel_rfl) hw (by rw [hcl];exact hfr) (cs:=wtV x) (by show 5=Nat.min 1 _ * 5;rw [show Nat.min 1 (l.length + 1 - p)=1 from Nat.min_eq_left (by omega)]) (by rw [hcl];show p * 5 + 5<=_;omega) (Zuf hb1) rfl λ _ w hw=>?_
  refine Zo hw λ w hw=>⟨by omega,by omega,by omega,by omega,?_⟩;obtain ⟨_,⟨_,h0,_⟩|⟨bs,rest2,fr2,cap2,rfl,hcl3,hfr2,hws⟩⟩:=Zt.cases hw.swap
  ·have h3:l.length=0:=by
    have:=congrArg List.length h0;rw [hrl] at this;exact this
   omega
  clear w1 w2 w3;dsimp only at hlen hcap h h2 ⊢;rw [hrl] at h hcap;have hsat:=hws.at;rw [ZrL (by omega),ZrL (by omega)];have hdrop:(l.map wtV).flatten.drop (p * 5)=((l.map wtV).drop p).flatten:=(Zc8 l).drop_flat p;refine Zea underlying177 (by kernel_rfl) hws.swap (by rw [Zbv,hcl];exact hfr) (cs:=((l.map wtV).drop p).flatten) (by rw [hD,hrl,show Nat.min (l.length - p) (l.length + 1 - (p + 1))=l.length - p from Nat.min_eq_left (by omega)])
   (by rw [Zbv,hcl,hD];omega) (by rw [<-hdrop];exact Zkv hsat) hDo λ _ w hw=>?_
  rw [show (p + 1) * 5=p * 5 + (wtV x).length by rw [ZgJ];omega,putN hA (by rw [hY,hD,ZgJ];omega),hin] at hw;have hfin:=Zt.of_pts (cap:=cap) (Zc8 _) (by rw [List.length_append,(Zc8 _).len,List.length_map,hinl];omega) hw hfr;rw [List.length_map,hinl] at hfin;refine ⟨⟨some ⟨b',0,none⟩,l.length + 1,cap⟩,rfl,?_⟩;exact Sat.cons (λ R' h=>h.drop) hfin
 ·-- room
  obtain ⟨_,⟨_,h0,_⟩|⟨bs,rest,fr,cap,rfl,hcl,hfr,hws⟩⟩:=Zt.cases hw
  ·have h3:l.length=0:=by
    have:=congrArg List.length h0;rw [hrl] at this;exact this
   omega
  clear w1 w2 w3;dsimp only at hlen hcap h h2 ⊢;rw [hrl] at h hcap;have hcl2:=hcl;rw [List.length_append,(Zc8 l).len,hrl] at hcl2;have hroom:5<=rest.length:=by omega
  refine ⟨by omega,by omega,by omega,by omega,?_⟩;rw [ZrL (by omega)];refine ZhX (by intro h0;have h5:=congrArg List.length h0;rw [hcl,List.length_nil] at h5;omega) hws ?_;refine ⟨_,rfl,Br.t rfl ?_⟩;refine Zo hws λ w hws=>⟨by omega,by omega,by omega,by omega,?_⟩;rw [ZrL (by omega)];have hsat:=hws.at;have hdrop:(l.map wtV).flatten.drop (p * 5)=((l.map wtV).drop p).flatten:=(Zc8 l).drop_flat p;refine Zea underlying177 (by kernel_rfl) hws (by rw [hcl];exact hfr) (cs:=((l.map wtV).drop p).flatten) (by rw [hD,show Nat.min (l.length + 1 - p) (l.length + 1 - (p + 1))=l.length - p from (Nat.min_eq_right (by omega)).trans (by omega)])
   (by rw [hcl,hD];omega) (by rw [<-hdrop];exact Zkv hsat) hDo λ _ w hw=>?_
  refine ⟨by omega,by omega,?_⟩;have hb1:=hw.swap.at;refine Zea underlying177 (by kernel_rfl) hw (by rw [Zbv,hcl];exact hfr) (cs:=wtV x) (by show 5=Nat.min 1 _ * 5;rw [show Nat.min 1 (l.length + 1 - p)=1 from Nat.min_eq_left (by omega)]) (by rw [Zbv,hcl];show p * 5 + 5<=_;omega) (Zuf hb1) rfl λ _ w hw=>?_
  rw [hrows,show (p + 1) * 5=p * 5 + (wtV x).length by rw [ZgJ];omega,ZAI hA (by rw [ZgJ];exact hroom),hin] at hw;have hfin:=Zt.of_pts (cap:=cap) (Zc8 _) (by rw [List.length_append,(Zc8 _).len,List.length_map,hinl,List.length_drop,ZgJ];omega) hw hfr;rw [List.length_map,hinl] at hfin;exact ⟨_,rfl,hfin⟩
theorem zvW (w:World):(zeroValue wtT).run prog w=.ok (.agg #[.int .i64 0,.int .i64 0,.int .i64 0,.int .i64 0,.float .f64 0]) w:=by
 rw [zeroValue181 ]
theorem Zk2 {s:Sl} {l:List Wt} {k:Nat} (hl:l.length<=1000000000) (hk:k<l.length) (hw:Sat R (Zt 5 s wtT (l.map wtV)::Hs) w):
  Zm prog 185 #[.slice s.a s.len s.cap,.int .i64 k,.int .i64 ((k + 1:Nat):Int)] w λ v w'=>∃ t:Sl,v=.slice t.a t.len t.cap/\Sat R (Zt 5 t wtT ((l.take k++l.drop (k + 1)).map wtV)::Hs) w':=by
 have hlen:=Zt.len hw;have hcap:=Zt.cap (by omega) hw;rw [List.length_map] at hlen;apply Zw1;unfold B185;simp only [Int.toNat_natCast];refine ⟨by omega,by omega,by omega,by omega,by omega,by omega,Br.e (λ h=>by omega) (λ _=>?_)⟩;refine Zo hw λ w hw=>⟨by omega,by omega,by omega,by omega,?_⟩;refine ZrH (z:=.agg #[.int .i64 0,.int .i64 0,.int .i64 0,.int .i64 0,.float .f64 0]) (i:=k) (j:=k + 1) (rows:=l.map wtV) elW.ht elW.hi zvW rfl (λ m v hv=>?_) (ZiZ l) (by omega) (by omega) (by rw [List.length_map];omega) hw λ t w hw=>⟨t,rfl,?_⟩
 ·unfold Builtin.zeroCells at hv
  rw [Array.mem_toList_iff,Array.mem_map] at hv;obtain ⟨i,_,rfl⟩:=hv;have h5:i % 5<5:=Nat.mod_lt _ (by omega);show ((#[Value.int .i64 0,.int .i64 0,.int .i64 0,.int .i64 0,.float .f64 0]:Array Value)[i % 5]!).oneCell'=true;generalize i % 5=j at h5
  match j,h5 with
  |0,_=>rfl
  |1,_=>rfl
  |2,_=>rfl
  |3,_=>rfl
  |4,_=>rfl
 ·rw [List.map_append,List.map_take,List.map_drop]
  exact hw
end
section
open Go Go.VC Tryz
open Classical
variable {R:Cx} {Hs Rest:List HP} {w:World}
theorem Zqo {q:List Wt} (h:QSt q) {i j:Nat} (hij:i<j) (hj:j<q.length):q[i].ahead q[j]=true:=List.pairwise_iff_getElem.1 h i j (by omega) hj hij
theorem ZkZ {s:Sl} {l:List Wt} {x:Wt} (hl:l.length<=1000000000) (hst:QSt l) (hw:Sat R (Zt 5 s wtT (l.map wtV)::Hs) w):
  Zm prog 181 #[.slice s.a s.len s.cap,wtA x,.func (.func 170) #[] #[]] w λ v w'=>(∃ (p:Nat) (b:Bool),v=.tuple #[.int .i64 p,.bool b]/\p<=l.length/\(∀ k (h:k<l.length),k<p->l[k].ahead x=true)/\(∀ k (h:k<l.length),p<=k->l[k].ahead x=false))/\Sat R (Zt 5 s wtT (l.map wtV)::Hs) w':=by
 have hlen:=Zt.len hw;rw [List.length_map] at hlen;apply Zw5;refine Zb hw λ b w hw=>?_;have ordC:∀ (y:Wt) w,Sat R (Zt 5 s wtT (l.map wtV)::wtC b x::Hs) w->ZaK prog cl (.func (.func 170) #[] #[]) [wtA y,wtA x] w (λ e w'=>e=.returned (.int .i64 (y.ord x))/\Sat R (Zt 5 s wtT (l.map wtV)::wtC b x::Hs) w'):=λ y w hw=>ZaK.mk (by kernel_rfl) ((Zir hw).use λ v w' h=>⟨by rw [h.1],h.2⟩);have hw:Sat R (Zt 5 s wtT (l.map wtV)::wtC b x::Hs) w:=Sat.swap hw;refine ⟨λ i j w=>∃ a b':Nat,i=a/\j=b'/\a<=b'/\b'<=l.length/\(∀ k (h:k<l.length),k<a->l[k].ahead x=true)/\(∀ k (h:k<l.length),b'<=k->l[k].ahead x=false)/\Sat R (Zt 5 s wtT (l.map wtV)::wtC b x::Hs) w,λ i j _=>(j - i).toNat,⟨0,l.length,rfl,by omega,by omega,by omega,λ k _ hk=>by omega,λ k h hk=>by omega,hw⟩,?_⟩;clear hw;rintro _ _ _ w ⟨a,c,rfl,rfl,hac,hc,h1,h2,hw⟩;refine Br.d (λ h=>?_) (λ h=>?_)
 ·refine Zo hw λ w hw=>?_
  rw [Zro (by omega)];have hm:(a + c) / 2<l.length:=by omega
  refine (Zt.reads (S:=Sat R (Zt 5 s wtT (l.map wtV)::wtC b x::Hs)) hw (λ _ h=>h)).rngM (E:=l) (g:=wtV) hm λ ad _ he=>?_;refine ⟨_,_,_,_,_,he.z (by exact ⟨rfl,rfl,rfl,rfl,rfl,trivial⟩),x.id,x.cls,x.many,x.time,x.sc,At.own (λ _ h=>h) (by exact ⟨rfl,rfl,rfl,rfl,rfl,trivial⟩),?_⟩;refine (ordC l[(a + c) / 2] _ hw).mono ?_;clear hw;rintro _ w ⟨rfl,hw⟩;refine ⟨_,rfl,Br.d (λ h3=>?_) (λ h3=>?_)⟩
  ·have ha:=ZqH.1 h3
   rw [show IntKind.i64.wrap ((((a + c) / 2:Nat):Int) + 1)=(((a + c) / 2 + 1:Nat):Int) from Zh (by omega) (by omega)]
   refine ⟨⟨(a + c) / 2 + 1,c,rfl,rfl,by omega,hc,λ k hk hk2=>?_,h2,hw⟩,by dsimp only;omega⟩;by_cases hkm:k=(a + c) / 2
   ·subst hkm;exact ha
   ·exact Zcx (Zqo hst (show k<(a + c) / 2 by omega) hm) ha
  ·have ha:l[(a + c) / 2].ahead x=false:=by
    rw [<-Bool.not_eq_true];exact λ h=>h3 (ZqH.2 h)
   refine ⟨⟨a,(a + c) / 2,rfl,rfl,by omega,by omega,h1,λ k hk hk2=>?_,hw⟩,by dsimp only;omega⟩;by_cases hkm:k=(a + c) / 2
   ·subst hkm;exact ha
   ·rw [<-Bool.not_eq_true] at ha ⊢
    exact λ h=>ha (Zcx (Zqo hst (show (a + c) / 2<k by omega) hk) h)
 ·obtain rfl:a=c:=by omega
  have fin:∀ (t:Bool) w,Sat R (Zt 5 s wtT (l.map wtV)::wtC b x::Hs) w->(∃ (p:Nat) (b:Bool),Value.tuple #[.int .i64 a,.bool t]=.tuple #[.int .i64 p,.bool b]/\p<=l.length/\(∀ k (h:k<l.length),k<p->l[k].ahead x=true)/\(∀ k (h:k<l.length),p<=k->l[k].ahead x=false))/\Sat R (Zt 5 s wtT (l.map wtV)::Hs) w:=λ t w hw=>⟨⟨a,t,rfl,hc,h1,h2⟩,hw.cons λ _ h=>h.drop⟩;refine Zo hw λ w hw=>?_;refine Br.d (λ h3=>?_) (λ h3=>fin _ _ hw);have ha:a<l.length:=by omega
  refine (Zt.reads (S:=Sat R (Zt 5 s wtT (l.map wtV)::wtC b x::Hs)) hw (λ _ h=>h)).rngM (E:=l) (g:=wtV) ha λ ad _ he=>?_;refine ⟨_,_,_,_,_,he.z (by exact ⟨rfl,rfl,rfl,rfl,rfl,trivial⟩),x.id,x.cls,x.many,x.time,x.sc,At.own (λ _ h=>h) (by exact ⟨rfl,rfl,rfl,rfl,rfl,trivial⟩),?_⟩;refine (ordC l[a] _ hw).mono ?_;clear hw;rintro _ w ⟨rfl,hw⟩;exact ⟨_,rfl,fin _ _ hw⟩
theorem Zrn {l:List Wt} {id:Int} {k:Nat} (hk:k<l.length) (h1:l[k].id=id) (h2:Zel id (l.take k)=false):Zel id l=true/\ZhG id l=l.take k++l.drop (k + 1):=by
 induction l generalizing k with
 |nil=>simp at hk
 |cons w l ih=>
  cases k with
  |zero=>
   have h1:w.id=id:=h1;refine ⟨by simp [Zel,h1],?_⟩;show (if w.id=id then l else _)=_
   rw [if_pos h1];simp
  |succ k=>
   rw [List.take_succ_cons] at h2;have h3:¬ w.id=id/\Zel id (l.take k)=false:=by simpa [Zel] using h2
   obtain ⟨a1,a2⟩:=ih (by simpa using hk) (by simpa using h1) h3.2;refine ⟨by simp only [Zel,List.any_cons];rw [show l.any _=true from a1];simp,?_⟩
   show (if w.id=id then _ else w::ZhG id l)=_
   rw [if_neg h3.1,a2];simp
theorem Zgf {q:Nat} {l:List Wt} {id:Int} (hl:l.length<=1000000000) (hw:Sat R (ZC q l::Hs) w):
  Zm prog 116 #[.pointer (some ⟨q,0,none⟩),.int .i64 id] w λ v w'=>v=.int .i64 (Zul l id).2/\Sat R (ZC q (Zul l id).1::Hs) w':=by
 apply ZxO;refine (Zg7 hl hw).use ?_;clear hw;rintro _ w ⟨⟨i,rfl,hi⟩,hw⟩;refine ⟨i,rfl,Br.d (λ h=>?_) (λ h=>?_)⟩
 ·rcases hi with ⟨_,h1⟩|⟨k,rfl,_⟩
  ·unfold Zul
   rw [h1];exact ⟨rfl,hw⟩
  ·omega
 rcases hi with ⟨h1,_⟩|⟨k,rfl,hk,h1,h2⟩
 ·omega
 obtain ⟨a1,a2⟩:=Zrn hk h1 h2;unfold Zul;rw [a1,if_pos rfl,a2];obtain ⟨s,hw⟩:=Sat.qu.1 hw;refine Zc.mk rfl ⟨s,oA hw,?_⟩;rw [show IntKind.i64.wrap ((k:Int) + 1)=((k + 1:Nat):Int) from Zh (by omega) (by omega)]
 refine (Zk2 hl hk hw.swap).use ?_;clear hw;rintro _ w ⟨t,rfl,hw⟩;refine ⟨t,rfl,Zc.mk rfl ?_⟩;refine Za hw.swap (by kernel_rfl) rfl (by simp [Value.cells]) λ w hw=>?_;have hw:=hw.re (pts q (Zax t));exact ⟨rfl,Sat.qu.2 ⟨t,hw⟩⟩
theorem Zk4 {q:Nat} {l:List Wt} {x:Wt} (hq:QOk l) (hw:Sat R (ZC q l::Hs) w):
  Zm prog 113 #[.pointer (some ⟨q,0,none⟩),wtA x] w λ v w'=>v=.int .i64 (ZcW l x).2/\Sat R (ZC q (ZcW l x).1::Hs) w':=by
 have hl:l.length<=1000000000:=by have:=hq.len;omega
 apply ZxR;refine Zb hw λ b1 w hw=>?_;have hw:Sat R (wtD b1 x::ZC q l::Hs) w:=hw;refine ⟨x.id,x.cls,x.many,x.time,x.sc,At.own (eqS hw) (by exact ⟨rfl,rfl,rfl,rfl,rfl,trivial⟩),?_⟩;refine Zb hw λ b2 w hw=>?_;refine Za hw (by kernel_rfl) rfl (by simp [Value.cells]) λ w hw=>?_;have hw:=hw.re (wtC b2 x);refine ⟨x.id,x.cls,x.many,x.time,x.sc,At.own (eqS hw) (by exact ⟨rfl,rfl,rfl,rfl,rfl,trivial⟩),?_⟩;refine (Zma hw).use ?_;clear hw;rintro _ w ⟨rfl,hw⟩;refine ⟨_,rfl,Br.nd (λ h=>?_) (λ hok=>?_)⟩
 ·unfold ZcW
  rw [if_pos h];exact ⟨rfl,hw.drop.drop⟩
 refine ⟨x.id,oA hw,?_⟩;have hw:Sat R (ZC q l::wtC b2 x::wtD b1 x::Hs) w:=hw.arr;refine (Zg7 hl hw).use ?_;clear hw;rintro _ w ⟨⟨i,rfl,hi⟩,hw⟩;have close:∀ {w l},Sat R (ZC q l::wtC b2 x::wtD b1 x::Hs) w->Sat R (ZC q l::Hs) w:=λ h=>h.cons λ _ h=>h.drop.drop;refine ⟨i,rfl,Br.d (λ h=>?_) (λ h=>?_)⟩
 ·rcases hi with ⟨h1,_⟩|⟨k,rfl,hk,h1,h2⟩
  ·omega
  unfold ZcW;rw [if_neg (λ h=>h hok),if_pos (Zrn hk h1 h2).1];exact ⟨rfl,close hw⟩
 have hno:Zel x.id l=false:=by
  rcases hi with ⟨_,h1⟩|⟨k,rfl,_⟩
  ·exact h1
  ·omega
 obtain ⟨s,hw⟩:=Sat.qu.1 hw;have hlen:=Zt.len hw.swap;rw [List.length_map] at hlen;refine Zc.mk rfl ⟨s,oA hw,Br.d (λ h3=>?_) (λ h3=>?_)⟩
 ·unfold ZcW
  rw [if_neg (λ h=>h hok),hno,if_neg (by simp),if_pos (by omega)];exact ⟨rfl,close (Sat.qu.2 ⟨s,hw⟩)⟩
 have hadd:ZcW l x=(ZiE x l,0):=by
  unfold ZcW;rw [if_neg (λ h=>h hok),hno,if_neg (by simp),if_neg (by omega)]
 rw [hadd];refine Zo hw λ w hw=>Zc.mk rfl ?_;refine ⟨s,At.own (λ _ h=>h) (by exact ⟨rfl,trivial⟩),x.id,x.cls,x.many,x.time,x.sc,At.own (λ _ h=>h) (by exact ⟨rfl,rfl,rfl,rfl,rfl,trivial⟩),?_⟩;refine (ZkZ hl hq.st hw.swap).use ?_;clear hw;rintro _ w ⟨⟨p,fb,rfl,hp,h1,h2⟩,hw⟩;refine ⟨_,_,rfl,?_⟩;refine ZE (Sat R [pts q (Zax s),wtC b2 x,VC.tru]) hw (λ w hw=>?_) λ w hw=>?_
 ·exact (hw.arr (Hs':=pts q (Zax s)::wtC b2 x::Zt 5 s wtT (l.map wtV)::wtD b1 x::Hs)).cons λ _ h=>h.restTru2
 refine Zc.mk rfl ⟨s,At.own (λ _ h=>h) (by exact ⟨rfl,trivial⟩),x.id,x.cls,x.many,x.time,x.sc,At.own (λ _ h=>h) (by exact ⟨rfl,rfl,rfl,rfl,rfl,trivial⟩),?_⟩;refine Zb hw λ b3 w hw=>?_;have hw:Sat R (wtC b3 x::Zt 5 s wtT (l.map wtV)::pts q (Zax s)::wtC b2 x::wtD b1 x::Hs) w:=hw;refine ⟨?_,?_⟩
 ·exact (hw.arr (Hs':=pts q (Zax s)::wtC b2 x::Zt 5 s wtT (l.map wtV)::wtD b1 x::wtC b3 x::Hs)).cons λ _ h=>h.restTru2
 refine (Zk1 hl hp hw.swap).use ?_;clear hw;rintro _ w ⟨t,rfl,hw⟩;refine ⟨t,rfl,?_,Zc.mk rfl ?_⟩
 ·exact (hw.arr (Hs':=pts q (Zax s)::wtC b2 x::Zt 5 t wtT ((l.take p++x::l.drop p).map wtV)::wtD b1 x::wtC b3 x::Hs)).cons λ _ h=>h.restTru2
 have hw:Sat R (pts q (Zax s)::Zt 5 t wtT ((l.take p++x::l.drop p).map wtV)::wtC b2 x::wtD b1 x::wtC b3 x::Hs) w:=hw.arr;refine Za hw (by kernel_rfl) rfl (by simp [Value.cells]) λ w hw=>?_;have hw:=hw.re (pts q (Zax t));have e:ZiE x l=l.take p++x::l.drop p:=by
  refine ZvA hq.st ?_ (λ h=>h2 p h (Nat.le_refl _)) hp;by_cases h0:p=0
  ·exact .inl h0
  ·exact .inr ⟨by omega,h1 (p - 1) (by omega) (by omega)⟩
 rw [e];exact ⟨rfl,Sat.qu.2 ⟨t,hw.cons λ _ h=>h.cons λ _ h=>h.drop.drop.drop⟩⟩
end
end Go.Proofs.YtfgbbckfikiomaaGreatDoor
namespace Go.VC
section
variable {R:Cx} {Hs:List HP} {w:World}
theorem ZyN {s:ByteArray} {i:Nat} (h:(s.get! i).toNat<128):Utf8.decode s i=((s.get! i).toNat,1):=by
 unfold Utf8.decode;simp only [Nat.add_zero];rw [if_pos h]
theorem ZyO {s:ByteArray} {i:Nat} (h:¬ (s.get! i).toNat<128):128<=(Utf8.decode s i).1:=by
 unfold Utf8.decode;simp only [Nat.add_zero];rw [if_neg h];have hr:128<=Utf8.runeError:=by decide
 repeat' split
 all_goals first|exact hr|(rename_i h1;simp only [Bool.and_eq_true,decide_eq_true_eq] at h1;dsimp only;omega)|(rename_i h1;dsimp only;omega)
theorem Zr3 {s:ByteArray} {i:Nat} (h:i<s.size):((s.get! i).toNat:Int)=(Z8 s)[i]'(by rw [Zec];exact h):=by
 have h2:i<s.data.toList.length:=by simpa using h
 have e:s.get! i=s.data.toList[i]:=by
  show s.data[i]! =_;rw [getElem!_pos s.data i (by simpa using h2)];simp
 rw [e];simp [Z8]
theorem ZoG {b:Nat} {s:ByteArray} {pos:Nat} {A:Int->Int->World->Prop} {B:World->Prop} (hw:Sat R (pts b (.stringIter s pos)::Hs) w)
  (h1:pos<s.size->∀ w',Sat R (pts b (.stringIter s (pos + (Utf8.decode s pos).2))::Hs) w'->A (pos:Int) ((Utf8.decode s pos).1:Int) w') (h2:¬ pos<s.size->B w):Zuc (some ⟨b,0,none⟩) A B w:=
 ⟨b,s,pos,rfl,hw.at,λ h=>h1 h _ (hw.setPts (.stringIter s (pos + (Utf8.decode s pos).2))),h2⟩
def Zi7 (b:Nat) (w:World):Nat:=match w.heap[b]? with
 |some (.stringIter s pos)=>s.size - pos
 |_=>0
theorem Zfv {b:Nat} {s:ByteArray} {pos:Nat} (hw:Sat R (pts b (.stringIter s pos)::Hs) w):Zi7 b w=s.size - pos:=by
 unfold Zi7;rw [hw.at]
end
end Go.VC
namespace Go.Proofs.YtfgbbckfikiomaaGreatDoor
section
open Go Go.VC Tryz
open Classical
variable {R:Cx} {Hs Rest:List HP} {w:World}
theorem Zg8 {l:List Wt} {left:List Int} {j:Nat} (hj:j<l.length) (h:(l.take j).any (Zcb left)=false) (hf:Zcb left l[j]=true):Zai l left=some l[j]:=by
 unfold Zai;rw [List.find?_eq_some_iff_append];refine ⟨hf,l.take j,l.drop (j + 1),by rw [<-List.drop_eq_getElem_cons hj,List.take_append_drop],λ x hx=>?_⟩;rw [<-Bool.not_eq_true,List.any_eq_true] at h;cases hx2:Zcb left x with
 |false=>rfl
 |true=>exact absurd ⟨x,hx,hx2⟩ h
theorem Zim {l:List Wt} {left:List Int} (h:l.any (Zcb left)=false):Zai l left=none:=by
 unfold Zai;rw [List.find?_eq_none];intro x hx hx2;rw [<-Bool.not_eq_true,List.any_eq_true] at h;exact h ⟨x,hx,hx2⟩
theorem ZjU {left:List Int} {x:Wt} (h:¬ (x.cls<left.length/\x.many<=left.getD x.cls.toNat 0)):Zcb left x=false:=by
 unfold Zcb;rw [<-Bool.not_eq_true,Bool.and_eq_true,decide_eq_true_iff,decide_eq_true_iff];exact h
def Zah:Wt:=⟨0,0,0,0,0⟩
theorem Zmb {q:Nat} {l:List Wt} {sl:Sl} {left:List Int} (hq:QOk l) (hL:RoI R sl left) (hw:Sat R (ZC q l::Hs) w):
  Zm prog 183 #[.pointer (some ⟨q,0,none⟩),.slice sl.a sl.len sl.cap] w λ v w'=>v=.tuple #[wtA ((Zai l left).getD Zah),.bool (Zai l left).isSome]/\Sat R (ZC q l::Hs) w':=by
 have hl:l.length<=1000000000:=by have:=hq.len;omega
 have hLl:=hL.len;obtain ⟨s,hw⟩:=Sat.qu.1 hw;apply Zw3;refine Zb hw λ b w hw=>?_;have hw:Sat R (Zt 5 s wtT (l.map wtV)::pts q (Zax s)::wtD b Zah::Hs) w:=by
  have hw:Sat R (wtD b Zah::pts q (Zax s)::Zt 5 s wtT (l.map wtV)::Hs) w:=hw;exact hw.arr
 have hlen:=Zt.len hw;rw [List.length_map] at hlen;refine Zc.mk rfl ⟨s,oA hw,?_⟩;have close:∀ {w x},Sat R (Zt 5 s wtT (l.map wtV)::pts q (Zax s)::wtD b x::Hs) w->Sat R (ZC q l::Hs) w:=λ {w x} h=>by
  have h:Sat R (pts q (Zax s)::Zt 5 s wtT (l.map wtV)::wtD b x::Hs) w:=h.swap;exact Sat.qu.2 ⟨s,h.cons λ _ h=>h.cons λ _ h=>h.drop⟩
 refine ⟨λ i w=>∃ j:Nat,i=j/\j<=l.length/\(l.take j).any (Zcb left)=false/\Sat R (Zt 5 s wtT (l.map wtV)::pts q (Zax s)::wtD b Zah::Hs) w,λ i _=>l.length - i.toNat,⟨0,rfl,by omega,by simp,hw⟩,?_⟩;clear hw;rintro _ _ w ⟨j,rfl,hj,hn,hw⟩;refine Br.d (λ h=>?_) (λ h=>?_)
 ·have hj2:j<l.length:=by omega
  have hx:=hq.ok l[j] (List.getElem_mem hj2);have next:Zcb left l[j]=false->(l.take (j + 1)).any (Zcb left)=false:=λ h=>by
   rw [List.take_add_one,List.getElem?_eq_getElem hj2,List.any_append,hn];simp [h]
  rw [Zh (x:=(j:Int) + 1) (by omega) (by omega)];refine (Zt.reads hw (eqS hw)).rngM (E:=l) (g:=wtV) hj2 λ a _ he=>?_;refine ⟨_,_,_,_,_,he.z (by exact ⟨rfl,rfl,rfl,rfl,rfl,trivial⟩),?_⟩;refine Zb hw λ b2 w hw=>?_;refine Za hw (by kernel_rfl) rfl (by simp [Value.cells]) λ w hw=>?_;have hw:=hw.re (wtC b2 l[j]);refine Zo hw λ w hw=>?_;refine ⟨l[j].cls,At.own (λ _ h=>h) (by exact ⟨rfl,trivial⟩),Br.d (λ h1=>?_) (λ h1=>⟨⟨j + 1,by omega,by omega,next (ZjU λ h=>h1 (by omega)),hw.drop⟩,by dsimp only;omega⟩)⟩;have hc:l[j].cls=(l[j].cls.toNat:Int):=by have:=hx.2.1.1;omega
  have hc2:l[j].cls.toNat<left.length:=by omega
  refine ⟨l[j].many,At.own (λ _ h=>h) (by exact ⟨rfl,trivial⟩),l[j].cls,At.own (λ _ h=>h) (by exact ⟨rfl,trivial⟩),?_⟩;refine Ro.ix hL (λ _ h=>h) l[j].cls.toNat hc hc2 ?_;refine Br.d (λ h2=>?_) (λ h2=>⟨⟨j + 1,by omega,by omega,next (ZjU λ h=>h2 ?_),hw.drop⟩,by dsimp only;omega⟩)
  ·have hf:Zcb left l[j]=true:=by
    unfold Zcb;rw [Bool.and_eq_true,decide_eq_true_iff,decide_eq_true_iff];refine ⟨by omega,?_⟩;rw [List.getD_eq_getElem?_getD,List.getElem?_eq_getElem hc2];exact h2
   refine ⟨l[j].id,l[j].cls,l[j].many,l[j].time,l[j].sc,At.own (eqS hw) (by exact ⟨rfl,rfl,rfl,rfl,rfl,trivial⟩),?_⟩;have hw:Sat R (wtD b Zah::wtC b2 l[j]::Zt 5 s wtT (l.map wtV)::pts q (Zax s)::Hs) w:=hw.arr;refine Za hw (by kernel_rfl) rfl (by simp [Value.cells,wtV]) λ w hw=>?_;have hw:=hw.re (wtD b l[j]);refine ⟨l[j].id,l[j].cls,l[j].many,l[j].time,l[j].sc,At.own (eqS hw) (by exact ⟨rfl,rfl,rfl,rfl,rfl,trivial⟩),?_⟩;have hw:Sat R (wtC b2 l[j]::Zt 5 s wtT (l.map wtV)::pts q (Zax s)::wtD b l[j]::Hs) w:=hw.arr;rw [Zg8 hj2 hn hf];exact ⟨rfl,close hw.drop⟩
  ·have:=h.2
   rwa [List.getD_eq_getElem?_getD,List.getElem?_eq_getElem hc2] at this
 ·rw [List.take_of_length_le (by omega)] at hn
  have hw:Sat R (wtD b Zah::Zt 5 s wtT (l.map wtV)::pts q (Zax s)::Hs) w:=hw.arr;refine Za hw (by kernel_rfl) rfl (by simp [Value.cells,wtV]) λ w hw=>?_;have hw:=hw.re (wtD b Zah);refine ⟨0,0,0,0,0,At.own (eqS hw) (by exact ⟨rfl,rfl,rfl,rfl,rfl,trivial⟩),?_⟩;rw [Zim hn];have hw:Sat R (Zt 5 s wtT (l.map wtV)::pts q (Zax s)::wtD b Zah::Hs) w:=hw.arr;exact ⟨rfl,close hw⟩
theorem ZzO:ElN prog 109 109 65 5 40:=⟨underlying109,⟨_,underlying109⟩,by kernel_rfl⟩
theorem Zg9 {q:Nat} {l:List Wt} (hl:l.length<=1000000000) (hw:Sat R (ZC q l::Hs) w):
  Zm prog 59 #[.pointer (some ⟨q,0,none⟩)] w λ v w'=>∃ t:Sl,v=.slice t.a t.len t.cap/\Sat R (Zt 5 t 65 (l.map wtV)::ZC q l::Hs) w':=by
 obtain ⟨s,hw⟩:=Sat.qu.1 hw;apply Zy9;refine Zc.mk rfl ⟨s,oA hw,?_⟩;have hlen:=Zt.len hw.swap;rw [List.length_map] at hlen;refine ⟨λ t i w=>∃ j:Nat,i=j/\j<=l.length/\Sat R (Zt 5 t 65 ((l.take j).map wtV)::Zt 5 s wtT (l.map wtV)::pts q (Zax s)::Hs) w,λ _ i _=>l.length - i.toNat,⟨0,rfl,by omega,Zt.nil hw.swap⟩,?_⟩;clear hw;rintro _ t _ w ⟨j,rfl,hj,hw⟩;refine Br.d (λ h=>?_) (λ h=>?_)
 ·have hj2:j<l.length:=by omega
  have hw2:=hw.swap;refine (Zt.reads hw2 (S:=λ w'=>w'=w) (Hs':=Zt 5 t 65 ((l.take j).map wtV)::pts q (Zax s)::Hs) (λ w' e=>by rw [e];exact hw2)).rngM (E:=l) (g:=wtV) hj2 λ a _ he=>?_;refine ⟨_,_,_,_,_,he.z (by exact ⟨rfl,rfl,rfl,rfl,rfl,trivial⟩),?_⟩;refine Zb hw λ b2 w hw=>?_;refine Za hw (by kernel_rfl) rfl (by simp [Value.cells]) λ w hw=>?_;have hw:=hw.re (wtC b2 l[j]);refine ⟨l[j].id,l[j].cls,l[j].many,l[j].time,l[j].sc,At.own (eqS hw) (by exact ⟨rfl,rfl,rfl,rfl,rfl,trivial⟩),?_⟩;have hw:=hw.drop;refine ZfG (x:=wtV l[j]) ZzO hw rfl rfl (by rw [List.length_map,List.length_take];omega) (by rw [List.length_map,List.length_take];omega) λ t2 w hw=>⟨?_,?_⟩
  ·refine ⟨j + 1,Zh (by omega) (by omega),by omega,?_⟩
   rw [List.take_add_one,List.getElem?_eq_getElem hj2,List.map_append];exact hw
  ·rw [Zh (x:=(j:Int) + 1) (by omega) (by omega)]
   dsimp only;omega
 ·rw [List.take_of_length_le (by omega)] at hw
  exact ⟨t,rfl,hw.cons λ _ h=>Sat.qu.2 ⟨s,h.swap⟩⟩
end
section
open Go Go.VC Tryz
open Classical
variable {R:Cx} {Hs Rest:List HP} {w:World}
theorem Zvw : (f267.name == "runtime.NumGoroutine") = false := by kernel_rfl
theorem Zvy:f267.body.isNone=true:=by kernel_rfl
theorem Zvv:Extern.findNext f267=none:=by kernel_rfl
theorem Zvx:Extern.find f267=some Extern.BytealgIndexByte.indexByte:=by kernel_rfl
abbrev Zia:ByteArray:=ByteArray.mk #[65,66,67,68,69,70,71,72,74,75,76,77,78,80,81,82,84,85,86,87,88,89,90,50,51,52,53,54,55,56,57]
theorem ZyD:(List.range 256).all (λ c=>Lib.indexByte Zia.data.toList c.toUInt8==ZI c && (decide (ZI c<0)||decide (c<=90)))=true:=by kernel_rfl
theorem ZjG {c:Int} (h:0<=c/\c<256):Lib.indexByte Zia.data.toList c.toNat.toUInt8=ZI c/\(ZI c<0\/c<=90):=by
 have:=List.all_eq_true.1 ZyD c.toNat (List.mem_range.2 (by omega));rw [Bool.and_eq_true,Bool.or_eq_true,decide_eq_true_iff,decide_eq_true_iff,beq_iff_eq,show ((c.toNat:Nat):Int)=c by omega] at this;exact ⟨this.1,this.2.imp id (by omega)⟩
theorem ZgU {c:Int} (h:0<=c/\c<256) (hw:Sat R Hs w):Zm prog 192 #[.string Zia,.int .u8 c] w λ v w'=>v=.int .i64 (ZI c)/\Sat R Hs w':=by
 apply ZwV;have h1:Zm prog 242 #[.string Zia,.int .u8 c] w λ v w'=>v=.int .i64 (ZI c)/\Sat R Hs w':=by
  apply Zwo;refine ⟨.int .i64 (ZI c),w,?_,_,rfl,rfl,hw⟩;rw [run_callFunc_extern func267 Zvw Zvy Zvv Zvx,Lib.run_indexByteString,(ZjG h).1];rfl
 refine h1.use ?_;clear hw;rintro _ w ⟨rfl,hw⟩;exact ⟨_,rfl,rfl,hw⟩
abbrev ZcG (b:Nat) (n:Int):HP:=pts b (.cells [.int .i64 n].toArray 3 (0,0))
theorem Zf7 (hw:Sat R Hs w):Zm prog 191 #[] w λ v w'=>∃ b1 b2,v=.func (.func 241) #[] #[.pointer (some ⟨b1,0,none⟩),.pointer (some ⟨b2,0,none⟩)]/\Sat R (ZcG b1 0::ZcG b2 2::Hs) w':=by
 apply ZwW;refine Zb hw λ b1 w hw=>Zb hw λ b2 w hw=>?_;have hw:Sat R (ZcG b1 0::ZcG b2 0::Hs) w:=Sat.swap hw;refine Za hw (by kernel_rfl) rfl (by simp [Value.cells]) λ w hw=>?_;have hw:=(hw.re (ZcG b1 0)).swap;refine Za hw (by kernel_rfl) rfl (by simp [Value.cells]) λ w hw=>?_;have hw:=(hw.re (ZcG b2 2)).swap;exact ⟨b1,b2,rfl,hw⟩
theorem Zko {b1 b2:Nat} {s k d:Int} (hs:0<=s/\s<31) (hk:0<=k/\k<=100) (hd:0<=d/\d<31) (hw:Sat R (ZcG b1 s::ZcG b2 k::Hs) w):
  Zm prog 241 #[.int .i64 d,.pointer (some ⟨b1,0,none⟩),.pointer (some ⟨b2,0,none⟩)] w λ v w'=>v=.int .i64 ((s + k * d) % 31)/\Sat R (ZcG b1 ((s + k * d) % 31)::ZcG b2 (k + 1)::Hs) w':=by
 have hkd:0<=k * d/\k * d<=100 * 31:=⟨Int.mul_nonneg hk.1 hd.1,Int.mul_le_mul hk.2 (by omega) hd.1 (by omega)⟩;apply Zwp;refine Zc.mk rfl ⟨s,oA hw,Zc.mk rfl ⟨k,oA hw,?_⟩⟩;rw [Zh (x:=k * d) (by omega) (by omega),Zh (x:=s + k * d) (by omega) (by omega),Int.tmod_eq_emod_of_nonneg (by omega)];refine Za hw (by kernel_rfl) rfl (by simp [Value.cells]) λ w hw=>?_;have hw:=(hw.re (ZcG b1 ((s + k * d) % 31))).swap;refine Zc.mk rfl ⟨k,oA hw,?_⟩;rw [Zh (x:=k + 1) (by omega) (by omega)];refine Za hw (by kernel_rfl) rfl (by simp [Value.cells]) λ w hw=>?_;have hw:=(hw.re (ZcG b2 (k + 1))).swap;exact Zc.mk rfl ⟨_,oA hw,rfl,hw⟩
theorem Zkm {l:List Int} {d:Int} {k:Nat} (hk:l.length=k):(Zc9 2 l % 31 + (2 + (k:Int)) * d) % 31=Zc9 2 (l++[d]) % 31:=by
 rw [ZsJ,hk];simp only [Zc9,Int.add_zero];rw [Int.emod_add_emod]
theorem p31 {k:Nat} (h:k<5):(31:Int) ^ k<=923521:=by
 rcases (show k=0\/k=1\/k=2\/k=3\/k=4 by omega) with rfl|rfl|rfl|rfl|rfl<;>simp
theorem Zto {bs:List Int} (h:∃ c∈bs,ZI c<0):Zco bs=(0,6):=by
 unfold Zco;rw [if_pos (.inr h)]
theorem Zpw {l:List Int} (h:∀ c∈l,0<=ZI c):∀ d∈l.map ZI,0<=d/\d<31:=by
 intro d hd;obtain ⟨c,hc,rfl⟩:=List.mem_map.1 hd;have h1:=h c hc;have:=ZmX c;omega
theorem ZoH {s:ByteArray} (hw:Sat R Hs w):Zm prog 119 #[.string s] w λ v w'=>v=.tuple #[.int .i64 (Zco (Z8 s)).1,.int .i64 (Zco (Z8 s)).2]/\Sat R Hs w':=by
 apply ZxL
 suffices H:∀ K:Value->World->Prop,(∀ w',Sat R Hs w'->K (.tuple #[.int .i64 (Zco (Z8 s)).1,.int .i64 (Zco (Z8 s)).2]) w')->B119 s K w from H _ λ w' h=>⟨rfl,h⟩
 intro K hK;have hbl:=Zec s;obtain ⟨bs,hbs⟩:∃ bs,bs=Z8 s:=⟨_,rfl⟩;rw [<-hbs] at hK hbl;refine Br.ne (λ h=>?_) (λ h=>?_)
 ·have:=hK w hw
  unfold Zco at this;rw [if_pos (.inl (by omega))] at this;exact this
 have hsz:s.size=6:=by omega
 have hl6:bs.length=6:=by omega
 refine (Zf7 hw).use ?_;clear hw;rintro _ w ⟨b1,b2,rfl,hw⟩;refine ⟨_,rfl,?_⟩;refine Zb hw λ it w hw=>?_;refine ⟨λ n sum w=>∃ k:Nat,k<=6/\(∀ c∈bs.take k,0<=ZI c)/\n=Ztq ((bs.take (min k 5)).map ZI)/\sum=Zc9 2 ((bs.take (min k 5)).map ZI) % 31/\(k=6->(Zc9 2 ((bs.take 5).map ZI) + ZI (bs.getD 5 0)) % 31=0)/\
  Sat R (pts it (.stringIter s k)::ZcG b1 (Zc9 2 ((bs.take (min k 5)).map ZI) % 31)::ZcG b2 (2 + (min k 5:Nat))::Hs) w,λ _ _ w=>Zi7 it w,⟨0,by omega,by simp,by simp [Ztq],by simp [Zc9],by omega,by simpa [Zc9] using hw⟩,?_⟩
 clear hw;rintro _ _ _ w ⟨k,hk,hpos,rfl,rfl,hlast,hw⟩;have hm:Zi7 it w=6 - k:=by rw [Zfv hw,hsz]
 refine ZoG hw (λ hlt w hw=>?_) (λ hge=>?_)
 ·rw [hsz] at hlt
  have hkl:k<bs.length:=by omega
  have hxb:0<=bs[k]/\bs[k]<256:=by
   subst hbs;exact Zr5 s _ (List.getElem_mem _)
  have hget:((s.get! k).toNat:Int)=bs[k]:=by subst hbs;exact Zr3 (by omega)
  have err:∀ {w A},ZI bs[k]<0->Sat R (A::ZcG b1 (Zc9 2 ((bs.take (min k 5)).map ZI) % 31)::ZcG b2 (2 + (min k 5:Nat))::Hs) w->K (.tuple #[.int .i64 0,.int .i64 6]) w:=λ {w A} h hw=>by
   have:=hK w hw.drop.drop.drop;rw [Zto ⟨_,List.getElem_mem hkl,h⟩] at this;exact this
  by_cases hlo:(s.get! k).toNat<128
  ·rw [ZyN hlo] at hw ⊢
   dsimp only at hw ⊢;rw [hget];rw [show IntKind.u8.wrap bs[k]=bs[k] by rw [IntKind.wrap_u8];omega];refine (ZgU hxb hw).use ?_;clear hw;rintro _ w ⟨rfl,hw⟩;have h90:=(ZjG hxb).2;refine ⟨_,rfl,λ t w=>(t=true↔ZI bs[k]<0)/\Sat R (pts it (.stringIter s (k + 1))::ZcG b1 (Zc9 2 ((bs.take (min k 5)).map ZI) % 31)::ZcG b2 (2 + (min k 5:Nat))::Hs) w,?_,?_⟩
   ·exact Br.d (λ h=>⟨⟨λ _=>h,λ _=>rfl⟩,hw⟩) (λ h=>⟨⟨λ h2=>by have:=of_decide_eq_true h2;omega,λ h2=>absurd h2 h⟩,hw⟩)
   clear hw;rintro _ t w ⟨ht,hw⟩;refine Br.mk (λ h=>err (ht.1 h) hw) (λ h=>?_);have hd0:0<=ZI bs[k]:=by
    rw [<-Bool.not_eq_true] at h;have:¬ ZI bs[k]<0:=λ h2=>h (ht.2 h2);omega
   have hdb:0<=ZI bs[k]/\ZI bs[k]<31:=by have:=ZmX bs[k];omega
   have hpos':∀ c∈bs.take (k + 1),0<=ZI c:=λ c hc=>by
    rw [List.take_add_one,List.getElem?_eq_getElem hkl] at hc;rcases List.mem_append.1 hc with hc|hc
    ·exact hpos c hc
    ·simp at hc;rw [hc];exact hd0
   have hsb:0<=Zc9 2 ((bs.take (min k 5)).map ZI) % 31/\Zc9 2 ((bs.take (min k 5)).map ZI) % 31<31:=by omega
   refine Br.d (λ h5=>?_) (λ h5=>?_)
   ·have hk5:k<5:=by omega
    rw [show min k 5=k by omega] at hw hsb ⊢;have htk:(bs.take k).length=k:=by rw [List.length_take];omega
    have hw:Sat R (ZcG b1 (Zc9 2 ((bs.take k).map ZI) % 31)::ZcG b2 (2 + (k:Int))::pts it (.stringIter s (k + 1))::Hs) w:=hw.arr;have hadd:ZaK prog cl (.func (.func 241) #[] #[.pointer (some ⟨b1,0,none⟩),.pointer (some ⟨b2,0,none⟩)]) [.int .i64 (ZI bs[k])] w λ e w'=>e=.returned (.int .i64 ((Zc9 2 ((bs.take k).map ZI) % 31 + (2 + (k:Int)) * ZI bs[k]) % 31))/\Sat R (ZcG b1 ((Zc9 2 ((bs.take k).map ZI) % 31 + (2 + (k:Int)) * ZI bs[k]) % 31)::ZcG b2 (2 + (k:Int) + 1)::pts it (.stringIter s (k + 1))::Hs) w':=
     ZaK.mk (by kernel_rfl) ((Zko hsb (by omega) hdb hw).use λ v w' h=>⟨by rw [h.1],h.2⟩)
    refine hadd.mono ?_;clear hw hadd;rintro _ w ⟨rfl,hw⟩;have htk1:(bs.take (k + 1)).map ZI=(bs.take k).map ZI++[ZI bs[k]]:=by
     rw [List.take_add_one,List.getElem?_eq_getElem hkl,List.map_append];rfl
    rw [Zkm (by rw [List.length_map,htk]),<-htk1] at hw ⊢;have hnb:=Zvq (Zpw hpos);rw [List.length_map,htk] at hnb;have hp31:=p31 hk5;refine ⟨_,rfl,⟨k + 1,by omega,hpos',?_,?_,λ h=>by omega,?_⟩,?_⟩
    ·rw [show min (k + 1) 5=k + 1 by omega,htk1,Ztp,Zh (x:=Ztq ((bs.take k).map ZI) * 31) (by omega) (by omega),Zh (by omega) (by omega)]
    ·rw [show min (k + 1) 5=k + 1 by omega]
    ·rw [show min (k + 1) 5=k + 1 by omega,show (2:Int) + ((k + 1:Nat):Int)=2 + (k:Int) + 1 by omega]
     exact hw.arr
    ·have hw:Sat R (pts it (.stringIter s (k + 1))::ZcG b1 (Zc9 2 ((bs.take (k + 1)).map ZI) % 31)::ZcG b2 (2 + (k:Int) + 1)::Hs) w:=hw.arr
     rw [Zfv hw,hsz,hm];omega
   ·have hk5:k=5:=by omega
    subst hk5;rw [show min 5 5=5 from rfl] at hw hsb
    have hx5:bs.getD 5 0=bs[5]:=by rw [List.getD_eq_getElem?_getD,List.getElem?_eq_getElem hkl];rfl
    have e1:(Zc9 2 ((bs.take 5).map ZI) % 31 + ZI bs[5]) % 31=(Zc9 2 ((bs.take 5).map ZI) + ZI (bs.getD 5 0)) % 31:=by rw [hx5];omega
    rw [show min 5 5=5 from rfl,Zh (by omega) (by omega),Int.tmod_eq_emod_of_nonneg (by omega)]
    have hall:¬ ∃ c∈bs,ZI c<0:=by
     rintro ⟨c,hc,h⟩;have:=hpos' c (by rw [List.take_of_length_le (by omega)];exact hc);omega
    refine Br.ne (λ hne=>?_) (λ he=>?_)
    ·have:=hK w hw.drop.drop.drop
     unfold Zco at this;rw [if_neg (λ h=>h.elim (λ h=>h hl6) hall),if_pos (by rw [<-e1];exact hne)] at this;exact this
    ·refine ⟨⟨6,by omega,hpos',by rw [show min 6 5=5 from rfl],by rw [show min 6 5=5 from rfl],λ _=>by rw [<-e1];exact he,?_⟩,?_⟩
     ·rw [show min 6 5=5 from rfl]
      exact hw
     ·rw [Zfv hw,hsz,hm]
      omega
  ·have hhi:=ZyO hlo
   obtain ⟨c,hc⟩:∃ c:Int,c=((Utf8.decode s k).1:Int):=⟨_,rfl⟩;rw [<-hc];have hc128:128<=c:=by omega
   have hneg:ZI bs[k]<0:=by
    have:=(ZjG hxb).2;omega
   refine (ZgU (by rw [IntKind.wrap_u8];omega) hw).use ?_;clear hw;rintro _ w ⟨rfl,hw⟩;refine ⟨_,rfl,λ t w=>t=true/\Sat R (pts it (.stringIter s (k + (Utf8.decode s k).2))::ZcG b1 (Zc9 2 ((bs.take (min k 5)).map ZI) % 31)::ZcG b2 (2 + (min k 5:Nat))::Hs) w,?_,?_⟩
   ·exact Br.d (λ _=>⟨rfl,hw⟩) (λ _=>⟨decide_eq_true (by omega),hw⟩)
   clear hw;rintro _ t w ⟨rfl,hw⟩;exact Br.t rfl (err hneg hw)
 ·have hk6:k=6:=by omega
  subst hk6;have hall:¬ ∃ c∈bs,ZI c<0:=by
   rintro ⟨c,hc,h⟩;have:=hpos c (by rw [List.take_of_length_le (by omega)];exact hc);omega
  have:=hK w hw.drop.drop.drop;unfold Zco at this;rw [if_neg (λ h=>h.elim (λ h=>h hl6) hall),if_neg (λ h=>h (hlast rfl))] at this;exact this
end
section
open Go Go.VC Tryz
open Classical
variable {R:Cx} {Hs Rest:List HP} {w:World}
abbrev outB (b:Nat) (l:List Int):HP:=pts b (.cells (b8 l).toArray 234 (0,0))
abbrev Zn4 (b:Nat) (l:List Int):HP:=pts b (.cells (Zd l).toArray 235 (0,0))
def Zyg:Nat->Int->List Int
 |0,_=>[0,0,0,0,0]
 |1,n=>[0,0,0,0,n % 31]
 |2,n=>[0,0,0,n / 31 % 31,n % 31]
 |3,n=>[0,0,n / 961 % 31,n / 31 % 31,n % 31]
 |4,n=>[0,n / 29791 % 31,n / 961 % 31,n / 31 % 31,n % 31]
 |_,n=>Zdl n
def ZuU:Nat->Int->Int
 |0,n=>n
 |1,n=>n / 31
 |2,n=>n / 961
 |3,n=>n / 29791
 |4,n=>n / 923521
 |_,_=>0
theorem ZsS {n:Int} (h:0<=n/\n<28629151):∀ {k:Nat},k<5->0<=ZuU k n/\ZuU k n<28629151/\ZuU (k + 1) n=ZuU k n / 31/\Zei (Zd (Zyg k n)) (0 + (4 - k)) [.int .i64 (ZuU k n % 31)]=Zd (Zyg (k + 1) n)
 |0,_=>⟨h.1,h.2,rfl,rfl⟩
 |1,_=>⟨by show 0<=n / 31;omega,by show n / 31<_;omega,by show n / 961=n / 31 / 31;omega,rfl⟩
 |2,_=>⟨by show 0<=n / 961;omega,by show n / 961<_;omega,by show n / 29791=n / 961 / 31;omega,rfl⟩
 |3,_=>⟨by show 0<=n / 29791;omega,by show n / 29791<_;omega,by show n / 923521=n / 29791 / 31;omega,rfl⟩
 |4,_=>⟨by show 0<=n / 923521;omega,by show n / 923521<_;omega,by show 0=n / 923521 / 31;omega,rfl⟩
theorem ZsT {n:Int}:∀ {k:Nat},k<=5->(Zyg k n).length=5
 |0,_=>rfl|1,_=>rfl|2,_=>rfl|3,_=>rfl|4,_=>rfl|5,_=>rfl
def Znk (n:Int) (k:Nat):List Int:=((Zdl n).take k).map ZgV++List.replicate (6 - k) 0
theorem ZqE {n:Int}:∀ {k:Nat} (hk:k<5),Zei (b8 (Znk n k)) (0 + k) [.int .u8 (ZgV ((Zdl n)[k]'hk))]=b8 (Znk n (k + 1))
 |0,_=>rfl|1,_=>rfl|2,_=>rfl|3,_=>rfl|4,_=>rfl
theorem Ztf {n:Int}:Zei (b8 (Znk n 5)) 5 [.int .u8 (ZgV (Zyi n))]=b8 (Zvr n):=rfl
theorem Znj {n:Int}:∀ {k:Nat},k<=5->(b8 (Znk n k)).length=6
 |0,_=>rfl|1,_=>rfl|2,_=>rfl|3,_=>rfl|4,_=>rfl|5,_=>rfl
theorem Zm7 {d:Int} (h:0<=d/\d<31):Zia[d.toNat]? =some (UInt8.ofNat (ZgV d).toNat)/\((UInt8.ofNat (ZgV d).toNat).toNat:Int)=ZgV d:=by
 have:∀ j:Fin 31,Zia[j.val]? =some (UInt8.ofNat (Zl3.getD j.val 0).toNat)/\((UInt8.ofNat (Zl3.getD j.val 0).toNat).toNat:Int)=Zl3.getD j.val 0:=by decide
 exact this ⟨d.toNat,by omega⟩
set_option maxHeartbeats 1000000 in
theorem Ztn {n:Int} (hn:0<=n/\n<28629151) (hw:Sat R Hs w):Zm prog 129 #[.int .i64 n] w λ v w'=>v=.tuple #[.string (ZAO n),.int .i64 0]/\Sat R Hs w':=by
 apply ZxF;refine ⟨λ w=>Sat R Hs w,Br.d (λ h=>by omega) (λ _=>Br.d (λ h=>by omega) (λ _=>hw)),?_⟩;clear hw;rintro _ w hw;refine Zb hw λ bo w hw=>Zb hw λ bw w hw=>?_;have hw:Sat R (Zn4 bw (Zyg 0 n)::outB bo (Znk n 0)::Hs) w:=hw;refine ⟨λ m i w=>∃ k:Nat,k<=5/\m=ZuU k n/\i=4 - (k:Int)/\Sat R (Zn4 bw (Zyg k n)::outB bo (Znk n 0)::Hs) w,λ _ i _=>(i + 1).toNat,⟨0,by omega,rfl,rfl,hw⟩,?_⟩;clear hw;rintro _ _ _ w ⟨k,hk,rfl,rfl,hw⟩;refine Br.d (λ h=>?_) (λ h=>?_)
 ·have hk5:k<5:=by omega
  obtain ⟨s1,s2,s3,s4⟩:=ZsS hn hk5;rw [Int.tmod_eq_emod_of_nonneg s1,Int.tdiv_eq_ediv_of_nonneg s1,Zh (x:=ZuU k n / 31) (by omega) (by omega),Zh (x:=4 - (k:Int) - 1) (by omega) (by omega)];refine Rng.mk (by omega) (by omega) ?_;rw [Zy,show (4 - (k:Int)).toNat=4 - k by omega];refine Za hw (by kernel_rfl) rfl (by rw [List.length_map,ZsT (by omega)];show 0 + (4 - k) + 1<=5;omega) λ w hw=>?_;have hw:Sat R (Zn4 bw (Zyg (k + 1) n)::outB bo (Znk n 0)::Hs) w:=by
   unfold Zn4;rw [<-s4];exact hw
  exact ⟨⟨k + 1,by omega,s3.symm,by omega,hw⟩,by dsimp only;omega⟩
 ·have hk5:k=5:=by omega
  subst hk5;refine (Zf7 hw).use ?_;clear hw;rintro _ w ⟨b1,b2,rfl,hw⟩;have hw:Sat R (ZcG b1 0::ZcG b2 2::Zn4 bw (Zdl n)::outB bo (Znk n 0)::Hs) w:=hw;have hw:Sat R (Zn4 bw (Zdl n)::outB bo (Znk n 0)::ZcG b1 0::ZcG b2 2::Hs) w:=hw.arr;have hw0:Sat R (outB bo (Znk n 0)::ZcG b1 0::ZcG b2 2::Zn4 bw (Zdl n)::Hs) w:=hw.arr;refine ⟨_,rfl,Zd (Zdl n),rfl,At.own (eqS hw) (by exact ⟨rfl,rfl,rfl,rfl,rfl,trivial⟩),?_⟩;refine ⟨λ sum i w=>∃ k:Nat,i=k/\k<=5/\sum=Zc9 2 ((Zdl n).take k) % 31/\Sat R (outB bo (Znk n k)::ZcG b1 (Zc9 2 ((Zdl n).take k) % 31)::ZcG b2 (2 + (k:Int))::Zn4 bw (Zdl n)::Hs) w,λ _ i _=>(5 - i).toNat,⟨0,rfl,by omega,rfl,hw0⟩,?_⟩;clear hw hw0;rintro _ _ _ w ⟨k,rfl,hk,rfl,hw⟩;refine Br.d (λ h=>?_) (λ h=>?_)
  ·have hk5:k<5:=by omega
   have hkl:k<(Zdl n).length:=hk5;have hd:=ZvW n _ (List.getElem_mem hkl);obtain ⟨g1,g2⟩:=Zm7 hd;refine Rng.mk (by omega) (by omega) ⟨(Zdl n)[k],?_,_,hd.1,g1,?_⟩
   ·rw [Int.toNat_natCast,List.getElem?_toArray,List.getElem?_map,List.getElem?_eq_getElem hkl]
    rfl
   refine Rng.mk (by omega) (by omega) ?_;rw [Zy,Int.toNat_natCast,g2];refine Za hw (by kernel_rfl) rfl (by rw [Znj (by omega)];show 0 + k + 1<=6;omega) λ w hw=>?_;have hw:Sat R (outB bo (Znk n (k + 1))::ZcG b1 (Zc9 2 ((Zdl n).take k) % 31)::ZcG b2 (2 + (k:Int))::Zn4 bw (Zdl n)::Hs) w:=by
    unfold outB;rw [<-ZqE (n:=n) hk5];exact hw
   have hsb:0<=Zc9 2 ((Zdl n).take k) % 31/\Zc9 2 ((Zdl n).take k) % 31<31:=by omega
   have hw:Sat R (ZcG b1 (Zc9 2 ((Zdl n).take k) % 31)::ZcG b2 (2 + (k:Int))::outB bo (Znk n (k + 1))::Zn4 bw (Zdl n)::Hs) w:=hw.arr;have hadd:ZaK prog cl (.func (.func 241) #[] #[.pointer (some ⟨b1,0,none⟩),.pointer (some ⟨b2,0,none⟩)]) [.int .i64 (Zdl n)[k]] w λ e w'=>e=.returned (.int .i64 ((Zc9 2 ((Zdl n).take k) % 31 + (2 + (k:Int)) * (Zdl n)[k]) % 31))/\Sat R (ZcG b1 ((Zc9 2 ((Zdl n).take k) % 31 + (2 + (k:Int)) * (Zdl n)[k]) % 31)::ZcG b2 (2 + (k:Int) + 1)::outB bo (Znk n (k + 1))::Zn4 bw (Zdl n)::Hs) w':=
    ZaK.mk (by kernel_rfl) ((Zko hsb (by omega) hd hw).use λ v w' h=>⟨by rw [h.1],h.2⟩)
   refine hadd.mono ?_;clear hw hadd;rintro _ w ⟨rfl,hw⟩;have htk:((Zdl n).take k).length=k:=by rw [List.length_take];omega
   have htk1:(Zdl n).take (k + 1)=(Zdl n).take k++[(Zdl n)[k]]:=by
    rw [List.take_add_one,List.getElem?_eq_getElem hkl];rfl
   rw [Zkm htk,<-htk1] at hw ⊢;rw [Zh (x:=(k:Int) + 1) (by omega) (by omega)];refine ⟨_,rfl,⟨k + 1,by omega,by omega,rfl,?_⟩,by dsimp only;omega⟩;rw [show (2:Int) + ((k + 1:Nat):Int)=2 + (k:Int) + 1 by omega];exact hw.arr
  ·have hk5:k=5:=by omega
   subst hk5;have hcd:=Zv6 n;have e:(31 - Zc9 2 ((Zdl n).take 5) % 31).tmod 31=Zyi n:=by
    rw [List.take_of_length_le (by exact Nat.le_refl 5),Int.tmod_eq_emod_of_nonneg (by omega)];rfl
   rw [Zh (x:=31 - Zc9 2 ((Zdl n).take 5) % 31) (by omega) (by omega),e];obtain ⟨g1,g2⟩:=Zm7 hcd;refine ⟨_,hcd.1,g1,?_⟩;rw [Zy,g2];refine Za hw (by kernel_rfl) rfl (by rw [Znj (by omega)];show 0 + 5 + 1<=6;omega) λ w hw=>?_;have hw:Sat R (outB bo (Zvr n)::ZcG b1 (Zc9 2 ((Zdl n).take 5) % 31)::ZcG b2 (2 + ((5:Nat):Int))::Zn4 bw (Zdl n)::Hs) w:=by
    unfold outB;rw [<-Ztf (n:=n)];exact hw
   have hw2:Sat R (Own ⟨some ⟨bo,0,none⟩,6,6⟩ 234 (b8 (Zvr n))::ZcG b1 (Zc9 2 ((Zdl n).take 5) % 31)::ZcG b2 (2 + ((5:Nat):Int))::Zn4 bw (Zdl n)::Hs) w:=ZbI (n:=6) hw;obtain ⟨R1,h1,_,h3,_⟩:=Own.lend hw2 (by rw [List.length_map,Ztr];omega);refine ⟨_,rfl,VC.strOf (Zvr n),λ w' e=>?_,?_⟩
   ·rw [show w'=w from e]
    exact Zj5 (s:=⟨some ⟨bo,0,none⟩,6,6⟩) (xs:=Zvr n) underlying42 underlying5 underlying9 h3 h1
   ·exact ⟨rfl,hw.drop.drop.drop.drop⟩
end
section
open Go Go.VC Tryz
open Classical
variable {R:Cx} {Hs Rest:List HP} {w:World}
theorem Zi8 {A C:List HP} {x:HP}:Sat R (Zgu (A++x::C)::Hs) w↔Sat R (x::Zgu (A++C)::Hs) w:=by
 have hp:((A++x::C)++Hs).Perm (x::((A++C)++Hs)):=List.perm_middle.append_right Hs;constructor
 ·intro h
  exact ((Sat.star.1 h).perm hp).cons λ _ h=>Sat.star.2 h
 ·intro h
  have h2:Sat R (x::((A++C)++Hs)) w:=h.cons λ _ h=>Sat.star.1 h;exact Sat.star.2 (h2.perm hp.symm)
theorem Za7 {A C:List FE} {f q:Nat} {p:Pl}:Sat R (Zi (A++(f,q,p)::C)::Hs) w↔Sat R (Zf f p.r::ZC q p.q::Zi (A++C)::Hs) w:=by
 unfold Zi;rw [List.map_append,List.map_cons,Zi8,List.map_append];exact Sat.star
theorem Zcv {A C:List BE} {a:Nat} {x:Bk}:Sat R (Zj (A++(a,x)::C)::Hs) w↔Sat R (pts a (Zr x)::Zj (A++C)::Hs) w:=by
 unfold Zj;rw [List.map_append,List.map_cons,Zi8,List.map_append];exact Iff.rfl
theorem ZjQ {β:Type} {k:Int} {v:β} {a b:List (Int × β)} (h:∀ e∈a,e.1≠k):ZH k (a++(k,v)::b)=some v:=ZnD (ZfQ.2 h) (by simp)
theorem ZtS {β:Type} {k:Int} {v:β} {a b:List (Int × β)} (h:∀ e∈a,e.1≠k):Zfj k (a++(k,v)::b)=a++b:=Zfi (ZfQ.2 h) (by simp)
structure Zkg (A C:List FE) (n:Int) (p:Pl):Prop where
 num:p.n=n
 a:∀ e∈A,e.2.2.n≠n
 c:∀ e∈C,e.2.2.n≠n
structure Zsz (A C:List BE) (x:Bk):Prop where
 a:∀ e∈A,e.2.id≠x.id
 c:∀ e∈C,e.2.id≠x.id
theorem ZcI {b:ZM} {fs:List FE} {xs:List BE} (hl:ZaP b fs xs) (c:Zam Pl.n b.fl) {n:Int} {p:Pl} (h:b.at n=some p):∃ A f q C,fs=A++(f,q,p)::C/\Zkg A C n p:=by
 have h1:=ZdE h;obtain ⟨⟨f,q,p'⟩,he,hp⟩:=List.mem_map.1 (hl.fl.mem_iff.2 h1.1);dsimp only at hp;subst hp;obtain ⟨A,C,rfl⟩:=List.append_of_mem he;have hnd:((A++(f,q,p')::C).map λ e=>e.2.2).Pairwise λ a b=>a.n≠b.n:=(hl.fl.pairwise_iff (λ h=>Ne.symm h)).2 (Zam.ne c);rw [List.map_append,List.map_cons,List.pairwise_append,List.pairwise_cons] at hnd;refine ⟨A,f,q,C,rfl,h1.2,λ e he2=>?_,λ e he2=>?_⟩
 ·have:=hnd.2.2 e.2.2 (List.mem_map.2 ⟨e,he2,rfl⟩) p' (by simp)
  rw [<-h1.2];exact this
 ·have:=hnd.2.1.1 e.2.2 (List.mem_map.2 ⟨e,he2,rfl⟩)
  rw [<-h1.2];exact this.symm
theorem ZhA {A C:List FE} {f q:Nat} {n:Int} {p:Pl} (h:Zkg A C n p):ZH n ((A++(f,q,p)::C).map flV)=some (.agg #[.pointer (some ⟨f,0,none⟩),.pointer (some ⟨q,0,none⟩)]):=by
 rw [List.map_append,List.map_cons];unfold flV;dsimp only;rw [h.num];exact ZjQ λ e he=>by
  obtain ⟨e',h1,rfl⟩:=List.mem_map.1 he;exact h.a e' h1
theorem Zfn {b:ZM} {fs:List FE} {xs:List BE} (hl:ZaP b fs xs) (c:Zam Bk.id b.L) {x:Bk} (h:x∈b.L):∃ A a C,xs=A++(a,x)::C/\Zsz A C x:=by
 rw [<-hl.bk] at h;obtain ⟨⟨a,x'⟩,he,hp⟩:=List.mem_map.1 h;dsimp only at hp;subst hp;obtain ⟨A,C,rfl⟩:=List.append_of_mem he;have hnd:((A++(a,x')::C).map λ e=>e.2).Pairwise λ a b=>a.id≠b.id:=by rw [hl.bk];exact Zam.ne c
 rw [List.map_append,List.map_cons,List.pairwise_append,List.pairwise_cons] at hnd;refine ⟨A,a,C,rfl,λ e he2=>?_,λ e he2=>?_⟩
 ·exact hnd.2.2 e.2 (List.mem_map.2 ⟨e,he2,rfl⟩) x' (by simp)
 ·exact (hnd.2.1.1 e.2 (List.mem_map.2 ⟨e,he2,rfl⟩)).symm
theorem ZlI {A C:List BE} {a:Nat} {x:Bk} (h:Zsz A C x):ZH x.id ((A++(a,x)::C).map bkV)=some (.pointer (some ⟨a,0,none⟩)):=by
 rw [List.map_append,List.map_cons];exact ZjQ λ e he=>by
  obtain ⟨e',h1,rfl⟩:=List.mem_map.1 he;exact h.a e' h1
theorem ZmN {b:ZM} {fs:List FE} {xs:List BE} (hl:ZaP b fs xs) {n:Int}:ZH n (xs.map bkV)=none↔b.bk n=none:=by
 unfold ZM.bk;rw [ZfQ,ZdF,<-hl.bk];constructor
 ·intro h x hx
  obtain ⟨e,he,rfl⟩:=List.mem_map.1 hx;exact h (bkV e) (List.mem_map.2 ⟨e,he,rfl⟩)
 ·rintro h _ he
  obtain ⟨e,h1,rfl⟩:=List.mem_map.1 he;exact h e.2 (List.mem_map.2 ⟨e,h1,rfl⟩)
theorem ZnX {b:ZM} {fs:List FE} {xs:List BE} (hl:ZaP b fs xs):xs.length=b.L.length:=by
 have:=congrArg List.length hl.bk;rwa [List.length_map] at this
theorem ZaP.fset {b:ZM} {A C:List FE} {xs:List BE} {f q:Nat} {n:Int} {p:Pl} (hl:ZaP b (A++(f,q,p)::C) xs) (h:Zkg A C n p) (g:Pl->Pl):((A++(f,q,g p)::C).map λ e=>e.2.2).Perm (Zej Pl.n n g b.fl):=by
 have h1:=hl.fl.map λ x=>if x.n=n then g x else x
 unfold Zej;refine List.Perm.trans (List.Perm.of_eq ?_) h1;have key:∀ L:List FE,(∀ e∈L,e.2.2.n≠n)->(L.map λ e=>e.2.2).map (λ x=>if x.n=n then g x else x)=L.map λ e=>e.2.2:=λ L hL=>by
  rw [List.map_map];refine List.map_congr_left λ e he=>?_;show (if e.2.2.n=n then _ else _)=_
  rw [if_neg (hL e he)]
 rw [List.map_append,List.map_cons,List.map_append,List.map_cons,List.map_append,List.map_cons,key A h.a,key C h.c];rw [if_pos h.num]
theorem ZaP.bset {b:ZM} {A C:List BE} {fs:List FE} {a:Nat} {x:Bk} (hl:ZaP b fs (A++(a,x)::C)) (c:Zam Bk.id b.L) (g:Bk->Bk):(A++(a,g x)::C).map (λ e=>e.2)=Zej Bk.id x.id g b.L:=by
 have e:=hl.bk;rw [List.map_append,List.map_cons] at e ⊢;rw [<-e] at c ⊢;exact (Ztx rfl c).symm
theorem ZaP.bdel {b:ZM} {A C:List BE} {fs:List FE} {a:Nat} {x:Bk} (hl:ZaP b fs (A++(a,x)::C)) (c:Zam Bk.id b.L):(A++C).map (λ e=>e.2)=Znx Bk.id x.id b.L:=by
 have e:=hl.bk;rw [List.map_append,List.map_cons] at e;rw [List.map_append];rw [<-e] at c ⊢;exact (ZtA rfl c).symm
theorem ZeK {A C:List FE} {f q:Nat} {n:Int} {p p':Pl} (h:p.n=n) (h':p'.n=n):(A++(f,q,p')::C).map flV=(A++(f,q,p)::C).map flV:=by
 rw [List.map_append,List.map_append,List.map_cons,List.map_cons];unfold flV;dsimp only;rw [h,h']
theorem Zr9 {A C:List BE} {a:Nat} {x x':Bk} (h:x'.id=x.id):(A++(a,x')::C).map bkV=(A++(a,x)::C).map bkV:=by
 rw [List.map_append,List.map_append,List.map_cons,List.map_cons];unfold bkV;dsimp only;rw [h]
theorem Zr8 {A C:List BE} {a:Nat} {x:Bk} (h:Zsz A C x):Zfj x.id ((A++(a,x)::C).map bkV)=(A++C).map bkV:=by
 rw [List.map_append,List.map_cons,List.map_append];exact ZtS λ e he=>by
  obtain ⟨e',h1,rfl⟩:=List.mem_map.1 he;exact h.a e' h1
abbrev plC (b:Nat) (v1 v2:Option Addr):HP:=pts b (.cells [.pointer v1,.pointer v2].toArray 102 (0,0))
theorem ZtL {n:Int} {fs:List FE}:∃ v1 v2:Option Addr,(ZH n (fs.map flV)).getD (.agg #[.pointer none,.pointer none])=.agg #[.pointer v1,.pointer v2]:=by
 cases hgm:ZH n (fs.map flV) with
 |none=>exact ⟨none,none,rfl⟩
 |some v=>
  obtain ⟨A,C,e,_⟩:=Zan hgm;have:(n,v)∈fs.map flV:=by rw [e];simp
  obtain ⟨x,_,hx⟩:=List.mem_map.1 this;have hx2:=congrArg Prod.snd hx;exact ⟨_,_,hx2.symm⟩
theorem Zt7 {n:Int} {xs:List BE}:∃ v:Option Addr,(ZH n (xs.map bkV)).getD (.pointer none)=.pointer v:=by
 cases hgm:ZH n (xs.map bkV) with
 |none=>exact ⟨none,rfl⟩
 |some v=>
  obtain ⟨A,C,e,_⟩:=Zan hgm;have:(n,v)∈xs.map bkV:=by rw [e];simp
  obtain ⟨x,_,hx⟩:=List.mem_map.1 this;have hx2:=congrArg Prod.snd hx;exact ⟨_,hx2.symm⟩
theorem Zke {p m1 m2:Nat} {b:ZM} {fs:List FE} {n:Int} (hw:Sat R (pts p (Zg b m1 m2)::MapAt m1 (fs.map flV)::Hs) w):
  ZaX prog 57 #[.pointer (some ⟨p,0,none⟩),.int .i64 n] w
   (λ ch w'=>ch=Zgj 2/\ZH n (fs.map flV)=none/\Sat R (pts p (Zg b m1 m2)::MapAt m1 (fs.map flV)::Hs) w')
   (λ v w'=>(∃ v1 v2,ZH n (fs.map flV)=some (.agg #[.pointer v1,.pointer v2])/\v=.agg #[.pointer v1,.pointer v2])/\Sat R (pts p (Zg b m1 m2)::MapAt m1 (fs.map flV)::Hs) w'):=by
 obtain ⟨v1,v2,hv⟩:=ZtL (n:=n) (fs:=fs);apply Zzb;refine Zb hw λ b4 w hw=>?_;refine Zc.mk rfl ⟨some m1,oA hw,v1,v2,(ZH n (fs.map flV)).isSome,λ w' e=>?_,?_⟩
 ·rw [show w'=w from e]
  have hm:Sat R (MapAt m1 (fs.map flV)::pts p (Zg b m1 m2)::plC b4 none none::Hs) w:=hw.arr;have:=MapAt.look ZsB hm n true;rw [hv] at this;exact this
 refine Zb hw λ b5 w hw=>?_;refine Za hw (by kernel_rfl) rfl (by simp [Value.cells]) λ w hw=>?_;have hw:=hw.re (plC b5 v1 v2);refine Zbx (λ hn=>.inl ⟨rfl,?_⟩) (λ hn=>.inr ⟨_,rfl,rfl,?_,hw.drop.drop⟩)
 ·refine ⟨v1,v2,At.own (eqS hw) (by exact ⟨rfl,rfl,trivial⟩),?_⟩
  have hw:Sat R (plC b4 none none::plC b5 v1 v2::pts p (Zg b m1 m2)::MapAt m1 (fs.map flV)::Hs) w:=hw.swap;refine Za hw (by kernel_rfl) rfl (by simp [Value.cells]) λ w hw=>?_;have hw:=hw.re (plC b4 v1 v2);refine ⟨v1,v2,At.own (eqS hw) (by exact ⟨rfl,rfl,trivial⟩),⟨v1,v2,?_,rfl⟩,hw.drop.drop⟩;obtain ⟨v,hs⟩:=Option.isSome_iff_exists.1 hn;rw [hs] at hv ⊢;exact congrArg some hv
 ·cases hg:ZH n (fs.map flV) with
  |none=>rfl
  |some v=>rw [hg] at hn;cases hn
theorem ZmL {p m1 m2:Nat} {b:ZM} {xs:List BE} {s:ByteArray} (hw:Sat R (pts p (Zg b m1 m2)::MapAt m2 (xs.map bkV)::Hs) w):
  ZaX prog 46 #[.pointer (some ⟨p,0,none⟩),.string s] w
   (λ ch w'=>(∃ e,ch=Zgj e/\(((Zco (Z8 s)).2≠0/\e=(Zco (Z8 s)).2)\/((Zco (Z8 s)).2=0/\e=2/\ZH (Zco (Z8 s)).1 (xs.map bkV)=none)))/\Sat R (pts p (Zg b m1 m2)::MapAt m2 (xs.map bkV)::Hs) w')
   (λ v w'=>(∃ v1,(Zco (Z8 s)).2=0/\ZH (Zco (Z8 s)).1 (xs.map bkV)=some (.pointer v1)/\v=.pointer v1)/\Sat R (pts p (Zg b m1 m2)::MapAt m2 (xs.map bkV)::Hs) w'):=by
 obtain ⟨v1,hv⟩:=Zt7 (n:=(Zco (Z8 s)).1) (xs:=xs);apply Zzh;refine (ZoH hw).use ?_;clear hw;rintro _ w ⟨rfl,hw⟩;refine .inl ⟨_,_,rfl,?_⟩;refine ZeE (λ h0=>.inl ⟨rfl,?_⟩) (λ h0=>.inr ⟨_,rfl,⟨_,rfl,.inl ⟨h0,rfl⟩⟩,hw⟩);refine Zc.mk rfl ⟨some m2,oA hw,v1,(ZH (Zco (Z8 s)).1 (xs.map bkV)).isSome,λ w' e=>?_,?_⟩
 ·rw [show w'=w from e]
  have:=MapAt.look Zub hw.swap (Zco (Z8 s)).1 true;rw [hv] at this;exact this
 refine Zbx (λ hn=>.inl ⟨rfl,⟨v1,h0,?_,rfl⟩,hw⟩) (λ hn=>.inr ⟨_,rfl,⟨_,rfl,.inr ⟨h0,rfl,?_⟩⟩,hw⟩)
 ·obtain ⟨v,hs⟩:=Option.isSome_iff_exists.1 hn
  rw [hs] at hv ⊢;exact congrArg some hv
 ·cases hg:ZH (Zco (Z8 s)).1 (xs.map bkV) with
  |none=>rfl
  |some v=>rw [hg] at hn;cases hn
end
section
open Go Go.VC Tryz
open Classical
variable {R:Cx} {Hs Rest:List HP} {w:World}
set_option maxHeartbeats 1000000 in
theorem ZeR {p m1 m2 a f q:Nat} {b:ZM} {A C:List FE} {x:Bk} {pl:Pl} (hid:0<=x.id/\x.id<28629151) (hm:Zkg A C x.flt pl)
  (hw:Sat R (pts p (Zg b m1 m2)::MapAt m1 ((A++(f,q,pl)::C).map flV)::pts a (Zr x)::Zf f pl.r::Hs) w):
  Zm prog 56 #[.pointer (some ⟨p,0,none⟩),.pointer (some ⟨a,0,none⟩)] w λ v w'=>∃ sl sb:Sl,v=.agg (rpV (Zdn pl x) sl sb).toArray/\
   Sat R (Own sl 3 (Zd (Zn pl.r))::Own sb 9 ((Zbt pl.r x.id).map Value.string)::pts p (Zg b m1 m2)::MapAt m1 ((A++(f,q,pl)::C).map flV)::pts a (Zr x)::Zf f pl.r::Hs) w':=by
 obtain ⟨M,hM⟩:∃ M,M=(A++(f,q,pl)::C).map flV:=⟨_,rfl⟩;have hget:ZH x.flt M=some (.agg #[.pointer (some ⟨f,0,none⟩),.pointer (some ⟨q,0,none⟩)]):=by rw [hM];exact ZhA hm
 rw [<-hM] at hw ⊢;apply Zzc;refine Zb hw λ b4 w hw=>?_;have hw:Sat R (Zq b4::pts p (Zg b m1 m2)::MapAt m1 M::pts a (Zr x)::Zf f pl.r::Hs) w:=hw;refine ZaN hw λ w hw=>?_;refine Zc.mk rfl ⟨some m1,At.own (λ _ h=>h) (by exact ⟨rfl,trivial⟩),Zc.mk rfl ⟨x.flt,At.own (λ _ h=>h) (by exact ⟨rfl,trivial⟩),some ⟨f,0,none⟩,some ⟨q,0,none⟩,λ w' h=>?_,?_⟩⟩
 ·have hm1:Sat R (MapAt m1 M::VC.tru::Zq b4::pts p (Zg b m1 m2)::pts a (Zr x)::Zf f pl.r::Hs) w':=Sat.arr h
  have:=MapAt.look ZsB hm1 x.flt false;rw [hget] at this;exact this
 refine Zb hw λ b5 w hw=>⟨hw.absorb,?_⟩;refine Za hw (by kernel_rfl) rfl (by simp [Value.cells]) λ w hw=>?_;have hw:=hw.re (plC b5 (some ⟨f,0,none⟩) (some ⟨q,0,none⟩));have hw:Sat R (plC b5 (some ⟨f,0,none⟩) (some ⟨q,0,none⟩)::Zq b4::pts p (Zg b m1 m2)::MapAt m1 M::pts a (Zr x)::Zf f pl.r::Hs) w:=hw.cons λ _ h=>h.drop;refine Zc.mk rfl ⟨x.id,oA hw,?_⟩;refine (Ztn hid hw).use ?_;clear hw;rintro _ w ⟨rfl,hw⟩;refine ⟨_,_,rfl,?_⟩;refine ZE (Sat R [pts a (Zr x),plC b5 (some ⟨f,0,none⟩) (some ⟨q,0,none⟩),VC.tru]) hw (λ w hw=>?_) λ w hw=>?_
 ·exact (hw.arr (Hs':=pts a (Zr x)::plC b5 (some ⟨f,0,none⟩) (some ⟨q,0,none⟩)::Zq b4::pts p (Zg b m1 m2)::MapAt m1 M::Zf f pl.r::Hs)).cons λ _ h=>h.restTru2
 refine Zc.mk rfl ⟨x.state,At.own (λ _ h=>h) (by exact ⟨rfl,trivial⟩),Zc.mk rfl ⟨x.flt,At.own (λ _ h=>h) (by exact ⟨rfl,trivial⟩),Zc.mk rfl ⟨x.cls,At.own (λ _ h=>h) (by exact ⟨rfl,trivial⟩),Zc.mk rfl ⟨x.many,At.own (λ _ h=>h) (by exact ⟨rfl,trivial⟩),Zc.mk rfl ⟨x.till,At.own (λ _ h=>h) (by exact ⟨rfl,trivial⟩),some ⟨f,0,none⟩,At.own (λ _ h=>h) (by exact ⟨rfl,trivial⟩),some ⟨f,0,none⟩,At.own (λ _ h=>h) (by exact ⟨rfl,trivial⟩),Zc.mk rfl ⟨x.id,At.own (λ _ h=>h) (by exact ⟨rfl,trivial⟩),?_⟩⟩⟩⟩⟩⟩;have hw:Sat R (Zf f pl.r::pts a (Zr x)::plC b5 (some ⟨f,0,none⟩) (some ⟨q,0,none⟩)::Zq b4::pts p (Zg b m1 m2)::MapAt m1 M::Hs) w:=hw.arr;refine (ZbW hw).use ?_;clear hw;rintro _ w ⟨sl,rfl,hw⟩;refine ⟨sl,rfl,?_,?_⟩
 ·exact (hw.arr (Hs':=pts a (Zr x)::plC b5 (some ⟨f,0,none⟩) (some ⟨q,0,none⟩)::Own sl 3 (Zd (Zn pl.r))::Zf f pl.r::Zq b4::pts p (Zg b m1 m2)::MapAt m1 M::Hs)).cons λ _ h=>h.restTru2
 have hw:Sat R (Zf f pl.r::pts a (Zr x)::plC b5 (some ⟨f,0,none⟩) (some ⟨q,0,none⟩)::Zq b4::Own sl 3 (Zd (Zn pl.r))::pts p (Zg b m1 m2)::MapAt m1 M::Hs) w:=hw.arr;refine (Zml hw).use ?_;clear hw;rintro _ w ⟨sb,rfl,hw⟩;refine ⟨sb,rfl,?_,?_⟩
 ·exact (hw.arr (Hs':=pts a (Zr x)::plC b5 (some ⟨f,0,none⟩) (some ⟨q,0,none⟩)::Own sb 9 ((Zbt pl.r x.id).map Value.string)::Zf f pl.r::Zq b4::Own sl 3 (Zd (Zn pl.r))::pts p (Zg b m1 m2)::MapAt m1 M::Hs)).cons λ _ h=>h.restTru2
 have hw:Sat R (Zq b4::plC b5 (some ⟨f,0,none⟩) (some ⟨q,0,none⟩)::Own sl 3 (Zd (Zn pl.r))::Own sb 9 ((Zbt pl.r x.id).map Value.string)::pts p (Zg b m1 m2)::MapAt m1 M::pts a (Zr x)::Zf f pl.r::Hs) w:=hw.arr;refine Za hw (by kernel_rfl) rfl (by simp [Value.cells]) λ w hw=>?_;have hw:=hw.re (rpC b4 (Zdn pl x) sl sb);refine ⟨0,ZAO x.id,x.state,x.flt,x.cls,x.many,x.till,sl,sb,At.own (eqS hw) (by exact ⟨rfl,rfl,rfl,rfl,rfl,rfl,rfl,rfl,rfl,trivial⟩),sl,sb,rfl,hw.drop.drop⟩
end
section
open Go Go.VC Tryz
open Classical
variable {R:Cx} {Hs Rest:List HP} {w:World}
def Zov (q:Nat) (w:World):Nat:=match w.heap[q]? with
 |some (.cells l _ _)=>(match l[0]? with|some (Value.slice _ n _)=>n|_=>0)
 |_=>0
theorem Zng {q:Nat} {l:List Wt} (hw:Sat R (ZC q l::Hs) w):Zov q w=l.length:=by
 obtain ⟨s,hw⟩:=Sat.qu.1 hw;have h:=Zt.len hw.swap;rw [List.length_map] at h;unfold Zov;rw [hw.at];exact h
theorem Zff {q:Nat} {l:List Wt} {sl:Sl} {left:List Int} (hq:QOk l) (hb:left.length<=9223372036854775807) (hw:Sat R (Own sl 3 (Zd left)::ZC q l::Hs) w):
  Zm prog 183 #[.pointer (some ⟨q,0,none⟩),.slice sl.a sl.len sl.cap] w λ v w'=>v=.tuple #[wtA ((Zai l left).getD Zah),.bool (Zai l left).isSome]/\Sat R (ZC q l::Hs) w':=by
 obtain ⟨R1,e1,g1,hw⟩:=Own.leak hw;refine (Zmb hq (g1.ro (by rw [List.length_map];exact hb)) hw).use ?_;clear hw;rintro _ w ⟨rfl,hw⟩;exact ⟨_,rfl,rfl,e1.back hw⟩
abbrev fqC (b f q:Nat):HP:=plC b (some ⟨f,0,none⟩) (some ⟨q,0,none⟩)
structure Zyb (n:Int) (b:ZM) (A C:List FE) (f q:Nat) (MB:List (Int × Value)) (j:Nat) (b':ZM) (pl:Pl) (xs:List BE):Prop where
 prom:ZQ n b=Zjn j n b'
 len:pl.q.length<j
 core:Core b'
 here:b'.at n=some pl
 now:b'.now=b.now
 next:b'.next=b.next
 book:ZaP b' (A++(f,q,pl)::C) xs
 mb:xs.map bkV=MB
abbrev Zu8 (R:Cx) (Hs:List HP) (p m1 m2 f q b4 bw:Nat) (b:ZM) (pl:Pl) (A C:List FE) (MF MB:List (Int × Value)) (xs:List BE) (w:World):Prop:=
 Sat R (Zf f pl.r::ZC q pl.q::pts p (Zg b m1 m2)::MapAt m1 MF::MapAt m2 MB::Zi (A++C)::Zj xs::fqC b4 f q::wtD bw ((Zai pl.q (Zn pl.r)).getD Zah)::Hs) w
theorem Zd3 {r:RF} (g:ZaA r):(Zn r).length<=9223372036854775807:=by have:=(Znu g).1;omega
set_option maxHeartbeats 2000000 in
theorem Zdw {p m1 m2:Nat} {b:ZM} {fs:List FE} {xs:List BE} {n:Int} {pl:Pl} (k:Core b) (hl:ZaP b fs xs) (hat:b.at n=some pl)
  (hw:Sat R (pts p (Zg b m1 m2)::MapAt m1 (fs.map flV)::MapAt m2 (xs.map bkV)::Zi fs::Zj xs::Hs) w):
  Zm prog 114 #[.pointer (some ⟨p,0,none⟩),.int .i64 n] w λ v w'=>v=.tuple #[]/\∃ fs' xs',ZaP (ZQ n b) fs' xs'/\fs'.map flV=fs.map flV/\xs'.map bkV=xs.map bkV/\
   Sat R (pts p (Zg (ZQ n b) m1 m2)::MapAt m1 (fs.map flV)::MapAt m2 (xs.map bkV)::Zi fs'::Zj xs'::Hs) w':=by
 obtain ⟨A,f,q,C,rfl,hm⟩:=ZcI hl k.nums hat;obtain ⟨MF,hMF⟩:∃ M,M=(A++(f,q,pl)::C).map flV:=⟨_,rfl⟩;obtain ⟨MB,hMB⟩:∃ M,M=xs.map bkV:=⟨_,rfl⟩;have hget:ZH n MF=some (.agg #[.pointer (some ⟨f,0,none⟩),.pointer (some ⟨q,0,none⟩)]):=by rw [hMF];exact ZhA hm
 rw [<-hMF,<-hMB] at hw ⊢;have hpl:=ZaR hat;apply ZxQ;refine Zc.mk rfl ⟨some m1,oA hw,some ⟨f,0,none⟩,some ⟨q,0,none⟩,λ w' e=>?_,?_⟩
 ·rw [show w'=w from e]
  have:=MapAt.look ZsB hw.swap n false;rw [hget] at this;exact this
 refine Zb hw λ b4 w hw=>?_;refine Za hw (by kernel_rfl) rfl (by simp [Value.cells]) λ w hw=>?_;have hw:=hw.re (fqC b4 f q);have hw:Sat R (Zi (A++(f,q,pl)::C)::pts p (Zg b m1 m2)::MapAt m1 MF::MapAt m2 MB::Zj xs::fqC b4 f q::Hs) w:=hw.arr;have hw:=Za7.1 hw;have hg:ZaA pl.r:=k.good pl hpl.1;have hqok:QOk pl.q:=k.qok pl hpl.1;have hi0:Zyb n b A C f q MB 201 b pl xs:=⟨rfl,by have:=hqok.len;omega,k,hat,rfl,rfl,hl,hMB.symm⟩;refine ⟨λ w5 fits w=>∃ bw,w5=some ⟨bw,0,none⟩/\fits=(Zai pl.q (Zn pl.r)).isSome/\Zu8 R Hs p m1 m2 f q b4 bw b pl A C MF MB xs w,?_,?_⟩
 ·refine ZE (Sat R [fqC b4 f q,VC.tru]) hw (λ w hw=>?_) λ w hw=>?_
  ·exact (hw.arr (Hs':=fqC b4 f q::Zf f pl.r::ZC q pl.q::Zi (A++C)::pts p (Zg b m1 m2)::MapAt m1 MF::MapAt m2 MB::Zj xs::Hs)).cons λ _ h=>h.allTru
  refine ⟨some ⟨q,0,none⟩,At.own (λ _ h=>h) (by exact ⟨rfl,trivial⟩),some ⟨f,0,none⟩,At.own (λ _ h=>h) (by exact ⟨rfl,trivial⟩),?_,?_⟩
  ·refine (ZbW hw).use ?_
   clear hw;rintro _ w ⟨sl,rfl,hw⟩;refine ⟨sl,rfl,?_,?_,?_⟩
   ·exact (hw.arr (Hs':=fqC b4 f q::Own sl 3 (Zd (Zn pl.r))::Zf f pl.r::ZC q pl.q::Zi (A++C)::pts p (Zg b m1 m2)::MapAt m1 MF::MapAt m2 MB::Zj xs::Hs)).cons λ _ h=>h.allTru
   ·have hw:Sat R (Own sl 3 (Zd (Zn pl.r))::ZC q pl.q::Zf f pl.r::Zi (A++C)::pts p (Zg b m1 m2)::MapAt m1 MF::MapAt m2 MB::Zj xs::fqC b4 f q::Hs) w:=hw.arr
    refine (Zff hqok (Zd3 hg) hw).use ?_;clear hw;rintro _ w ⟨rfl,hw⟩;refine ⟨_,_,_,_,_,_,rfl,?_,?_⟩
    ·exact (hw.arr (Hs':=fqC b4 f q::Zf f pl.r::ZC q pl.q::Zi (A++C)::pts p (Zg b m1 m2)::MapAt m1 MF::MapAt m2 MB::Zj xs::Hs)).cons λ _ h=>h.allTru
    refine Zb hw λ bw w hw=>?_;have hw:Sat R (wtD bw Zah::ZC q pl.q::Zf f pl.r::Zi (A++C)::pts p (Zg b m1 m2)::MapAt m1 MF::MapAt m2 MB::Zj xs::fqC b4 f q::Hs) w:=hw;refine ⟨?_,?_⟩
    ·exact (hw.arr (Hs':=fqC b4 f q::wtD bw Zah::Zf f pl.r::ZC q pl.q::Zi (A++C)::pts p (Zg b m1 m2)::MapAt m1 MF::MapAt m2 MB::Zj xs::Hs)).cons λ _ h=>h.allTru
    refine Za hw (by kernel_rfl) rfl (by simp [Value.cells,wtV]) λ w hw=>?_;have hw:=hw.re (wtD bw ((Zai pl.q (Zn pl.r)).getD Zah));exact ⟨bw,rfl,rfl,hw.arr⟩
   ·refine Zb hw λ bw w hw=>?_
    have hw:Sat R (wtD bw Zah::Own sl 3 (Zd (Zn pl.r))::Zf f pl.r::ZC q pl.q::Zi (A++C)::pts p (Zg b m1 m2)::MapAt m1 MF::MapAt m2 MB::Zj xs::fqC b4 f q::Hs) w:=hw;refine ⟨?_,?_⟩
    ·exact (hw.arr (Hs':=fqC b4 f q::wtD bw Zah::Own sl 3 (Zd (Zn pl.r))::Zf f pl.r::ZC q pl.q::Zi (A++C)::pts p (Zg b m1 m2)::MapAt m1 MF::MapAt m2 MB::Zj xs::Hs)).cons λ _ h=>h.allTru
    have hw:Sat R (wtD bw Zah::Own sl 3 (Zd (Zn pl.r))::Zf f pl.r::ZC q pl.q::Zi (A++C)::pts p (Zg b m1 m2)::MapAt m1 MF::MapAt m2 MB::Zj xs::fqC b4 f q::Hs) w:=hw;have hw:Sat R (Own sl 3 (Zd (Zn pl.r))::ZC q pl.q::wtD bw Zah::Zf f pl.r::Zi (A++C)::pts p (Zg b m1 m2)::MapAt m1 MF::MapAt m2 MB::Zj xs::fqC b4 f q::Hs) w:=hw.arr;refine (Zff hqok (Zd3 hg) hw).use ?_;clear hw;rintro _ w ⟨rfl,hw⟩;refine ⟨_,_,_,_,_,_,rfl,?_,?_⟩
    ·exact (hw.arr (Hs':=fqC b4 f q::wtD bw Zah::Zf f pl.r::ZC q pl.q::Zi (A++C)::pts p (Zg b m1 m2)::MapAt m1 MF::MapAt m2 MB::Zj xs::Hs)).cons λ _ h=>h.allTru
    have hw:Sat R (wtD bw Zah::ZC q pl.q::Zf f pl.r::Zi (A++C)::pts p (Zg b m1 m2)::MapAt m1 MF::MapAt m2 MB::Zj xs::fqC b4 f q::Hs) w:=hw.arr;refine Za hw (by kernel_rfl) rfl (by simp [Value.cells,wtV]) λ w hw=>?_;have hw:=hw.re (wtD bw ((Zai pl.q (Zn pl.r)).getD Zah));exact ⟨bw,rfl,rfl,hw.arr⟩
  ·refine Zb hw λ bw w hw=>?_
   have hw:Sat R (wtD bw Zah::Zf f pl.r::ZC q pl.q::Zi (A++C)::pts p (Zg b m1 m2)::MapAt m1 MF::MapAt m2 MB::Zj xs::fqC b4 f q::Hs) w:=hw;refine ⟨?_,?_⟩
   ·exact (hw.arr (Hs':=fqC b4 f q::wtD bw Zah::Zf f pl.r::ZC q pl.q::Zi (A++C)::pts p (Zg b m1 m2)::MapAt m1 MF::MapAt m2 MB::Zj xs::Hs)).cons λ _ h=>h.allTru
   have hw:Sat R (wtD bw Zah::Zf f pl.r::ZC q pl.q::Zi (A++C)::pts p (Zg b m1 m2)::MapAt m1 MF::MapAt m2 MB::Zj xs::fqC b4 f q::Hs) w:=hw;refine (ZbW hw.swap).use ?_;clear hw;rintro _ w ⟨sl,rfl,hw⟩;refine ⟨sl,rfl,?_,?_⟩
   ·exact (hw.arr (Hs':=fqC b4 f q::wtD bw Zah::Own sl 3 (Zd (Zn pl.r))::Zf f pl.r::ZC q pl.q::Zi (A++C)::pts p (Zg b m1 m2)::MapAt m1 MF::MapAt m2 MB::Zj xs::Hs)).cons λ _ h=>h.allTru
   have hw:Sat R (Own sl 3 (Zd (Zn pl.r))::ZC q pl.q::wtD bw Zah::Zf f pl.r::Zi (A++C)::pts p (Zg b m1 m2)::MapAt m1 MF::MapAt m2 MB::Zj xs::fqC b4 f q::Hs) w:=hw.arr;refine (Zff hqok (Zd3 hg) hw).use ?_;clear hw;rintro _ w ⟨rfl,hw⟩;refine ⟨_,_,_,_,_,_,rfl,?_,?_⟩
   ·exact (hw.arr (Hs':=fqC b4 f q::wtD bw Zah::Zf f pl.r::ZC q pl.q::Zi (A++C)::pts p (Zg b m1 m2)::MapAt m1 MF::MapAt m2 MB::Zj xs::Hs)).cons λ _ h=>h.allTru
   have hw:Sat R (wtD bw Zah::ZC q pl.q::Zf f pl.r::Zi (A++C)::pts p (Zg b m1 m2)::MapAt m1 MF::MapAt m2 MB::Zj xs::fqC b4 f q::Hs) w:=hw.arr;refine Za hw (by kernel_rfl) rfl (by simp [Value.cells,wtV]) λ w hw=>?_;have hw:=hw.re (wtD bw ((Zai pl.q (Zn pl.r)).getD Zah));exact ⟨bw,rfl,rfl,hw.arr⟩
 clear hw;rintro _ _ _ w ⟨bw,rfl,rfl,hw⟩;refine ⟨λ w5 fits w=>∃ j b' pl xs' bw,Zyb n b A C f q MB j b' pl xs'/\w5=some ⟨bw,0,none⟩/\fits=(Zai pl.q (Zn pl.r)).isSome/\Zu8 R Hs p m1 m2 f q b4 bw b pl A C MF MB xs' w,λ _ _ w=>Zov q w,⟨201,b,pl,xs,bw,hi0,rfl,rfl,hw⟩,?_⟩;clear hw hi0 hqok hg hpl;rintro _ _ _ w ⟨j,b',pl',xs',bw,hi,rfl,rfl,hw⟩;have hql:Zov q w=pl'.q.length:=Zng hw.swap;have hpl:=ZaR hi.here;have hg:=hi.core.good pl' hpl.1;have hqok:=hi.core.qok pl' hpl.1;have hm':Zkg A C n pl':=⟨hpl.2,hm.a,hm.c⟩;obtain ⟨j,rfl⟩:∃ i,j=i + 1:=⟨j - 1,by have:=hi.len;omega⟩;have hprom:=hi.prom;unfold Zjn at hprom;rw [hi.here] at hprom;dsimp only at hprom;cases hf:Zai pl'.q (Zn pl'.r) with
 |none=>
  rw [hf] at hprom;dsimp only at hprom;refine Br.f rfl ⟨rfl,A++(f,q,pl')::C,xs',?_,?_,hi.mb,?_⟩
  ·rw [hprom];exact hi.book
  ·rw [hMF];exact ZeK hm.num hpl.2
  ·rw [hprom,show Zg b' m1 m2=Zg b m1 m2 by unfold Zg;rw [hi.now,hi.next]]
   have hw:Sat R (Zf f pl'.r::ZC q pl'.q::Zi (A++C)::pts p (Zg b m1 m2)::MapAt m1 MF::MapAt m2 MB::Zj xs'::fqC b4 f q::wtD bw ((Zai pl'.q (Zn pl'.r)).getD Zah)::Hs) w:=hw.arr;have hw:=Za7.2 hw;have hw:Sat R (pts p (Zg b m1 m2)::MapAt m1 MF::MapAt m2 MB::Zi (A++(f,q,pl')::C)::Zj xs'::fqC b4 f q::wtD bw ((Zai pl'.q (Zn pl'.r)).getD Zah)::Hs) w:=hw.arr;exact hw.cons λ _ h=>h.cons λ _ h=>h.cons λ _ h=>h.cons λ _ h=>h.cons λ _ h=>h.drop.drop
 |some x=>
  rw [hf] at hprom;dsimp only at hprom;obtain ⟨hx,hfit,htk⟩:=ZjV hi.core hpl.1 hf;obtain ⟨y,hyL,hyid,hyf,hys,hyc,hym⟩:=hi.core.waits hpl.1 hx;obtain ⟨A2,a,C2,rfl,hbm⟩:=Zfn hi.book hi.core.ids hyL;have hgetb:ZH x.id MB=some (.pointer (some ⟨a,0,none⟩)):=by rw [<-hi.mb,<-hyid];exact ZlI hbm
  have hhas:Zel x.id pl'.q=true:=Zfc.2 ⟨x,hx,rfl⟩;have hrem:Zul pl'.q x.id=(ZhG x.id pl'.q,0):=by unfold Zul;rw [if_pos hhas]
  have hdl:=ZnN hhas;have hw:Sat R (Zf f pl'.r::ZC q pl'.q::pts p (Zg b m1 m2)::MapAt m1 MF::MapAt m2 MB::Zi (A++C)::Zj (A2++(a,y)::C2)::fqC b4 f q::wtD bw x::Hs) w:=by
   have:=hw;unfold Zu8 at this;rw [hf] at this;exact this
  refine Br.t rfl ⟨some ⟨q,0,none⟩,oA hw,Zc.mk rfl ⟨x.id,oA hw,?_⟩⟩;refine (Zgf (by have:=hqok.len;omega) hw.swap).use ?_;clear hw;rintro _ w ⟨rfl,hw⟩;rw [hrem] at hw ⊢;refine ⟨_,rfl,some ⟨f,0,none⟩,oA hw,Zc.mk rfl ⟨x.id,oA hw,Zc.mk rfl ⟨x.cls,oA hw,Zc.mk rfl ⟨x.many,oA hw,?_⟩⟩⟩⟩;refine (Zlh hw.swap).use ?_;clear hw;rintro _ w ⟨rfl,hw⟩;refine ⟨_,rfl,?_⟩;refine Zo hw λ w hw=>Zc.mk rfl ⟨some m2,At.own (λ _ h=>h) (by exact ⟨rfl,trivial⟩),Zc.mk rfl ⟨x.id,At.own (λ _ h=>h) (by exact ⟨rfl,trivial⟩),some ⟨a,0,none⟩,λ w' h=>?_,Zc.mk rfl ?_⟩⟩
  ·have hm1:Sat R (MapAt m2 MB::Zf f (ZN pl'.r x.id x.cls x.many).1::ZC q (ZhG x.id pl'.q)::pts p (Zg b m1 m2)::MapAt m1 MF::Zi (A++C)::Zj (A2++(a,y)::C2)::fqC b4 f q::wtD bw x::Hs) w':=Sat.arr h
   have:=MapAt.look Zub hm1 x.id false;rw [hgetb] at this;exact this
  have hw:Sat R (Zj (A2++(a,y)::C2)::Zf f (ZN pl'.r x.id x.cls x.many).1::ZC q (ZhG x.id pl'.q)::pts p (Zg b m1 m2)::MapAt m1 MF::MapAt m2 MB::Zi (A++C)::fqC b4 f q::wtD bw x::Hs) w:=hw.arr;have hw:=Zcv.1 hw;refine Za hw (by kernel_rfl) rfl (by simp [Value.cells]) λ w hw=>?_;have hw:=Zcv.2 (hw.re (pts a (Zr (Zem y))));refine Zc.mk rfl ⟨x.id,x.cls,x.many,x.time,x.sc,At.own (eqS hw) (by exact ⟨rfl,rfl,rfl,rfl,rfl,trivial⟩),?_⟩;refine Zb hw λ bw2 w hw=>?_;refine Za hw (by kernel_rfl) rfl (by simp [Value.cells]) λ w hw=>?_;have hw:=hw.re (wtD bw2 x);have hcore:Core (Zjx b' n x):=ZlD hi.core hpl.1 hpl.2 hf;have hat2:(Zjx b' n x).at n=some (Zl1 x pl'):=ZqV hi.core hi.here;have hpl2:=ZaR hat2;have hi2:Zyb n b A C f q MB j (Zjx b' n x) (Zl1 x pl') (A2++(a,Zem y)::C2):=
   ⟨hprom,by have:=hi.len;show (ZhG x.id pl'.q).length<j;omega,hcore,hat2,hi.now,hi.next,⟨hi.book.fset hm' (Zl1 x),by
    have:=hi.book.bset hi.core.ids Zem;rw [hyid] at this;exact this⟩,(Zr9 (show (Zem y).id=y.id from rfl)).trans hi.mb⟩
  obtain ⟨pl2,hpe⟩:∃ pl2,pl2=Zl1 x pl':=⟨_,rfl⟩;have hw:Sat R (Zf f pl2.r::ZC q pl2.q::wtD bw2 x::pts p (Zg b m1 m2)::MapAt m1 MF::MapAt m2 MB::Zi (A++C)::Zj (A2++(a,Zem y)::C2)::fqC b4 f q::wtD bw x::Hs) w:=by
   have hw:Sat R (wtD bw2 x::Zj (A2++(a,Zem y)::C2)::Zf f pl2.r::ZC q pl2.q::pts p (Zg b m1 m2)::MapAt m1 MF::MapAt m2 MB::Zi (A++C)::fqC b4 f q::wtD bw x::Hs) w:=by
    rw [hpe];exact hw
   exact hw.arr
  have hql2:pl2.q.length + 1=pl'.q.length:=by rw [hpe];exact hdl
  rw [<-hpe] at hi2 hat2 hpl2;have hg2:=hcore.good pl2 hpl2.1;have hqok2:=hcore.qok pl2 hpl2.1;clear hpe;refine ZE (Sat R [fqC b4 f q,VC.tru]) hw (λ w hw=>?_) λ w hw=>?_
  ·exact (hw.arr (Hs':=fqC b4 f q::Zf f pl2.r::ZC q pl2.q::wtD bw2 x::pts p (Zg b m1 m2)::MapAt m1 MF::MapAt m2 MB::Zi (A++C)::Zj (A2++(a,Zem y)::C2)::wtD bw x::Hs)).cons λ _ h=>h.allTru
  refine ⟨some ⟨q,0,none⟩,At.own (λ _ h=>h) (by exact ⟨rfl,trivial⟩),some ⟨f,0,none⟩,At.own (λ _ h=>h) (by exact ⟨rfl,trivial⟩),?_⟩;refine (ZbW hw).use ?_;clear hw;rintro _ w ⟨sl,rfl,hw⟩;refine ⟨sl,rfl,?_,?_⟩
  ·exact (hw.arr (Hs':=fqC b4 f q::Own sl 3 (Zd (Zn pl2.r))::Zf f pl2.r::ZC q pl2.q::wtD bw2 x::pts p (Zg b m1 m2)::MapAt m1 MF::MapAt m2 MB::Zi (A++C)::Zj (A2++(a,Zem y)::C2)::wtD bw x::Hs)).cons λ _ h=>h.allTru
  have hw:Sat R (Own sl 3 (Zd (Zn pl2.r))::ZC q pl2.q::wtD bw2 x::Zf f pl2.r::pts p (Zg b m1 m2)::MapAt m1 MF::MapAt m2 MB::Zi (A++C)::Zj (A2++(a,Zem y)::C2)::fqC b4 f q::wtD bw x::Hs) w:=hw.arr;refine (Zff hqok2 (Zd3 hg2) hw).use ?_;clear hw;rintro _ w ⟨rfl,hw⟩;refine ⟨_,_,_,_,_,_,rfl,?_,?_⟩
  ·exact (hw.arr (Hs':=fqC b4 f q::Zf f pl2.r::ZC q pl2.q::wtD bw2 x::pts p (Zg b m1 m2)::MapAt m1 MF::MapAt m2 MB::Zi (A++C)::Zj (A2++(a,Zem y)::C2)::wtD bw x::Hs)).cons λ _ h=>h.allTru
  have hw:Sat R (wtD bw2 x::ZC q pl2.q::Zf f pl2.r::pts p (Zg b m1 m2)::MapAt m1 MF::MapAt m2 MB::Zi (A++C)::Zj (A2++(a,Zem y)::C2)::fqC b4 f q::wtD bw x::Hs) w:=hw.arr;refine Za hw (by kernel_rfl) rfl (by simp [Value.cells,wtV]) λ w hw=>?_;have hw:=hw.re (wtD bw2 ((Zai pl2.q (Zn pl2.r)).getD Zah));have hw:Sat R (wtD bw x::Zf f pl2.r::ZC q pl2.q::pts p (Zg b m1 m2)::MapAt m1 MF::MapAt m2 MB::Zi (A++C)::Zj (A2++(a,Zem y)::C2)::fqC b4 f q::wtD bw2 ((Zai pl2.q (Zn pl2.r)).getD Zah)::Hs) w:=hw.arr;have hw:=hw.drop;refine ⟨⟨j,_,pl2,_,bw2,hi2,rfl,rfl,hw⟩,?_⟩;show Zov q _<Zov q _;rw [Zng hw.swap,hql];omega
end
section
open Go Go.VC Tryz
open Classical
variable {R:Cx} {Hs Rest:List HP} {w:World}
theorem Zbo {p m1 m2 f q:Nat} {b:ZM} {A C:List FE} {xs:List BE} {pl:Pl} (hl:ZaP b (A++(f,q,pl)::C) xs) {MF MB:List (Int × Value)} (hF:MF=(A++(f,q,pl)::C).map flV) (hB:MB=xs.map bkV)
  (hw:Sat R (Zf f pl.r::ZC q pl.q::pts p (Zg b m1 m2)::MapAt m1 MF::MapAt m2 MB::Zi (A++C)::Zj xs::Hs) w):Sat R (Zp p b::Hs) w:=by
 subst hF hB;have hw:Sat R (Zf f pl.r::ZC q pl.q::Zi (A++C)::pts p (Zg b m1 m2)::MapAt m1 ((A++(f,q,pl)::C).map flV)::MapAt m2 (xs.map bkV)::Zj xs::Hs) w:=hw.arr;have hw:=Za7.2 hw;have hw:Sat R (pts p (Zg b m1 m2)::MapAt m1 ((A++(f,q,pl)::C).map flV)::MapAt m2 (xs.map bkV)::Zi (A++(f,q,pl)::C)::Zj xs::Hs) w:=hw.arr;exact Sat.book.2 ⟨m1,m2,_,xs,hl,hw⟩
theorem ZjT {b:ZM} {fs:List FE} {xs:List BE} (hl:ZaP b fs xs) (k:Core b) {n:Int} {v:Value} (h:ZH n (fs.map flV)=some v):
  ∃ A f q C pl,fs=A++(f,q,pl)::C/\Zkg A C n pl/\b.at n=some pl/\v=.agg #[.pointer (some ⟨f,0,none⟩),.pointer (some ⟨q,0,none⟩)]:=by
 cases hat:b.at n with
 |none=>rw [(ZfU hl).2 hat] at h;cases h
 |some pl=>
  obtain ⟨A,f,q,C,rfl,hm⟩:=ZcI hl k.nums hat;rw [ZhA hm] at h;exact ⟨A,f,q,C,pl,rfl,hm,rfl,(Option.some.inj h).symm⟩
theorem ZnY {b:ZM} {fs:List FE} {xs:List BE} (hl:ZaP b fs xs) (k:Core b) (v:Value):ZdZ b.next v (xs.map bkV)=xs.map bkV++[(b.next,v)]:=by
 have:ZH b.next (xs.map bkV)=none:=by
  rw [ZmN hl];unfold ZM.bk;rw [ZdF];intro x hx e;have:=(k.each x hx).id.2;omega
 unfold ZdZ;rw [this];rfl
theorem Zkc {xs:List BE} {a:Nat} {x:Bk} (hw:Sat R (pts a (Zr x)::Zj xs::Hs) w):Sat R (Zj (xs++[(a,x)])::Hs) w:=by
 have:Sat R (pts a (Zr x)::Zj (xs++[])::Hs) w:=by rw [List.append_nil];exact hw
 exact Zcv.2 this
set_option maxHeartbeats 2000000 in
theorem Zst {p:Nat} {b:ZM} {c:Cm} {sg sp:Sl} (hk:c.kind=2) (k:Core b) (hr:ZaO c) (hw:Sat R (Zp p b::Hs) w):
  ZaX prog 43 #[.pointer (some ⟨p,0,none⟩),.agg #[.int .i64 c.kind,.string c.pnr,.int .i64 c.flt,.int .i64 c.cls,.int .i64 c.many,.int .i64 c.time,.float .f64 c.sc,.string c.lab,.int .i64 c.rows,.slice sg.a sg.len sg.cap,.slice sp.a sp.len sp.cap]] w
   (λ ch w'=>∃ e,ch=Zgj e/\ZcZ b c=(b,ZbL e)/\Sat R (Zp p b::Hs) w')
   (λ v w'=>∃ sl sb:Sl,v=.agg (rpV (ZcZ b c).2 sl sb).toArray/\Sat R (Own sl 3 (Zd (ZcZ b c).2.left)::Own sb 9 ((ZcZ b c).2.labs.map Value.string)::Zp p (ZcZ b c).1::Hs) w'):=by
 apply ZuD
 suffices H:∀ (X:List PanicEntry->World->Prop) (K:Value->World->Prop),(∀ e w',ZcZ b c=(b,ZbL e)->Sat R (Zp p b::Hs) w'->X (Zgj e) w')->
   (∀ sl sb w',Sat R (Own sl 3 (Zd (ZcZ b c).2.left)::Own sb 9 ((ZcZ b c).2.labs.map Value.string)::Zp p (ZcZ b c).1::Hs) w'->K (.agg (rpV (ZcZ b c).2 sl sb).toArray) w')->B43 (some ⟨p,0,none⟩) c.kind c.pnr c.flt c.cls c.many c.time c.sc c.lab c.rows sg sp X K w from
  H _ _ (λ e w' h1 h2=>⟨e,rfl,h1,h2⟩) (λ sl sb w' h2=>⟨sl,sb,rfl,h2⟩)
 intro X K hX hK;obtain ⟨m1,m2,fs,xs,hl,hw⟩:=Sat.book.1 hw;have hxl:=ZnX hl;refine Zb hw λ b3 w hw=>Zb hw λ b4 w hw=>?_;have hw:Sat R (Zq b4::cmC b3 c sg sp::pts p (Zg b m1 m2)::MapAt m1 (fs.map flV)::MapAt m2 (xs.map bkV)::Zi fs::Zj xs::Hs) w:=hw;refine ⟨c.flt,oA hw,?_⟩;have hw:Sat R (pts p (Zg b m1 m2)::MapAt m1 (fs.map flV)::Zq b4::cmC b3 c sg sp::MapAt m2 (xs.map bkV)::Zi fs::Zj xs::Hs) w:=hw.arr;refine (Zke hw).use ?_ ?_
 rotate_left
 ·clear hw
  rintro _ w ⟨rfl,hno,hw⟩;refine .inr ⟨_,rfl,hX 2 w ?_ ?_⟩
  ·unfold ZcZ
   rw [(ZfU hl).1 hno]
  ·have hw:Sat R (Zq b4::cmC b3 c sg sp::pts p (Zg b m1 m2)::MapAt m1 (fs.map flV)::MapAt m2 (xs.map bkV)::Zi fs::Zj xs::Hs) w:=hw.arr
   exact Sat.book.2 ⟨m1,m2,fs,xs,hl,hw.drop.drop⟩
 clear hw;rintro _ w ⟨⟨v1,v2,hgm,rfl⟩,hw⟩;obtain ⟨A,f,q,C,pl,rfl,hm,hat,hv⟩:=ZjT hl k hgm;simp only [Value.agg.injEq,Array.mk.injEq,List.cons.injEq,Value.pointer.injEq,and_true] at hv;obtain ⟨rfl,rfl⟩:=hv;obtain ⟨MF,hMF⟩:∃ M,M=(A++(f,q,pl)::C).map flV:=⟨_,rfl⟩;obtain ⟨MB,hMB⟩:∃ M,M=xs.map bkV:=⟨_,rfl⟩;have hMBl:MB.length=b.L.length:=by rw [hMB,List.length_map];exact hxl
 rw [<-hMF,<-hMB] at hw;have hw:Sat R (Zi (A++(f,q,pl)::C)::cmC b3 c sg sp::Zq b4::pts p (Zg b m1 m2)::MapAt m1 MF::MapAt m2 MB::Zj xs::Hs) w:=hw.arr;have hw:=Za7.1 hw;refine .inl ⟨_,_,rfl,?_⟩;refine Zb hw λ b5 w hw=>?_;refine Za hw (by kernel_rfl) rfl (by simp [Value.cells]) λ w hw=>?_;have hw:=hw.re (fqC b5 f q);refine ZaN hw λ w hw=>?_;refine Zc.mk rfl ⟨b.next,At.own (λ _ h=>h) (by exact ⟨rfl,trivial⟩),c.flt,At.own (λ _ h=>h) (by exact ⟨rfl,trivial⟩),c.cls,At.own (λ _ h=>h) (by exact ⟨rfl,trivial⟩),c.many,At.own (λ _ h=>h) (by exact ⟨rfl,trivial⟩),c.time,At.own (λ _ h=>h) (by exact ⟨rfl,trivial⟩),?_⟩;refine Zb hw λ bx w hw=>⟨hw.absorb,?_⟩;have hw:Sat R (pts bx (Zr (Zas b c))::fqC b5 f q::Zf f pl.r::ZC q pl.q::Zi (A++C)::cmC b3 c sg sp::Zq b4::pts p (Zg b m1 m2)::MapAt m1 MF::MapAt m2 MB::Zj xs::Hs) w:=by
  have hw:Sat R (pts bx (Zr (Zas b c))::VC.tru::fqC b5 f q::Zf f pl.r::ZC q pl.q::Zi (A++C)::cmC b3 c sg sp::Zq b4::pts p (Zg b m1 m2)::MapAt m1 MF::MapAt m2 MB::Zj xs::Hs) w:=hw;exact hw.cons λ _ h=>h.drop
 have close:∀ {w},Sat R (pts bx (Zr (Zas b c))::fqC b5 f q::Zf f pl.r::ZC q pl.q::Zi (A++C)::cmC b3 c sg sp::Zq b4::pts p (Zg b m1 m2)::MapAt m1 MF::MapAt m2 MB::Zj xs::Hs) w->Sat R (Zp p b::Hs) w:=λ {w} hw=>by
  have hw:Sat R (pts bx (Zr (Zas b c))::fqC b5 f q::cmC b3 c sg sp::Zq b4::Zf f pl.r::ZC q pl.q::pts p (Zg b m1 m2)::MapAt m1 MF::MapAt m2 MB::Zi (A++C)::Zj xs::Hs) w:=hw.arr;exact Zbo hl hMF hMB hw.drop.drop.drop.drop
 have hheld:∀ {e},ZcZ b c=e↔(if c.time<=b.now then (b,ZbL 1) else if b.full then (b,ZbL 3)
   else if (ZN pl.r b.next c.cls c.many).2≠0 then (b,ZbL (ZN pl.r b.next c.cls c.many).2)
   else ({ b.put c.flt (takeP b.next c.cls c.many) (b.L++[Zas b c]) with next:=b.next + 1 },Zdn (takeP b.next c.cls c.many pl) (Zas b c)))=e:=by
  intro e;unfold ZcZ;rw [hat]
 refine ⟨λ w=>¬ c.time<=b.now/\Sat R (pts bx (Zr (Zas b c))::fqC b5 f q::Zf f pl.r::ZC q pl.q::Zi (A++C)::cmC b3 c sg sp::Zq b4::pts p (Zg b m1 m2)::MapAt m1 MF::MapAt m2 MB::Zj xs::Hs) w,?_,?_⟩
 ·refine ⟨c.kind,oA hw,Br.e (λ _=>?_) (λ h=>absurd hk h)⟩
  refine Zo hw λ w hw=>⟨c.time,At.own (λ _ h=>h) (by exact ⟨rfl,trivial⟩),Zc.mk rfl ⟨b.now,At.own (λ _ h=>h) (by exact ⟨rfl,trivial⟩),?_⟩⟩;refine Zbx (λ h=>.inl ⟨rfl,hw,?_,hw⟩) (λ h=>.inr ⟨_,rfl,hX 1 w ?_ (close hw)⟩)
  ·have:=of_decide_eq_true h;omega
  ·have:=of_decide_eq_false h
   exact hheld.2 (by rw [if_pos (by omega)])
 clear hw;rintro _ w ⟨ht,hw⟩;refine ⟨λ w=>¬ b.full/\Sat R (pts bx (Zr (Zas b c))::fqC b5 f q::Zf f pl.r::ZC q pl.q::Zi (A++C)::cmC b3 c sg sp::Zq b4::pts p (Zg b m1 m2)::MapAt m1 MF::MapAt m2 MB::Zj xs::Hs) w,?_,?_⟩
 ·refine Zc.mk rfl ⟨some m2,oA hw,(MB.length:Int),λ w' e=>?_,?_⟩
  ·rw [show w'=w from e]
   have hm1:Sat R (MapAt m2 MB::pts bx (Zr (Zas b c))::fqC b5 f q::Zf f pl.r::ZC q pl.q::Zi (A++C)::cmC b3 c sg sp::Zq b4::pts p (Zg b m1 m2)::MapAt m1 MF::Zj xs::Hs) w:=hw.arr;exact MapAt.len (by kernel_rfl) hm1
  rw [hMBl]
  with_reducible refine Br.d (λ h3=>?_) (λ h3=>?_)
  ·refine Zc.mk rfl ⟨b.next,oA hw,?_⟩
   refine Zbx (λ h=>.inl ⟨rfl,?_,hw⟩) (λ h=>.inr ⟨_,rfl,hX 3 w ?_ (close hw)⟩)
   ·have:=of_decide_eq_true h
    unfold ZM.full;omega
   ·have:=of_decide_eq_false h
    exact hheld.2 (by rw [if_neg ht,if_pos (.inr (by omega))])
  ·exact Zbx (λ h=>by cases h) (λ h=>.inr ⟨_,rfl,hX 3 w (hheld.2 (by rw [if_neg ht,if_pos (.inl (by omega))])) (close hw)⟩)
 clear hw;rintro _ w ⟨hf,hw⟩;have hnext:=k.next;have hf2:b.L.length<300/\b.next<28629151:=by unfold ZM.full at hf;omega
 obtain ⟨r2,hr2⟩:∃ r2,r2=(ZN pl.r b.next c.cls c.many).1:=⟨_,rfl⟩;refine ⟨λ w=>(ZN pl.r b.next c.cls c.many).2=0/\Sat R (pts bx (Zr (Zas b c))::fqC b5 f q::Zf f r2::ZC q pl.q::Zi (A++C)::cmC b3 c sg sp::Zq b4::pts p (Zg b m1 m2)::MapAt m1 MF::MapAt m2 MB::Zj xs::Hs) w,?_,?_⟩
 ·refine ⟨c.kind,oA hw,Br.e (λ _=>?_) (λ h=>absurd hk h)⟩
  refine ZE (Sat R [fqC b5 f q,pts bx (Zr (Zas b c)),VC.tru]) hw (λ w hw=>?_) λ w hw=>?_
  ·exact (hw.arr (Hs':=fqC b5 f q::pts bx (Zr (Zas b c))::Zf f pl.r::ZC q pl.q::Zi (A++C)::cmC b3 c sg sp::Zq b4::pts p (Zg b m1 m2)::MapAt m1 MF::MapAt m2 MB::Zj xs::Hs)).cons λ _ h=>h.restTru2
  refine ⟨some ⟨f,0,none⟩,At.own (λ _ h=>h) (by exact ⟨rfl,trivial⟩),b.next,At.own (λ _ h=>h) (by exact ⟨rfl,trivial⟩),c.cls,At.own (λ _ h=>h) (by exact ⟨rfl,trivial⟩),c.many,At.own (λ _ h=>h) (by exact ⟨rfl,trivial⟩),?_⟩;have hw:Sat R (Zf f pl.r::pts bx (Zr (Zas b c))::fqC b5 f q::ZC q pl.q::Zi (A++C)::cmC b3 c sg sp::Zq b4::pts p (Zg b m1 m2)::MapAt m1 MF::MapAt m2 MB::Zj xs::Hs) w:=hw.arr;refine (Zlh hw).use ?_;clear hw;rintro _ w ⟨rfl,hw⟩;refine .inl ⟨_,rfl,?_⟩;refine ZeE (λ h0=>.inl ⟨rfl,?_,h0,?_⟩) (λ h0=>.inr ⟨_,rfl,hX _ w (hheld.2 (by rw [if_neg ht,if_neg hf,if_pos h0])) ?_⟩)
  ·exact (hw.arr (Hs':=fqC b5 f q::pts bx (Zr (Zas b c))::Zf f (ZN pl.r b.next c.cls c.many).1::ZC q pl.q::Zi (A++C)::cmC b3 c sg sp::Zq b4::pts p (Zg b m1 m2)::MapAt m1 MF::MapAt m2 MB::Zj xs::Hs)).cons λ _ h=>h.restTru2
  ·rw [hr2];exact hw.arr
  ·rw [ZpN h0] at hw
   have hw:Sat R (pts bx (Zr (Zas b c))::fqC b5 f q::Zf f pl.r::ZC q pl.q::Zi (A++C)::cmC b3 c sg sp::Zq b4::pts p (Zg b m1 m2)::MapAt m1 MF::MapAt m2 MB::Zj xs::Hs) w:=hw.arr;exact close hw
 clear hw;rintro _ w ⟨h0,hw⟩;have hcore:=ZlE k hr hat hf h0;have hres:ZcZ b c=({ b.put c.flt (takeP b.next c.cls c.many) (b.L++[Zas b c]) with next:=b.next + 1 },Zdn (takeP b.next c.cls c.many pl) (Zas b c)):=hheld.2 (by rw [if_neg ht,if_neg hf,if_neg (λ h=>h h0)]);obtain ⟨nb,hnb⟩:∃ nb,nb={ b.put c.flt (takeP b.next c.cls c.many) (b.L++[Zas b c]) with next:=b.next + 1 }:=⟨_,rfl⟩;obtain ⟨pl2,hp2⟩:∃ pl2,pl2=takeP b.next c.cls c.many pl:=⟨_,rfl⟩;rw [<-hnb] at hres hcore;rw [<-hp2] at hres;have hn2:pl2.n=c.flt:=by rw [hp2];exact (ZcC (r:=pl.r) (o:=b.next) (c:=c.cls) (m:=c.many)).1.trans hm.num
 have hm2:Zkg A C c.flt pl2:=⟨hn2,hm.a,hm.c⟩;have hMF2:MF=(A++(f,q,pl2)::C).map flV:=by rw [hMF];exact ZeK hn2 hm.num
 have hl2:ZaP nb (A++(f,q,pl2)::C) (xs++[(bx,Zas b c)]):=by
  refine ⟨?_,?_⟩
  ·rw [hnb,hp2]
   exact hl.fset hm (takeP b.next c.cls c.many)
  ·rw [hnb,List.map_append,hl.bk]
   rfl
 have hMB2:MB++[(b.next,Value.pointer (some ⟨bx,0,none⟩))]=(xs++[(bx,Zas b c)]).map bkV:=by rw [hMB,List.map_append];rfl
 have hput:ZdZ b.next (.pointer (some ⟨bx,0,none⟩)) MB=MB++[(b.next,Value.pointer (some ⟨bx,0,none⟩))]:=by rw [hMB];exact ZnY hl k _
 have hr22:r2=pl2.r:=by rw [hr2,hp2];rfl
 have hq2:pl.q=pl2.q:=by rw [hp2];rfl
 rw [hr22,hq2] at hw;refine Zo hw λ w hw=>Zc.mk rfl ⟨some m2,At.own (λ _ h=>h) (by exact ⟨rfl,trivial⟩),b.next,At.own (λ _ h=>h) (by exact ⟨rfl,trivial⟩),?_⟩;have hw:Sat R (MapAt m2 MB::pts bx (Zr (Zas b c))::fqC b5 f q::Zf f pl2.r::ZC q pl2.q::Zi (A++C)::cmC b3 c sg sp::Zq b4::pts p (Zg b m1 m2)::MapAt m1 MF::Zj xs::Hs) w:=hw.arr;refine MapAt.put Zub hw b.next (.pointer (some ⟨bx,0,none⟩)) λ w hw=>?_;rw [hput] at hw;refine Zc.mk rfl ⟨b.next,oA hw,Zc.mk rfl ?_⟩;have hw:Sat R (pts p (Zg b m1 m2)::MapAt m2 (MB++[(b.next,Value.pointer (some ⟨bx,0,none⟩))])::pts bx (Zr (Zas b c))::fqC b5 f q::Zf f pl2.r::ZC q pl2.q::Zi (A++C)::cmC b3 c sg sp::Zq b4::MapAt m1 MF::Zj xs::Hs) w:=hw.arr;rw [Zh (x:=b.next + 1) (by omega) (by omega)];refine Za hw (by kernel_rfl) rfl (by simp [Value.cells]) λ w hw=>?_;have hw:Sat R (pts p (Zg nb m1 m2)::MapAt m2 (MB++[(b.next,Value.pointer (some ⟨bx,0,none⟩))])::pts bx (Zr (Zas b c))::fqC b5 f q::Zf f pl2.r::ZC q pl2.q::Zi (A++C)::cmC b3 c sg sp::Zq b4::MapAt m1 MF::Zj xs::Hs) w:=by
  rw [hnb];exact hw.re (pts p (Zg { b.put c.flt (takeP b.next c.cls c.many) (b.L++[Zas b c]) with next:=b.next + 1 } m1 m2))
 refine ⟨c.kind,oA hw,Br.e (λ h=>by omega) (λ _=>?_)⟩;have hw:Sat R (pts p (Zg nb m1 m2)::MapAt m1 ((A++(f,q,pl2)::C).map flV)::pts bx (Zr (Zas b c))::Zf f pl2.r::MapAt m2 (MB++[(b.next,Value.pointer (some ⟨bx,0,none⟩))])::fqC b5 f q::ZC q pl2.q::Zi (A++C)::cmC b3 c sg sp::Zq b4::Zj xs::Hs) w:=by
  rw [<-hMF2];exact hw.arr
 refine (ZeR (x:=Zas b c) (by show 0<=b.next/\b.next<28629151;omega) hm2 hw).use ?_;clear hw;rintro _ w ⟨sl,sb,rfl,hw⟩;refine .inl ⟨_,_,_,_,_,_,_,sl,sb,rfl,?_⟩;rw [<-hMF2] at hw;have hw:Sat R (Zq b4::Own sl 3 (Zd (Zn pl2.r))::Own sb 9 ((Zbt pl2.r (Zas b c).id).map Value.string)::pts bx (Zr (Zas b c))::Zj xs::Zf f pl2.r::ZC q pl2.q::pts p (Zg nb m1 m2)::MapAt m1 MF::MapAt m2 (MB++[(b.next,Value.pointer (some ⟨bx,0,none⟩))])::Zi (A++C)::fqC b5 f q::cmC b3 c sg sp::Hs) w:=hw.arr;refine Za hw (by kernel_rfl) rfl (by simp [Value.cells]) λ w hw=>?_;have hw:=hw.re (rpC b4 (Zdn pl2 (Zas b c)) sl sb);refine ⟨_,_,_,_,_,_,_,sl,sb,At.own (eqS hw) (by exact ⟨rfl,rfl,rfl,rfl,rfl,rfl,rfl,rfl,rfl,trivial⟩),?_⟩;have hfin:=hK sl sb w;rw [hres] at hfin;refine hfin ?_;refine hw.drop.cons λ _ hw=>hw.cons λ _ hw=>?_;have hw:=Zkc hw;have hw:Sat _ (Zf f pl2.r::ZC q pl2.q::pts p (Zg nb m1 m2)::MapAt m1 MF::MapAt m2 (MB++[(b.next,Value.pointer (some ⟨bx,0,none⟩))])::Zi (A++C)::Zj (xs++[(bx,Zas b c)])::fqC b5 f q::cmC b3 c sg sp::Hs) w:=hw.arr;exact (Zbo hl2 hMF2 hMB2 hw).cons λ _ h=>h.drop.drop
end
section
open Go Go.VC Tryz
open Classical
variable {R:Cx} {Hs Rest:List HP} {w:World}
theorem ZmM {b:ZM} {fs:List FE} {xs:List BE} (hl:ZaP b fs xs) (k:Core b) (v:Value):ZH b.next (xs.map bkV++[(b.next,v)])=some v:=by
 refine ZjQ λ e he=>?_;obtain ⟨e',h1,rfl⟩:=List.mem_map.1 he;have:e'.2∈b.L:=by rw [<-hl.bk];exact List.mem_map.2 ⟨e',h1,rfl⟩
 have:=(k.each _ this).id.2;show e'.2.id≠b.next;omega
set_option maxHeartbeats 2000000 in
theorem Zss {p:Nat} {b:ZM} {c:Cm} {sg sp:Sl} (hk:c.kind=7) (k0:Zaz b) (hr:ZaO c) (hsc:c.sc<18446744073709551616) (hw:Sat R (Zp p b::Hs) w):
  ZaX prog 43 #[.pointer (some ⟨p,0,none⟩),.agg #[.int .i64 c.kind,.string c.pnr,.int .i64 c.flt,.int .i64 c.cls,.int .i64 c.many,.int .i64 c.time,.float .f64 c.sc,.string c.lab,.int .i64 c.rows,.slice sg.a sg.len sg.cap,.slice sp.a sp.len sp.cap]] w
   (λ ch w'=>∃ e,ch=Zgj e/\Zb6 b c=(b,ZbL e)/\Sat R (Zp p b::Hs) w')
   (λ v w'=>∃ sl sb:Sl,v=.agg (rpV (Zb6 b c).2 sl sb).toArray/\Sat R (Own sl 3 (Zd (Zb6 b c).2.left)::Own sb 9 ((Zb6 b c).2.labs.map Value.string)::Zp p (Zb6 b c).1::Hs) w'):=by
 apply ZuD
 suffices H:∀ (X:List PanicEntry->World->Prop) (K:Value->World->Prop),(∀ e w',Zb6 b c=(b,ZbL e)->Sat R (Zp p b::Hs) w'->X (Zgj e) w')->
   (∀ sl sb w',Sat R (Own sl 3 (Zd (Zb6 b c).2.left)::Own sb 9 ((Zb6 b c).2.labs.map Value.string)::Zp p (Zb6 b c).1::Hs) w'->K (.agg (rpV (Zb6 b c).2 sl sb).toArray) w')->B43 (some ⟨p,0,none⟩) c.kind c.pnr c.flt c.cls c.many c.time c.sc c.lab c.rows sg sp X K w from
  H _ _ (λ e w' h1 h2=>⟨e,rfl,h1,h2⟩) (λ sl sb w' h2=>⟨sl,sb,rfl,h2⟩)
 intro X K hX hK;have k:=k0.core;obtain ⟨m1,m2,fs,xs,hl,hw⟩:=Sat.book.1 hw;have hxl:=ZnX hl;refine Zb hw λ b3 w hw=>Zb hw λ b4 w hw=>?_;have hw:Sat R (Zq b4::cmC b3 c sg sp::pts p (Zg b m1 m2)::MapAt m1 (fs.map flV)::MapAt m2 (xs.map bkV)::Zi fs::Zj xs::Hs) w:=hw;refine ⟨c.flt,oA hw,?_⟩;have hw:Sat R (pts p (Zg b m1 m2)::MapAt m1 (fs.map flV)::Zq b4::cmC b3 c sg sp::MapAt m2 (xs.map bkV)::Zi fs::Zj xs::Hs) w:=hw.arr;refine (Zke hw).use ?_ ?_
 rotate_left
 ·clear hw
  rintro _ w ⟨rfl,hno,hw⟩;refine .inr ⟨_,rfl,hX 2 w ?_ ?_⟩
  ·unfold Zb6
   rw [(ZfU hl).1 hno]
  ·have hw:Sat R (Zq b4::cmC b3 c sg sp::pts p (Zg b m1 m2)::MapAt m1 (fs.map flV)::MapAt m2 (xs.map bkV)::Zi fs::Zj xs::Hs) w:=hw.arr
   exact Sat.book.2 ⟨m1,m2,fs,xs,hl,hw.drop.drop⟩
 clear hw;rintro _ w ⟨⟨v1,v2,hgm,rfl⟩,hw⟩;obtain ⟨A,f,q,C,pl,rfl,hm,hat,hv⟩:=ZjT hl k hgm;simp only [Value.agg.injEq,Array.mk.injEq,List.cons.injEq,Value.pointer.injEq,and_true] at hv;obtain ⟨rfl,rfl⟩:=hv;obtain ⟨MF,hMF⟩:∃ M,M=(A++(f,q,pl)::C).map flV:=⟨_,rfl⟩;obtain ⟨MB,hMB⟩:∃ M,M=xs.map bkV:=⟨_,rfl⟩;have hMBl:MB.length=b.L.length:=by rw [hMB,List.length_map];exact hxl
 rw [<-hMF,<-hMB] at hw;have hw:Sat R (Zi (A++(f,q,pl)::C)::cmC b3 c sg sp::Zq b4::pts p (Zg b m1 m2)::MapAt m1 MF::MapAt m2 MB::Zj xs::Hs) w:=hw.arr;have hw:=Za7.1 hw;refine .inl ⟨_,_,rfl,?_⟩;refine Zb hw λ b5 w hw=>?_;refine Za hw (by kernel_rfl) rfl (by simp [Value.cells]) λ w hw=>?_;have hw:=hw.re (fqC b5 f q);refine ZaN hw λ w hw=>?_;refine Zc.mk rfl ⟨b.next,At.own (λ _ h=>h) (by exact ⟨rfl,trivial⟩),c.flt,At.own (λ _ h=>h) (by exact ⟨rfl,trivial⟩),c.cls,At.own (λ _ h=>h) (by exact ⟨rfl,trivial⟩),c.many,At.own (λ _ h=>h) (by exact ⟨rfl,trivial⟩),c.time,At.own (λ _ h=>h) (by exact ⟨rfl,trivial⟩),?_⟩;refine Zb hw λ bx w hw=>⟨hw.absorb,?_⟩;have hw:Sat R (pts bx (Zr (Zas b c))::fqC b5 f q::Zf f pl.r::ZC q pl.q::Zi (A++C)::cmC b3 c sg sp::Zq b4::pts p (Zg b m1 m2)::MapAt m1 MF::MapAt m2 MB::Zj xs::Hs) w:=by
  have hw:Sat R (pts bx (Zr (Zas b c))::VC.tru::fqC b5 f q::Zf f pl.r::ZC q pl.q::Zi (A++C)::cmC b3 c sg sp::Zq b4::pts p (Zg b m1 m2)::MapAt m1 MF::MapAt m2 MB::Zj xs::Hs) w:=hw;exact hw.cons λ _ h=>h.drop
 have close:∀ {w},Sat R (pts bx (Zr (Zas b c))::fqC b5 f q::Zf f pl.r::ZC q pl.q::Zi (A++C)::cmC b3 c sg sp::Zq b4::pts p (Zg b m1 m2)::MapAt m1 MF::MapAt m2 MB::Zj xs::Hs) w->Sat R (Zp p b::Hs) w:=λ {w} hw=>by
  have hw:Sat R (pts bx (Zr (Zas b c))::fqC b5 f q::cmC b3 c sg sp::Zq b4::Zf f pl.r::ZC q pl.q::pts p (Zg b m1 m2)::MapAt m1 MF::MapAt m2 MB::Zi (A++C)::Zj xs::Hs) w:=hw.arr;exact Zbo hl hMF hMB hw.drop.drop.drop.drop
 have hwait:∀ {e},Zb6 b c=e↔(if (pl.r.lims.length:Int)<=c.cls then (b,ZbL 1) else if b.full then (b,ZbL 3)
   else if (ZcW pl.q (Zdp b c)).2≠0 then (b,ZbL (ZcW pl.q (Zdp b c)).2)
   else (ZQ c.flt (ZbU b c),match (ZQ c.flt (ZbU b c)).bk b.next with
    |none=>ZbL 0
    |some x=>Zdq (ZQ c.flt (ZbU b c)) x))=e:=by
  intro e;unfold Zb6;rw [hat];exact Iff.rfl
 have hpl:=ZaR hat;have closeW:∀ {w},Sat R (pts bx (Zr (ZbH b c))::fqC b5 f q::Zf f pl.r::ZC q pl.q::Zi (A++C)::cmC b3 c sg sp::Zq b4::pts p (Zg b m1 m2)::MapAt m1 MF::MapAt m2 MB::Zj xs::Hs) w->Sat R (Zp p b::Hs) w:=λ {w} hw=>by
  have hw:Sat R (pts bx (Zr (ZbH b c))::fqC b5 f q::cmC b3 c sg sp::Zq b4::Zf f pl.r::ZC q pl.q::pts p (Zg b m1 m2)::MapAt m1 MF::MapAt m2 MB::Zi (A++C)::Zj xs::Hs) w:=hw.arr;exact Zbo hl hMF hMB hw.drop.drop.drop.drop
 refine ⟨λ w=>¬ (pl.r.lims.length:Int)<=c.cls/\Sat R (pts bx (Zr (ZbH b c))::fqC b5 f q::Zf f pl.r::ZC q pl.q::Zi (A++C)::cmC b3 c sg sp::Zq b4::pts p (Zg b m1 m2)::MapAt m1 MF::MapAt m2 MB::Zj xs::Hs) w,?_,?_⟩
 ·refine ⟨c.kind,oA hw,Br.e (λ h=>by omega) (λ _=>?_)⟩
  refine ZE (Sat R [cmC b3 c sg sp,fqC b5 f q,VC.tru]) hw (λ w hw=>?_) λ w hw=>?_
  ·exact (hw.arr (Hs':=cmC b3 c sg sp::fqC b5 f q::pts bx (Zr (Zas b c))::Zf f pl.r::ZC q pl.q::Zi (A++C)::Zq b4::pts p (Zg b m1 m2)::MapAt m1 MF::MapAt m2 MB::Zj xs::Hs)).cons λ _ h=>h.restTru2
  refine ⟨c.cls,At.own (λ _ h=>h) (by exact ⟨rfl,trivial⟩),some ⟨f,0,none⟩,At.own (λ _ h=>h) (by exact ⟨rfl,trivial⟩),?_⟩;have hw:Sat R (Zf f pl.r::pts bx (Zr (Zas b c))::fqC b5 f q::ZC q pl.q::Zi (A++C)::cmC b3 c sg sp::Zq b4::pts p (Zg b m1 m2)::MapAt m1 MF::MapAt m2 MB::Zj xs::Hs) w:=hw.arr;refine (ZbW hw).use ?_;clear hw;rintro _ w ⟨sl,rfl,hw⟩;have hsl:=Own.len hw;rw [List.length_map,ZdC] at hsl;have hw:Sat R (pts bx (Zr (Zas b c))::fqC b5 f q::Zf f pl.r::ZC q pl.q::Zi (A++C)::cmC b3 c sg sp::Zq b4::pts p (Zg b m1 m2)::MapAt m1 MF::MapAt m2 MB::Zj xs::Hs) w:=by
   have hw:=hw.drop;exact hw.arr
  have hS:Sat R [cmC b3 c sg sp,fqC b5 f q,VC.tru] w:=(hw.arr (Hs':=cmC b3 c sg sp::fqC b5 f q::pts bx (Zr (Zas b c))::Zf f pl.r::ZC q pl.q::Zi (A++C)::Zq b4::pts p (Zg b m1 m2)::MapAt m1 MF::MapAt m2 MB::Zj xs::Hs)).cons λ _ h=>h.restTru2;refine .inl ⟨sl,rfl,hS,?_⟩;refine Zbx (λ h=>.inl ⟨rfl,hS,?_⟩) (λ h=>.inr ⟨_,rfl,hX 1 w ?_ (close hw)⟩)
  ·have:=of_decide_eq_true h
   clear hS;refine Za hw (by kernel_rfl) rfl (by simp [Value.cells]) λ w hw=>?_;refine Za hw (by kernel_rfl) rfl (by rw [Zbv];simp [Value.cells]) λ w hw=>?_;have hw:=hw.re (pts bx (Zr (ZbH b c)));exact ⟨by omega,hw⟩
  ·have:=of_decide_eq_false h
   exact hwait.2 (by rw [if_pos (by omega)])
 clear hw;rintro _ w ⟨ht,hw⟩;refine ⟨λ w=>¬ b.full/\Sat R (pts bx (Zr (ZbH b c))::fqC b5 f q::Zf f pl.r::ZC q pl.q::Zi (A++C)::cmC b3 c sg sp::Zq b4::pts p (Zg b m1 m2)::MapAt m1 MF::MapAt m2 MB::Zj xs::Hs) w,?_,?_⟩
 ·refine Zc.mk rfl ⟨some m2,oA hw,(MB.length:Int),λ w' e=>?_,?_⟩
  ·rw [show w'=w from e]
   have hm1:Sat R (MapAt m2 MB::pts bx (Zr (ZbH b c))::fqC b5 f q::Zf f pl.r::ZC q pl.q::Zi (A++C)::cmC b3 c sg sp::Zq b4::pts p (Zg b m1 m2)::MapAt m1 MF::Zj xs::Hs) w:=hw.arr;exact MapAt.len (by kernel_rfl) hm1
  rw [hMBl]
  with_reducible refine Br.d (λ h3=>?_) (λ h3=>?_)
  ·refine Zc.mk rfl ⟨b.next,oA hw,?_⟩
   refine Zbx (λ h=>.inl ⟨rfl,?_,hw⟩) (λ h=>.inr ⟨_,rfl,hX 3 w ?_ (closeW hw)⟩)
   ·have:=of_decide_eq_true h
    unfold ZM.full;omega
   ·have:=of_decide_eq_false h
    exact hwait.2 (by rw [if_neg ht,if_pos (.inr (by omega))])
  ·exact Zbx (λ h=>by cases h) (λ h=>.inr ⟨_,rfl,hX 3 w (hwait.2 (by rw [if_neg ht,if_pos (.inl (by omega))])) (closeW hw)⟩)
 clear hw;rintro _ w ⟨hf,hw⟩;have hnext:=k.next;have hf2:b.L.length<300/\b.next<28629151:=by unfold ZM.full at hf;omega
 have hqok:=k.qok pl hpl.1;obtain ⟨q2,hq2⟩:∃ q2,q2=(ZcW pl.q (Zdp b c)).1:=⟨_,rfl⟩;refine ⟨λ w=>(ZcW pl.q (Zdp b c)).2=0/\Sat R (pts bx (Zr (ZbH b c))::fqC b5 f q::Zf f pl.r::ZC q q2::Zi (A++C)::cmC b3 c sg sp::Zq b4::pts p (Zg b m1 m2)::MapAt m1 MF::MapAt m2 MB::Zj xs::Hs) w,?_,?_⟩
 ·refine ⟨c.kind,oA hw,Br.e (λ h=>by omega) (λ _=>?_)⟩
  refine ZE (Sat R [fqC b5 f q,pts bx (Zr (ZbH b c)),pts p (Zg b m1 m2),cmC b3 c sg sp,VC.tru]) hw (λ w hw=>?_) λ w hw=>?_
  ·exact (hw.arr (Hs':=fqC b5 f q::pts bx (Zr (ZbH b c))::pts p (Zg b m1 m2)::cmC b3 c sg sp::Zf f pl.r::ZC q pl.q::Zi (A++C)::Zq b4::MapAt m1 MF::MapAt m2 MB::Zj xs::Hs)).cons λ _ h=>h.cons λ _ h=>h.cons λ _ h=>h.restTru2
  refine ⟨some ⟨q,0,none⟩,At.own (λ _ h=>h) (by exact ⟨rfl,trivial⟩),b.next,At.own (λ _ h=>h) (by exact ⟨rfl,trivial⟩),c.cls,At.own (λ _ h=>h) (by exact ⟨rfl,trivial⟩),c.many,At.own (λ _ h=>h) (by exact ⟨rfl,trivial⟩),Zc.mk rfl ⟨b.now,At.own (λ _ h=>h) (by exact ⟨rfl,trivial⟩),c.sc,At.own (λ _ h=>h) (by exact ⟨rfl,trivial⟩),?_⟩⟩;have hw:Sat R (ZC q pl.q::pts bx (Zr (ZbH b c))::fqC b5 f q::Zf f pl.r::Zi (A++C)::cmC b3 c sg sp::Zq b4::pts p (Zg b m1 m2)::MapAt m1 MF::MapAt m2 MB::Zj xs::Hs) w:=hw.arr;refine (Zk4 (x:=Zdp b c) hqok hw).use ?_;clear hw;rintro _ w ⟨rfl,hw⟩;have hS:Sat R [fqC b5 f q,pts bx (Zr (ZbH b c)),pts p (Zg b m1 m2),cmC b3 c sg sp,VC.tru] w:=(hw.arr (Hs':=fqC b5 f q::pts bx (Zr (ZbH b c))::pts p (Zg b m1 m2)::cmC b3 c sg sp::Zf f pl.r::ZC q (ZcW pl.q (Zdp b c)).1::Zi (A++C)::Zq b4::MapAt m1 MF::MapAt m2 MB::Zj xs::Hs)).cons λ _ h=>h.cons λ _ h=>h.cons λ _ h=>h.restTru2;refine .inl ⟨_,rfl,hS,?_⟩;refine ZeE (λ h0=>.inl ⟨rfl,hS,h0,?_⟩) (λ h0=>.inr ⟨_,rfl,hX _ w (hwait.2 (by rw [if_neg ht,if_neg hf,if_pos h0])) ?_⟩)
  ·rw [hq2];exact hw.arr
  ·have hno:(ZcW pl.q (Zdp b c)).1=pl.q:=by
    unfold ZcW at h0 ⊢;split at h0<;>rename_i h1
    ·rw [if_pos h1]
    ·rw [if_neg h1]
     split at h0<;>rename_i h2
     ·rw [if_pos h2]
     ·rw [if_neg h2]
      split at h0<;>rename_i h3
      ·rw [if_pos h3]
      ·exact absurd rfl h0
   rw [hno] at hw;have hw:Sat R (pts bx (Zr (ZbH b c))::fqC b5 f q::Zf f pl.r::ZC q pl.q::Zi (A++C)::cmC b3 c sg sp::Zq b4::pts p (Zg b m1 m2)::MapAt m1 MF::MapAt m2 MB::Zj xs::Hs) w:=hw.arr;exact closeW hw
 clear hw;rintro _ w ⟨h0,hw⟩;have hcore:=ZhI k hr hsc hat ht hf h0;obtain ⟨y,hyL,hyid,hyf,hyc,hym,hyt,hres⟩:∃ y,y∈(ZQ c.flt (ZbU b c)).L/\y.id=b.next/\y.flt=c.flt/\y.cls=c.cls/\y.many=c.many/\y.till=0/\Zb6 b c=(ZQ c.flt (ZbU b c),Zdq (ZQ c.flt (ZbU b c)) y):=by
  rcases Zn6 k0 hr hsc with ⟨h1,_⟩|⟨_,y,_,_,_,_,_,h1,h2,h3,h4,h5,h6,h7⟩
  ·exfalso
   rw [hwait.2 (by rw [if_neg ht,if_neg hf,if_neg (λ h=>h h0)])] at h1;refine h1 ?_;dsimp only;split
   ·rfl
   ·exact ZpJ
  ·exact ⟨y,h1,h2,h3,h4,h5,h6,h7⟩
 obtain ⟨nb,hnb⟩:∃ nb,nb=ZbU b c:=⟨_,rfl⟩;obtain ⟨pl2,hp2⟩:∃ pl2,pl2=ZuO (Zdp b c) pl:=⟨_,rfl⟩;rw [<-hnb] at hres hcore hyL;have hn2:pl2.n=c.flt:=by rw [hp2];exact hm.num
 have hm2:Zkg A C c.flt pl2:=⟨hn2,hm.a,hm.c⟩;have hMF2:MF=(A++(f,q,pl2)::C).map flV:=by rw [hMF];exact ZeK hn2 hm.num
 have hl2:ZaP nb (A++(f,q,pl2)::C) (xs++[(bx,ZbH b c)]):=by
  refine ⟨?_,?_⟩
  ·rw [hnb,hp2]
   exact hl.fset hm (ZuO (Zdp b c))
  ·rw [hnb,List.map_append,hl.bk]
   rfl
 have hMB2:MB++[(b.next,Value.pointer (some ⟨bx,0,none⟩))]=(xs++[(bx,ZbH b c)]).map bkV:=by rw [hMB,List.map_append];rfl
 have hput:ZdZ b.next (.pointer (some ⟨bx,0,none⟩)) MB=MB++[(b.next,Value.pointer (some ⟨bx,0,none⟩))]:=by rw [hMB];exact ZnY hl k _
 have hbget:ZH b.next (MB++[(b.next,Value.pointer (some ⟨bx,0,none⟩))])=some (.pointer (some ⟨bx,0,none⟩)):=by rw [hMB];exact ZmM hl k _
 have hq22:q2=pl2.q:=by rw [hq2,hp2,(Zin h0).2.2.2];rfl
 have hr22:pl.r=pl2.r:=by rw [hp2];rfl
 rw [hr22,hq22] at hw;have hat2:nb.at c.flt=some pl2:=(ZhN hcore).2 ⟨hl2.fl.mem_iff.1 (List.mem_map.2 ⟨(f,q,pl2),by simp,rfl⟩),hn2⟩;refine Zo hw λ w hw=>Zc.mk rfl ⟨some m2,At.own (λ _ h=>h) (by exact ⟨rfl,trivial⟩),b.next,At.own (λ _ h=>h) (by exact ⟨rfl,trivial⟩),?_⟩;have hw:Sat R (MapAt m2 MB::pts bx (Zr (ZbH b c))::fqC b5 f q::Zf f pl2.r::ZC q pl2.q::Zi (A++C)::cmC b3 c sg sp::Zq b4::pts p (Zg b m1 m2)::MapAt m1 MF::Zj xs::Hs) w:=hw.arr;refine MapAt.put Zub hw b.next (.pointer (some ⟨bx,0,none⟩)) λ w hw=>?_;rw [hput] at hw;refine Zc.mk rfl ⟨b.next,oA hw,Zc.mk rfl ?_⟩;have hw:Sat R (pts p (Zg b m1 m2)::MapAt m2 (MB++[(b.next,Value.pointer (some ⟨bx,0,none⟩))])::pts bx (Zr (ZbH b c))::fqC b5 f q::Zf f pl2.r::ZC q pl2.q::Zi (A++C)::cmC b3 c sg sp::Zq b4::MapAt m1 MF::Zj xs::Hs) w:=hw.arr;rw [Zh (x:=b.next + 1) (by omega) (by omega)];refine Za hw (by kernel_rfl) rfl (by simp [Value.cells]) λ w hw=>?_;have hw:Sat R (pts p (Zg nb m1 m2)::MapAt m2 (MB++[(b.next,Value.pointer (some ⟨bx,0,none⟩))])::pts bx (Zr (ZbH b c))::fqC b5 f q::Zf f pl2.r::ZC q pl2.q::Zi (A++C)::cmC b3 c sg sp::Zq b4::MapAt m1 MF::Zj xs::Hs) w:=by
  rw [hnb];exact hw.re (pts p (Zg (ZbU b c) m1 m2))
 refine ⟨c.kind,oA hw,Br.e (λ _=>?_) (λ h=>absurd hk h)⟩;refine ⟨c.flt,oA hw,?_⟩;have hw:Sat R (pts bx (Zr (ZbH b c))::Zj xs::Zf f pl2.r::ZC q pl2.q::Zi (A++C)::pts p (Zg nb m1 m2)::MapAt m1 MF::MapAt m2 (MB++[(b.next,Value.pointer (some ⟨bx,0,none⟩))])::fqC b5 f q::cmC b3 c sg sp::Zq b4::Hs) w:=hw.arr;have hw:=Zkc hw;have hw:Sat R (Zf f pl2.r::ZC q pl2.q::Zi (A++C)::Zj (xs++[(bx,ZbH b c)])::pts p (Zg nb m1 m2)::MapAt m1 MF::MapAt m2 (MB++[(b.next,Value.pointer (some ⟨bx,0,none⟩))])::fqC b5 f q::cmC b3 c sg sp::Zq b4::Hs) w:=hw.arr;have hw:=Za7.2 hw;rw [hMF2,hMB2] at hw;have hw:Sat R (pts p (Zg nb m1 m2)::MapAt m1 ((A++(f,q,pl2)::C).map flV)::MapAt m2 ((xs++[(bx,ZbH b c)]).map bkV)::Zi (A++(f,q,pl2)::C)::Zj (xs++[(bx,ZbH b c)])::fqC b5 f q::cmC b3 c sg sp::Zq b4::Hs) w:=hw.arr;refine (Zdw hcore hl2 hat2 hw).use ?_;clear hw;rintro _ w ⟨rfl,fs3,xs3,hl3,hf3,hb3,hw⟩;refine .inl ⟨rfl,?_⟩;have hcore3:=(ZcX (n:=c.flt) hcore).1;obtain ⟨A3,a3,C3,rfl,hbm3⟩:=Zfn hl3 hcore3.ids hyL;have ha3:a3=bx:=by
  have h1:=ZlI (a:=a3) hbm3;rw [hb3,<-hMB2,hyid,hbget] at h1;simpa using h1.symm
 subst ha3;obtain ⟨p3,hp3⟩:=hcore3.at_of hyL;obtain ⟨D3,f3,q3,E3,rfl,hm3⟩:=ZcI hl3 hcore3.nums hp3;rw [<-hf3,<-hb3] at hw;have htell:Zdq (ZQ c.flt nb) y=Zdn p3 y:=by unfold Zdq;rw [hp3]
 rw [htell] at hres;have hw:Sat R (Zi (D3++(f3,q3,p3)::E3)::Zj (A3++(a3,y)::C3)::pts p (Zg (ZQ c.flt nb) m1 m2)::MapAt m1 ((D3++(f3,q3,p3)::E3).map flV)::MapAt m2 ((A3++(a3,y)::C3).map bkV)::fqC b5 f q::cmC b3 c sg sp::Zq b4::Hs) w:=hw.arr;have hw:=Za7.1 hw;have hw:Sat R (Zj (A3++(a3,y)::C3)::Zf f3 p3.r::ZC q3 p3.q::Zi (D3++E3)::pts p (Zg (ZQ c.flt nb) m1 m2)::MapAt m1 ((D3++(f3,q3,p3)::E3).map flV)::MapAt m2 ((A3++(a3,y)::C3).map bkV)::fqC b5 f q::cmC b3 c sg sp::Zq b4::Hs) w:=hw.arr;have hw:=Zcv.1 hw;have hw:Sat R (pts p (Zg (ZQ c.flt nb) m1 m2)::MapAt m1 ((D3++(f3,q3,p3)::E3).map flV)::pts a3 (Zr y)::Zf f3 p3.r::Zj (A3++C3)::ZC q3 p3.q::Zi (D3++E3)::MapAt m2 ((A3++(a3,y)::C3).map bkV)::fqC b5 f q::cmC b3 c sg sp::Zq b4::Hs) w:=hw.arr;refine (ZeR (x:=y) (by omega) hm3 hw).use ?_;clear hw;rintro _ w ⟨sl,sb,rfl,hw⟩;refine .inl ⟨_,_,_,_,_,_,_,sl,sb,rfl,?_⟩;have hw:Sat R (Zq b4::Own sl 3 (Zd (Zn p3.r))::Own sb 9 ((Zbt p3.r y.id).map Value.string)::pts a3 (Zr y)::Zj (A3++C3)::Zf f3 p3.r::ZC q3 p3.q::pts p (Zg (ZQ c.flt nb) m1 m2)::MapAt m1 ((D3++(f3,q3,p3)::E3).map flV)::MapAt m2 ((A3++(a3,y)::C3).map bkV)::Zi (D3++E3)::fqC b5 f q::cmC b3 c sg sp::Hs) w:=hw.arr;refine Za hw (by kernel_rfl) rfl (by simp [Value.cells]) λ w hw=>?_;have hw:=hw.re (rpC b4 (Zdn p3 y) sl sb);refine ⟨_,_,_,_,_,_,_,sl,sb,At.own (eqS hw) (by exact ⟨rfl,rfl,rfl,rfl,rfl,rfl,rfl,rfl,rfl,trivial⟩),?_⟩;have hfin:=hK sl sb w;rw [hres] at hfin;refine hfin ?_;refine hw.drop.cons λ _ hw=>hw.cons λ _ hw=>?_;have hw:=Zcv.2 hw;have hw:Sat _ (Zf f3 p3.r::ZC q3 p3.q::pts p (Zg (ZQ c.flt nb) m1 m2)::MapAt m1 ((D3++(f3,q3,p3)::E3).map flV)::MapAt m2 ((A3++(a3,y)::C3).map bkV)::Zi (D3++E3)::Zj (A3++(a3,y)::C3)::fqC b5 f q::cmC b3 c sg sp::Hs) w:=hw.arr;exact (Zbo hl3 rfl rfl hw).cons λ _ h=>h.drop.drop
end
section
open Go Go.VC Tryz
open Classical
variable {R:Cx} {Hs Rest:List HP} {w:World}
theorem Zd2 {p m1 m2 f q a:Nat} {b:ZM} {A C:List FE} {A2 C2:List BE} {pl:Pl} {x:Bk} (hl:ZaP b (A++(f,q,pl)::C) (A2++(a,x)::C2)) {MF MB:List (Int × Value)} (hF:MF=(A++(f,q,pl)::C).map flV) (hB:MB=(A2++(a,x)::C2).map bkV)
  (hw:Sat R (Zf f pl.r::ZC q pl.q::pts a (Zr x)::pts p (Zg b m1 m2)::MapAt m1 MF::MapAt m2 MB::Zi (A++C)::Zj (A2++C2)::Hs) w):Sat R (Zp p b::Hs) w:=by
 have hw:Sat R (pts a (Zr x)::Zj (A2++C2)::Zf f pl.r::ZC q pl.q::pts p (Zg b m1 m2)::MapAt m1 MF::MapAt m2 MB::Zi (A++C)::Hs) w:=hw.arr;have hw:=Zcv.2 hw;have hw:Sat R (Zf f pl.r::ZC q pl.q::pts p (Zg b m1 m2)::MapAt m1 MF::MapAt m2 MB::Zi (A++C)::Zj (A2++(a,x)::C2)::Hs) w:=hw.arr;exact Zbo hl hF hB hw
theorem ZgP {p m1 m2 f q a b6:Nat} {b:ZM} {A C:List FE} {A2 C2:List BE} {pl:Pl} {x:Bk} {X:List PanicEntry->World->Prop} {K:Value->World->Prop} (hl:ZaP b (A++(f,q,pl)::C) (A2++(a,x)::C2)) {MF MB:List (Int × Value)} (hF:MF=(A++(f,q,pl)::C).map flV) (hB:MB=(A2++(a,x)::C2).map bkV)
  (hid:0<=x.id/\x.id<28629151) (hm:Zkg A C x.flt pl)
  (hK:∀ sl sb w',Sat R (Own sl 3 (Zd (Zn pl.r))::Own sb 9 ((Zbt pl.r x.id).map Value.string)::Zp p b::Hs) w'->K (.agg (rpV (Zdn pl x) sl sb).toArray) w')
  (hw:Sat R (Zf f pl.r::ZC q pl.q::pts a (Zr x)::pts p (Zg b m1 m2)::MapAt m1 MF::MapAt m2 MB::Zi (A++C)::Zj (A2++C2)::Zq b6::Hs) w):
  Calls prog 56 #[.pointer (some ⟨p,0,none⟩),.pointer (some ⟨a,0,none⟩)] w λ e w_9=>
   (∃ t0:Int,∃ t1:ByteArray,∃ t2:Int,∃ t3:Int,∃ t4:Int,∃ t5:Int,∃ t6:Int,∃ t7:Sl,∃ t8:Sl,(e=.returned (.agg #[.int .i64 t0,.string t1,.int .i64 t2,.int .i64 t3,.int .i64 t4,.int .i64 t5,.int .i64 t6,.slice t7.a t7.len t7.cap,.slice t8.a t8.len t8.cap]))/\
    ∃ w_10:World,((Instr.storeAt 31 (.pointer ((some ⟨b6,0,none⟩))) (.agg #[.int .i64 t0,.string t1,.int .i64 t2,.int .i64 t3,.int .i64 t4,.int .i64 t5,.int .i64 t6,.slice t7.a t7.len t7.cap,.slice t8.a t8.len t8.cap])).run prog w_9=.ok () w_10)/\
    ∃ u0:Int,∃ u1:ByteArray,∃ u2:Int,∃ u3:Int,∃ u4:Int,∃ u5:Int,∃ u6:Int,∃ u7:Sl,∃ u8:Sl,(At (λ w'=>w'=w_10) ⟨b6,0,none⟩ [.int .i64 u0,.string u1,.int .i64 u2,.int .i64 u3,.int .i64 u4,.int .i64 u5,.int .i64 u6,.slice u7.a u7.len u7.cap,.slice u8.a u8.len u8.cap])/\
    K (.agg #[.int .i64 u0,.string u1,.int .i64 u2,.int .i64 u3,.int .i64 u4,.int .i64 u5,.int .i64 u6,.slice u7.a u7.len u7.cap,.slice u8.a u8.len u8.cap]) w_10)\/
   (∃ ch:List PanicEntry,(e=.panicked ch)/\X ch w_9):=by
 subst hF hB;have hw:Sat R (pts p (Zg b m1 m2)::MapAt m1 ((A++(f,q,pl)::C).map flV)::pts a (Zr x)::Zf f pl.r::ZC q pl.q::MapAt m2 ((A2++(a,x)::C2).map bkV)::Zi (A++C)::Zj (A2++C2)::Zq b6::Hs) w:=hw.arr;refine (ZeR hid hm hw).use ?_;clear hw;rintro _ w ⟨sl,sb,rfl,hw⟩;refine .inl ⟨_,_,_,_,_,_,_,sl,sb,rfl,?_⟩;have hw:Sat R (Zq b6::Own sl 3 (Zd (Zn pl.r))::Own sb 9 ((Zbt pl.r x.id).map Value.string)::Zf f pl.r::ZC q pl.q::pts a (Zr x)::pts p (Zg b m1 m2)::MapAt m1 ((A++(f,q,pl)::C).map flV)::MapAt m2 ((A2++(a,x)::C2).map bkV)::Zi (A++C)::Zj (A2++C2)::Hs) w:=hw.arr;refine Za hw (by kernel_rfl) rfl (by simp [Value.cells]) λ w hw=>?_;have hw:=hw.re (rpC b6 (Zdn pl x) sl sb);refine ⟨_,_,_,_,_,_,_,sl,sb,At.own (eqS hw) (by exact ⟨rfl,rfl,rfl,rfl,rfl,rfl,rfl,rfl,rfl,trivial⟩),hK sl sb w ?_⟩;exact hw.drop.cons λ _ hw=>hw.cons λ _ hw=>Zd2 hl rfl rfl hw
theorem ZrG {id:Int}:∀ {l:List Wt},Zel id l=false->ZhG id l=l
 |[],_=>rfl
 |w::l,h=>by
  have h1:¬ w.id=id/\Zel id l=false:=by simpa [Zel] using h
  show (if w.id=id then l else w::ZhG id l)=_
  rw [if_neg h1.1,ZrG h1.2]
theorem ZsZ {id:Int} {l:List Wt}:(Zul l id).1=ZhG id l:=by
 unfold Zul;cases h:Zel id l with
 |true=>rfl
 |false=>exact (ZrG h).symm
set_option maxHeartbeats 4000000 in
theorem Ztg {p m1 m2 a:Nat} {b:ZM} {c:Cm} {x:Bk} {fs:List FE} {A2 C2:List BE} {sg sp:Sl} (hk:c.kind=3\/c.kind=4\/c.kind=5\/c.kind=6) (k:Core b) (hlab:c.lab.size<=16) (hl:ZaP b fs (A2++(a,x)::C2)) (hbm:Zsz A2 C2 x)
  (hw:Sat R (pts p (Zg b m1 m2)::MapAt m1 (fs.map flV)::MapAt m2 ((A2++(a,x)::C2).map bkV)::Zi fs::Zj (A2++(a,x)::C2)::Hs) w):
  ZaX prog 45 #[.pointer (some ⟨p,0,none⟩),.pointer (some ⟨a,0,none⟩),.agg #[.int .i64 c.kind,.string c.pnr,.int .i64 c.flt,.int .i64 c.cls,.int .i64 c.many,.int .i64 c.time,.float .f64 c.sc,.string c.lab,.int .i64 c.rows,.slice sg.a sg.len sg.cap,.slice sp.a sp.len sp.cap]] w
   (λ ch w'=>∃ e,ch=Zgj e/\Zhb b x c=(b,ZbL e)/\Sat R (Zp p b::Hs) w')
   (λ v w'=>∃ sl sb:Sl,v=.agg (rpV (Zhb b x c).2 sl sb).toArray/\Sat R (Own sl 3 (Zd (Zhb b x c).2.left)::Own sb 9 ((Zhb b x c).2.labs.map Value.string)::Zp p (Zhb b x c).1::Hs) w'):=by
 apply Zzi
 suffices H:∀ (X:List PanicEntry->World->Prop) (K:Value->World->Prop),(∀ e w',Zhb b x c=(b,ZbL e)->Sat R (Zp p b::Hs) w'->X (Zgj e) w')->
   (∀ sl sb w',Sat R (Own sl 3 (Zd (Zhb b x c).2.left)::Own sb 9 ((Zhb b x c).2.labs.map Value.string)::Zp p (Zhb b x c).1::Hs) w'->K (.agg (rpV (Zhb b x c).2 sl sb).toArray) w')->B45 (some ⟨p,0,none⟩) (some ⟨a,0,none⟩) c.kind c.pnr c.flt c.cls c.many c.time c.sc c.lab c.rows sg sp X K w from
  H _ _ (λ e w' h1 h2=>⟨e,rfl,h1,h2⟩) (λ sl sb w' h2=>⟨sl,sb,rfl,h2⟩)
 intro X K hX hK;have hxL:x∈b.L:=by rw [<-hl.bk];exact List.mem_map.2 ⟨(a,x),by simp,rfl⟩
 have hbk:=k.each x hxL;have hnx:=k.next;have hid:0<=x.id/\x.id<28629151:=⟨by have:=hbk.id;omega,by have:=hbk.id;omega⟩;obtain ⟨pl,hat⟩:=k.at_of hxL;obtain ⟨A,f,q,C,rfl,hm⟩:=ZcI hl k.nums hat;have hpl:=ZaR hat;have hg:=k.good pl hpl.1;have hqok:=k.qok pl hpl.1;obtain ⟨MF,hMF⟩:∃ M,M=(A++(f,q,pl)::C).map flV:=⟨_,rfl⟩;obtain ⟨MB,hMB⟩:∃ M,M=(A2++(a,x)::C2).map bkV:=⟨_,rfl⟩;have hget:ZH x.flt MF=some (.agg #[.pointer (some ⟨f,0,none⟩),.pointer (some ⟨q,0,none⟩)]):=by rw [hMF];exact ZhA hm
 rw [<-hMF,<-hMB] at hw;have hone:∀ {e},Zhb b x c=e↔(if c.kind=3 then (if x.state≠1 then (b,ZbL 7) else ({ b with L:=Zej Bk.id x.id Zdb b.L },Zdn pl (Zdb x)))
  else if c.kind=4 then (ZQ x.flt (Zkj b x),⟨0,c.pnr,0,0,0,0,0,[],[]⟩)
  else if x.state=3 then (b,ZbL 7)
  else if c.kind=5 then
   (if (Zad pl.r x.id c.lab).2≠0 then (b,ZbL (Zad pl.r x.id c.lab).2)
    else (b.put x.flt (ZcT (Zad pl.r x.id c.lab).1) b.L,Zdn (ZcT (Zad pl.r x.id c.lab).1 pl) x))
  else (if (Zap pl.r x.id).2.2≠0 then (b,ZbL (Zap pl.r x.id).2.2)
    else (b.put x.flt (ZcT (Zap pl.r x.id).1) b.L,Zdn (ZcT (Zap pl.r x.id).1 pl) x)))=e:=by
  intro e;unfold Zhb;rw [hat]
 refine Zb hw λ b5 w hw=>Zb hw λ b6 w hw=>?_;have hw:Sat R (Zi (A++(f,q,pl)::C)::Zj (A2++(a,x)::C2)::pts p (Zg b m1 m2)::MapAt m1 MF::MapAt m2 MB::cmC b5 c sg sp::Zq b6::Hs) w:=by
  have hw:Sat R (Zq b6::cmC b5 c sg sp::pts p (Zg b m1 m2)::MapAt m1 MF::MapAt m2 MB::Zi (A++(f,q,pl)::C)::Zj (A2++(a,x)::C2)::Hs) w:=hw;exact hw.arr
 have hw:=Za7.1 hw;have hw:Sat R (Zj (A2++(a,x)::C2)::Zf f pl.r::ZC q pl.q::Zi (A++C)::pts p (Zg b m1 m2)::MapAt m1 MF::MapAt m2 MB::cmC b5 c sg sp::Zq b6::Hs) w:=hw.arr;have hw:=Zcv.1 hw;refine ZaN hw λ w hw=>?_;refine Zc.mk rfl ⟨some m1,At.own (λ _ h=>h) (by exact ⟨rfl,trivial⟩),Zc.mk rfl ⟨x.flt,At.own (λ _ h=>h) (by exact ⟨rfl,trivial⟩),some ⟨f,0,none⟩,some ⟨q,0,none⟩,λ w' h=>?_,?_⟩⟩
 ·have hm1:Sat R (MapAt m1 MF::VC.tru::pts a (Zr x)::Zj (A2++C2)::Zf f pl.r::ZC q pl.q::Zi (A++C)::pts p (Zg b m1 m2)::MapAt m2 MB::cmC b5 c sg sp::Zq b6::Hs) w':=Sat.arr h
  have:=MapAt.look ZsB hm1 x.flt false;rw [hget] at this;exact this
 refine Zb hw λ b7 w hw=>⟨hw.absorb,?_⟩;refine Za hw (by kernel_rfl) rfl (by simp [Value.cells]) λ w hw=>?_;have hw:=hw.re (fqC b7 f q);have hw:Sat R (Zf f pl.r::ZC q pl.q::pts a (Zr x)::pts p (Zg b m1 m2)::MapAt m1 MF::MapAt m2 MB::Zi (A++C)::Zj (A2++C2)::Zq b6::fqC b7 f q::cmC b5 c sg sp::Hs) w:=by
  have hw:Sat R (fqC b7 f q::pts a (Zr x)::Zj (A2++C2)::Zf f pl.r::ZC q pl.q::Zi (A++C)::pts p (Zg b m1 m2)::MapAt m1 MF::MapAt m2 MB::cmC b5 c sg sp::Zq b6::Hs) w:=hw.cons λ _ h=>h.drop;exact hw.arr
 have close:∀ {w},Sat R (Zf f pl.r::ZC q pl.q::pts a (Zr x)::pts p (Zg b m1 m2)::MapAt m1 MF::MapAt m2 MB::Zi (A++C)::Zj (A2++C2)::Zq b6::fqC b7 f q::cmC b5 c sg sp::Hs) w->Sat R (Zp p b::Hs) w:=λ {w} hw=>
  (Zd2 hl hMF hMB hw).cons λ _ h=>h.drop.drop.drop
 refine Zc.mk rfl ⟨x.state,oA hw,c.kind,oA hw,?_⟩;refine Br.e (λ h3=>?_) (λ h3=>Br.e (λ h4=>?_) (λ h4=>Br.e (λ h5=>?_) (λ h5=>Br.e (λ h6=>?_) (λ h6=>by omega))))
 ·-- confirmed
  refine Zc.mk rfl ⟨x.state,oA hw,?_⟩;refine Zbx (λ h=>.inl ⟨rfl,?_⟩) (λ h=>.inr ⟨_,rfl,hX 7 w (hone.2 ?_) (close hw)⟩)
  rotate_left
  ·have h1:¬ x.state=1:=by simpa using h
   rw [if_pos h3,if_pos h1]
  have h1:x.state=1:=by simpa using h
  have hres:=hone.2 (by rw [if_pos h3,if_neg (λ h=>h h1)]);refine Zc.mk rfl ?_;have hw:Sat R (pts a (Zr x)::Zf f pl.r::ZC q pl.q::pts p (Zg b m1 m2)::MapAt m1 MF::MapAt m2 MB::Zi (A++C)::Zj (A2++C2)::Zq b6::fqC b7 f q::cmC b5 c sg sp::Hs) w:=hw.arr;refine Za hw (by kernel_rfl) rfl (by simp [Value.cells]) λ w hw=>Zc.mk rfl ?_;refine Za hw (by kernel_rfl) rfl (by rw [Zbv];simp [Value.cells]) λ w hw=>?_;have hw:=hw.re (pts a (Zr (Zdb x)));have hw:Sat R (Zf f pl.r::ZC q pl.q::pts a (Zr (Zdb x))::pts p (Zg b m1 m2)::MapAt m1 MF::MapAt m2 MB::Zi (A++C)::Zj (A2++C2)::Zq b6::fqC b7 f q::cmC b5 c sg sp::Hs) w:=hw.arr;have hl2:ZaP { b with L:=Zej Bk.id x.id Zdb b.L } (A++(f,q,pl)::C) (A2++(a,Zdb x)::C2):=⟨hl.fl,hl.bset k.ids Zdb⟩;refine ZgP (Hs:=fqC b7 f q::cmC b5 c sg sp::Hs) (b:={ b with L:=Zej Bk.id x.id Zdb b.L }) (x:=Zdb x) (MB:=MB) hl2 hMF (by rw [hMB];exact (Zr9 (show (Zdb x).id=x.id from rfl)).symm) hid hm (λ sl sb w' hw=>?_) hw
  have hfin:=hK sl sb w';rw [hres] at hfin;exact hfin (hw.cons λ _ h=>h.cons λ _ h=>h.cons λ _ h=>h.drop.drop)
 ·-- cancelled
  have hres:=hone.2 (by rw [if_neg h3,if_pos h4]);have hcore:=ZlF k hxL;obtain ⟨pl2,hp2⟩:∃ pl2:Pl,pl2=if x.state=3 then Zu2 x.id pl else ZfP x.id pl:=⟨_,rfl⟩
  refine ⟨λ w=>Sat R (Zf f pl2.r::ZC q pl2.q::pts a (Zr x)::pts p (Zg b m1 m2)::MapAt m1 MF::MapAt m2 MB::Zi (A++C)::Zj (A2++C2)::Zq b6::fqC b7 f q::cmC b5 c sg sp::Hs) w,?_,?_⟩
  ·refine Br.e (λ hs=>?_) (λ hs=>?_)
   ·rw [if_pos hs] at hp2
    refine Zo hw λ w hw=>⟨some ⟨q,0,none⟩,At.own (λ _ h=>h) (by exact ⟨rfl,trivial⟩),Zc.mk rfl ⟨x.id,At.own (λ _ h=>h) (by exact ⟨rfl,trivial⟩),?_⟩⟩;refine (Zgf (by have:=hqok.len;omega) hw.swap).use ?_;clear hw;rintro _ w ⟨rfl,hw⟩;rw [ZsZ] at hw;refine .inl ⟨_,rfl,?_⟩;rw [hp2];exact hw.swap
   ·rw [if_neg hs] at hp2
    refine Zo hw λ w hw=>⟨some ⟨f,0,none⟩,At.own (λ _ h=>h) (by exact ⟨rfl,trivial⟩),Zc.mk rfl ⟨x.id,At.own (λ _ h=>h) (by exact ⟨rfl,trivial⟩),?_⟩⟩;refine (Zli hw).use ?_;clear hw;rintro _ w ⟨rfl,hw⟩;refine .inl ⟨_,rfl,?_⟩;rw [hp2];exact hw
  clear hw;rintro _ w hw;have hn2:pl2.n=x.flt:=by
   rw [hp2];split
   ·exact hm.num
   ·exact (Zd5 (r:=pl.r) (o:=x.id)).1.trans hm.num
  have hMF2:MF=(A++(f,q,pl2)::C).map flV:=by rw [hMF];exact ZeK hn2 hm.num
  have hl2:ZaP (Zkj b x) (A++(f,q,pl2)::C) (A2++C2):=by
   refine ⟨?_,?_⟩
   ·have h1:=hl.fset hm (Zu2 x.id)
    have h2:=hl.fset hm (ZfP x.id);unfold Zkj;rw [hp2];split
    ·exact h1
    ·exact h2
   ·have h1:=hl.bdel k.ids
    unfold Zkj;split
    ·exact h1
    ·exact h1
  have hat2:(Zkj b x).at x.flt=some pl2:=(ZhN hcore).2 ⟨hl2.fl.mem_iff.1 (List.mem_map.2 ⟨(f,q,pl2),by simp,rfl⟩),hn2⟩;have hgc:Zg (Zkj b x) m1 m2=Zg b m1 m2:=by
   unfold Zkj;split<;>rfl
  refine Zo hw λ w hw=>Zc.mk rfl ⟨some m2,At.own (λ _ h=>h) (by exact ⟨rfl,trivial⟩),Zc.mk rfl ⟨x.id,At.own (λ _ h=>h) (by exact ⟨rfl,trivial⟩),?_⟩⟩;have hw:Sat R (MapAt m2 MB::Zf f pl2.r::ZC q pl2.q::pts a (Zr x)::pts p (Zg b m1 m2)::MapAt m1 MF::Zi (A++C)::Zj (A2++C2)::Zq b6::fqC b7 f q::cmC b5 c sg sp::Hs) w:=hw.arr;refine MapAt.del Zub hw x.id λ w hw=>?_;rw [hMB,Zr8 hbm] at hw;refine Zc.mk rfl ⟨x.flt,oA hw,?_⟩;have hw:Sat R (Zf f pl2.r::ZC q pl2.q::Zi (A++C)::MapAt m2 ((A2++C2).map bkV)::pts a (Zr x)::pts p (Zg (Zkj b x) m1 m2)::MapAt m1 ((A++(f,q,pl2)::C).map flV)::Zj (A2++C2)::Zq b6::fqC b7 f q::cmC b5 c sg sp::Hs) w:=by
   rw [hgc,<-hMF2];exact hw.arr
  have hw:=Za7.2 hw;have hw:Sat R (pts p (Zg (Zkj b x) m1 m2)::MapAt m1 ((A++(f,q,pl2)::C).map flV)::MapAt m2 ((A2++C2).map bkV)::Zi (A++(f,q,pl2)::C)::Zj (A2++C2)::pts a (Zr x)::Zq b6::fqC b7 f q::cmC b5 c sg sp::Hs) w:=hw.arr;refine (Zdw hcore hl2 hat2 hw).use ?_;clear hw;rintro _ w ⟨rfl,fs3,xs3,hl3,hf3,hb3,hw⟩;refine .inl ⟨rfl,c.pnr,oA hw,?_⟩;have hw:Sat R (Zq b6::pts p (Zg (ZQ x.flt (Zkj b x)) m1 m2)::MapAt m1 ((A++(f,q,pl2)::C).map flV)::MapAt m2 ((A2++C2).map bkV)::Zi fs3::Zj xs3::pts a (Zr x)::fqC b7 f q::cmC b5 c sg sp::Hs) w:=hw.arr;refine Za hw (by kernel_rfl) rfl (by simp [Value.cells]) λ w hw=>?_;have hw:=hw.re (rpC b6 ⟨0,c.pnr,0,0,0,0,0,[],[]⟩ Z2 Z2);refine ⟨_,_,_,_,_,_,_,Z2,Z2,At.own (eqS hw) (by exact ⟨rfl,rfl,rfl,rfl,rfl,rfl,rfl,rfl,rfl,trivial⟩),?_⟩;have hfin:=hK Z2 Z2 w;rw [hres] at hfin;refine hfin (Own.nil (Own.nil ?_));rw [<-hf3,<-hb3] at hw;have hw:Sat R (pts p (Zg (ZQ x.flt (Zkj b x)) m1 m2)::MapAt m1 (fs3.map flV)::MapAt m2 (xs3.map bkV)::Zi fs3::Zj xs3::pts a (Zr x)::fqC b7 f q::cmC b5 c sg sp::Hs) w:=hw.drop;exact (Sat.book.2 ⟨m1,m2,fs3,xs3,hl3,hw⟩).cons λ _ h=>h.drop.drop.drop
 ·-- a seat
  refine Zbx (λ h=>.inl ⟨rfl,?_⟩) (λ h=>.inr ⟨_,rfl,hX 7 w (hone.2 ?_) (close hw)⟩)
  rotate_left
  ·have h1:x.state=3:=by simpa using h
   rw [if_neg h3,if_neg h4,if_pos h1]
  have h1:¬ x.state=3:=by simpa using h
  refine ZE (Sat R [pts a (Zr x),fqC b7 f q,cmC b5 c sg sp,VC.tru]) hw (λ w hw=>?_) λ w hw=>?_
  ·exact (hw.arr (Hs':=pts a (Zr x)::fqC b7 f q::cmC b5 c sg sp::Zf f pl.r::ZC q pl.q::pts p (Zg b m1 m2)::MapAt m1 MF::MapAt m2 MB::Zi (A++C)::Zj (A2++C2)::Zq b6::Hs)).cons λ _ h=>h.cons λ _ h=>h.restTru2
  refine ⟨some ⟨f,0,none⟩,At.own (λ _ h=>h) (by exact ⟨rfl,trivial⟩),Zc.mk rfl ⟨x.id,At.own (λ _ h=>h) (by exact ⟨rfl,trivial⟩),c.lab,At.own (λ _ h=>h) (by exact ⟨rfl,trivial⟩),?_⟩⟩;refine (ZqX (by omega) hw).use ?_;clear hw;rintro _ w ⟨rfl,hw⟩;refine .inl ⟨_,rfl,?_⟩;refine ZeE (λ h0=>.inl ⟨rfl,?_,?_⟩) (λ h0=>.inr ⟨_,rfl,hX _ w (hone.2 (by rw [if_neg h3,if_neg h4,if_neg h1,if_pos h5,if_pos h0])) ?_⟩)
  rotate_left 2
  ·rw [ZsU h0] at hw
   exact close hw
  ·exact (hw.arr (Hs':=pts a (Zr x)::fqC b7 f q::cmC b5 c sg sp::Zf f (Zad pl.r x.id c.lab).1::ZC q pl.q::pts p (Zg b m1 m2)::MapAt m1 MF::MapAt m2 MB::Zi (A++C)::Zj (A2++C2)::Zq b6::Hs)).cons λ _ h=>h.cons λ _ h=>h.restTru2
  have hres:=hone.2 (by rw [if_neg h3,if_neg h4,if_neg h1,if_pos h5,if_neg (λ h=>h h0)]);have hn2:(ZcT (Zad pl.r x.id c.lab).1 pl).n=x.flt:=(Zp0 hg h0).num.trans hm.num;have hl2:ZaP (b.put x.flt (ZcT (Zad pl.r x.id c.lab).1) b.L) (A++(f,q,ZcT (Zad pl.r x.id c.lab).1 pl)::C) (A2++(a,x)::C2):=⟨hl.fset hm (ZcT (Zad pl.r x.id c.lab).1),hl.bk⟩;refine ZgP (Hs:=fqC b7 f q::cmC b5 c sg sp::Hs) hl2 (by rw [hMF];exact (ZeK hm.num hn2).symm) hMB hid ⟨hn2,hm.a,hm.c⟩ (λ sl sb w' hw=>?_) hw;have hfin:=hK sl sb w';rw [hres] at hfin;exact hfin (hw.cons λ _ h=>h.cons λ _ h=>h.cons λ _ h=>h.drop.drop)
 ·-- seats of themselves
  refine Zbx (λ h=>.inl ⟨rfl,?_⟩) (λ h=>.inr ⟨_,rfl,hX 7 w (hone.2 ?_) (close hw)⟩)
  rotate_left
  ·have h1:x.state=3:=by simpa using h
   rw [if_neg h3,if_neg h4,if_pos h1]
  have h1:¬ x.state=3:=by simpa using h
  refine Zo hw λ w hw=>⟨some ⟨f,0,none⟩,At.own (λ _ h=>h) (by exact ⟨rfl,trivial⟩),Zc.mk rfl ⟨x.id,At.own (λ _ h=>h) (by exact ⟨rfl,trivial⟩),?_⟩⟩;refine (ZqY hw).use ?_;clear hw;rintro _ w ⟨t,rfl,hw⟩;have hw:=hw.drop;refine .inl ⟨_,_,rfl,?_⟩;refine ZeE (λ h0=>.inl ⟨rfl,?_⟩) (λ h0=>.inr ⟨_,rfl,hX _ w (hone.2 (by rw [if_neg h3,if_neg h4,if_neg h1,if_neg h5,if_pos h0])) ?_⟩)
  rotate_left
  ·rw [Zx8 h0] at hw
   exact close hw
  have hres:=hone.2 (by rw [if_neg h3,if_neg h4,if_neg h1,if_neg h5,if_neg (λ h=>h h0)]);have hn2:(ZcT (Zap pl.r x.id).1 pl).n=x.flt:=(Zsq h0).num.trans hm.num;have hl2:ZaP (b.put x.flt (ZcT (Zap pl.r x.id).1) b.L) (A++(f,q,ZcT (Zap pl.r x.id).1 pl)::C) (A2++(a,x)::C2):=⟨hl.fset hm (ZcT (Zap pl.r x.id).1),hl.bk⟩;refine ZgP (Hs:=fqC b7 f q::cmC b5 c sg sp::Hs) hl2 (by rw [hMF];exact (ZeK hm.num hn2).symm) hMB hid ⟨hn2,hm.a,hm.c⟩ (λ sl sb w' hw=>?_) hw;have hfin:=hK sl sb w';rw [hres] at hfin;exact hfin (hw.cons λ _ h=>h.cons λ _ h=>h.cons λ _ h=>h.drop.drop)
end
section
open Go Go.VC Tryz
open Classical
variable {R:Cx} {Hs Rest:List HP} {w:World}
theorem Zm6 {l m:List Int} (hp:l.Perm m) (h:m.Pairwise λ a b=>a<b):Zgp l=m:=by
 have tr:∀ a b c:Int,decide (a<=b)=true->decide (b<=c)=true->decide (a<=c)=true:=λ a b c h1 h2=>by simp only [decide_eq_true_eq] at *;omega
 have to:∀ a b:Int,(decide (a<=b)||decide (b<=a))=true:=λ a b=>by simp only [Bool.or_eq_true,decide_eq_true_eq];omega
 exact List.Perm.eq_of_pairwise (λ a b _ _ h1 h2=>by simp only [decide_eq_true_eq] at h1 h2;omega) (List.pairwise_mergeSort tr to l) (h.imp λ hab=>by simp only [decide_eq_true_eq];omega) ((List.mergeSort_perm l _).trans hp)
theorem Zx4 {b:ZM} {fs:List FE} {xs:List BE} (hl:ZaP b fs xs):(xs.map bkV).map (·.1)=b.L.map Bk.id:=by
 rw [<-hl.bk,List.map_map,List.map_map];rfl
theorem ZvJ {b:ZM} {fs:List FE} {xs:List BE} (hl:ZaP b fs xs):((fs.map flV).map (·.1)).Perm (b.fl.map Pl.n):=by
 have:=hl.fl.map Pl.n;rw [List.map_map] at this ⊢;exact this
theorem Znb {b:ZM} (k:Core b):(b.L.map Bk.id).Pairwise λ a b=>a<b:=List.pairwise_map.2 k.ids
theorem ZkK {b:ZM} (k:Core b):(b.fl.map Pl.n).Pairwise λ a b=>a<b:=List.pairwise_map.2 k.nums
theorem Zyz {l:List Int} (h:l.Pairwise λ a b=>a<b):l.Nodup:=h.imp λ hab=>by omega
theorem Zh9 {m:Nat} {b:ZM} {fs:List FE} {xs:List BE} {K:Sl->World->Prop} (k:Core b) (hl:ZaP b fs xs) (hw:Sat R (MapAt m (xs.map bkV)::Hs) w)
  (kk:∀ s w',Sat R (Own s 3 (Zd (b.L.map Bk.id))::MapAt m (xs.map bkV)::Hs) w'->K s w'):
  Calls prog 55 #[.map (some m)] w λ e w1=>∃ t:Value,e=.returned t/\Calls prog 50 #[t] w1 λ e w2=>∃ t:Sl,e=.returned (.slice t.a t.len t.cap)/\K t w2:=by
 have hk:=Zx4 hl;obtain ⟨l,c,hs,hst,hp⟩:=MapAt.iff.1 hw;obtain ⟨D0,hown,hsz,hperm⟩:=Ze9 hs hst (by rw [hk];exact Zyz (Znb k)) (λ i hi=>by
  rw [hk] at hi;obtain ⟨x,hx,rfl⟩:=List.mem_map.1 hi;have:=(k.each x hx).id;have:=k.next;omega) (by rw [List.length_map,ZnX hl];have:=k.many;omega) hp.at
 refine (callsIn_wide.1 (Tryz.maps_Keys_55 (some m) w)).mono ?_;rintro _ _ ⟨rfl,rfl⟩;refine ⟨_,rfl,?_⟩;refine (callsIn_wide.1 (Tryz.slices_Sorted_keys_50_55 m _ D0 _ w hown (by unfold maxLen;omega) (by omega))).mono ?_;rintro _ w' ⟨v,ss,rfl,hS,hrow,hnil,hb⟩;have hw1:Sat R (MapAt m (xs.map bkV)::Hs) (w.alloc (.cells #[.map (some m)] 78)):=(Sat.alloc _ hw).drop;obtain ⟨s,rfl,h3⟩:=Sat.ownsRow hw1 hb hrow;refine ⟨s,rfl,kk s _ ?_⟩;have e:=Zm6 (List.Perm.of_eq hk) (Znb k);rw [<-ZdQ (hperm ss hS)] at e;rw [<-e];exact h3
theorem Zh8 {m:Nat} {b:ZM} {fs:List FE} {xs:List BE} {K:Sl->World->Prop} (k:Core b) (hl:ZaP b fs xs) (hw:Sat R (MapAt m (fs.map flV)::Hs) w)
  (kk:∀ s w',Sat R (Own s 3 (Zd (b.fl.map Pl.n))::MapAt m (fs.map flV)::Hs) w'->K s w'):
  Calls prog 51 #[.map (some m)] w λ e w1=>∃ t:Value,e=.returned t/\Calls prog 50 #[t] w1 λ e w2=>∃ t:Sl,e=.returned (.slice t.a t.len t.cap)/\K t w2:=by
 have hk:=ZvJ hl;obtain ⟨l,c,hs,hst,hp⟩:=MapAt.iff.1 hw;obtain ⟨D0,hown,hsz,hperm⟩:=Ze9 hs hst (hk.nodup_iff.2 (Zyz (ZkK k))) (λ i hi=>by
  obtain ⟨x,hx,rfl⟩:=List.mem_map.1 (hk.mem_iff.1 hi);have:=(k.good x hx).num;show -1000000000<=x.r.num/\x.r.num<=1000000000;omega) (by rw [List.length_map,ZnJ hl];have:=k.few;omega) hp.at
 refine (callsIn_wide.1 (Tryz.maps_Keys_51 (some m) w)).mono ?_;rintro _ _ ⟨rfl,rfl⟩;refine ⟨_,rfl,?_⟩;refine (callsIn_wide.1 (Tryz.slices_Sorted_keys_50_51 m _ D0 _ w hown (by unfold maxLen;omega) (by omega))).mono ?_;rintro _ w' ⟨v,ss,rfl,hS,hrow,hnil,hb⟩;have hw1:Sat R (MapAt m (fs.map flV)::Hs) (w.alloc (.cells #[.map (some m)] 77)):=(Sat.alloc _ hw).drop;obtain ⟨s,rfl,h3⟩:=Sat.ownsRow hw1 hb hrow;refine ⟨s,rfl,kk s _ ?_⟩;have e:=Zm6 hk (ZkK k);rw [<-ZdQ (hperm ss hS)] at e;rw [<-e];exact h3
theorem Zuu {g1 g2:FuncId} {m:Nat} {K:Sl->World->Prop} {E1 E2:Ending->World->Prop}
  (h:Calls prog g1 #[.map (some m)] w λ e w1=>∃ t:Value,e=.returned t/\Calls prog g2 #[t] w1 λ e w2=>∃ t:Sl,e=.returned (.slice t.a t.len t.cap)/\K t w2):
  Calls prog g1 #[.map (some m)] w λ e w1=>(∃ t:Value,(e=.returned t)/\Calls prog g2 #[t] w1 λ e w2=>(∃ t:Sl,(e=.returned (.slice t.a t.len t.cap))/\K t w2)\/E2 e w2)\/E1 e w1:=by
 refine h.mono ?_;rintro _ w ⟨t,rfl,h⟩;refine .inl ⟨t,rfl,h.mono ?_⟩;rintro _ w ⟨t,rfl,h⟩;exact .inl ⟨t,rfl,h⟩
theorem Zqy {p:Nat} {b:ZM} {n:Int} (k:Core b) (hn:n∈b.fl.map Pl.n) (hw:Sat R (Zp p b::Hs) w):
  Zm prog 114 #[.pointer (some ⟨p,0,none⟩),.int .i64 n] w λ v w'=>v=.tuple #[]/\Sat R (Zp p (ZQ n b)::Hs) w':=by
 obtain ⟨pl,hpl,hpn⟩:=List.mem_map.1 hn;obtain ⟨m1,m2,fs,xs,hl,hw⟩:=Sat.book.1 hw;refine (Zdw k hl ((ZhN k).2 ⟨hpl,hpn⟩) hw).use ?_;clear hw;rintro _ w ⟨rfl,fs',xs',hl',h1,h2,hw⟩;refine ⟨_,rfl,rfl,Sat.book.2 ⟨m1,m2,fs',xs',hl',?_⟩⟩;rw [h1,h2];exact hw
structure ExpI (b:ZM) (t:Int) (j:Nat) (b':ZM):Prop where
 res:Zdk b t=ZdJ (b.L.drop j) b'
 core:Core b'
 now:b'.now=t
 left:∀ x∈b.L.drop j,x∈b'.L
structure ZAZ (ns:List Int) (t:Int) (B:ZM) (j:Nat) (b':ZM):Prop where
 res:Zci ns B=Zci (ns.drop j) b'
 core:Core b'
 now:b'.now=t
 nums:b'.fl.map Pl.n=ns
set_option maxHeartbeats 4000000 in
theorem Zpd {p:Nat} {b:ZM} {c:Cm} {sg sp:Sl} (k:Core b) (hr:ZaO c) (hw:Sat R (Zp p b::Hs) w):
  ZaX prog 44 #[.pointer (some ⟨p,0,none⟩),.agg #[.int .i64 c.kind,.string c.pnr,.int .i64 c.flt,.int .i64 c.cls,.int .i64 c.many,.int .i64 c.time,.float .f64 c.sc,.string c.lab,.int .i64 c.rows,.slice sg.a sg.len sg.cap,.slice sp.a sp.len sp.cap]] w
   (λ ch w'=>∃ e,ch=Zgj e/\ZbG b c=(b,ZbL e)/\Sat R (Zp p b::Hs) w')
   (λ v w'=>∃ sl sb:Sl,v=.agg (rpV (ZbG b c).2 sl sb).toArray/\Sat R (Own sl 3 (Zd (ZbG b c).2.left)::Own sb 9 ((ZbG b c).2.labs.map Value.string)::Zp p (ZbG b c).1::Hs) w'):=by
 apply Zzj
 suffices H:∀ (X:List PanicEntry->World->Prop) (K:Value->World->Prop),(∀ e w',ZbG b c=(b,ZbL e)->Sat R (Zp p b::Hs) w'->X (Zgj e) w')->
   (∀ w',¬ c.time<b.now->Sat R (Zp p (ZbG b c).1::Hs) w'->K (.agg (rpV ⟨0,emS,0,0,0,0,c.time,[],[]⟩ Z2 Z2).toArray) w')->B44 (some ⟨p,0,none⟩) c.kind c.pnr c.flt c.cls c.many c.time c.sc c.lab c.rows sg sp X K w from
  H _ _ (λ e w' h1 h2=>⟨e,rfl,h1,h2⟩) (λ w' h1 h2=>by
   have e:(ZbG b c).2=⟨0,emS,0,0,0,0,c.time,[],[]⟩:=by unfold ZbG;rw [if_neg h1]
   rw [e];exact ⟨Z2,Z2,rfl,Own.nil (Own.nil h2)⟩)
 intro X K hX hK;have htm:=hr.time;obtain ⟨m1,m2,fs,xs,hl,hw⟩:=Sat.book.1 hw;refine Zb hw λ b3 w hw=>Zb hw λ b4 w hw=>?_;have hw:Sat R (pts p (Zg b m1 m2)::MapAt m1 (fs.map flV)::MapAt m2 (xs.map bkV)::Zi fs::Zj xs::Zq b4::cmC b3 c sg sp::Hs) w:=by
  have hw:Sat R (Zq b4::cmC b3 c sg sp::pts p (Zg b m1 m2)::MapAt m1 (fs.map flV)::MapAt m2 (xs.map bkV)::Zi fs::Zj xs::Hs) w:=hw;exact hw.arr
 refine Zo hw λ w hw=>⟨c.time,At.own (λ _ h=>h) (by exact ⟨rfl,trivial⟩),Zc.mk rfl ⟨b.now,At.own (λ _ h=>h) (by exact ⟨rfl,trivial⟩),?_⟩⟩;refine Zbx (λ h=>.inl ⟨rfl,hw,?_⟩) (λ h=>.inr ⟨_,rfl,hX 7 w ?_ ((Sat.book.2 ⟨m1,m2,fs,xs,hl,hw⟩).cons λ _ h=>h.drop.drop)⟩)
 rotate_left
 ·have:=of_decide_eq_false h
  unfold ZbG;rw [if_pos (by omega)]
 have ht:¬ c.time<b.now:=by have:=of_decide_eq_true h;omega
 have hclock:(ZbG b c).1=Zci (b.fl.map Pl.n) (Zdk b c.time):=by unfold ZbG;rw [if_neg ht]
 refine ⟨c.time,oA hw,Zc.mk rfl ?_⟩;rw [Zy];refine Za hw (by kernel_rfl) rfl (by simp [Value.cells]) λ w hw=>?_;have k1:=ZnV k htm;obtain ⟨b1,hb1⟩:∃ b1,b1={ b with now:=c.time }:=⟨_,rfl⟩;have hw:Sat R (pts p (Zg b1 m1 m2)::MapAt m1 (fs.map flV)::MapAt m2 (xs.map bkV)::Zi fs::Zj xs::Zq b4::cmC b3 c sg sp::Hs) w:=by
  rw [hb1];exact hw.re (pts p (Zg { b with now:=c.time } m1 m2))
 have hl1:ZaP b1 fs xs:=by rw [hb1];exact ⟨hl.fl,hl.bk⟩
 rw [<-hb1] at k1;have hL1:b1.L=b.L:=by rw [hb1]
 refine Zc.mk rfl ⟨some m2,oA hw,?_⟩;have hw:Sat R (MapAt m2 (xs.map bkV)::pts p (Zg b1 m1 m2)::MapAt m1 (fs.map flV)::Zi fs::Zj xs::Zq b4::cmC b3 c sg sp::Hs) w:=hw.arr;refine Zuu (Zh9 k1 hl1 hw ?_);clear hw;intro s w hw;have hw:Sat R (Own s 3 (Zd (b.L.map Bk.id))::Zp p b1::Zq b4::cmC b3 c sg sp::Hs) w:=by
  rw [hL1] at hw;refine hw.cons λ _ hw=>Sat.book.2 ⟨m1,m2,fs,xs,hl1,?_⟩;exact hw.arr
 obtain ⟨ids,hids⟩:∃ ids,ids=b.L.map Bk.id:=⟨_,rfl⟩;have hil:ids.length=b.L.length:=by rw [hids,List.length_map]
 rw [<-hids] at hw;have hLm:=k.many;refine ⟨λ t w=>∃ (j:Nat) (b':ZM),t=j/\j<=b.L.length/\ExpI b c.time j b'/\Sat R (Own s 3 (Zd ids)::Zp p b'::Zq b4::cmC b3 c sg sp::Hs) w,λ t _=>b.L.length - t.toNat,⟨0,b1,rfl,Nat.zero_le _,⟨by rw [hb1];rfl,k1,by rw [hb1],λ x hx=>by rw [hL1];exact hx⟩,hw⟩,?_⟩;clear hw;rintro _ _ w ⟨j,b',rfl,hj,hi,hw⟩;have hsl:=Own.len hw;rw [List.length_map,hil] at hsl;refine Br.d (λ hlt=>?_) (λ hge=>?_)
 ·have hjl:j<b.L.length:=by omega
  obtain ⟨x,hx⟩:∃ x,x=b.L[j]:=⟨_,rfl⟩;have hdrop:b.L.drop j=x::b.L.drop (j + 1):=by rw [hx];exact List.drop_eq_getElem_cons hjl
  have hget:∀ h:j<ids.length,ids[j]=x.id:=λ h=>by subst hids;rw [List.getElem_map,hx]
  refine Own.ix hw (eqS hw) j rfl (by omega) ?_;rw [hget];obtain ⟨m1,m2,fs,xs,hl,hw⟩:=Sat.book.1 hw.swap;have hxL:x∈b'.L:=hi.left x (by rw [hdrop];simp);obtain ⟨pl,hat⟩:=hi.core.at_of hxL;obtain ⟨A,f,q,C,rfl,hm⟩:=ZcI hl hi.core.nums hat;obtain ⟨A2,a,C2,rfl,hbm⟩:=Zfn hl hi.core.ids hxL;obtain ⟨MF,hMF⟩:∃ M,M=(A++(f,q,pl)::C).map flV:=⟨_,rfl⟩;obtain ⟨MB,hMB⟩:∃ M,M=(A2++(a,x)::C2).map bkV:=⟨_,rfl⟩;have hgetf:ZH x.flt MF=some (.agg #[.pointer (some ⟨f,0,none⟩),.pointer (some ⟨q,0,none⟩)]):=by rw [hMF];exact ZhA hm
  have hgetb:ZH x.id MB=some (.pointer (some ⟨a,0,none⟩)):=by rw [hMB];exact ZlI hbm
  rw [<-hMF,<-hMB] at hw;have hw:Sat R (Zi (A++(f,q,pl)::C)::Zj (A2++(a,x)::C2)::pts p (Zg b' m1 m2)::MapAt m1 MF::MapAt m2 MB::Own s 3 (Zd ids)::Zq b4::cmC b3 c sg sp::Hs) w:=hw.arr;have hw:=Za7.1 hw;have hw:Sat R (Zj (A2++(a,x)::C2)::Zf f pl.r::ZC q pl.q::Zi (A++C)::pts p (Zg b' m1 m2)::MapAt m1 MF::MapAt m2 MB::Own s 3 (Zd ids)::Zq b4::cmC b3 c sg sp::Hs) w:=hw.arr;have hw:=Zcv.1 hw;have hw:Sat R (Zf f pl.r::ZC q pl.q::pts a (Zr x)::pts p (Zg b' m1 m2)::MapAt m1 MF::MapAt m2 MB::Zi (A++C)::Zj (A2++C2)::Own s 3 (Zd ids)::Zq b4::cmC b3 c sg sp::Hs) w:=hw.arr;refine Zc.mk rfl ⟨some m2,oA hw,some ⟨a,0,none⟩,λ w' e=>?_,?_⟩
  ·rw [show w'=w from e]
   have hm1:Sat R (MapAt m2 MB::Zf f pl.r::ZC q pl.q::pts a (Zr x)::pts p (Zg b' m1 m2)::MapAt m1 MF::Zi (A++C)::Zj (A2++C2)::Own s 3 (Zd ids)::Zq b4::cmC b3 c sg sp::Hs) w:=hw.arr;have:=MapAt.look Zub hm1 x.id false;rw [hgetb] at this;exact this
  refine ⟨λ t w=>t=old b'.now x/\Sat R (Zf f pl.r::ZC q pl.q::pts a (Zr x)::pts p (Zg b' m1 m2)::MapAt m1 MF::MapAt m2 MB::Zi (A++C)::Zj (A2++C2)::Own s 3 (Zd ids)::Zq b4::cmC b3 c sg sp::Hs) w,?_,?_⟩
  ·refine Zo hw λ w hw=>Zc.mk rfl ⟨x.state,At.own (λ _ h=>h) (by exact ⟨rfl,trivial⟩),Br.e (λ h1=>?_) (λ h1=>?_)⟩
   ·refine Zc.mk rfl ⟨x.till,At.own (λ _ h=>h) (by exact ⟨rfl,trivial⟩),Zc.mk rfl ⟨b'.now,At.own (λ _ h=>h) (by exact ⟨rfl,trivial⟩),?_,hw⟩⟩
    unfold old;rw [decide_eq_true h1,Bool.true_and]
   ·refine ⟨?_,hw⟩
    unfold old;rw [decide_eq_false h1,Bool.false_and]
  clear hw;rintro _ _ w ⟨rfl,hw⟩;have hexp:∀ b2,(if old b'.now x then Zfg b' x else b')=b2->Zdk b c.time=ZdJ (b.L.drop (j + 1)) b2:=λ b2 e=>by
   rw [hi.res,hdrop,<-e];rfl
  have hwr:IntKind.i64.wrap ((j:Int) + 1)=((j + 1:Nat):Int):=by rw [Zh (by omega) (by omega)];omega
  rw [hwr];cases hold:old b'.now x with
  |false=>
   rw [hold] at hexp;refine Br.f rfl ⟨⟨j + 1,b',rfl,hjl,⟨hexp _ rfl,hi.core,hi.now,λ y hy=>hi.left y (by rw [hdrop];exact List.mem_cons_of_mem _ hy)⟩,?_⟩,by dsimp only;omega⟩;have hw:=Zd2 hl hMF hMB hw;exact hw.swap
  |true=>
   rw [hold] at hexp;have hst:x.state=1:=by
    unfold old at hold;simp only [Bool.and_eq_true,decide_eq_true_eq] at hold;exact hold.1
   refine Br.t rfl ?_;refine ZE (Sat R [pts p (Zg b' m1 m2),pts a (Zr x),MapAt m1 MF,VC.tru]) hw (λ w hw=>?_) λ w hw=>?_
   ·exact (hw.arr (Hs':=pts p (Zg b' m1 m2)::pts a (Zr x)::MapAt m1 MF::Zf f pl.r::ZC q pl.q::MapAt m2 MB::Zi (A++C)::Zj (A2++C2)::Own s 3 (Zd ids)::Zq b4::cmC b3 c sg sp::Hs)).cons λ _ h=>h.cons λ _ h=>h.restTru2
   refine Zc.mk rfl ⟨some m1,At.own (λ _ h=>h) (by exact ⟨rfl,trivial⟩),Zc.mk rfl ⟨x.flt,At.own (λ _ h=>h) (by exact ⟨rfl,trivial⟩),some ⟨f,0,none⟩,some ⟨q,0,none⟩,λ w' h=>?_,?_⟩⟩
   ·have hm1:Sat R (MapAt m1 MF::pts p (Zg b' m1 m2)::pts a (Zr x)::[VC.tru]) w':=Sat.arr h
    have:=MapAt.look ZsB hm1 x.flt false;rw [hgetf] at this;exact this
   refine (Zli hw).use ?_;clear hw;rintro _ w ⟨rfl,hw⟩;refine .inl ⟨_,rfl,?_,Zc.mk rfl ⟨some m2,oA hw,?_⟩⟩
   ·exact (hw.arr (Hs':=pts p (Zg b' m1 m2)::pts a (Zr x)::MapAt m1 MF::Zf f (ZbR pl.r x.id).1::ZC q pl.q::MapAt m2 MB::Zi (A++C)::Zj (A2++C2)::Own s 3 (Zd ids)::Zq b4::cmC b3 c sg sp::Hs)).cons λ _ h=>h.cons λ _ h=>h.restTru2
   have hw:Sat R (Zf f (ZfP x.id pl).r::ZC q (ZfP x.id pl).q::pts a (Zr x)::pts p (Zg (Zfg b' x) m1 m2)::MapAt m1 MF::MapAt m2 MB::Zi (A++C)::Zj (A2++C2)::Own s 3 (Zd ids)::Zq b4::cmC b3 c sg sp::Hs) w:=hw;have hw:Sat R (MapAt m2 MB::Zf f (ZfP x.id pl).r::ZC q (ZfP x.id pl).q::pts a (Zr x)::pts p (Zg (Zfg b' x) m1 m2)::MapAt m1 MF::Zi (A++C)::Zj (A2++C2)::Own s 3 (Zd ids)::Zq b4::cmC b3 c sg sp::Hs) w:=hw.arr;refine MapAt.del Zub hw x.id λ w hw=>?_;rw [hMB,Zr8 hbm] at hw;have hn2:(ZfP x.id pl).n=x.flt:=(Zd5 (r:=pl.r) (o:=x.id)).1.trans hm.num;have hl2:ZaP (Zfg b' x) (A++(f,q,ZfP x.id pl)::C) (A2++C2):=⟨hl.fset hm (ZfP x.id),hl.bdel hi.core.ids⟩;have hMF2:MF=(A++(f,q,ZfP x.id pl)::C).map flV:=by rw [hMF];exact ZeK hn2 hm.num
   have hlater:∀ y∈b.L.drop (j + 1),y.id≠x.id:=λ y hy=>by
    have h1:=k.ids.sublist (List.drop_sublist j b.L);rw [hdrop] at h1;have:=(List.pairwise_cons.1 h1).1 y hy;omega
   refine ⟨⟨j + 1,Zfg b' x,rfl,hjl,⟨hexp _ rfl,ZhJ hi.core hxL (by omega),hi.now,λ y hy=>?_⟩,?_⟩,by dsimp only;omega⟩
   ·exact Zb8.2 ⟨hi.left y (by rw [hdrop];exact List.mem_cons_of_mem _ hy),hlater y hy⟩
   ·have hw:Sat R (Zf f (ZfP x.id pl).r::ZC q (ZfP x.id pl).q::pts p (Zg (Zfg b' x) m1 m2)::MapAt m1 MF::MapAt m2 ((A2++C2).map bkV)::Zi (A++C)::Zj (A2++C2)::Own s 3 (Zd ids)::pts a (Zr x)::Zq b4::cmC b3 c sg sp::Hs) w:=hw.arr
    have hw:=Zbo hl2 hMF2 rfl hw;exact hw.swap.cons λ _ h=>h.cons λ _ h=>h.drop
 ·have hje:j=b.L.length:=by omega
  subst hje;have htk:Zdk b c.time=b':=by rw [hi.res,List.drop_length];rfl
  obtain ⟨m1,m2,fs,xs,hl,hw⟩:=Sat.book.1 hw.swap;refine Zc.mk rfl ⟨some m1,oA hw,?_⟩;have hw:Sat R (MapAt m1 (fs.map flV)::pts p (Zg b' m1 m2)::MapAt m2 (xs.map bkV)::Zi fs::Zj xs::Own s 3 (Zd ids)::Zq b4::cmC b3 c sg sp::Hs) w:=hw.arr;refine Zuu (Zh8 hi.core hl hw ?_);clear hw;intro s2 w hw;obtain ⟨ns,hns⟩:∃ ns,ns=b'.fl.map Pl.n:=⟨_,rfl⟩;rw [<-hns] at hw;have hnl:ns.length<=8:=by rw [hns,List.length_map];exact hi.core.few
  have hkeys:=(Zkr k htm).2.2.2.2;rw [htk,<-hns] at hkeys;rw [<-hkeys,htk] at hclock;have hw:Sat R (Own s2 3 (Zd ns)::Zp p b'::Own s 3 (Zd ids)::Zq b4::cmC b3 c sg sp::Hs) w:=by
   refine hw.cons λ _ hw=>Sat.book.2 ⟨m1,m2,fs,xs,hl,?_⟩;exact hw.arr
  refine ⟨λ t w=>∃ (j:Nat) (b2:ZM),t=j/\j<=ns.length/\ZAZ ns c.time b' j b2/\Sat R (Own s2 3 (Zd ns)::Zp p b2::Own s 3 (Zd ids)::Zq b4::cmC b3 c sg sp::Hs) w,λ t _=>ns.length - t.toNat,⟨0,b',rfl,Nat.zero_le _,⟨rfl,hi.core,hi.now,hns.symm⟩,hw⟩,?_⟩;clear hw;rintro _ _ w ⟨j,b2,rfl,hj,hi2,hw⟩;have hsl2:=Own.len hw;rw [List.length_map] at hsl2;refine Br.d (λ hlt=>?_) (λ hge=>?_)
  ·have hjl:j<ns.length:=by omega
   obtain ⟨n,hn⟩:∃ n,n=ns[j]:=⟨_,rfl⟩;have hdrop:ns.drop j=n::ns.drop (j + 1):=by rw [hn];exact List.drop_eq_getElem_cons hjl
   refine Own.ix hw (eqS hw) j rfl hjl ?_;rw [<-hn];have hwr:IntKind.i64.wrap ((j:Int) + 1)=((j + 1:Nat):Int):=by rw [Zh (by omega) (by omega)];omega
   rw [hwr];refine (Zqy hi2.core (by rw [hi2.nums,hn];exact List.getElem_mem hjl) hw.swap).use ?_;clear hw;rintro _ w ⟨rfl,hw⟩;have hok:=ZcX (n:=n) hi2.core;refine .inl ⟨rfl,⟨j + 1,ZQ n b2,rfl,hjl,⟨?_,hok.1,hok.2.1.now.trans hi2.now,hok.2.1.keys.trans hi2.nums⟩,hw.swap⟩,by dsimp only;omega⟩;rw [hi2.res,hdrop];rfl
  ·have hje:j=ns.length:=by omega
   subst hje;have hfin:Zci ns b'=b2:=by rw [hi2.res,List.drop_length];rfl
   rw [hfin] at hclock;obtain ⟨m1,m2,fs,xs,hl,hw⟩:=Sat.book.1 hw.swap;refine Zc.mk rfl ⟨b2.now,oA hw,?_⟩;rw [hi2.now];have hw:Sat R (Zq b4::pts p (Zg b2 m1 m2)::MapAt m1 (fs.map flV)::MapAt m2 (xs.map bkV)::Zi fs::Zj xs::Own s2 3 (Zd ns)::Own s 3 (Zd ids)::cmC b3 c sg sp::Hs) w:=hw.arr;refine Za hw (by kernel_rfl) rfl (by simp [Value.cells]) λ w hw=>?_;have hw:=hw.re (rpC b4 ⟨0,emS,0,0,0,0,c.time,[],[]⟩ Z2 Z2);refine ⟨_,_,_,_,_,_,_,Z2,Z2,At.own (eqS hw) (by exact ⟨rfl,rfl,rfl,rfl,rfl,rfl,rfl,rfl,rfl,trivial⟩),hK w ht ?_⟩;rw [hclock];exact (Sat.book.2 ⟨m1,m2,fs,xs,hl,hw.drop⟩).cons λ _ h=>h.drop.drop.drop
end
section
open Go Go.VC Tryz
open Classical
variable {R:Cx} {Hs Rest:List HP} {w:World}
abbrev cmA (c:Cm) (sg sp:Sl):Value:=.agg #[.int .i64 c.kind,.string c.pnr,.int .i64 c.flt,.int .i64 c.cls,.int .i64 c.many,.int .i64 c.time,.float .f64 c.sc,.string c.lab,.int .i64 c.rows,.slice sg.a sg.len sg.cap,.slice sp.a sp.len sp.cap]
abbrev ZzD (b4:Nat) (K:Value->World->Prop) (w:World):Prop:=
 ∃ u:Int,∃ u1:ByteArray,∃ u2:Int,∃ u3:Int,∃ u4:Int,∃ u5:Int,∃ u6:Int,∃ u7:Sl,∃ u8:Sl,(At (λ w'=>w'=w) ⟨b4,0,none⟩ [.int .i64 u,.string u1,.int .i64 u2,.int .i64 u3,.int .i64 u4,.int .i64 u5,.int .i64 u6,.slice u7.a u7.len u7.cap,.slice u8.a u8.len u8.cap])/\
  K (.agg #[.int .i64 u,.string u1,.int .i64 u2,.int .i64 u3,.int .i64 u4,.int .i64 u5,.int .i64 u6,.slice u7.a u7.len u7.cap,.slice u8.a u8.len u8.cap]) w
theorem ZAH {b4:Nat} {r:Rp} {sl sb:Sl} {K:Value->World->Prop} (hw:Sat R (rpC b4 r sl sb::Hs) w) (k:K (.agg (rpV r sl sb).toArray) w):ZzD b4 K w:=
 ⟨_,_,_,_,_,_,_,sl,sb,At.own (eqS hw) (by exact ⟨rfl,rfl,rfl,rfl,rfl,rfl,rfl,rfl,rfl,trivial⟩),k⟩
theorem Zjg {b4:Nat} {r r0:Rp} {sl sb l0 b0:Sl} {K:Value->World->Prop} (hw:Sat R (rpC b4 r0 l0 b0::Hs) w) (k:∀ w',Sat R Hs w'->K (.agg (rpV r sl sb).toArray) w'):
  ∃ t0:Int,∃ t1:ByteArray,∃ t2:Int,∃ t3:Int,∃ t4:Int,∃ t5:Int,∃ t6:Int,∃ t7:Sl,∃ t8:Sl,(Ending.returned (.agg (rpV r sl sb).toArray)=.returned (.agg #[.int .i64 t0,.string t1,.int .i64 t2,.int .i64 t3,.int .i64 t4,.int .i64 t5,.int .i64 t6,.slice t7.a t7.len t7.cap,.slice t8.a t8.len t8.cap]))/\
   ∃ w_6:World,((Instr.storeAt 31 (.pointer ((some ⟨b4,0,none⟩))) (.agg #[.int .i64 t0,.string t1,.int .i64 t2,.int .i64 t3,.int .i64 t4,.int .i64 t5,.int .i64 t6,.slice t7.a t7.len t7.cap,.slice t8.a t8.len t8.cap])).run prog w=.ok () w_6)/\
    Zu prog 39 [.pointer ((some ⟨b4,0,none⟩))] .returning (ZzD b4 K) w_6:=by
 refine ⟨_,_,_,_,_,_,_,sl,sb,rfl,?_⟩;refine Za hw (by kernel_rfl) rfl (by simp [Value.cells]) λ w hw=>?_;have hw:=hw.re (rpC b4 r sl sb);exact ZmK (ZAH hw (k w hw.drop))
theorem ZbS {b4:Nat} {r0:Rp} {l0 b0:Sl} {e:Int} {K:Value->World->Prop} (hw:Sat R (rpC b4 r0 l0 b0::Hs) w) (k:∀ w',Sat R Hs w'->K (.agg (rpV (ZbL e) Z2 Z2).toArray) w'):
  Zu prog 39 [.pointer ((some ⟨b4,0,none⟩))] (.panicking (Zgj e)) (ZzD b4 K) w:=
 ZrV hw λ w hw=>ZAH hw (k w hw.drop)
theorem Zce {b4:Nat} (hw:Sat R (Zq b4::Hs) w):Sat R (rpC b4 ⟨0,emS,0,0,0,0,0,[],[]⟩ Z2 Z2::Hs) w:=hw
def Zn2 (p a:Nat) (b:ZM) (x:Bk) (R:Cx) (Hs:List HP) (w:World):Prop:=∃ (m1 m2:Nat) (fs:List FE) (A2 C2:List BE),ZaP b fs (A2++(a,x)::C2)/\Zsz A2 C2 x/\
 Sat R (pts p (Zg b m1 m2)::MapAt m1 (fs.map flV)::MapAt m2 ((A2++(a,x)::C2).map bkV)::Zi fs::Zj (A2++(a,x)::C2)::Hs) w
theorem Ziv {p:Nat} {b:ZM} {s:ByteArray} (k:Core b) (hw:Sat R (Zp p b::Hs) w):
  ZaX prog 46 #[.pointer (some ⟨p,0,none⟩),.string s] w
   (λ ch w'=>∃ e,ch=Zgj e/\ZdA b s=(none,e)/\Sat R (Zp p b::Hs) w')
   (λ v w'=>∃ a x,v=.pointer (some ⟨a,0,none⟩)/\ZdA b s=(some x,0)/\x∈b.L/\Zn2 p a b x R Hs w'):=by
 obtain ⟨m1,m2,fs,xs,hl,hw⟩:=Sat.book.1 hw;have hw:Sat R (pts p (Zg b m1 m2)::MapAt m2 (xs.map bkV)::MapAt m1 (fs.map flV)::Zi fs::Zj xs::Hs) w:=hw.arr;refine (ZmL hw).use ?_ ?_
 ·clear hw
  rintro _ w ⟨⟨v1,h0,hg,rfl⟩,hw⟩;refine .inl ⟨_,rfl,?_⟩;cases hbk:b.bk (Zco (Z8 s)).1 with
  |none=>rw [(ZmN hl).2 hbk] at hg;cases hg
  |some x=>
   have hx:=(ZuF k).1 hbk;obtain ⟨A2,a,C2,rfl,hbm⟩:=Zfn hl k.ids hx.1;have:=ZlI (a:=a) hbm;rw [hx.2,hg] at this;simp only [Option.some.injEq,Value.pointer.injEq] at this;subst this;refine ⟨a,x,rfl,?_,hx.1,m1,m2,fs,A2,C2,hl,hbm,?_⟩
   ·unfold ZdA
    rw [if_neg (λ h=>h h0),hbk]
   ·exact hw.arr
 ·clear hw
  rintro _ w ⟨⟨e,rfl,he⟩,hw⟩;refine .inr ⟨_,rfl,e,rfl,?_,Sat.book.2 ⟨m1,m2,fs,xs,hl,?_⟩⟩
  ·rcases he with ⟨h0,rfl⟩|⟨h0,rfl,hg⟩
   ·unfold ZdA
    rw [if_pos h0]
   ·unfold ZdA
    rw [if_neg (λ h=>h h0),(ZmN hl).1 hg]
  ·exact hw.arr
theorem Zn2.close {p a:Nat} {b:ZM} {x:Bk} (h:Zn2 p a b x R Hs w):Sat R (Zp p b::Hs) w:=by
 obtain ⟨m1,m2,fs,A2,C2,hl,_,hw⟩:=h;exact Sat.book.2 ⟨m1,m2,fs,_,hl,hw⟩
theorem ZpC {p a:Nat} {b:ZM} {x:Bk} (k:Core b) (h:Zn2 p a b x R Hs w):
  Zm prog 56 #[.pointer (some ⟨p,0,none⟩),.pointer (some ⟨a,0,none⟩)] w λ v w'=>∃ sl sb:Sl,v=.agg (rpV (Zdq b x) sl sb).toArray/\
   Sat R (Own sl 3 (Zd (Zdq b x).left)::Own sb 9 ((Zdq b x).labs.map Value.string)::Zp p b::Hs) w':=by
 obtain ⟨m1,m2,fs,A2,C2,hl,hbm,hw⟩:=h;have hxL:x∈b.L:=by rw [<-hl.bk];exact List.mem_map.2 ⟨(a,x),by simp,rfl⟩
 have hnx:=k.next;have hbk:=(k.each x hxL).id;obtain ⟨pl,hat⟩:=k.at_of hxL;obtain ⟨A,f,q,C,rfl,hm⟩:=ZcI hl k.nums hat;have htell:Zdq b x=Zdn pl x:=by unfold Zdq;rw [hat]
 rw [htell];obtain ⟨MF,hMF⟩:∃ M,M=(A++(f,q,pl)::C).map flV:=⟨_,rfl⟩;obtain ⟨MB,hMB⟩:∃ M,M=(A2++(a,x)::C2).map bkV:=⟨_,rfl⟩;rw [<-hMF,<-hMB] at hw;have hw:Sat R (Zi (A++(f,q,pl)::C)::Zj (A2++(a,x)::C2)::pts p (Zg b m1 m2)::MapAt m1 MF::MapAt m2 MB::Hs) w:=hw.arr;have hw:=Za7.1 hw;have hw:Sat R (Zj (A2++(a,x)::C2)::Zf f pl.r::ZC q pl.q::Zi (A++C)::pts p (Zg b m1 m2)::MapAt m1 MF::MapAt m2 MB::Hs) w:=hw.arr;have hw:=Zcv.1 hw;have hw:Sat R (pts p (Zg b m1 m2)::MapAt m1 MF::pts a (Zr x)::Zf f pl.r::ZC q pl.q::MapAt m2 MB::Zi (A++C)::Zj (A2++C2)::Hs) w:=hw.arr;rw [hMF] at hw;refine (ZeR (by omega) hm hw).use ?_;clear hw;rintro _ w ⟨sl,sb,rfl,hw⟩;refine ⟨_,rfl,sl,sb,rfl,?_⟩;refine hw.cons λ _ hw=>hw.cons λ _ hw=>?_;rw [<-hMF] at hw;have hw:Sat _ (Zf f pl.r::ZC q pl.q::pts a (Zr x)::pts p (Zg b m1 m2)::MapAt m1 MF::MapAt m2 MB::Zi (A++C)::Zj (A2++C2)::Hs) w:=hw.arr;exact Zd2 hl hMF hMB hw
set_option maxHeartbeats 1000000 in
theorem ZpX {p:Nat} {b:ZM} {c:Cm} {sg sp:Sl} (k:Core b) (hg:RoI R sg c.grps) (hgl:c.grps.length<=17592186043904) (hp:sp.len=c.parts.length) (hw:Sat R (Zp p b::Hs) w):
  Zm prog 19 #[.pointer (some ⟨p,0,none⟩),cmA c sg sp] w
   λ v w'=>∃ sl sb:Sl,v=.agg (rpV (Zeg b c) sl sb).toArray/\Sat R (Own sl 3 (Zd (Zeg b c).left)::Own sb 9 ((Zeg b c).labs.map Value.string)::Zp p b::Hs) w':=by
 apply Zzs
 suffices H:∀ K:Value->World->Prop,(∀ sl sb w',Sat R (Own sl 3 (Zd (Zeg b c).left)::Own sb 9 ((Zeg b c).labs.map Value.string)::Zp p b::Hs) w'->K (.agg (rpV (Zeg b c) sl sb).toArray) w')->B19 (some ⟨p,0,none⟩) c.kind c.pnr c.flt c.cls c.many c.time c.sc c.lab c.rows sg sp K w from
  H _ (λ sl sb w' h=>⟨sl,sb,rfl,h⟩)
 intro K hK;have hKe:∀ e w',Zeg b c=ZbL e->Sat R (Zp p b::Hs) w'->K (.agg (rpV (ZbL e) Z2 Z2).toArray) w':=λ e w' he hw=>by
  have:=hK Z2 Z2 w';rw [he] at this;exact this (Own.nil (Own.nil hw))
 refine Zb hw λ b3 w hw=>Zb hw λ b4 w hw=>?_;have hw:Sat R (Zq b4::cmC b3 c sg sp::Zp p b::Hs) w:=hw;refine ⟨λ w=>(ZaO c/\c.kind=9)/\Sat R (Zq b4::cmC b3 c sg sp::Zp p b::Hs) w,?_,?_⟩
 ·refine ⟨c.kind,c.pnr,c.flt,c.cls,c.many,c.time,c.sc,c.lab,c.rows,sg,sp,At.own (eqS hw) (by exact ⟨rfl,rfl,rfl,rfl,rfl,rfl,rfl,rfl,rfl,rfl,rfl,trivial⟩),?_⟩
  refine (ZeN hg hgl hp hw).use ?_;clear hw;rintro _ w ⟨rfl,hw⟩;refine .inl ⟨_,rfl,Br.d (λ hr=>?_) (λ hr=>?_)⟩
  ·refine ⟨c.kind,oA hw,?_⟩
   refine Zbx (λ h=>.inl ⟨rfl,⟨hr,by simpa using h⟩,hw⟩) (λ h=>.inr ⟨_,rfl,ZbS (Zce hw) λ w hw=>hKe 1 w ?_ hw.drop⟩);unfold Zeg;rw [if_pos (.inr (by simpa using h))]
  ·refine Zbx (λ h=>by cases h) (λ h=>.inr ⟨_,rfl,ZbS (Zce hw) λ w hw=>hKe 1 w ?_ hw.drop⟩)
   unfold Zeg;rw [if_pos (.inl hr)]
 clear hw;rintro _ w ⟨hr,hw⟩;have hno:¬ (¬ ZaO c\/c.kind≠9):=λ h=>h.elim (λ h=>h hr.1) (λ h=>h hr.2);refine ⟨c.pnr,oA hw,Br.sne (λ hs=>?_) (λ hs=>?_)⟩
 ·refine ⟨c.pnr,oA hw,?_⟩
  have hs':c.pnr≠emS:=hs;have hshow:∀ y,ZdA b c.pnr=y->Zeg b c=(match y with|(none,e)=>ZbL e|(some x,_)=>Zdq b x):=λ y hy=>by
   unfold Zeg;rw [if_neg hno,if_pos hs',hy];obtain ⟨o,e⟩:=y;cases o<;>rfl
  have hw:Sat R (Zp p b::Zq b4::cmC b3 c sg sp::Hs) w:=hw.arr;refine (Ziv k hw).use ?_ ?_
  ·clear hw
   rintro _ w ⟨a,x,rfl,hn,hxL,hw⟩;have hsh:=hshow _ hn;refine .inl ⟨_,rfl,?_⟩;refine (ZpC k hw).use ?_;clear hw;rintro _ w ⟨sl,sb,rfl,hw⟩;refine .inl ?_;have hw:Sat R (Zq b4::Own sl 3 (Zd (Zdq b x).left)::Own sb 9 ((Zdq b x).labs.map Value.string)::Zp p b::cmC b3 c sg sp::Hs) w:=hw.arr;refine Zjg (Zce hw) λ w hw=>?_;have:=hK sl sb w;rw [hsh] at this;exact this (hw.cons λ _ h=>h.cons λ _ h=>h.cons λ _ h=>h.drop)
  ·clear hw
   rintro _ w ⟨e,rfl,hn,hw⟩;have hw:Sat R (Zq b4::Zp p b::cmC b3 c sg sp::Hs) w:=hw.swap;exact .inr ⟨_,rfl,ZbS (Zce hw) λ w hw=>hKe e w (hshow _ hn) (hw.cons λ _ h=>h.drop)⟩
 ·have hs':¬ c.pnr≠emS:=λ h=>h hs
  have hshow:∀ y,b.at c.flt=y->Zeg b c=(match y with|none=>ZbL 2|some p=>⟨0,emS,0,c.flt,0,(p.q.length:Int),0,Zn p.r,[]⟩):=λ y hy=>by
   unfold Zeg;rw [if_neg hno,if_neg hs',hy];cases y<;>rfl
  refine ⟨c.flt,oA hw,?_⟩;have hw:Sat R (Zp p b::Zq b4::cmC b3 c sg sp::Hs) w:=hw.arr;obtain ⟨m1,m2,fs,xs,hl,hw⟩:=Sat.book.1 hw;refine (Zke hw).use ?_ ?_
  ·clear hw
   rintro _ w ⟨⟨v1,v2,hgm,rfl⟩,hw⟩;obtain ⟨A,f,q,C,pl,rfl,hm,hat,hv⟩:=ZjT hl k hgm;simp only [Value.agg.injEq,Array.mk.injEq,List.cons.injEq,Value.pointer.injEq,and_true] at hv;obtain ⟨rfl,rfl⟩:=hv;have hsh:=hshow _ hat;have hpl:=ZaR hat;have hqok:=k.qok pl hpl.1;obtain ⟨MF,hMF⟩:∃ M,M=(A++(f,q,pl)::C).map flV:=⟨_,rfl⟩;obtain ⟨MB,hMB⟩:∃ M,M=xs.map bkV:=⟨_,rfl⟩;rw [<-hMF,<-hMB] at hw;have hw:Sat R (Zi (A++(f,q,pl)::C)::cmC b3 c sg sp::Zq b4::pts p (Zg b m1 m2)::MapAt m1 MF::MapAt m2 MB::Zj xs::Hs) w:=hw.arr;have hw:=Za7.1 hw;refine .inl ⟨_,_,rfl,?_⟩;refine Zb hw λ b5 w hw=>?_;refine Za hw (by kernel_rfl) rfl (by simp [Value.cells]) λ w hw=>?_;have hw:=hw.re (fqC b5 f q);have toS:∀ {A:List HP} {R:Cx} {w:World},Sat R (cmC b3 c sg sp::fqC b5 f q::A) w->Sat R [cmC b3 c sg sp,fqC b5 f q,VC.tru] w:=λ h=>h.cons λ _ h=>h.restTru2;refine ZE (Sat R [cmC b3 c sg sp,fqC b5 f q,VC.tru]) hw (λ w hw=>?_) λ w hw=>?_
   ·exact toS (hw.arr (Hs':=cmC b3 c sg sp::fqC b5 f q::Zf f pl.r::ZC q pl.q::Zi (A++C)::Zq b4::pts p (Zg b m1 m2)::MapAt m1 MF::MapAt m2 MB::Zj xs::Hs))
   refine ⟨c.flt,At.own (λ _ h=>h) (by exact ⟨rfl,trivial⟩),some ⟨f,0,none⟩,At.own (λ _ h=>h) (by exact ⟨rfl,trivial⟩),some ⟨q,0,none⟩,At.own (λ _ h=>h) (by exact ⟨rfl,trivial⟩),?_⟩;refine (ZbW hw.swap).use ?_;clear hw;rintro _ w ⟨sl,rfl,hw⟩;refine .inl ⟨sl,rfl,?_,?_⟩
   ·exact toS (hw.arr (Hs':=cmC b3 c sg sp::fqC b5 f q::Own sl 3 (Zd (Zn pl.r))::Zf f pl.r::ZC q pl.q::Zi (A++C)::Zq b4::pts p (Zg b m1 m2)::MapAt m1 MF::MapAt m2 MB::Zj xs::Hs))
   have hw:Sat R (ZC q pl.q::Own sl 3 (Zd (Zn pl.r))::Zf f pl.r::Zi (A++C)::cmC b3 c sg sp::fqC b5 f q::Zq b4::pts p (Zg b m1 m2)::MapAt m1 MF::MapAt m2 MB::Zj xs::Hs) w:=hw.arr;refine (Zg9 (by have:=hqok.len;omega) hw).use ?_;clear hw;rintro _ w ⟨t,rfl,hw⟩;have htl:=Zt.len hw;rw [List.length_map] at htl;have hw:=hw.drop;refine .inl ⟨t,rfl,?_,?_⟩
   ·exact toS (hw.arr (Hs':=cmC b3 c sg sp::fqC b5 f q::ZC q pl.q::Own sl 3 (Zd (Zn pl.r))::Zf f pl.r::Zi (A++C)::Zq b4::pts p (Zg b m1 m2)::MapAt m1 MF::MapAt m2 MB::Zj xs::Hs))
   rw [htl];have hw:Sat R (Zq b4::Own sl 3 (Zd (Zn pl.r))::Zf f pl.r::ZC q pl.q::pts p (Zg b m1 m2)::MapAt m1 MF::MapAt m2 MB::Zi (A++C)::Zj xs::cmC b3 c sg sp::fqC b5 f q::Hs) w:=hw.arr;refine Za hw (by kernel_rfl) rfl (by simp [Value.cells]) λ w hw=>?_;have hw:=hw.re (rpC b4 ⟨0,emS,0,c.flt,0,(pl.q.length:Int),0,Zn pl.r,[]⟩ sl Z2);refine ZmK (ZAH hw ?_);have:=hK sl Z2 w;rw [hsh] at this;refine this ?_;refine hw.drop.cons λ _ hw=>Own.nil ?_;exact (Zbo hl hMF hMB hw).cons λ _ h=>h.drop.drop
  ·clear hw
   rintro _ w ⟨rfl,hno2,hw⟩;have hw:Sat R (Zq b4::cmC b3 c sg sp::pts p (Zg b m1 m2)::MapAt m1 (fs.map flV)::MapAt m2 (xs.map bkV)::Zi fs::Zj xs::Hs) w:=hw.arr;refine .inr ⟨_,rfl,ZbS (Zce hw) λ w hw=>hKe 2 w (hshow _ ((ZfU hl).1 hno2)) (Sat.book.2 ⟨m1,m2,fs,xs,hl,hw.drop⟩)⟩
theorem Zc5 {g:FuncId} {ars:Array Value} {p b3 b4:Nat} {b nb:ZM} {c:Cm} {res:Rp} {sg sp:Sl} {K:Value->World->Prop}
  (h:ZaX prog g ars w (λ ch w'=>∃ e,ch=Zgj e/\(nb,res)=(b,ZbL e)/\Sat R (Zp p b::Zq b4::cmC b3 c sg sp::Hs) w')
   (λ v w'=>∃ sl sb:Sl,v=.agg (rpV res sl sb).toArray/\Sat R (Own sl 3 (Zd res.left)::Own sb 9 (res.labs.map Value.string)::Zp p nb::Zq b4::cmC b3 c sg sp::Hs) w'))
  (hK:∀ sl sb w',Sat R (Own sl 3 (Zd res.left)::Own sb 9 (res.labs.map Value.string)::Zp p nb::Hs) w'->K (.agg (rpV res sl sb).toArray) w'):
  Calls prog g ars w λ e w_5=>
   (∃ t0:Int,∃ t1:ByteArray,∃ t2:Int,∃ t3:Int,∃ t4:Int,∃ t5:Int,∃ t6:Int,∃ t7:Sl,∃ t8:Sl,(e=.returned (.agg #[.int .i64 t0,.string t1,.int .i64 t2,.int .i64 t3,.int .i64 t4,.int .i64 t5,.int .i64 t6,.slice t7.a t7.len t7.cap,.slice t8.a t8.len t8.cap]))/\
    ∃ w_6:World,((Instr.storeAt 31 (.pointer ((some ⟨b4,0,none⟩))) (.agg #[.int .i64 t0,.string t1,.int .i64 t2,.int .i64 t3,.int .i64 t4,.int .i64 t5,.int .i64 t6,.slice t7.a t7.len t7.cap,.slice t8.a t8.len t8.cap])).run prog w_5=.ok () w_6)/\
    Zu prog 39 [.pointer ((some ⟨b4,0,none⟩))] .returning (λ w_7=>ZzD b4 K w_7) w_6)\/
   (∃ ch:List PanicEntry,(e=.panicked ch)/\Zu prog 39 [.pointer ((some ⟨b4,0,none⟩))] (.panicking ch) (λ w_8=>ZzD b4 K w_8) w_5):=by
 refine h.use ?_ ?_
 ·rintro _ w ⟨sl,sb,rfl,hw⟩
  have hw:Sat R (Zq b4::Own sl 3 (Zd res.left)::Own sb 9 (res.labs.map Value.string)::Zp p nb::cmC b3 c sg sp::Hs) w:=hw.arr;exact .inl (Zjg (Zce hw) λ w hw=>hK sl sb w (hw.cons λ _ h=>h.cons λ _ h=>h.cons λ _ h=>h.drop))
 ·rintro _ w ⟨e,rfl,he,hw⟩
  have h1:=congrArg Prod.fst he;have h2:=congrArg Prod.snd he;dsimp only at h1 h2;subst h1 h2;exact .inr ⟨_,rfl,ZbS (Zce hw.swap) λ w hw=>hK Z2 Z2 w (Own.nil (Own.nil (hw.cons λ _ h=>h.drop)))⟩
set_option maxHeartbeats 2000000 in
theorem Zpk {p:Nat} {b:ZM} {c:Cm} {sg sp:Sl} (k:Zaz b) (hsc:c.sc<18446744073709551616) (hg:RoI R sg c.grps) (hgl:c.grps.length<=17592186043904) (hp:SlR R.m sp (ZnH c.parts)) (hw:Sat R (Zp p b::Hs) w):
  Zm prog 15 #[.pointer (some ⟨p,0,none⟩),cmA c sg sp] w
   λ v w'=>∃ sl sb:Sl,v=.agg (rpV (Zak b c).2 sl sb).toArray/\Sat R (Own sl 3 (Zd (Zak b c).2.left)::Own sb 9 ((Zak b c).2.labs.map Value.string)::Zp p (Zak b c).1::Hs) w':=by
 have hplen:sp.len=c.parts.length:=by have:=hp.len;simpa using this
 apply ZuE
 suffices H:∀ K:Value->World->Prop,(∀ sl sb w',Sat R (Own sl 3 (Zd (Zak b c).2.left)::Own sb 9 ((Zak b c).2.labs.map Value.string)::Zp p (Zak b c).1::Hs) w'->K (.agg (rpV (Zak b c).2 sl sb).toArray) w')->B15 (some ⟨p,0,none⟩) c.kind c.pnr c.flt c.cls c.many c.time c.sc c.lab c.rows sg sp K w from
  H _ (λ sl sb w' h=>⟨sl,sb,rfl,h⟩)
 intro K hK;refine Zb hw λ b3 w hw=>Zb hw λ b4 w hw=>?_;have hw:Sat R (Zq b4::cmC b3 c sg sp::Zp p b::Hs) w:=hw;refine ⟨c.kind,c.pnr,c.flt,c.cls,c.many,c.time,c.sc,c.lab,c.rows,sg,sp,At.own (eqS hw) (by exact ⟨rfl,rfl,rfl,rfl,rfl,rfl,rfl,rfl,rfl,rfl,rfl,trivial⟩),?_⟩;refine (ZeN hg hgl hplen hw).use ?_;clear hw;rintro _ w ⟨rfl,hw⟩;refine .inl ⟨_,rfl,Zbx (λ h=>.inl ⟨rfl,?_⟩) (λ h=>.inr ⟨_,rfl,?_⟩)⟩
 rotate_left
 ·have hr:¬ ZaO c:=of_decide_eq_false h
  have e:Zak b c=(b,ZbL 1):=by unfold Zak;rw [if_pos hr]
  rw [e] at hK;exact ZbS (Zce hw) λ w hw=>hK Z2 Z2 w (Own.nil (Own.nil hw.drop))
 have hr:ZaO c:=of_decide_eq_true h;have hrr:¬ ¬ ZaO c:=λ h=>h hr;have hw:Sat R (Zp p b::Zq b4::cmC b3 c sg sp::Hs) w:=hw.arr;refine ⟨c.kind,oA hw,Br.e (λ h1=>?_) (λ h1=>?_)⟩
 ·refine ⟨c.kind,c.pnr,c.flt,c.cls,c.many,c.time,c.sc,c.lab,c.rows,sg,sp,At.own (eqS hw) (by exact ⟨rfl,rfl,rfl,rfl,rfl,rfl,rfl,rfl,rfl,rfl,rfl,trivial⟩),?_⟩
  have e:Zak b c=Zck b c:=by unfold Zak;rw [if_neg hrr,if_pos h1]
  rw [e] at hK;refine Zc5 (b:=b) (nb:=(Zck b c).1) (res:=(Zck b c).2) (c:=c) (p:=p) (b3:=b3) (sg:=sg) (sp:=sp) ?_ hK;refine (ZiY (by have:=k.core.few;omega) hg hp hw).use ?_ ?_
  ·rintro _ w ⟨he,sl,rfl,hw⟩
   refine .inl ⟨_,rfl,sl,Z2,?_⟩;rw [he];exact ⟨rfl,hw.cons λ _ h=>Own.nil h⟩
  ·rintro _ w ⟨e,rfl,he,hw⟩
   exact .inr ⟨_,rfl,e,rfl,he,hw⟩
 refine ⟨λ t w=>t=decide (c.kind=2\/c.kind=7)/\Sat R (Zp p b::Zq b4::cmC b3 c sg sp::Hs) w,?_,?_⟩
 ·refine Br.e (λ h2=>⟨?_,hw⟩) (λ h2=>⟨?_,hw⟩)
  ·rw [decide_eq_true (.inl h2),h2];rfl
  ·by_cases h7:c.kind=7
   ·rw [decide_eq_true (.inr h7),h7];rfl
   ·rw [decide_eq_false (by omega)]
    exact beq_eq_false_iff_ne.2 h7
 clear hw;rintro _ _ w ⟨rfl,hw⟩;refine Br.d (λ h27=>?_) (λ h27=>?_)
 ·refine ⟨c.kind,c.pnr,c.flt,c.cls,c.many,c.time,c.sc,c.lab,c.rows,sg,sp,At.own (eqS hw) (by exact ⟨rfl,rfl,rfl,rfl,rfl,rfl,rfl,rfl,rfl,rfl,rfl,trivial⟩),?_⟩
  rcases h27 with h2|h7
  ·have e:Zak b c=ZcZ b c:=by unfold Zak;rw [if_neg hrr,if_neg h1,if_pos h2]
   rw [e] at hK;exact Zc5 (b:=b) (nb:=(ZcZ b c).1) (res:=(ZcZ b c).2) (c:=c) (p:=p) (Zst h2 k.core hr hw) hK
  ·have e:Zak b c=Zb6 b c:=by unfold Zak;rw [if_neg hrr,if_neg h1,if_neg (by omega),if_pos h7]
   rw [e] at hK;exact Zc5 (b:=b) (nb:=(Zb6 b c).1) (res:=(Zb6 b c).2) (c:=c) (p:=p) (Zss h7 k hr hsc hw) hK
 refine Br.e (λ h8=>?_) (λ h8=>Br.e (λ h9=>?_) (λ h9=>?_))
 ·refine ⟨c.kind,c.pnr,c.flt,c.cls,c.many,c.time,c.sc,c.lab,c.rows,sg,sp,At.own (eqS hw) (by exact ⟨rfl,rfl,rfl,rfl,rfl,rfl,rfl,rfl,rfl,rfl,rfl,trivial⟩),?_⟩
  have e:Zak b c=ZbG b c:=by unfold Zak;rw [if_neg hrr,if_neg h1,if_neg (by omega),if_neg (by omega),if_pos h8]
  rw [e] at hK;exact Zc5 (b:=b) (nb:=(ZbG b c).1) (res:=(ZbG b c).2) (c:=c) (p:=p) (Zpd k.core hr hw) hK
 ·refine ⟨c.kind,c.pnr,c.flt,c.cls,c.many,c.time,c.sc,c.lab,c.rows,sg,sp,At.own (eqS hw) (by exact ⟨rfl,rfl,rfl,rfl,rfl,rfl,rfl,rfl,rfl,rfl,rfl,trivial⟩),?_⟩
  have e:Zak b c=(b,Zeg b c):=by unfold Zak;rw [if_neg hrr,if_neg h1,if_neg (by omega),if_neg (by omega),if_neg h8,if_pos h9]
  rw [e] at hK;refine Zc5 (b:=b) (nb:=b) (res:=Zeg b c) (c:=c) (p:=p) (b3:=b3) (sg:=sg) (sp:=sp) ?_ hK;refine (ZpX k.core hg hgl hplen hw).use ?_;rintro _ w ⟨sl,sb,rfl,hw⟩;exact .inl ⟨_,rfl,sl,sb,rfl,hw⟩
 ·have hap:∀ y,ZdA b c.pnr=y->Zak b c=(match y with|(none,e)=>(b,ZbL e)|(some x,_)=>Zhb b x c):=λ y hy=>by
   unfold Zak;rw [if_neg hrr,if_neg h1,if_neg (by omega),if_neg (by omega),if_neg h8,if_neg h9,hy];obtain ⟨o,e⟩:=y;cases o<;>rfl
  have hk36:c.kind=3\/c.kind=4\/c.kind=5\/c.kind=6:=by have:=hr.kind;omega
  have toS:∀ {A:List HP} {R:Cx} {w:World},Sat R (cmC b3 c sg sp::A) w->Sat R [cmC b3 c sg sp,VC.tru] w:=λ h=>h.restTru2;refine ZE (Sat R [cmC b3 c sg sp,VC.tru]) hw (λ w hw=>?_) λ w hw=>?_
  ·exact toS (hw.arr (Hs':=cmC b3 c sg sp::Zp p b::Zq b4::Hs))
  refine ⟨c.pnr,At.own (λ _ h=>h) (by exact ⟨rfl,trivial⟩),c.kind,c.pnr,c.flt,c.cls,c.many,c.time,c.sc,c.lab,c.rows,sg,sp,At.own (λ _ h=>h) (by exact ⟨rfl,rfl,rfl,rfl,rfl,rfl,rfl,rfl,rfl,rfl,rfl,trivial⟩),?_⟩;refine (Ziv k.core hw).use ?_ ?_
  ·clear hw
   rintro _ w ⟨a,x,rfl,hn,hxL,hop⟩;have e:=hap _ hn;rw [e] at hK;refine .inl ⟨_,rfl,?_,?_⟩
   ·exact toS (hop.close.arr (Hs':=cmC b3 c sg sp::Zp p b::Zq b4::Hs))
   obtain ⟨m1,m2,fs,A2,C2,hl,hbm,hw⟩:=hop;refine (Ztg hk36 k.core (by have:=hr.lab;omega) hl hbm hw).use ?_ ?_
   ·clear hw
    rintro _ w ⟨sl,sb,rfl,hw⟩;have hS:=toS (hw.arr (Hs':=cmC b3 c sg sp::Own sl 3 (Zd (Zhb b x c).2.left)::Own sb 9 ((Zhb b x c).2.labs.map Value.string)::Zp p (Zhb b x c).1::Zq b4::Hs));have hw:Sat R (Zq b4::Own sl 3 (Zd (Zhb b x c).2.left)::Own sb 9 ((Zhb b x c).2.labs.map Value.string)::Zp p (Zhb b x c).1::cmC b3 c sg sp::Hs) w:=hw.arr;refine .inl ?_;obtain ⟨t0,t1,t2,t3,t4,t5,t6,t7,t8,he,h⟩:=Zjg (r:=(Zhb b x c).2) (sl:=sl) (sb:=sb) (K:=K) (Zce hw) λ w hw=>hK sl sb w (hw.cons λ _ h=>h.cons λ _ h=>h.cons λ _ h=>h.drop);exact ⟨t0,t1,t2,t3,t4,t5,t6,t7,t8,he,hS,h⟩
   ·clear hw
    rintro _ w ⟨e,rfl,he,hw⟩;dsimp only at hK;rw [he] at hK;exact .inr ⟨_,rfl,ZbS (Zce hw.swap) λ w hw=>hK Z2 Z2 w (Own.nil (Own.nil (hw.cons λ _ h=>h.drop)))⟩
  ·clear hw
   rintro _ w ⟨e,rfl,hn,hw⟩;have e2:=hap _ hn;rw [e2] at hK;exact .inr ⟨_,rfl,ZbS (Zce hw.swap) λ w hw=>hK Z2 Z2 w (Own.nil (Own.nil (hw.cons λ _ h=>h.drop)))⟩
end
section
open Go Go.VC Go.ChangeShapes Go.WideShapes Go.ChangeAt Go.RowKit
variable {H:Type} {enc:TypeId × Value->H} {W:World} {r:Reach} {b0:Nat} {v:Value} {d:DataW H} {p:List MemPlace}
structure ZA2 (R:Cx) (s:Sl) (cs:List CmS):Prop where
 rows:RoN 11 R s (cs.map Zv4)
 each:∀ c∈cs,ZA1 c.1/\RoI R c.2.1 c.1.grps/\SlR R.m c.2.2 (ZnH c.1.parts)
set_option maxRecDepth 100000 in
theorem Zv3 (hv:Value.okWide Tryz.prog W r b0 22 v) (h:DataW.Trod enc Tryz.prog W 0 (λ _=>true) true 22 v d p):
  ∃ (s:Sl) (cs:List CmS),v=.slice s.a s.len s.cap/\ZA2 (Cx.of W) s cs:=by
 obtain ⟨a,n,c,rfl⟩:=okWide_slice Tryz.underlying22 hv;obtain ⟨x,hx,ho⟩:=Zym (d:=8) (u:=.sl ZAW) (by kernel_rfl) h;cases x<;>simp only [Tr.Ok] at ho;rename_i s xs;have ho:Tr.Ok (Cx.of W) (.sl ZAW) (.sl s xs):=by unfold Tr.Ok;exact ho
 obtain ⟨cs,h1,_,h3⟩:=Zl2 (λ z:CmS=>Zv4 z) (λ c=>ZA1 c.1/\RoI (Cx.of W) c.2.1 c.1.grps/\SlR (Cx.of W).m c.2.2 (ZnH c.1.parts)) ho λ x hx=>by
  obtain ⟨c,sg,sp,e,h1,h2,h3⟩:=ZtX hx;exact ⟨(c,sg,sp),e,h1,h2,h3⟩
 have e:[Value.slice s.a s.len s.cap]=[Value.slice a n c]:=by simpa [Tr.cells,Value.cells] using hx
 have e:=(List.cons.inj e).1;simp only [Value.slice.injEq] at e;obtain ⟨rfl,rfl,rfl⟩:=e;exact ⟨s,cs,rfl,h1,h3⟩
end
end Go.Proofs.YtfgbbckfikiomaaGreatDoor

namespace Go.Proofs.YtfgbbckfikiomaaGreatDoor
section
open Go Go.VC Tryz
open Classical
variable {R:Cx} {Hs Rest:List HP} {w:World}
theorem ZzA {l:Sl} {cs:List CmS} {k p:Nat} {b:ZM} (hr:ZA2 R l cs) (hm:∀ c∈cs.take 400,¬ Zyd c) (hk:k<400) (hkl:k<cs.length) (ok:Zaz b) (hw:Sat R (Zp p b::Hs) w):
  Zm prog 15 #[.pointer (some ⟨p,0,none⟩),cmA cs[k].1 cs[k].2.1 cs[k].2.2] w
   λ v w'=>∃ sl sb:Sl,v=.agg (rpV (Zak b cs[k].1).2 sl sb).toArray/\Zaz (Zak b cs[k].1).1/\Sat R (Own sl 3 (Zd (Zak b cs[k].1).2.left)::Own sb 9 ((Zak b cs[k].1).2.labs.map Value.string)::Zp p (Zak b cs[k].1).1::Hs) w':=by
 obtain ⟨f,g,h⟩:=hr.each cs[k] (List.getElem_mem hkl);have hmk:=hm cs[k] (List.mem_take_iff_getElem.2 ⟨k,by omega,rfl⟩);have hgl:=g.len;unfold Zyd at hmk;refine (Zpk ok f.sc g (by omega) h hw).mono ?_;rintro _ w ⟨sl,sb,rfl,hw⟩;exact ⟨sl,sb,rfl,Zti ok f.sc,hw⟩
end
end Go.Proofs.YtfgbbckfikiomaaGreatDoor

namespace Go.Proofs.YtfgbbckfikiomaaGreatDoor
section
open Go Go.VC Tryz
open Classical
variable {R:Cx} {Hs Rest:List HP} {w:World}
theorem ZX {a b:List Int} (h1:Z5 a) (h2:Z5 b):Z5 (a++b):=λ x hx=>(List.mem_append.1 hx).elim (h1 x) (h2 x)
theorem Zf0 {α:Type} {f:α->List Int} {l:List α} (h:∀ x∈l,Z5 (f x)):Z5 (l.map f).flatten:=λ y hy=>by
 obtain ⟨r,h1,h2⟩:=List.mem_flatten.1 hy;obtain ⟨x,hx,rfl⟩:=List.mem_map.1 h1;exact h x hx y h2
theorem Zaf {x:Int} (h:0<=x/\x<18446744073709551616):Z5 (Zv [x]):=ZcE λ y hy=>by rw [List.mem_singleton.1 hy];exact h
theorem ZiU {d:List Int} (h:Z5 d) (hl:d.length<1000000):Z5 (ZcQ d):=ZX (Zmh (by omega)) h
theorem Zr4 {x:Nat} (h:x<18446744073709551616):Z5 (ZvF x):=Zmh (Zlq h)
end
end Go.Proofs.YtfgbbckfikiomaaGreatDoor


namespace Go.Proofs.YtfgbbckfikiomaaGreatDoor
section
open Go Go.VC Tryz
open Classical
variable {R:Cx} {Hs Rest:List HP} {w:World}
theorem _root_.Go.VC.At.vals {S:World->Prop} {b:Nat} {vs:List Value} {T:TypeId} {fr:Nat × Nat} (hS:∀ w,S w->Sat R Hs w)
  [t:ZdO b Hs (.cells vs.toArray T fr) Rest] {i:Nat} (hi:i<vs.length):At S (Addr.add ⟨b,0,none⟩ i) [vs[i]]:=by
 rw [Zy];refine At.own hS ?_;rw [Nat.zero_add,List.drop_eq_getElem_cons hi];exact ⟨rfl,trivial⟩
def wtN (x:Wt):List Nat:=[x.id.toNat,x.cls.toNat,x.many.toNat,x.time.toNat,Znw x.sc]
def ZhY (l:List Nat):List Int:=(l.map ZeP).flatten
theorem Zyl (x:Wt):wtB x=ZhY (wtN x):=by
 simp [wtB,ZhY,wtN,Zv,ZvF]
theorem Zit {l:List Nat} {j:Nat} (hj:j<l.length):ZhY (l.take (j + 1))=ZhY (l.take j)++ZeP l[j]:=by
 unfold ZhY;rw [List.take_add_one,List.getElem?_eq_getElem hj,List.map_append,List.flatten_append];simp
theorem Zk9 {l:List Nat} (h:∀ x∈l,x<18446744073709551616):(ZhY l).length<=9 * l.length:=Zca λ x hx=>Zbw (h x hx)
theorem Zue {x:Wt} (h:x.Ok) (hf:x.sc<18446744073709551616):∀ y∈wtN x,y<18446744073709551616:=by
 obtain ⟨h1,h2,h3,h4⟩:=h;intro y hy;simp only [wtN,List.mem_cons,List.not_mem_nil,or_false] at hy;have:=Zlq hf;omega
theorem Zfe {α β:Type} {f:α->List β} {l:List α} {j:Nat} (hj:j<l.length):((l.take (j + 1)).map f).flatten=((l.take j).map f).flatten++f l[j]:=by
 rw [List.take_add_one,List.getElem?_eq_getElem hj,List.map_append,List.flatten_append];simp
set_option maxHeartbeats 1000000 in
theorem Zqq {q:Nat} {l:List Wt} (hq:QOk l) (hw:Sat R (ZC q l::Hs) w):
  Zm prog 54 #[.pointer (some ⟨q,0,none⟩)] w λ v w'=>∃ t:Sl,v=.slice t.a t.len t.cap/\Sat R (Own t 5 (b8 (qB l))::ZC q l::Hs) w':=by
 apply Zzd
 suffices H:∀ K:Value->World->Prop,(∀ (t:Sl) w',Sat R (Own t 5 (b8 (qB l))::ZC q l::Hs) w'->K (.slice t.a t.len t.cap) w')->B54 (some ⟨q,0,none⟩) K w from H _ λ t w' h=>⟨t,rfl,h⟩
 intro K hK;have hlen:=hq.len;obtain ⟨s,hw⟩:=Sat.qu.1 hw;have hsl:=Zt.len hw.swap;rw [List.length_map] at hsl;refine Zc.mk rfl ⟨s,oA hw,?_⟩;rw [ZK (by omega) (by omega)];refine (Zcl (by omega) hw).use ?_;clear hw;rintro _ w ⟨t0,rfl,hw⟩;refine ⟨t0,rfl,Zc.mk rfl ⟨s,oA hw,?_⟩⟩;have e0:ZeP s.len=Zv [(l.length:Int)]:=by rw [hsl];simp [Zv]
 rw [e0] at hw;refine ⟨λ t i w=>∃ k:Nat,i=k/\k<=l.length/\Sat R (Own t 5 (b8 (Zv [(l.length:Int)]++((l.take k).map wtB).flatten))::pts q (Zax s)::Zt 5 s wtT (l.map wtV)::Hs) w,
  λ _ i _=>l.length - i.toNat,⟨0,rfl,by omega,by simpa using hw⟩,?_⟩
 clear hw;rintro _ t _ w ⟨k,rfl,hk,hw⟩;refine Br.d (λ h=>?_) (λ h=>?_)
 ·have hk2:k<l.length:=by omega
  have hx:=List.getElem_mem hk2;have hok:=hq.ok _ hx;have hfl:=hq.fl _ hx;have hu:=Zue hok hfl;obtain ⟨h1,h2,h3,h4⟩:=id hok;refine (Zt.readsM (n:=5) (s:=s) (T:=wtT) (rows:=l.map wtV) hw (eqS hw)).rngM (E:=l) (g:=wtV) hk2 λ a _ he=>?_;refine ⟨_,_,_,_,_,he.z (by exact ⟨rfl,rfl,rfl,rfl,rfl,trivial⟩),?_⟩;refine Zb hw λ b2 w hw=>?_;refine Za hw (by kernel_rfl) rfl (by simp [Value.cells]) λ w hw=>?_;have hw:=hw.re (wtC b2 l[k]);refine ZaN hw λ w hw=>?_;refine ⟨l[k].id,oS,l[k].cls,oS,l[k].many,oS,l[k].time,oS,l[k].sc,oS,?_⟩;refine (Ztz hfl hw).use ?_;clear hw;rintro _ w ⟨rfl,hw⟩;refine ⟨_,rfl,hw,?_⟩;rw [ZK (x:=l[k].id) (by omega) (by omega),ZK (x:=l[k].cls) (by omega) (by omega),ZK (x:=l[k].many) (by omega) (by omega),ZK (x:=l[k].time) (by omega) (by omega)];refine Zb hw λ b5 w hw=>⟨hw.absorb,?_⟩;obtain ⟨us,hus⟩:∃ us,us=wtN l[k]:=⟨_,rfl⟩;have hul:us.length=5:=by rw [hus];rfl
  have hw:Sat R (pts b5 (.cells (us.map λ n=>Value.int .u64 (n:Nat)).toArray 134 (0,0))::wtC b2 l[k]::Own t 5 (b8 (Zv [(l.length:Int)]++((l.take k).map wtB).flatten))::pts q (Zax s)::Zt 5 s wtT (l.map wtV)::Hs) w:=by
   have e:([.int .u64 l[k].id,.int .u64 l[k].cls,.int .u64 l[k].many,.int .u64 l[k].time,.int .u64 ((Znw l[k].sc:Nat):Int)]:List Value)=us.map λ n=>Value.int .u64 (n:Nat):=by
    subst hus;simp only [wtN,List.map_cons,List.map_nil,Int.toNat_of_nonneg h2.1,Int.toNat_of_nonneg h4.1,Int.toNat_of_nonneg (show 0<=l[k].id by omega),Int.toNat_of_nonneg (show 0<=l[k].many by omega)]
   rw [<-e];exact hw.cons λ _ h=>h.drop
  rw [<-hus] at hu;have hblen:=Zca (l:=l.take k) (code:=wtB) (m:=45) λ w hw=>ZlW (hq.ok w (List.mem_of_mem_take hw)) (hq.fl w (List.mem_of_mem_take hw));rw [List.length_take] at hblen;have h0:=ZW (x:=(l.length:Int)) (by omega);obtain ⟨bs,hbs⟩:∃ bs,bs=Zv [(l.length:Int)]++((l.take k).map wtB).flatten:=⟨_,rfl⟩;have hbl:bs.length<=10000:=by rw [hbs,List.length_append];omega
  rw [<-hbs] at hw;refine ⟨λ t i w=>∃ j:Nat,i=j/\j<=5/\Sat R (Own t 5 (b8 (bs++ZhY (us.take j)))::pts b5 (.cells (us.map λ n=>Value.int .u64 (n:Nat)).toArray 134 (0,0))::wtC b2 l[k]::pts q (Zax s)::Zt 5 s wtT (l.map wtV)::Hs) w,
   λ _ i _=>5 - i.toNat,⟨0,rfl,by omega,?_⟩,?_⟩
  ·have hw:Sat R (Own t 5 (b8 bs)::pts b5 (.cells (us.map λ n=>Value.int .u64 (n:Nat)).toArray 134 (0,0))::wtC b2 l[k]::pts q (Zax s)::Zt 5 s wtT (l.map wtV)::Hs) w:=hw.arr
   simpa [ZhY] using hw
  clear hw;rintro _ t _ w ⟨j,rfl,hj,hw⟩;refine Br.d (λ hj5=>?_) (λ hj5=>?_)
  ·have hj2:j<us.length:=by omega
   have hul2:=Zk9 (l:=us.take j) λ x hx=>hu x (List.mem_of_mem_take hx);rw [List.length_take] at hul2;have huj:=hu _ (List.getElem_mem hj2);refine Rng.mk (by omega) (by omega) ⟨((us[j]:Nat):Int),?_,?_⟩
   ·have hjm:j<(us.map λ n=>Value.int .u64 (n:Nat)).length:=by rw [List.length_map];exact hj2
    have:=At.vals (b:=b5) (vs:=us.map λ n=>Value.int .u64 (n:Nat)) (eqS hw) hjm;rw [List.getElem_map] at this;exact this
   refine (Zcl huj hw).use ?_;clear hw;rintro _ w ⟨t1,rfl,hw⟩;refine ⟨t1,rfl,?_⟩;have hnb:=Zbw huj;refine Zdi ZrD (s:=t) (n:=1099511627790) underlying42 hw.swap (by rw [List.length_append];omega) (by omega) (by omega) λ s2 w hw=>?_;have hw:=hw.cons λ _ h=>h.drop;rw [Zh (x:=(j:Int) + 1) (by omega) (by omega)];refine ⟨⟨j + 1,by omega,by omega,?_⟩,by dsimp only;omega⟩;rw [Zit hj2,<-List.append_assoc];exact hw
  ·rw [List.take_of_length_le (by omega:us.length<=j),hus,<-Zyl,hbs,List.append_assoc,<-Zfe hk2] at hw
   rw [Zh (x:=(k:Int) + 1) (by omega) (by omega)];exact ⟨⟨k + 1,by omega,by omega,hw.cons λ _ h=>h.drop.drop⟩,by dsimp only;omega⟩
 ·rw [List.take_of_length_le (by omega:l.length<=k)] at hw
  exact hK t w (hw.cons λ _ h=>Sat.qu.2 ⟨s,h⟩)
end
section
open Go Go.VC Tryz
open Classical
variable {R:Cx} {Hs Rest:List HP} {w:World}
theorem nn3s {a b c:Int} (h0:0<=a) (h1:0<=b) (h2:0<=c):Zv ([a,b,c].map nn)=Zv [a]++(Zv [b]++Zv [c]):=by
 show Zv [nn a,nn b,nn c]=_;rw [ZhZ h0,ZhZ h1,ZhZ h2,Zdd a,Zdd b]
theorem nn6s {a b c d e f:Int} (h0:0<=a) (h1:0<=b) (h2:0<=c) (h3:0<=d) (h4:0<=e) (h5:0<=f):Zv ([a,b,c,d,e,f].map nn)=Zv [a]++(Zv [b]++(Zv [c]++(Zv [d]++(Zv [e]++Zv [f])))):=by
 show Zv [nn a,nn b,nn c,nn d,nn e,nn f]=_;rw [ZhZ h0,ZhZ h1,ZhZ h2,ZhZ h3,ZhZ h4,ZhZ h5,Zdd a,Zdd b,Zdd c,Zdd d,Zdd e]
theorem Zkl {p:Nat} {s:Sl} {d bs:List Int} {T:TypeId} (hl:bs.length + d.length<=1099511627776) (hd:d.length<=1099511627776) (hw:Sat R (Own s T (b8 d)::WrB p bs::Hs) w):
  Zm prog 52 #[.pointer (some ⟨p,0,none⟩),.slice s.a s.len s.cap] w λ v w'=>v=.tuple #[]/\Sat R (WrB p (bs++ZcQ d)::Hs) w':=by
 obtain ⟨R1,e1,g1,hw⟩:=Own.leak hw;refine (Zn3 hl hd (g1.ro (by rw [List.length_map];omega)) hw).mono ?_;rintro _ w ⟨rfl,hw⟩;exact ⟨rfl,e1.back hw⟩
set_option maxHeartbeats 2000000 in
theorem ZiX {p:Nat} {b:ZM} (k:Core b) (hw:Sat R (Zp p b::Hs) w):
  Zm prog 18 #[.pointer (some ⟨p,0,none⟩)] w λ v w'=>∃ t:Sl,v=.slice t.a t.len t.cap/\Sat R (Own t 5 (b8 (Zba b))::Zp p b::Hs) w':=by
 apply Zzt
 suffices H:∀ K:Value->World->Prop,(∀ (t:Sl) w',Sat R (Own t 5 (b8 (Zba b))::Zp p b::Hs) w'->K (.slice t.a t.len t.cap) w')->B18 (some ⟨p,0,none⟩) K w from H _ λ t w' h=>⟨t,rfl,h⟩
 intro K hK;have k1:=k.now;have k2:=k.next;have k3:=k.few;have k4:=k.many;have a1:=ZW (x:=b.now) (by omega);have a2:=ZW (x:=b.next) (by omega);have a3:=ZW (x:=(b.fl.length:Int)) (by omega);have a4:=ZW (x:=(b.L.length:Int)) (by omega);have a5:∀ j,(((b.fl.take j).map plB).flatten).length<=304000:=λ j=>by
  have:=Zca (l:=b.fl.take j) (code:=plB) (m:=38000) λ p hp=>ZqC (k.good p (List.mem_of_mem_take hp)) (k.qok p (List.mem_of_mem_take hp));rw [List.length_take] at this;omega
 have a6:∀ j,(((b.L.take j).map bkB).flatten).length<=16200:=λ j=>by
  have:=Zca (l:=b.L.take j) (code:=bkB) (m:=54) λ x hx=>Zsd k2.2 (k.each x (List.mem_of_mem_take hx));rw [List.length_take] at this;omega
 obtain ⟨m1,m2,fs,xs,hl,hw⟩:=Sat.book.1 hw;have hfl:=ZnJ hl;have hbl:=ZnX hl;refine Zb hw λ pw w hw=>?_;have hw:Sat R (WrB pw []::pts p (Zg b m1 m2)::MapAt m1 (fs.map flV)::MapAt m2 (xs.map bkV)::Zi fs::Zj xs::Hs) w:=Sat.wrB.2 ⟨Z2,(Own.nil hw).swap⟩;have toS:∀ {A:List HP} {R:Cx} {w:World},Sat R (pts p (Zg b m1 m2)::MapAt m1 (fs.map flV)::A) w->Sat R [pts p (Zg b m1 m2),MapAt m1 (fs.map flV),VC.tru] w:=λ h=>h.cons λ _ h=>h.restTru2;refine ZE (Sat R [pts p (Zg b m1 m2),MapAt m1 (fs.map flV),VC.tru]) hw (λ w hw=>?_) λ w hw=>?_
 ·exact toS (hw.arr (Hs':=pts p (Zg b m1 m2)::MapAt m1 (fs.map flV)::WrB pw []::MapAt m2 (xs.map bkV)::Zi fs::Zj xs::Hs))
 refine Zc.mk rfl ⟨b.now,At.own (λ _ h=>h) (by exact ⟨rfl,trivial⟩),Zc.mk rfl ⟨b.next,At.own (λ _ h=>h) (by exact ⟨rfl,trivial⟩),Zc.mk rfl ⟨some m1,At.own (λ _ h=>h) (by exact ⟨rfl,trivial⟩),((fs.map flV).length:Int),λ w' h=>MapAt.len (by kernel_rfl) h.swap,?_⟩⟩⟩;rw [List.length_map,hfl];refine Zb hw λ b26 w hw=>⟨?_,?_⟩
 ·exact toS (hw.arr (Hs':=pts p (Zg b m1 m2)::MapAt m1 (fs.map flV)::pts b26 (.cells #[.int .i64 b.now,.int .i64 b.next,.int .i64 (b.fl.length:Int)] 3 (0,0))::WrB pw []::MapAt m2 (xs.map bkV)::Zi fs::Zj xs::Hs))
 refine (ZgK (xs:=[b.now,b.next,(b.fl.length:Int)]) rfl (by simp;omega) (by simp) hw).use ?_;clear hw;rintro _ w ⟨rfl,hw⟩;refine ⟨rfl,?_,?_⟩
 ·exact toS (hw.arr (Hs':=pts p (Zg b m1 m2)::MapAt m1 (fs.map flV)::WrB pw ([]++Zv ([b.now,b.next,(b.fl.length:Int)].map nn))::MapAt m2 (xs.map bkV)::Zi fs::Zj xs::Hs))
 rw [nn3s (by omega) (by omega) (by omega),List.nil_append] at hw;obtain ⟨h0,hh0⟩:∃ h,h=Zv [b.now]++(Zv [b.next]++Zv [(b.fl.length:Int)]):=⟨_,rfl⟩;have hl0:h0.length<=27:=by rw [hh0];simp only [List.length_append];omega
 rw [<-hh0] at hw;have hw:Sat R (pts p (Zg b m1 m2)::MapAt m1 (fs.map flV)::WrB pw h0::MapAt m2 (xs.map bkV)::Zi fs::Zj xs::Hs) w:=hw.arr;refine Zc.mk rfl ⟨some m1,oA hw,?_⟩;refine Zh8 k hl hw.swap ?_;clear hw;intro s w hw;have hsl:=Own.len hw;rw [List.length_map,List.length_map] at hsl;obtain ⟨MF,hMF⟩:∃ M,M=fs.map flV:=⟨_,rfl⟩;obtain ⟨MB,hMB⟩:∃ M,M=xs.map bkV:=⟨_,rfl⟩;obtain ⟨nums,hnums⟩:∃ n,n=b.fl.map Pl.n:=⟨_,rfl⟩;have hnl:nums.length=b.fl.length:=by rw [hnums,List.length_map]
 rw [<-hMF,<-hMB,<-hnums] at hw;have hw:Sat R (WrB pw h0::Own s 3 (Zd nums)::pts p (Zg b m1 m2)::MapAt m1 MF::MapAt m2 MB::Zi fs::Zj xs::Hs) w:=hw.arr;refine ⟨λ i w=>∃ j:Nat,i=j/\j<=b.fl.length/\Sat R (WrB pw (h0++((b.fl.take j).map plB).flatten)::Own s 3 (Zd nums)::pts p (Zg b m1 m2)::MapAt m1 MF::MapAt m2 MB::Zi fs::Zj xs::Hs) w,
  λ i _=>b.fl.length - i.toNat,⟨0,rfl,by omega,by simpa using hw⟩,?_⟩
 clear hw;rintro _ _ w ⟨j,rfl,hj,hw⟩;have hla:=a5 j;refine Br.d (λ h=>?_) (λ h=>?_)
 ·have hj2:j<b.fl.length:=by omega
  obtain ⟨pl,hpl⟩:∃ pl,pl=b.fl[j]:=⟨_,rfl⟩;have hmem:pl∈b.fl:=by rw [hpl];exact List.getElem_mem _
  have hat:b.at pl.n=some pl:=(ZhN k).2 ⟨hmem,rfl⟩;have hnj:nums[j]'(by omega)=pl.n:=by subst hnums;rw [List.getElem_map,hpl]
  have hg:=k.good pl hmem;have hq:=k.qok pl hmem;have e1:=ZcV hg;have e2:=Zk5 hq;have hw2:Sat R (Own s 3 (Zd nums)::WrB pw (h0++((b.fl.take j).map plB).flatten)::pts p (Zg b m1 m2)::MapAt m1 MF::MapAt m2 MB::Zi fs::Zj xs::Hs) w:=hw.swap;refine Own.ix hw2 (eqS hw2) j rfl (by omega) ?_;rw [hnj];refine Zc.mk rfl ⟨some m1,oA hw,?_⟩;obtain ⟨A,f,q,C,hfs,hm⟩:=ZcI hl k.nums hat;have hgm:ZH pl.n MF=some (.agg #[.pointer (some ⟨f,0,none⟩),.pointer (some ⟨q,0,none⟩)]):=by rw [hMF,hfs];exact ZhA hm
  refine ⟨some ⟨f,0,none⟩,some ⟨q,0,none⟩,λ w' e=>?_,?_⟩
  ·rw [show w'=w from e]
   have hm1:Sat R (MapAt m1 MF::WrB pw (h0++((b.fl.take j).map plB).flatten)::Own s 3 (Zd nums)::pts p (Zg b m1 m2)::MapAt m2 MB::Zi fs::Zj xs::Hs) w:=hw.arr;have:=MapAt.look ZsB hm1 pl.n false;rw [hgm] at this;exact this
  clear hw2;refine Zb hw λ b6 w hw=>?_;refine Za hw (by kernel_rfl) rfl (by simp [Value.cells]) λ w hw=>?_;have hw:=hw.re (fqC b6 f q);rw [hfs] at hw;have hw:Sat R (Zi (A++(f,q,pl)::C)::fqC b6 f q::WrB pw (h0++((b.fl.take j).map plB).flatten)::Own s 3 (Zd nums)::pts p (Zg b m1 m2)::MapAt m1 MF::MapAt m2 MB::Zj xs::Hs) w:=hw.arr;have hw:=Za7.1 hw;refine ⟨some ⟨f,0,none⟩,oA hw,?_⟩;refine (Zmm hw).use ?_;clear hw;rintro _ w ⟨t1,rfl,hw⟩;refine ⟨t1,rfl,?_⟩;have hw:Sat R (Own t1 5 (b8 (ZbC pl.r))::WrB pw (h0++((b.fl.take j).map plB).flatten)::ZC q pl.q::Zf f pl.r::Zi (A++C)::fqC b6 f q::Own s 3 (Zd nums)::pts p (Zg b m1 m2)::MapAt m1 MF::MapAt m2 MB::Zj xs::Hs) w:=hw.arr;refine (Zkl (by rw [List.length_append];omega) (by omega) hw).use ?_;clear hw;rintro _ w ⟨rfl,hw⟩;refine ⟨rfl,some ⟨q,0,none⟩,oA hw,?_⟩;refine (Zqq hq hw.swap).use ?_;clear hw;rintro _ w ⟨t2,rfl,hw⟩;refine ⟨t2,rfl,?_⟩;have e3:=ZgO (d:=ZbC pl.r) (by omega);have hw:Sat R (Own t2 5 (b8 (qB pl.q))::WrB pw (h0++((b.fl.take j).map plB).flatten++ZcQ (ZbC pl.r))::ZC q pl.q::Zf f pl.r::Zi (A++C)::fqC b6 f q::Own s 3 (Zd nums)::pts p (Zg b m1 m2)::MapAt m1 MF::MapAt m2 MB::Zj xs::Hs) w:=hw.arr;refine (Zkl (by simp only [List.length_append];omega) (by omega) hw).use ?_;clear hw;rintro _ w ⟨rfl,hw⟩;rw [Zh (x:=(j:Int) + 1) (by omega) (by omega)];refine ⟨rfl,⟨j + 1,by omega,by omega,?_⟩,by dsimp only;omega⟩;have ebs:h0++((b.fl.take j).map plB).flatten++ZcQ (ZbC pl.r)++ZcQ (qB pl.q)=h0++((b.fl.take (j + 1)).map plB).flatten:=by
   rw [Zfe hj2,<-hpl];unfold plB;simp only [List.append_assoc]
  rw [ebs] at hw;have hw:Sat R (Zf f pl.r::ZC q pl.q::Zi (A++C)::WrB pw (h0++((b.fl.take (j + 1)).map plB).flatten)::fqC b6 f q::Own s 3 (Zd nums)::pts p (Zg b m1 m2)::MapAt m1 MF::MapAt m2 MB::Zj xs::Hs) w:=hw.arr;have hw:=Za7.2 hw;rw [<-hfs] at hw;have hw:Sat R (fqC b6 f q::WrB pw (h0++((b.fl.take (j + 1)).map plB).flatten)::Own s 3 (Zd nums)::pts p (Zg b m1 m2)::MapAt m1 MF::MapAt m2 MB::Zi fs::Zj xs::Hs) w:=hw.arr;exact hw.drop
 ·have hjf:j=b.fl.length:=by omega
  rw [hjf,List.take_length] at hw;have a50:=a5 b.fl.length;rw [List.take_length] at a50;refine Zc.mk rfl ⟨some m2,oA hw,(MB.length:Int),λ w' e=>?_,?_⟩
  ·rw [show w'=w from e]
   have hm2:Sat R (MapAt m2 MB::WrB pw (h0++(b.fl.map plB).flatten)::Own s 3 (Zd nums)::pts p (Zg b m1 m2)::MapAt m1 MF::Zi fs::Zj xs::Hs) w:=hw.arr;exact MapAt.len (by kernel_rfl) hm2
  rw [show MB.length=b.L.length by rw [hMB,List.length_map,hbl]];refine Zb hw λ b62 w hw=>?_;refine (ZgK (xs:=[(b.L.length:Int)]) rfl (by simp;omega) (by simp only [List.length_append,List.length_cons,List.length_nil];omega) hw).use ?_;clear hw;rintro _ w ⟨rfl,hw⟩;rw [nn1 (by omega)] at hw;obtain ⟨h1,hh1⟩:∃ h,h=h0++(b.fl.map plB).flatten++Zv [(b.L.length:Int)]:=⟨_,rfl⟩;have hl1:h1.length<=305000:=by rw [hh1];simp only [List.length_append];omega
  rw [<-hh1] at hw;refine ⟨rfl,Zc.mk rfl ⟨some m2,oA hw,?_⟩⟩;have hw:Sat R (MapAt m2 MB::WrB pw h1::pts p (Zg b m1 m2)::MapAt m1 MF::Zi fs::Zj xs::Own s 3 (Zd nums)::Hs) w:=hw.arr;rw [hMB] at hw;refine Zh9 k hl hw ?_;clear hw;intro s2 w hw;have hsl2:=Own.len hw;rw [List.length_map,List.length_map] at hsl2;obtain ⟨ids,hids⟩:∃ n,n=b.L.map Bk.id:=⟨_,rfl⟩;have hil:ids.length=b.L.length:=by rw [hids,List.length_map]
  rw [<-hMB,<-hids] at hw;have hw:Sat R (WrB pw h1::Own s2 3 (Zd ids)::pts p (Zg b m1 m2)::MapAt m1 MF::MapAt m2 MB::Zi fs::Zj xs::Hs) w:=by
   have h:Sat R (Own s 3 (Zd nums)::WrB pw h1::Own s2 3 (Zd ids)::pts p (Zg b m1 m2)::MapAt m1 MF::MapAt m2 MB::Zi fs::Zj xs::Hs) w:=hw.arr;exact h.drop
  refine ⟨λ i w=>∃ j:Nat,i=j/\j<=b.L.length/\Sat R (WrB pw (h1++((b.L.take j).map bkB).flatten)::Own s2 3 (Zd ids)::pts p (Zg b m1 m2)::MapAt m1 MF::MapAt m2 MB::Zi fs::Zj xs::Hs) w,
   λ i _=>b.L.length - i.toNat,⟨0,rfl,by omega,by simpa using hw⟩,?_⟩
  clear hw;rintro _ _ w ⟨j,rfl,hj,hw⟩;have hlb:=a6 j;refine Br.d (λ h=>?_) (λ h=>?_)
  ·have hj2:j<b.L.length:=by omega
   obtain ⟨x,hx⟩:∃ x,x=b.L[j]:=⟨_,rfl⟩;have hmem:x∈b.L:=by rw [hx];exact List.getElem_mem _
   have hnj:ids[j]'(by omega)=x.id:=by subst hids;rw [List.getElem_map,hx]
   obtain ⟨A,a,C,hxs,hm⟩:=Zfn hl k.ids hmem;have hgm:ZH x.id MB=some (.pointer (some ⟨a,0,none⟩)):=by rw [hMB,hxs];exact ZlI hm
   have ke:=k.each x hmem;have x1:=ke.id;have x2:=ke.flt;have x3:=ke.cls;have x4:=ke.many;have x5:=ke.state;have x6:=ke.till;have hw2:Sat R (Own s2 3 (Zd ids)::WrB pw (h1++((b.L.take j).map bkB).flatten)::pts p (Zg b m1 m2)::MapAt m1 MF::MapAt m2 MB::Zi fs::Zj xs::Hs) w:=hw.swap;refine Own.ix hw2 (eqS hw2) j rfl (by omega) ?_;rw [hnj];refine Zc.mk rfl ⟨some m2,oA hw,?_⟩;refine ⟨some ⟨a,0,none⟩,λ w' e=>?_,?_⟩
   ·rw [show w'=w from e]
    have hm1:Sat R (MapAt m2 MB::WrB pw (h1++((b.L.take j).map bkB).flatten)::Own s2 3 (Zd ids)::pts p (Zg b m1 m2)::MapAt m1 MF::Zi fs::Zj xs::Hs) w:=hw.arr;have:=MapAt.look Zub hm1 x.id false;rw [hgm] at this;exact this
   clear hw2;rw [hxs] at hw;have hw:Sat R (Zj (A++(a,x)::C)::WrB pw (h1++((b.L.take j).map bkB).flatten)::Own s2 3 (Zd ids)::pts p (Zg b m1 m2)::MapAt m1 MF::MapAt m2 MB::Zi fs::Hs) w:=hw.arr;have hw:=Zcv.1 hw;have toS2:∀ {A:List HP} {R:Cx} {w:World},Sat R (pts a (Zr x)::A) w->Sat R [pts a (Zr x),VC.tru] w:=λ h=>h.restTru2;refine ZE (Sat R [pts a (Zr x),VC.tru]) hw (λ w hw=>toS2 hw) λ w hw=>?_;refine Zc.mk rfl ⟨x.flt,At.own (λ _ h=>h) (by exact ⟨rfl,trivial⟩),Zc.mk rfl ⟨x.cls,At.own (λ _ h=>h) (by exact ⟨rfl,trivial⟩),Zc.mk rfl ⟨x.many,At.own (λ _ h=>h) (by exact ⟨rfl,trivial⟩),Zc.mk rfl ⟨x.state,At.own (λ _ h=>h) (by exact ⟨rfl,trivial⟩),Zc.mk rfl ⟨x.till,At.own (λ _ h=>h) (by exact ⟨rfl,trivial⟩),?_⟩⟩⟩⟩⟩;have hw:Sat R (WrB pw (h1++((b.L.take j).map bkB).flatten)::pts a (Zr x)::Zj (A++C)::Own s2 3 (Zd ids)::pts p (Zg b m1 m2)::MapAt m1 MF::MapAt m2 MB::Zi fs::Hs) w:=hw.arr;refine Zb hw λ b103 w hw=>?_;refine (ZgK (xs:=[x.id,x.flt,x.cls,x.many,x.state,x.till]) rfl (by simp;omega) (by simp only [List.length_append,List.length_cons,List.length_nil];omega) hw).use ?_;clear hw;rintro _ w ⟨rfl,hw⟩;rw [nn6s (by omega) (by omega) (by omega) (by omega) (by omega) (by omega)] at hw;have ebs:h1++((b.L.take j).map bkB).flatten++(Zv [x.id]++(Zv [x.flt]++(Zv [x.cls]++(Zv [x.many]++(Zv [x.state]++Zv [x.till])))))=h1++((b.L.take (j + 1)).map bkB).flatten:=by
    rw [Zfe hj2,<-hx,List.append_assoc];rfl
   rw [ebs] at hw;rw [Zh (x:=(j:Int) + 1) (by omega) (by omega)];have hw:Sat R (pts a (Zr x)::Zj (A++C)::WrB pw (h1++((b.L.take (j + 1)).map bkB).flatten)::Own s2 3 (Zd ids)::pts p (Zg b m1 m2)::MapAt m1 MF::MapAt m2 MB::Zi fs::Hs) w:=hw.arr;refine ⟨rfl,toS2 hw,⟨j + 1,by omega,by omega,?_⟩,by dsimp only;omega⟩;have hw:=Zcv.2 hw;rw [<-hxs] at hw;exact hw.arr
  ·have hjf:j=b.L.length:=by omega
   rw [hjf,List.take_length] at hw;obtain ⟨t,hw⟩:=Sat.wrB.1 hw;refine ⟨t,oA hw,hK t w ?_⟩;have e:h1++(b.L.map bkB).flatten=Zba b:=by
    rw [hh1,hh0];unfold Zba;simp only [List.append_assoc]
   rw [e] at hw;rw [hMF,hMB] at hw;have hw:=hw.drop;refine hw.cons λ _ h=>Sat.book.2 ⟨m1,m2,fs,xs,hl,h.drop⟩
end
section
open Go Go.VC Tryz
open Classical
variable {R:Cx} {Hs Rest:List HP} {w:World}
theorem Zj4 {t:Sl} {bs:List Int} {T:TypeId} (hl:bs.length<=9223372036854775807) (hw:Sat R Hs w) [tk:Zkk (Own t T (b8 bs)) Hs Rest]:∀ w',(λ w'=>w'=w) w'->(convert 42 9 (.slice t.a t.len t.cap)).run prog w'=.ok (.string (VC.strOf bs)) w':=λ w' e=>by
 rw [show w'=w from e]
 obtain ⟨_,q1,_,hw1,_⟩:=Own.lend (hw.perm tk.perm) (by rw [List.length_map];exact hl);exact Zj5 underlying42 underlying5 underlying9 hw1 q1
end
end Go.Proofs.YtfgbbckfikiomaaGreatDoor
