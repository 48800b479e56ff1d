/- Floats, plain, part 4: how any two stand to each other, by one integer each. No program. No condition. -/
import Derived.Test.YtfgbbckfikiomaaGreatDoorB2
namespace Go.VC
set_option linter.unusedVariables false
open Ieee
def bigF:Int:=2 ^ 2200
def valD:Datum→Option Int
 | .nan ..=>none
 | .infinity s=>some (if s then -bigF else bigF)
 | .number s m i=>some (signed s m (i + 1074).toNat)
def kvF (x:Nat):Int:=match valD (double.read x) with|none=>-bigF - 1|some v=>v
end Go.VC
/- Who waits, plainly: their order, putting in, taking out, the first that fits. No condition. -/
namespace Go.VC
set_option linter.unusedVariables false
def keyF (b:Nat):Nat:=if b<9223372036854775808 then b + 9223372036854775808 else 18446744073709551615 - b
def ofF (k:Nat):Nat:=if 9223372036854775808≤k then k - 9223372036854775808 else 18446744073709551615 - k
theorem key_lt {b:Nat} (h:b<18446744073709551616):keyF b<18446744073709551616:=by
 unfold keyF
 split<;>omega
theorem of_lt {k:Nat} (h:k<18446744073709551616):ofF k<18446744073709551616:=by
 unfold ofF
 split<;>omega
structure Wt where
 id:Int
 cls:Int
 many:Int
 time:Int
 sc:Nat
deriving DecidableEq
def Wt.Ok (w:Wt):Prop:=(1≤w.id∧w.id≤28629151)∧(0≤w.cls∧w.cls≤7)∧(1≤w.many∧w.many≤600)∧(0≤w.time∧w.time≤1099511627776)
instance (w:Wt):Decidable w.Ok:=by unfold Wt.Ok;infer_instance
def Wt.ahead (a b:Wt):Bool:=if kvF a.sc=kvF b.sc then (if a.time=b.time then decide (a.id<b.id) else decide (a.time<b.time)) else decide (kvF b.sc<kvF a.sc)
theorem ahead_iff {a b:Wt}:a.ahead b=true↔kvF b.sc<kvF a.sc∨kvF a.sc=kvF b.sc∧(a.time<b.time∨a.time=b.time∧a.id<b.id):=by
 unfold Wt.ahead
 split
 ·split
  ·simp;omega
  ·simp;omega
 ·simp;omega
theorem ahead_trans {a b c:Wt} (h1:a.ahead b=true) (h2:b.ahead c=true):a.ahead c=true:=by
 rw [ahead_iff] at *;omega
theorem ahead_tot {a b:Wt} (h:a.id≠b.id) (h1:a.ahead b=false):b.ahead a=true:=by
 rw [ahead_iff]
 have:¬ a.ahead b=true:=by rw [h1];simp
 rw [ahead_iff] at this
 omega
def QSt (q:List Wt):Prop:=q.Pairwise fun a b=>a.ahead b=true
def QIds (q:List Wt):Prop:=q.Pairwise fun a b=>a.id≠b.id
structure QOk (q:List Wt):Prop where
 st:QSt q
 ids:QIds q
 ok:∀ w∈q,w.Ok
 fl:∀ w∈q,w.sc<18446744073709551616
 len:q.length≤200
theorem QOk.nil:QOk []:=⟨List.Pairwise.nil,List.Pairwise.nil,fun _ h=>(by cases h),fun _ h=>(by cases h),by simp⟩
def insQ (w:Wt) (q:List Wt):List Wt:=q.takeWhile (fun a=>a.ahead w)++w::q.dropWhile (fun a=>a.ahead w)
theorem insQ_cons (w a:Wt) (q:List Wt):insQ w (a::q)=if a.ahead w then a::insQ w q else w::a::q:=by
 unfold insQ
 rw [List.takeWhile_cons,List.dropWhile_cons]
 split<;>rfl
theorem insQ_mem {w x:Wt}:∀ {q:List Wt},x∈insQ w q↔x=w∨x∈q
 |[]=>by simp [insQ]
 |a::q=>by
  rw [insQ_cons]
  split
  ·rw [List.mem_cons,insQ_mem,List.mem_cons]
   constructor
   ·rintro (h|h|h)<;>simp [h]
   ·rintro (h|h|h)<;>simp [h]
  ·rw [List.mem_cons]
theorem insQ_len {w:Wt}:∀ {q:List Wt},(insQ w q).length=q.length + 1
 |[]=>rfl
 |a::q=>by
  rw [insQ_cons]
  split
  ·rw [List.length_cons,insQ_len,List.length_cons]
  ·rfl
theorem insQ_st {w:Wt}:∀ {q:List Wt},QSt q→(∀ x∈q,x.id≠w.id)→QSt (insQ w q)
 |[],_,_=>List.Pairwise.cons (fun _ h=>(by cases h)) List.Pairwise.nil
 |a::q,h,hid=>by
  have h1:=List.pairwise_cons.1 h
  rw [insQ_cons]
  split
  ·rename_i ha
   refine List.Pairwise.cons (fun x hx=>?_) (insQ_st h1.2 fun x hx=>hid x (by simp [hx]))
   rcases insQ_mem.1 hx with rfl|hx
   ·exact ha
   ·exact h1.1 x hx
  ·rename_i ha
   have hwa:w.ahead a=true:=ahead_tot (hid a (by simp)) (by simpa using ha)
   refine List.Pairwise.cons (fun x hx=>?_) h
   rcases List.mem_cons.1 hx with rfl|hx
   ·exact hwa
   ·exact ahead_trans hwa (h1.1 x hx)
theorem insQ_ids {w:Wt}:∀ {q:List Wt},QIds q→(∀ x∈q,x.id≠w.id)→QIds (insQ w q)
 |[],_,_=>List.Pairwise.cons (fun _ h=>(by cases h)) List.Pairwise.nil
 |a::q,h,hid=>by
  have h1:=List.pairwise_cons.1 h
  rw [insQ_cons]
  split
  ·refine List.Pairwise.cons (fun x hx=>?_) (insQ_ids h1.2 fun x hx=>hid x (by simp [hx]))
   rcases insQ_mem.1 hx with rfl|hx
   ·exact hid a (by simp)
   ·exact h1.1 x hx
  ·refine List.Pairwise.cons (fun x hx=>?_) h
   exact fun e=>hid x hx e.symm
def hasQ (id:Int) (q:List Wt):Bool:=q.any fun w=>decide (w.id=id)
def qadd (q:List Wt) (w:Wt):List Wt × Int:=
 if ¬ w.Ok then (q,1) else if hasQ w.id q then (q,7) else if 200≤q.length then (q,3) else (insQ w q,0)
def delQ (id:Int):List Wt→List Wt
 |[]=>[]
 |w::q=>if w.id=id then q else w::delQ id q
def qrem (q:List Wt) (id:Int):List Wt × Int:=if hasQ id q then (delQ id q,0) else (q,2)
theorem hasQ_no {id:Int} {q:List Wt}:hasQ id q=false↔∀ w∈q,w.id≠id:=by
 unfold hasQ
 simp
theorem delQ_sub {id:Int}:∀ {q:List Wt},(delQ id q).Sublist q
 |[]=>List.Sublist.refl _
 |w::q=>by
  show (if w.id=id then q else w::delQ id q).Sublist _
  split
  ·exact List.sublist_cons_self _ _
  ·exact delQ_sub.cons_cons _
theorem QOk.del {q:List Wt} (h:QOk q) (id:Int):QOk (delQ id q):=
 ⟨h.st.sublist delQ_sub,h.ids.sublist delQ_sub,fun w hw=>h.ok w (delQ_sub.subset hw),fun w hw=>h.fl w (delQ_sub.subset hw),Nat.le_trans delQ_sub.length_le h.len⟩
theorem QOk.rem {q:List Wt} (h:QOk q) (id:Int):QOk (qrem q id).1:=by
 unfold qrem
 split
 ·exact h.del id
 ·exact h
theorem QOk.ins {q:List Wt} (h:QOk q) {w:Wt} (hw:w.Ok) (hf:w.sc<18446744073709551616) (hn:hasQ w.id q=false) (hl:q.length<200):QOk (insQ w q):=by
 have hn':=hasQ_no.1 hn
 refine ⟨insQ_st h.st hn',insQ_ids h.ids hn',fun x hx=>?_,fun x hx=>?_,by rw [insQ_len];omega⟩
 ·rcases insQ_mem.1 hx with rfl|hx
  ·exact hw
  ·exact h.ok x hx
 ·rcases insQ_mem.1 hx with rfl|hx
  ·exact hf
  ·exact h.fl x hx
theorem QOk.add {q:List Wt} (h:QOk q) {w:Wt} (hf:w.sc<18446744073709551616):QOk (qadd q w).1:=by
 unfold qadd
 split
 ·exact h
 ·rename_i h1
  split
  ·exact h
  ·rename_i h2
   split
   ·exact h
   ·rename_i h3
    exact h.ins (by simpa using h1) hf (by simpa using h2) (by omega)
def fitsQ (left:List Int) (w:Wt):Bool:=decide (w.cls<left.length) && decide (w.many≤left.getD w.cls.toNat 0)
def qfirst (q:List Wt) (left:List Int):Option Wt:=q.find? (fitsQ left)
end Go.VC

/- Commands and replies as bytes, plainly: there and back. No condition. -/
namespace Go.Proofs.YtfgbbckfikiomaaGreatDoor
set_option linter.unusedVariables false
open Go Go.VC
def rdEach {α:Type} (one:Rd→α × Rd):Nat→Rd→List α × Rd
 |0,r=>([],r)
 |n + 1,r=>((one r).1::(rdEach one n (one r).2).1,(rdEach one n (one r).2).2)
theorem rdEach_succ {α:Type} (one:Rd→α × Rd) (n:Nat) (r:Rd):rdEach one (n + 1) r=((one r).1::(rdEach one n (one r).2).1,(rdEach one n (one r).2).2):=rfl
theorem rdEach_len {α:Type} (one:Rd→α × Rd):∀ (n:Nat) (r:Rd),(rdEach one n r).1.length=n
 |0,_=>rfl
 |n + 1,r=>by rw [rdEach_succ,List.length_cons,rdEach_len one n]
theorem rdEach_snoc {α:Type} (one:Rd→α × Rd):∀ (k:Nat) (r:Rd),rdEach one (k + 1) r=((rdEach one k r).1++[(one (rdEach one k r).2).1],(one (rdEach one k r).2).2)
 |0,_=>rfl
 |k + 1,r=>by
  rw [rdEach_succ,rdEach_snoc one k (one r).2]
  rfl
theorem rdEach_inv {α:Type} {one:Rd→α × Rd} {P:Rd→Prop} {Q:α→Prop} (h:∀ r,P r→Q (one r).1∧P (one r).2):∀ (n:Nat) {r:Rd},P r→(∀ x∈(rdEach one n r).1,Q x)∧P (rdEach one n r).2
 |0,_,hr=>⟨fun _ hx=>(by cases hx),hr⟩
 |n + 1,r,hr=>by
  have h1:=h r hr
  have h2:=rdEach_inv h n h1.2
  refine ⟨fun x hx=>?_,h2.2⟩
  rcases List.mem_cons.1 hx with rfl|hx
  ·exact h1.1
  ·exact h2.1 x hx
def Bytes (l:List Int):Prop:=∀ x∈l,0≤x∧x<256
def strRd (most:Int) (r:Rd):ByteArray × Rd:=(VC.strOf (rdText most r).1,(rdText most r).2)
def fltRd (r:Rd):Nat × Rd:=(ofF (rdNum 18446744073709551615 r).1.toNat,(rdNum 18446744073709551615 r).2)
def strB (s:ByteArray):List Int:=textB (bytesL s)
def fltB (x:Nat):List Int:=numB (keyF x)
theorem strRd_bd {most:Int} {rd:Rd} (hb:Bytes rd.bs):Bytes (strRd most rd).2.bs:=(rdText_bd hb).2
theorem fltRd_bd {rd:Rd} (hb:Bytes rd.bs):Bytes (fltRd rd).2.bs:=rdNum_bd hb
theorem fltRd_lt {rd:Rd} (hb:Bytes rd.bs):(fltRd rd).1<18446744073709551616:=by
 have:=rdNum_val (most:=18446744073709551615) hb (by omega)
 exact of_lt (by omega)
structure Cm where
 kind:Int
 pnr:ByteArray
 flt:Int
 cls:Int
 many:Int
 time:Int
 sc:Nat
 lab:ByteArray
 rows:Int
 grps:List Int
 parts:List Nat
def numOk (n:Int):Prop:=0≤n∧n≤9999
structure RightC (c:Cm):Prop where
 flt:numOk c.flt
 cls:numOk c.cls
 many:numOk c.many
 rows:numOk c.rows
 grps:∀ n∈c.grps,numOk n
 pnr:c.pnr.size≤16
 lab:c.lab.size≤16
 gl:c.grps.length≤16
 pl:c.parts.length≤16
 kind:1≤c.kind∧c.kind≤9
 time:0≤c.time∧c.time≤1099511627776
structure FltC (c:Cm):Prop where
 sc:c.sc<18446744073709551616
 parts:∀ x∈c.parts,x<18446744073709551616
def cmB (c:Cm):List Int:=
 numsB [c.kind]++(strB c.pnr++(numsB [c.flt]++(numsB [c.cls]++(numsB [c.many]++(numsB [c.time]++(fltB c.sc++(strB c.lab++(numsB [c.rows]++(numsB [(c.grps.length:Int)]++(numsB c.grps++(numsB [(c.parts.length:Int)]++(c.parts.map fltB).flatten)))))))))))
def cmRd (r:Rd):Cm × Rd:=
 let k:=rdNum 9 r
 let p:=strRd 16 k.2
 let f:=rdNum 9999 p.2
 let c:=rdNum 9999 f.2
 let m:=rdNum 9999 c.2
 let t:=rdNum 1099511627776 m.2
 let s:=fltRd t.2
 let l:=strRd 16 s.2
 let w:=rdNum 9999 l.2
 let n:=rdNum 16 w.2
 let g:=rdEach (rdNum 9999) n.1.toNat n.2
 let q:=rdNum 16 g.2
 let x:=rdEach fltRd q.1.toNat q.2
 (⟨k.1,p.1,f.1,c.1,m.1,t.1,s.1,l.1,w.1,g.1,x.1⟩,x.2)
structure Rp where
 code:Int
 pnr:ByteArray
 state:Int
 flt:Int
 cls:Int
 many:Int
 time:Int
 left:List Int
 labs:List ByteArray
def nn (n:Int):Int:=max n 0
structure RpIn (r:Rp):Prop where
 code:0≤r.code∧r.code≤1099511627776
 pnr:r.pnr.size≤16
 state:0≤r.state∧r.state≤1099511627776
 flt:0≤r.flt∧r.flt≤1099511627776
 cls:0≤r.cls∧r.cls≤1099511627776
 many:0≤r.many∧r.many≤1099511627776
 time:0≤r.time∧r.time≤1099511627776
 ll:r.left.length≤8
 left:∀ n∈r.left,0≤n∧n≤1099511627776
 bl:r.labs.length≤600
 labs:∀ s∈r.labs,s.size≤16
theorem nn_id {n:Int} (h:0≤n):nn n=n:=by unfold nn;omega
theorem nn_map {l:List Int} (h:∀ n∈l,0≤n):l.map nn=l:=by
 induction l with
 |nil=>rfl
 |cons x l ih=>rw [List.map_cons,nn_id (h x (by simp)),ih fun y hy=>h y (by simp [hy])]
end Go.Proofs.YtfgbbckfikiomaaGreatDoor
/- Lists by keys. No condition. -/
namespace Go.VC
set_option linter.unusedVariables false
section
variable {α:Type} {k:α→Int}
def KRise (k:α→Int) (l:List α):Prop:=l.Pairwise fun a b=>k a<k b
def kget (k:α→Int) (n:Int) (l:List α):Option α:=l.find? fun x=>decide (k x=n)
def kset (k:α→Int) (n:Int) (f:α→α) (l:List α):List α:=l.map fun x=>if k x=n then f x else x
def kins (k:α→Int) (x:α) (l:List α):List α:=l.takeWhile (fun y=>decide (k y<k x))++x::l.dropWhile (fun y=>decide (k y<k x))
theorem kget_none {n:Int} {l:List α}:kget k n l=none↔∀ x∈l,k x≠n:=by
 unfold kget
 rw [List.find?_eq_none]
 simp
theorem mem_kset {n:Int} {f:α→α} {l:List α} {y:α}:y∈kset k n f l↔∃ x∈l,y=if k x=n then f x else x:=by
 unfold kset
 rw [List.mem_map]
 exact ⟨fun ⟨x,h1,h2⟩=>⟨x,h1,h2.symm⟩,fun ⟨x,h1,h2⟩=>⟨x,h1,h2.symm⟩⟩
theorem kset_len {n:Int} {f:α→α} {l:List α}:(kset k n f l).length=l.length:=List.length_map _
theorem kset_rise {n:Int} {f:α→α} {l:List α} (h:KRise k l) (hf:∀ x∈l,k x=n→k (f x)=n):KRise k (kset k n f l):=by
 unfold KRise kset
 rw [List.pairwise_map]
 refine List.Pairwise.imp_of_mem (fun {a b} ha hb hab=>?_) h
 have h1:k (if k a=n then f a else a)=k a:=by
  split
  ·rename_i e;rw [hf a ha e,e]
  ·rfl
 have h2:k (if k b=n then f b else b)=k b:=by
  split
  ·rename_i e;rw [hf b hb e,e]
  ·rfl
 rw [h1,h2]
 exact hab
theorem kins_cons (x a:α) (l:List α):kins k x (a::l)=if k a<k x then a::kins k x l else x::a::l:=by
 unfold kins
 rw [List.takeWhile_cons,List.dropWhile_cons]
 by_cases h:k a<k x
 ·rw [decide_eq_true h,if_pos h];rfl
 ·rw [decide_eq_false h,if_neg h];rfl
theorem kins_perm {x:α}:∀ {l:List α},(kins k x l).Perm (x::l)
 |[]=>List.Perm.refl _
 |a::l=>by
  rw [kins_cons]
  split
  ·exact (kins_perm.cons a).trans (List.Perm.swap x a l)
  ·exact List.Perm.refl _
theorem KRise.ne {l:List α} (h:KRise k l):l.Pairwise fun a b=>k a≠k b:=h.imp fun hab e=>by omega
end
end Go.VC

/- Who waits, as bytes: there and back; what Decode tells. No condition. -/
namespace Go.Proofs.YtfgbbckfikiomaaGreatDoor
set_option linter.unusedVariables false
open Go Go.VC
def wtRd (r:Rd):Wt × Rd:=
 let a:=rdNum 28629151 r
 let b:=rdNum 7 a.2
 let c:=rdNum 600 b.2
 let d:=rdNum 1099511627776 c.2
 let e:=fltRd d.2
 (⟨a.1,b.1,c.1,d.1,e.1⟩,e.2)
theorem wtRd_bd {r:Rd} (hb:Bytes r.bs):Bytes (wtRd r).2.bs:=fltRd_bd (rdNum_bd (rdNum_bd (rdNum_bd (rdNum_bd hb))))
theorem wtRd_fl {r:Rd} (hb:Bytes r.bs):(wtRd r).1.sc<18446744073709551616:=fltRd_lt (rdNum_bd (rdNum_bd (rdNum_bd (rdNum_bd hb))))
structure QRight (q:List Wt):Prop where
 st:QSt q
 ids:QIds q
 ok:∀ w∈q,w.Ok
theorem QRight.pre {a b:List Wt} (h:QRight (a++b)):QRight a:=
 ⟨(List.pairwise_append.1 h.st).1,(List.pairwise_append.1 h.ids).1,fun w hw=>h.ok w (by simp [hw])⟩
theorem QRight.nil:QRight []:=⟨List.Pairwise.nil,List.Pairwise.nil,fun _ h=>(by cases h)⟩
theorem QRight.snoc {q:List Wt} {w:Wt} (h:QRight q) (hw:w.Ok) (hi:∀ x∈q,x.id≠w.id) (ha:∀ x∈q,x.ahead w=true):QRight (q++[w]):=by
 refine ⟨List.pairwise_append.2 ⟨h.st,List.pairwise_singleton _ _,fun a ha' b hb=>?_⟩,List.pairwise_append.2 ⟨h.ids,List.pairwise_singleton _ _,fun a ha' b hb=>?_⟩,fun x hx=>?_⟩
 ·rw [List.mem_singleton.1 hb];exact ha a ha'
 ·rw [List.mem_singleton.1 hb];exact hi a ha'
 ·rcases List.mem_append.1 hx with hx|hx
  ·exact h.ok x hx
  ·rw [List.mem_singleton.1 hx];exact hw
theorem QRight.last {q:List Wt} {w:Wt} (h:QRight (q++[w])):w.Ok∧(∀ x∈q,x.id≠w.id)∧∀ x∈q,x.ahead w=true:=
 ⟨h.ok w (by simp),fun x hx=>(List.pairwise_append.1 h.ids).2.2 x hx w (by simp),fun x hx=>(List.pairwise_append.1 h.st).2.2 x hx w (by simp)⟩
def qRaw (bs:List Int):List Wt × Rd:=rdEach wtRd (rdNum 200 ⟨bs,false⟩).1.toNat (rdNum 200 ⟨bs,false⟩).2
def QDec (bs:List Int):Prop:=rdWhole (qRaw bs).2=true∧QRight (qRaw bs).1
theorem qRaw_bd {bs:List Int} (hb:Bytes bs):(∀ w∈(qRaw bs).1,w.sc<18446744073709551616)∧Bytes (qRaw bs).2.bs:=
 rdEach_inv (one:=wtRd) (P:=fun r=>Bytes r.bs) (Q:=fun w=>w.sc<18446744073709551616) (fun _ hr=>⟨wtRd_fl hr,wtRd_bd hr⟩) (rdNum 200 ⟨bs,false⟩).1.toNat (r:=(rdNum 200 ⟨bs,false⟩).2) (rdNum_bd (rd:=⟨bs,false⟩) hb)
theorem qRaw_len {bs:List Int} (hb:Bytes bs):(qRaw bs).1.length≤200:=by
 have:=rdNum_val (most:=200) (rd:=⟨bs,false⟩) hb (by omega)
 show (rdEach wtRd _ _).1.length≤200
 rw [rdEach_len]
 omega
theorem QDec.ok {bs:List Int} (hb:Bytes bs) (h:QDec bs):QOk (qRaw bs).1:=⟨h.2.st,h.2.ids,h.2.ok,(qRaw_bd hb).1,qRaw_len hb⟩
end Go.Proofs.YtfgbbckfikiomaaGreatDoor
/- Both flights side by side: fresh, awake, few, do, alike. Condition: bounds. -/
namespace Go.Proofs.YtfgbbckfikiomaaGreatDoor
set_option linter.unusedVariables false
open Go Go.VC
variable {R R':Cx} {Hs Rest:List HP} {w:World}
def PairAt (p q:Nat) (r:RF):HP:=exs fun f:PF=>Star [pur (Tie f r∧Good r),FlightAt p f,RFAt q r]
theorem Sat.pair {p q:Nat} {r:RF}:Sat R (PairAt p q r::Hs) w↔∃ f,(Tie f r∧Good r)∧Sat R (FlightAt p f::RFAt q r::Hs) w:=by
 unfold PairAt
 rw [Sat.exs]
 constructor
 ·rintro ⟨f,h⟩
  obtain ⟨h1,h2⟩:=Sat.pur.1 (Sat.star.1 h)
  exact ⟨f,h1,h2⟩
 ·rintro ⟨f,h1,h2⟩
  exact ⟨f,Sat.star.2 (Sat.pur.2 ⟨h1,h2⟩)⟩
theorem Good.hL {r:RF} (g:Good r):r.L.length≤1000000:=by have:=g.len.1;omega
structure StepL where
 d:Int
 owner:Int
 cls:Int
 many:Int
 label:ByteArray
end Go.Proofs.YtfgbbckfikiomaaGreatDoor
/- The program's flight alone, told by the document's; alike; how the laws begin. Condition: bounds. -/
namespace Go.Proofs.YtfgbbckfikiomaaGreatDoor
set_option linter.unusedVariables false
open Go Go.VC
variable {R R':Cx} {Hs Rest:List HP} {w:World}
def LoneAt (p:Nat) (r:RF):HP:=exs fun f:PF=>Star [pur (Tie f r∧Good r),FlightAt p f]
theorem Sat.lone {p:Nat} {r:RF}:Sat R (LoneAt p r::Hs) w↔∃ f,(Tie f r∧Good r)∧Sat R (FlightAt p f::Hs) w:=by
 unfold LoneAt
 rw [Sat.exs]
 constructor
 ·rintro ⟨f,h⟩
  obtain ⟨h1,h2⟩:=Sat.pur.1 (Sat.star.1 h)
  exact ⟨f,h1,h2⟩
 ·rintro ⟨f,h1,h2⟩
  exact ⟨f,Sat.star.2 (Sat.pur.2 ⟨h1,h2⟩)⟩
theorem PairAt.open {p q:Nat} {r:RF} (hw:Sat R (PairAt p q r::Hs) w):Good r∧Sat R (LoneAt p r::RFAt q r::Hs) w:=by
 obtain ⟨f,h,hw⟩:=Sat.pair.1 hw
 exact ⟨h.2,Sat.lone.2 ⟨f,h,hw⟩⟩
theorem PairAt.close {p q:Nat} {r:RF} (hw:Sat R (LoneAt p r::RFAt q r::Hs) w):Sat R (PairAt p q r::Hs) w:=by
 obtain ⟨f,h,hw⟩:=Sat.lone.1 hw
 exact Sat.pair.2 ⟨f,h,hw⟩
section
variable {p:Nat} {r:RF}
theorem lone_left (hw:Sat R (LoneAt p r::Hs) w):Gets Tryz.prog 58 #[.pointer (some ⟨p,0,none⟩)] w fun v w'=>∃ t:Sl,v=.slice t.a t.len t.cap∧Sat R (Own t 3 (intsI (rleftsF r))::LoneAt p r::Hs) w':=by
 obtain ⟨f,⟨t,g⟩,hw⟩:=Sat.lone.1 hw
 have b:=t.bounds g
 refine (left_fspec (by omega) (by omega) hw).use ?_
 rintro _ w ⟨s,rfl,hw⟩
 rw [tie_left t] at hw
 exact ⟨_,rfl,s,rfl,hw.cons fun _ h=>Sat.lone.2 ⟨_,⟨t,g⟩,h⟩⟩
end
end Go.Proofs.YtfgbbckfikiomaaGreatDoor



/- The book, plainly: what each command does. No condition. -/
namespace Go.Proofs.YtfgbbckfikiomaaGreatDoor
set_option linter.unusedVariables false
open Go Go.VC
open Classical
noncomputable section
structure Pl where
 r:RF
 q:List Wt
abbrev Pl.n (p:Pl):Int:=p.r.num
structure Bk where
 id:Int
 flt:Int
 cls:Int
 many:Int
 state:Int
 till:Int
structure Book where
 now:Int
 next:Int
 fl:List Pl
 L:List Bk
def Book.at (b:Book) (n:Int):Option Pl:=kget Pl.n n b.fl
def Book.bk (b:Book) (id:Int):Option Bk:=kget Bk.id id b.L
def Book.put (b:Book) (n:Int) (f:Pl→Pl) (L:List Bk):Book:={ b with fl:=kset Pl.n n f b.fl,L:=L }
def newBook:Book:=⟨0,1,[],[]⟩
def emS:ByteArray:=ByteArray.empty
def errR (e:Int):Rp:=⟨e,emS,0,0,0,0,0,[],[]⟩
def openB (b:Book) (c:Cm):Book × Rp:=
 if (b.at c.flt).isSome then (b,errR 7) else if 8≤b.fl.length then (b,errR 3)
 else if ¬ newOk c.flt c.rows c.grps c.parts then (b,errR 1)
 else ({ b with fl:=kins Pl.n ⟨rnewF c.flt c.rows c.grps (limitsT (layN c.rows c.grps) c.parts).1,[]⟩ b.fl },
  ⟨0,emS,0,c.flt,0,0,0,rleftsF (rnewF c.flt c.rows c.grps (limitsT (layN c.rows c.grps) c.parts).1),[]⟩)
def takeP (id cls many:Int) (p:Pl):Pl:={ p with r:=(rtakeF p.r id cls many).1 }
def HasP (p:Pl) (x:Bk):Prop:=
 if x.state=3 then (∃ w∈p.q,w.id=x.id∧w.cls=x.cls∧w.many=x.many)∧x.cls<p.r.lims.length
 else ∃ h∈p.r.L,h.owner=x.id∧h.cls=x.cls∧h.many=x.many
structure BkOk (next:Int) (x:Bk):Prop where
 id:1≤x.id∧x.id<next
 flt:0≤x.flt∧x.flt≤9999
 cls:0≤x.cls∧x.cls≤9999
 many:0≤x.many∧x.many≤9999
 state:1≤x.state∧x.state≤3
 till:0≤x.till∧x.till≤1099511627776
 free:x.state≠1→x.till=0
structure LocP (L:List Bk) (p:Pl):Prop where
 has:∀ x∈L,x.flt=p.n→HasP p x
 backQ:∀ w∈p.q,∃ x∈L,x.id=w.id∧x.flt=p.n∧x.state=3
 backH:∀ h∈p.r.L,∃ x∈L,x.id=h.owner∧x.flt=p.n∧x.state≠3
structure Core (b:Book):Prop where
 now:0≤b.now∧b.now≤1099511627776
 next:1≤b.next∧b.next≤28629151
 good:∀ p∈b.fl,Good p.r
 qok:∀ p∈b.fl,QOk p.q
 nums:KRise Pl.n b.fl
 few:b.fl.length≤8
 ids:KRise Bk.id b.L
 each:∀ x∈b.L,BkOk b.next x
 many:b.L.length≤300
 there:∀ x∈b.L,∃ p∈b.fl,p.n=x.flt
 loc:∀ p∈b.fl,LocP b.L p
def Timely (b:Book):Prop:=∀ x∈b.L,x.state=1→b.now<x.till
def NoFit (p:Pl):Prop:=qfirst p.q (rleftsF p.r)=none
structure BookOk (b:Book):Prop where
 core:Core b
 time:Timely b
 nofit:∀ p∈b.fl,NoFit p
theorem Core.swap {b:Book} (c:Core b) {n:Int} {f:Pl→Pl} {L:List Bk} {next:Int} (hn:b.next≤next∧next≤28629151)
  (hf:∀ p∈b.fl,p.n=n→(f p).n=n∧Good (f p).r∧QOk (f p).q∧LocP L (f p))
  (ids:KRise Bk.id L) (each:∀ x∈L,BkOk next x) (many:L.length≤300)
  (out:∀ x,x.flt≠n→(x∈L↔x∈b.L)) (here:∀ x∈L,x.flt=n→∃ p∈b.fl,p.n=n):Core { b.put n f L with next:=next }:=by
 have hmem:∀ {p},p∈kset Pl.n n f b.fl→∃ q∈b.fl,q.n=p.n∧((q.n=n∧p=f q)∨(q.n≠n∧p=q)):=fun {p} hp=>by
  obtain ⟨q,hq,e⟩:=mem_kset.1 hp
  by_cases h:q.n=n
  ·rw [if_pos h] at e
   exact ⟨q,hq,by rw [e,(hf q hq h).1,h],.inl ⟨h,e⟩⟩
  ·rw [if_neg h] at e
   exact ⟨q,hq,by rw [e],.inr ⟨h,e⟩⟩
 have hput:∀ {q},q∈b.fl→∃ p∈kset Pl.n n f b.fl,p.n=q.n:=fun {q} hq=>by
  by_cases h:q.n=n
  ·exact ⟨f q,mem_kset.2 ⟨q,hq,by rw [if_pos h]⟩,by rw [(hf q hq h).1,h]⟩
  ·exact ⟨q,mem_kset.2 ⟨q,hq,by rw [if_neg h]⟩,rfl⟩
 refine ⟨c.now,⟨Int.le_trans c.next.1 hn.1,hn.2⟩,fun p hp=>?_,fun p hp=>?_,kset_rise c.nums fun p hp e=>(hf p hp e).1,by show (kset Pl.n n f b.fl).length≤8;rw [kset_len];exact c.few,ids,each,many,fun x hx=>?_,fun p hp=>?_⟩
 ·obtain ⟨q,hq,_,⟨h,rfl⟩|⟨h,rfl⟩⟩:=hmem hp
  ·exact (hf q hq h).2.1
  ·exact c.good p hq
 ·obtain ⟨q,hq,_,⟨h,rfl⟩|⟨h,rfl⟩⟩:=hmem hp
  ·exact (hf q hq h).2.2.1
  ·exact c.qok p hq
 ·by_cases h:x.flt=n
  ·obtain ⟨p,hp,e⟩:=here x hx h
   obtain ⟨p',hp',e'⟩:=hput hp
   exact ⟨p',hp',by rw [e',e,h]⟩
  ·obtain ⟨p,hp,e⟩:=c.there x ((out x h).1 hx)
   obtain ⟨p',hp',e'⟩:=hput hp
   exact ⟨p',hp',by rw [e',e]⟩
 ·obtain ⟨q,hq,_,⟨h,rfl⟩|⟨h,rfl⟩⟩:=hmem hp
  ·exact (hf q hq h).2.2.2
  ·have hl:=c.loc p hq
   refine ⟨fun x hx e=>hl.has x ((out x (by rw [e];exact h)).1 hx) e,fun w hw=>?_,fun o ho=>?_⟩
   ·obtain ⟨x,hx,a1,a2,a3⟩:=hl.backQ w hw
    exact ⟨x,(out x (by rw [a2];exact h)).2 hx,a1,a2,a3⟩
   ·obtain ⟨x,hx,a1,a2,a3⟩:=hl.backH o ho
    exact ⟨x,(out x (by rw [a2];exact h)).2 hx,a1,a2,a3⟩
theorem BkOk.le {n m:Int} {x:Bk} (h:BkOk n x) (hl:n≤m):BkOk m x:=⟨⟨h.id.1,Int.lt_of_lt_of_le h.id.2 hl⟩,h.flt,h.cls,h.many,h.state,h.till,h.free⟩
end
end Go.Proofs.YtfgbbckfikiomaaGreatDoor
/- What a flight's steps do to what is left, and to who has what. No condition. -/
namespace Go.Proofs.YtfgbbckfikiomaaGreatDoor
set_option linter.unusedVariables false
open Go Go.VC
variable {r:RF} {o c m:Int}
structure Seatly (r r':RF):Prop where
 num:r'.num=r.num
 lims:r'.lims=r.lims
 rows:r'.rows=r.rows
 grps:r'.grps=r.grps
 each:∃ A hd hd' C,r.L=A++hd::C∧r'.L=A++hd'::C∧hd'.owner=hd.owner∧hd'.cls=hd.cls∧hd'.many=hd.many
theorem Seatly.sold {r':RF} (h:Seatly r r'):r'.sold=r.sold:=by
 obtain ⟨A,hd,hd',C,e1,e2,_,e4,e5⟩:=h.each
 unfold RF.sold soldL
 rw [h.lims]
 apply List.map_congr_left
 intro k _
 rw [e1,e2,cntL_app,cntL_app,cntL_cons,cntL_cons,e4,e5]
theorem Seatly.mem {r':RF} (h:Seatly r r') {x:Hold} (hx:x∈r.L):∃ y∈r'.L,y.owner=x.owner∧y.cls=x.cls∧y.many=x.many:=by
 obtain ⟨A,hd,hd',C,e1,e2,e3,e4,e5⟩:=h.each
 rw [e1,List.mem_append,List.mem_cons] at hx
 rw [e2]
 rcases hx with hx|rfl|hx
 ·exact ⟨x,by simp [hx],rfl,rfl,rfl⟩
 ·exact ⟨hd',by simp,e3,e4,e5⟩
 ·exact ⟨x,by simp [hx],rfl,rfl,rfl⟩
theorem Seatly.symm {r':RF} (h:Seatly r r'):Seatly r' r:=by
 obtain ⟨A,hd,hd',C,e1,e2,e3,e4,e5⟩:=h.each
 exact ⟨h.num.symm,h.lims.symm,h.rows.symm,h.grps.symm,A,hd',hd,C,e2,e1,e3.symm,e4.symm,e5.symm⟩
end Go.Proofs.YtfgbbckfikiomaaGreatDoor
/- The book, plainly: what holds of it, behind each step. No condition. -/
namespace Go.Proofs.YtfgbbckfikiomaaGreatDoor
set_option linter.unusedVariables false
open Go Go.VC
variable {b:Book} {n:Int} {p:Pl} {w:Wt} {x:Bk}
structure Kept (n:Int) (b b':Book):Prop where
 now:b'.now=b.now
 next:b'.next=b.next
 keys:b'.fl.map Pl.n=b.fl.map Pl.n
 others:∀ q∈b'.fl,q.n=n∨q∈b.fl
 ids:b'.L.map Bk.id=b.L.map Bk.id
 bk:∀ y∈b'.L,∃ x∈b.L,y.id=x.id∧y.flt=x.flt∧y.cls=x.cls∧y.many=x.many∧y.till=x.till
theorem Kept.refl (n:Int) (b:Book):Kept n b b:=⟨rfl,rfl,rfl,fun _ h=>.inr h,rfl,fun y hy=>⟨y,hy,rfl,rfl,rfl,rfl,rfl⟩⟩
theorem Kept.trans {b1 b2 b3:Book} (h1:Kept n b1 b2) (h2:Kept n b2 b3):Kept n b1 b3:=
 ⟨h2.now.trans h1.now,h2.next.trans h1.next,h2.keys.trans h1.keys,fun q hq=>by
  rcases h2.others q hq with h|h
  ·exact .inl h
  ·exact h1.others q h,h2.ids.trans h1.ids,fun y hy=>by
  obtain ⟨x,hx,a1,a2,a3,a4,a5⟩:=h2.bk y hy
  obtain ⟨z,hz,c1,c2,c3,c4,c5⟩:=h1.bk x hx
  exact ⟨z,hz,by omega,by omega,by omega,by omega,by omega⟩⟩
end Go.Proofs.YtfgbbckfikiomaaGreatDoor



/- The book, plainly: its bytes, and what is loaded of them. No condition. -/
namespace Go.Proofs.YtfgbbckfikiomaaGreatDoor
set_option linter.unusedVariables false
open Go Go.VC
open Classical
noncomputable section
variable {b:Book} {n:Int} {p:Pl} {w:Wt} {x:Bk} {r:RF}
def things (l:List Pl):Nat:=(l.map fun p=>p.r.L.length + p.q.length).sum
structure BkMay (b:Book) (x:Bk):Prop where
 id:1≤x.id∧x.id<b.next
 state:1≤x.state
 held:x.state=1→b.now<x.till
 free:x.state≠1→x.till=0
 has:∃ p,b.at x.flt=some p∧HasP p x
structure MayB (b:Book):Prop where
 next:1≤b.next
 nums:KRise Pl.n b.fl
 ids:KRise Bk.id b.L
 each:∀ x∈b.L,BkMay b x
 things:things b.fl=b.L.length
theorem fltB_len {x:Nat} (h:x<18446744073709551616):(fltB x).length≤9:=numB_len (key_lt h)
theorem nums1_len {x:Int} (h:0≤x∧x<18446744073709551616):(numsB [x]).length≤9:=by
 have:=numsB_len (l:=[x]) fun y hy=>by rw [List.mem_singleton.1 hy];exact h
 simpa using this
theorem flat_len {α:Type} {code:α→List Int} {m:Nat}:∀ {l:List α},(∀ x∈l,(code x).length≤m)→((l.map code).flatten).length≤m * l.length
 |[],_=>by simp
 |a::l,h=>by
  have h1:=h a (by simp)
  have h2:=flat_len (l:=l) fun x hx=>h x (by simp [hx])
  rw [List.map_cons,List.flatten_cons,List.length_append,List.length_cons,Nat.mul_succ]
  omega
theorem textB_len {d:List Int} (h:d.length<1000000):(textB d).length≤d.length + 9:=by
 have:=numB_len (n:=d.length) (by omega)
 unfold textB
 rw [List.length_append]
 omega
end
end Go.Proofs.YtfgbbckfikiomaaGreatDoor
/- The formulas of functions of this seat's translation, printed by a program of mine off the translation; each is proved equal to 'fnF' of the function's body, so it is enough for the call. No condition. -/
namespace Go.Proofs.YtfgbbckfikiomaaGreatDoor
open Go Go.VC
set_option linter.unusedVariables false
set_option maxRecDepth 10000
def B127 (d:Nat) (K:Value→World→Prop) (w:World):Prop:=
 Ext Tryz.prog 149 #[.float .f64 d] w fun c b=>
 ∃ a:Int,(c=.returned (.int .u64 a))∧
 Br (bitI BinOp.and IntKind.u64 a 9223372036854775808 !=0)
 (K (.int .u64 (IntKind.u64.wrap (↑(BitVec.ofInt IntKind.u64.bits (if IntKind.u64.signed=true then -1 else IntKind.u64.max) ^^^ BitVec.ofInt IntKind.u64.bits a).toNat:Int))) b)
 (K (.int .u64 (bitI BinOp.or IntKind.u64 a 9223372036854775808)) b)
theorem call127 (a:Nat) (K:Value→World→Prop) (w:World) (h:B127 a K w):Gets Tryz.prog 127 #[.float .f64 a] w K:=cq (sk:=.leaf) Tryz.func127 (by kernel_rfl) (by kernel_rfl) (by kernel_rfl) h
def B150 (a:Int) (K:Value→World→Prop) (w:World):Prop:=
 Br (bitI BinOp.and IntKind.u64 a 9223372036854775808==0)
 (Ext Tryz.prog 151 #[.int .u64 (IntKind.u64.wrap (↑(BitVec.ofInt IntKind.u64.bits (if IntKind.u64.signed=true then -1 else IntKind.u64.max) ^^^ BitVec.ofInt IntKind.u64.bits a).toNat:Int))] w fun d f=>
 ∃ c:Nat,(d=.returned (.float .f64 c))∧
 K (.float .f64 c) f)
 (Ext Tryz.prog 151 #[.int .u64 (bitI BinOp.andNot IntKind.u64 a 9223372036854775808)] w fun e g=>
 ∃ b:Nat,(e=.returned (.float .f64 b))∧
 K (.float .f64 b) g)
theorem call150 (a:Int) (K:Value→World→Prop) (w:World) (h:B150 a K w):Gets Tryz.prog 150 #[.int .u64 a] w K:=cq (sk:=.leaf) Tryz.func150 (by kernel_rfl) (by kernel_rfl) (by kernel_rfl) h
def B111  (K:Value→World→Prop) (w:World):Prop:=
 New (.cells #[.slice none 0 0] 179 (0,0)) (fun a b=>
 K (.pointer ((some ⟨a,0,none⟩))) b) w
theorem call111  (K:Value→World→Prop) (w:World) (h:B111  K w):Gets Tryz.prog 111 #[] w K:=cq (sk:=.leaf) Tryz.func111 (by kernel_rfl) (by kernel_rfl) (by kernel_rfl) h
end Go.Proofs.YtfgbbckfikiomaaGreatDoor
/- The formulas of functions of this seat's translation, printed by a program of mine off the translation; each is proved equal to 'fnF' of the function's body, so it is enough for the call. No condition. -/
namespace Go.Proofs.YtfgbbckfikiomaaGreatDoor
open Go Go.VC
set_option linter.unusedVariables false
set_option maxRecDepth 10000
def B40 (c:Bool) (b:Int) (a:List PanicEntry→World→Prop) (K:Value→World→Prop) (w:World):Prop:=
 Br (!c)
 (a [⟨.iface 27 (.int .i64 b),false,false⟩] w)
 (K (.tuple #[]) w)
theorem call40 (c:Bool) (b:Int) (a:List PanicEntry→World→Prop) (K:Value→World→Prop) (w:World) (h:B40 c b a K w):GetsX Tryz.prog 40 #[.bool c,.int .i64 b] w a K:=cqx (sk:=.leaf) Tryz.func40 (by kernel_rfl) (by kernel_rfl) (by kernel_rfl) h
def B110 (a:Int) (b:List PanicEntry→World→Prop) (K:Value→World→Prop) (w:World):Prop:=
 Br (a !=0)
 (b [⟨.iface 27 (.int .i64 a),false,false⟩] w)
 (K (.tuple #[]) w)
theorem call110 (b:Int) (a:List PanicEntry→World→Prop) (K:Value→World→Prop) (w:World) (h:B110 b a K w):GetsX Tryz.prog 110 #[.int .i64 b] w a K:=cqx (sk:=.leaf) Tryz.func110 (by kernel_rfl) (by kernel_rfl) (by kernel_rfl) h
def B39 (g:Option Addr) (b:Value) (K:World→Prop) (w:World):Prop:=
 ∃ c:Bool,(∀ a,(fun a=>a=w) a→((do eqGuard BinOp.neq 20 (Operand.tmp 4) (Operand.const Value.nilIface) b .nilIface;binOp BinOp.neq 20 b .nilIface:Sem Value)).run Tryz.prog a=.ok (.bool c) a)∧
 Br c
 (∃ d:Int,(∀ a,(fun a=>a=w) a→((Instr.typeAssert b 20 27 false)).run Tryz.prog a=.ok (.int .i64 d) a)∧
 NilP g fun f=>
 ∃ e:World,((Instr.storeAt 31 (.pointer ((some (f)))) (.agg #[.int .i64 d,.string (ByteArray.mk #[]),.int .i64 0,.int .i64 0,.int .i64 0,.int .i64 0,.int .i64 0,.slice none 0 0,.slice none 0 0])).run Tryz.prog w=.ok () e)∧
 K e)
 (K w)
theorem callP39 (b:Option Addr) (a:Value) (K:World→Prop) (w:World) (h:B39 b a K w):CallsD Tryz.prog 39 #[.pointer b] (.panicking [⟨a,false,false⟩]) w fun c d e=>(∃ f,c=.returned f)∧d=.panicking [⟨a,true,false⟩]∧K e:=
 rec_panic (sk:=.leaf) cl_ok mixed Tryz.func39 (by kernel_rfl) (Nat.le_of_ble_eq_true (by kernel_rfl)) (cast (by kernel_rfl) h)
theorem callR39 (a:Option Addr) (K:World→Prop) (w:World) (h:B39 a .nilIface K w):CallsD Tryz.prog 39 #[.pointer a] .returning w fun b c d=>(∃ e,b=.returned e)∧c=.returning∧K d:=
 rec_return (sk:=.leaf) cl_ok mixed Tryz.func39 (by kernel_rfl) (Nat.le_of_ble_eq_true (by kernel_rfl)) (cast (by kernel_rfl) h)
def B41 (Q:Int) (T:ByteArray) (U:Int) (V:Int) (X:Int) (Y:Int) (Z:Nat) (aa:ByteArray) (ab:Int) (r:Sl) (q:Sl) (K:Value→World→Prop) (w:World):Prop:=
 New (.cells #[.int .i64 Q,.string T,.int .i64 U,.int .i64 V,.int .i64 X,.int .i64 Y,.float .f64 Z,.string aa,.int .i64 ab,.slice r.a r.len r.cap,.slice q.a q.len q.cap] 38 (0,0)) (fun c j=>
 ∃ H:Int,(At (fun b=>b=j) ⟨c,0 + 2,none⟩ [.int .i64 H])∧
 ∃ u:Int,(At (fun b=>b=j) ⟨c,0 + 3,none⟩ [.int .i64 u])∧
 ∃ v:Int,(At (fun b=>b=j) ⟨c,0 + 4,none⟩ [.int .i64 v])∧
 ∃ x:Int,(At (fun b=>b=j) ⟨c,0 + 8,none⟩ [.int .i64 x])∧
 New (.cells #[.int .i64 H,.int .i64 u,.int .i64 v,.int .i64 x] 3 (0,0)) (fun O J=>
 ∃ g:Sl,(At (fun b=>b=J) ⟨c,0 + 8 + 1,none⟩ [.slice g.a g.len g.cap])∧
 ∃ L:World,∃ i:Sl,((Builtin.append_ #[28,28] 28 #[.slice ((some ⟨O,0,none⟩)) 4 4,.slice g.a g.len g.cap]).run Tryz.prog J=.ok (.slice i.a i.len i.cap) L)∧
 ∃ (n:Int→World→Prop) (M:Int→World→Nat),(n 0 L)∧∀ (ad:Env) (f:Int) (e:World),n f e→
 Br (decide (f<(↑i.len:Int)))
 (Rng f i.len (NilP i.a fun N=>
 ∃ y:Int,(At (fun b=>b=e) (Addr.add N f.toNat) [.int .i64 y])∧
 Calls Tryz.prog 108 #[.int .i64 y] e fun ac s=>
 ∃ z:Bool,(ac=.returned (.bool z))∧
 Br z
 (K (.bool false) s)
 ((n (IntKind.i64.wrap (f + 1)) s)∧M (IntKind.i64.wrap (f + 1)) s<M f e)))
 (∃ (o:Bool→World→Prop),(∃ A:ByteArray,(At (fun b=>b=e) ⟨c,0 + 1,none⟩ [.string A])∧
 Br (decide ((↑A.size:Int)≤16))
 (∃ C:ByteArray,(At (fun b=>b=e) ⟨c,0 + 7,none⟩ [.string C])∧
 o (decide ((↑C.size:Int)≤16)) e)
 (o false e))∧
 ∀ (ae:Env) (I:Bool) (k:World),o I k→
 ∃ (p:Bool→World→Prop),(∃ l:Sl,(At (fun b=>b=k) ⟨c,0 + 8 + 1,none⟩ [.slice l.a l.len l.cap])∧
 Br (decide ((↑l.len:Int)≤16))
 (∃ m:Sl,(At (fun b=>b=k) ⟨c,0 + 10,none⟩ [.slice m.a m.len m.cap])∧
 p (decide ((↑m.len:Int)≤16)) k)
 (p false k))∧
 ∀ (af:Env) (t:Bool) (d:World),p t d→
 Br I
 (Br t
 (∃ D:Int,(At (fun b=>b=d) ⟨c,0,none⟩ [.int .i64 D])∧
 Br (decide (D ≥ 1))
 (∃ E:Int,(At (fun b=>b=d) ⟨c,0,none⟩ [.int .i64 E])∧
 Br (decide (E≤9))
 (∃ F:Int,(At (fun b=>b=d) ⟨c,0 + 5,none⟩ [.int .i64 F])∧
 Br (decide (F ≥ 0))
 (∃ G:Int,(At (fun b=>b=d) ⟨c,0 + 5,none⟩ [.int .i64 G])∧
 K (.bool (decide (G≤1099511627776))) d)
 (K (.bool false) d))
 (K (.bool false) d))
 (K (.bool false) d))
 (K (.bool false) d))
 (K (.bool false) d))) j) w
def sk41:Sk:=(.seq .leaf (.seq .leaf (.seq (.seq .leaf (.block (.loop [23] [(.int .i64)] [2,5,23,24,25,26,27,28,29,30] .leaf))) (.cut [6] [.bool] [6,31,32,33,34,35,36,37,38,39,40] .leaf (.cut [7] [.bool] [7,41,42,43,44,45,46,47,48,49,50,51] .leaf .leaf)))))
theorem call41 (d:Int) (e:ByteArray) (f:Int) (g:Int) (i:Int) (j:Int) (k:Nat) (l:ByteArray) (m:Int) (c:Sl) (b:Sl) (K:Value→World→Prop) (w:World) (h:B41 d e f g i j k l m c b K w):Gets Tryz.prog 41 #[.agg #[.int .i64 d,.string e,.int .i64 f,.int .i64 g,.int .i64 i,.int .i64 j,.float .f64 k,.string l,.int .i64 m,.slice c.a c.len c.cap,.slice b.a b.len b.cap]] w K:=cq (sk:=sk41) Tryz.func41 (by kernel_rfl) (by kernel_rfl) (by kernel_rfl) h
def B108 (a:Int) (K:Value→World→Prop) (w:World):Prop:=
 Br (decide (a<0))
 (K (.bool true) w)
 (K (.bool (decide (a>9999))) w)
theorem call108 (a:Int) (K:Value→World→Prop) (w:World) (h:B108 a K w):Gets Tryz.prog 108 #[.int .i64 a] w K:=cq (sk:=.leaf) Tryz.func108 (by kernel_rfl) (by kernel_rfl) (by kernel_rfl) h
def B14  (K:Value→World→Prop) (w:World):Prop:=
 New (.map #[] 0) (fun a d=>
 New (.map #[] 0) (fun b e=>
 New (.cells #[.int .i64 0,.int .i64 1,.map ((some a)),.map ((some b))] 80 (0,0)) (fun c f=>
 K (.pointer ((some ⟨c,0,none⟩))) f) e) d) w
theorem call14  (K:Value→World→Prop) (w:World) (h:B14  K w):Gets Tryz.prog 14 #[] w K:=cq (sk:=.leaf) Tryz.func14 (by kernel_rfl) (by kernel_rfl) (by kernel_rfl) h
def B49 (m:Option Addr) (i:Sl) (K:Value→World→Prop) (w:World):Prop:=
 ∃ (g:Int→World→Prop) (p:Int→World→Nat),(g 0 w)∧∀ (x:Env) (b:Int) (f:World),g b f→
 Br (decide (b<(↑i.len:Int)))
 (Rng b i.len (NilP i.a fun q=>
 ∃ j:Int,(At (fun u=>u=f) (Addr.add q b.toNat) [.int .i64 j])∧
 Drw f fun l v=>
 NilP m fun r=>
 ∃ c:Sl,(At l (Addr.add r 0) [.slice c.a c.len c.cap])∧
 Calls Tryz.prog 120 #[.int .u64 (IntKind.u64.wrap (if 0>j then 0 else j))] v fun t n=>
 ∃ d:Sl,(t=.returned (.slice d.a d.len d.cap))∧
 (l n)∧
 ∃ o:World,∃ e:Sl,((Builtin.append_ #[42,42] 42 #[.slice c.a c.len c.cap,.slice d.a d.len d.cap]).run Tryz.prog n=.ok (.slice e.a e.len e.cap) o)∧
 NilP m fun s=>
 ∃ k:World,((Instr.storeAt 42 (.pointer ((some (Addr.add s 0)))) (.slice e.a e.len e.cap)).run Tryz.prog o=.ok () k)∧
 (g (IntKind.i64.wrap (b + 1)) k)∧p (IntKind.i64.wrap (b + 1)) k<p b f))
 (K (.tuple #[]) f)
def sk49:Sk:=(.seq .leaf (.block (.loop [8] [(.int .i64)] [5,8,9,10,11,12,13,14,15,16,17,18,19,20,21,22,23,24] .leaf)))
theorem call49 (c:Option Addr) (b:Sl) (K:Value→World→Prop) (w:World) (h:B49 c b K w):Gets Tryz.prog 49 #[.pointer c,.slice b.a b.len b.cap] w K:=cq (sk:=sk49) Tryz.func49 (by kernel_rfl) (by kernel_rfl) (by kernel_rfl) h
def B75 (c:Option Addr) (b:Sl) (K:Value→World→Prop) (w:World):Prop:=
 New (.cells #[.int .i64 ((↑b.len:Int))] 3 (0,0)) (fun d g=>
 Calls Tryz.prog 49 #[.pointer c,.slice ((some ⟨d,0,none⟩)) 1 1] g fun e i=>
 (e=.returned (.tuple #[]))∧
 Calls Tryz.prog 49 #[.pointer c,.slice b.a b.len b.cap] i fun f j=>
 (f=.returned (.tuple #[]))∧
 K (.tuple #[]) j) w
theorem call75 (c:Option Addr) (b:Sl) (K:Value→World→Prop) (w:World) (h:B75 c b K w):Gets Tryz.prog 75 #[.pointer c,.slice b.a b.len b.cap] w K:=cq (sk:=.leaf) Tryz.func75 (by kernel_rfl) (by kernel_rfl) (by kernel_rfl) h
def B52 (g:Option Addr) (e:Sl) (K:Value→World→Prop) (w:World):Prop:=
 Drw w fun f o=>
 NilP g fun m=>
 ∃ d:Sl,(At f (Addr.add m 0) [.slice d.a d.len d.cap])∧
 Calls Tryz.prog 124 #[.slice e.a e.len e.cap] o fun n i=>
 ∃ b:Sl,(n=.returned (.slice b.a b.len b.cap))∧
 (f i)∧
 ∃ j:World,∃ c:Sl,((Builtin.append_ #[42,42] 42 #[.slice d.a d.len d.cap,.slice b.a b.len b.cap]).run Tryz.prog i=.ok (.slice c.a c.len c.cap) j)∧
 NilP g fun l=>
 ∃ k:World,((Instr.storeAt 42 (.pointer ((some (Addr.add l 0)))) (.slice c.a c.len c.cap)).run Tryz.prog j=.ok () k)∧
 K (.tuple #[]) k
theorem call52 (c:Option Addr) (b:Sl) (K:Value→World→Prop) (w:World) (h:B52 c b K w):Gets Tryz.prog 52 #[.pointer c,.slice b.a b.len b.cap] w K:=cq (sk:=.leaf) Tryz.func52 (by kernel_rfl) (by kernel_rfl) (by kernel_rfl) h
def B87 (g:Option Addr) (q:Nat) (K:Value→World→Prop) (w:World):Prop:=
 Drw w fun e r=>
 NilP g fun n=>
 ∃ d:Sl,(At e (Addr.add n 0) [.slice d.a d.len d.cap])∧
 Calls Tryz.prog 127 #[.float .f64 q] r fun o i=>
 ∃ f:Int,(o=.returned (.int .u64 f))∧
 (e i)∧
 Calls Tryz.prog 120 #[.int .u64 f] i fun p j=>
 ∃ b:Sl,(p=.returned (.slice b.a b.len b.cap))∧
 (e j)∧
 ∃ k:World,∃ c:Sl,((Builtin.append_ #[42,42] 42 #[.slice d.a d.len d.cap,.slice b.a b.len b.cap]).run Tryz.prog j=.ok (.slice c.a c.len c.cap) k)∧
 NilP g fun m=>
 ∃ l:World,((Instr.storeAt 42 (.pointer ((some (Addr.add m 0)))) (.slice c.a c.len c.cap)).run Tryz.prog k=.ok () l)∧
 K (.tuple #[]) l
theorem call87 (b:Option Addr) (a:Nat) (K:Value→World→Prop) (w:World) (h:B87 b a K w):Gets Tryz.prog 87 #[.pointer b,.float .f64 a] w K:=cq (sk:=.leaf) Tryz.func87 (by kernel_rfl) (by kernel_rfl) (by kernel_rfl) h
def B78 (g:Option Addr) (f:Int) (K:Value→World→Prop) (w:World):Prop:=
 New (.cells #[.pointer g] 126 (0,0)) (fun d c=>
 ∃ a:Option Addr,(At (fun i=>i=c) ⟨d,0,none⟩ [.pointer a])∧
 Calls Tryz.prog 147 #[.pointer a,.int .u64 (IntKind.u64.wrap f)] c fun e j=>
 ∃ b:Int,(e=.returned (.int .u64 b))∧
 K (.int .i64 (IntKind.i64.wrap b)) j) w
theorem call78 (b:Option Addr) (a:Int) (K:Value→World→Prop) (w:World) (h:B78 b a K w):Gets Tryz.prog 78 #[.agg #[.pointer b],.int .i64 a] w K:=cq (sk:=.leaf) Tryz.func78 (by kernel_rfl) (by kernel_rfl) (by kernel_rfl) h
def B79 (l:Option Addr) (k:Int) (K:Value→World→Prop) (w:World):Prop:=
 New (.cells #[.pointer l] 126 (0,0)) (fun i f=>
 ∃ d:Option Addr,(At (fun b=>b=f) ⟨i,0,none⟩ [.pointer d])∧
 Calls Tryz.prog 102 #[.pointer d,.int .i64 k] f fun j g=>
 ∃ c:Sl,(j=.returned (.slice c.a c.len c.cap))∧
 ∃ e:ByteArray,(∀ b,(fun b=>b=g) b→((convert 42 9 (.slice c.a c.len c.cap))).run Tryz.prog b=.ok (.string e) b)∧
 K (.string e) g) w
theorem call79 (b:Option Addr) (a:Int) (K:Value→World→Prop) (w:World) (h:B79 b a K w):Gets Tryz.prog 79 #[.agg #[.pointer b],.int .i64 a] w K:=cq (sk:=.leaf) Tryz.func79 (by kernel_rfl) (by kernel_rfl) (by kernel_rfl) h
def B91 (i:Option Addr) (K:Value→World→Prop) (w:World):Prop:=
 New (.cells #[.pointer i] 126 (0,0)) (fun e d=>
 ∃ a:Option Addr,(At (fun j=>j=d) ⟨e,0,none⟩ [.pointer a])∧
 Calls Tryz.prog 147 #[.pointer a,.int .u64 18446744073709551615] d fun f k=>
 ∃ b:Int,(f=.returned (.int .u64 b))∧
 Calls Tryz.prog 150 #[.int .u64 b] k fun g l=>
 ∃ c:Nat,(g=.returned (.float .f64 c))∧
 K (.float .f64 c) l) w
theorem call91 (a:Option Addr) (K:Value→World→Prop) (w:World) (h:B91 a K w):Gets Tryz.prog 91 #[.agg #[.pointer a]] w K:=cq (sk:=.leaf) Tryz.func91 (by kernel_rfl) (by kernel_rfl) (by kernel_rfl) h
def B80 (m:Int) (n:Value) (K:Value→World→Prop) (w:World):Prop:=
 ∃ (f:Sl→Int→World→Prop) (j:Sl→Int→World→Nat),(f ⟨none,0,0⟩ 0 w)∧∀ (q:Env) (b:Sl) (d:Int) (e:World),f b d e→
 Br (decide (d<m))
 (CalW Tryz.prog cl n [] e fun l o=>
 ∃ i:Int,(l=.returned (.int .i64 i))∧
 New (.cells #[.int .i64 i] 3 (0,0)) (fun k p=>
 ∃ g:World,∃ c:Sl,((Builtin.append_ #[28,28] 28 #[.slice b.a b.len b.cap,.slice ((some ⟨k,0,none⟩)) 1 1]).run Tryz.prog p=.ok (.slice c.a c.len c.cap) g)∧
 (f c (IntKind.i64.wrap (d + 1)) g)∧j c (IntKind.i64.wrap (d + 1)) g<j b d e) o)
 (K (.slice b.a b.len b.cap) e)
def sk80:Sk:=(.seq .leaf (.seq .leaf (.seq (.seq .leaf (.block (.loop [5,7] [.sl,(.int .i64)] [5,7,8,9,10,11,12,13,14] .leaf))) .leaf)))
theorem call80 (a:Int) (b:Value) (K:Value→World→Prop) (w:World) (h:B80 a b K w):Gets Tryz.prog 80 #[.int .i64 a,b] w K:=cq (sk:=sk80) Tryz.func80 (by kernel_rfl) (by kernel_rfl) (by kernel_rfl) h
def B92 (m:Int) (n:Value) (K:Value→World→Prop) (w:World):Prop:=
 ∃ (f:Sl→Int→World→Prop) (j:Sl→Int→World→Nat),(f ⟨none,0,0⟩ 0 w)∧∀ (q:Env) (b:Sl) (d:Int) (e:World),f b d e→
 Br (decide (d<m))
 (CalW Tryz.prog cl n [] e fun l o=>
 ∃ i:Nat,(l=.returned (.float .f64 i))∧
 New (.cells #[.float .f64 i] 33 (0,0)) (fun k p=>
 ∃ g:World,∃ c:Sl,((Builtin.append_ #[36,36] 36 #[.slice b.a b.len b.cap,.slice ((some ⟨k,0,none⟩)) 1 1]).run Tryz.prog p=.ok (.slice c.a c.len c.cap) g)∧
 (f c (IntKind.i64.wrap (d + 1)) g)∧j c (IntKind.i64.wrap (d + 1)) g<j b d e) o)
 (K (.slice b.a b.len b.cap) e)
def sk92:Sk:=(.seq .leaf (.seq .leaf (.seq (.seq .leaf (.block (.loop [5,7] [.sl,(.int .i64)] [5,7,8,9,10,11,12,13,14] .leaf))) .leaf)))
theorem call92 (a:Int) (b:Value) (K:Value→World→Prop) (w:World) (h:B92 a b K w):Gets Tryz.prog 92 #[.int .i64 a,b] w K:=cq (sk:=sk92) Tryz.func92 (by kernel_rfl) (by kernel_rfl) (by kernel_rfl) h
def B29 (an:Int) (ao:ByteArray) (ap:Int) (aq:Int) (ar:Int) (au:Int) (av:Nat) (aw:ByteArray) (ax:Int) (s:Sl) (r:Sl) (K:Value→World→Prop) (w:World):Prop:=
 New (.cells #[.int .i64 an,.string ao,.int .i64 ap,.int .i64 aq,.int .i64 ar,.int .i64 au,.float .f64 av,.string aw,.int .i64 ax,.slice s.a s.len s.cap,.slice r.a r.len r.cap] 38 (0,0)) (fun c T=>
 ∃ F:Int,∃ G:ByteArray,∃ H:Int,∃ I:Int,∃ J:Int,∃ L:Int,∃ M:Nat,∃ N:ByteArray,∃ O:Int,∃ m:Sl,∃ l:Sl,(At (fun b=>b=T) ⟨c,0,none⟩ [.int .i64 F,.string G,.int .i64 H,.int .i64 I,.int .i64 J,.int .i64 L,.float .f64 M,.string N,.int .i64 O,.slice m.a m.len m.cap,.slice l.a l.len l.cap])∧
 Calls Tryz.prog 41 #[.agg #[.int .i64 F,.string G,.int .i64 H,.int .i64 I,.int .i64 J,.int .i64 L,.float .f64 M,.string N,.int .i64 O,.slice m.a m.len m.cap,.slice l.a l.len l.cap]] T fun ay ac=>
 ∃ Q:Bool,(ay=.returned (.bool Q))∧
 Br (!Q)
 (K (.tuple #[.slice none 0 0,.int .i64 1]) ac)
 (New (.cells #[.slice none 0 0] 93 (0,0)) (fun d ad=>
 ∃ t:Int,(At (fun b=>b=ad) ⟨c,0,none⟩ [.int .i64 t])∧
 New (.cells #[.int .i64 t] 3 (0,0)) (fun aj ba=>
 Calls Tryz.prog 49 #[.pointer ((some ⟨d,0,none⟩)),.slice ((some ⟨aj,0,none⟩)) 1 1] ba fun az ae=>
 (az=.returned (.tuple #[]))∧
 ∃ u:ByteArray,(At (fun b=>b=ae) ⟨c,0 + 1,none⟩ [.string u])∧
 ∃ af:World,∃ f:Sl,((convert 9 42 (.string u)).run Tryz.prog ae=.ok (.slice f.a f.len f.cap) af)∧
 Calls Tryz.prog 52 #[.pointer ((some ⟨d,0,none⟩)),.slice f.a f.len f.cap] af fun a0 o=>
 (a0=.returned (.tuple #[]))∧
 ∃ v:Int,(At (fun b=>b=o) ⟨c,0 + 2,none⟩ [.int .i64 v])∧
 ∃ x:Int,(At (fun b=>b=o) ⟨c,0 + 3,none⟩ [.int .i64 x])∧
 ∃ y:Int,(At (fun b=>b=o) ⟨c,0 + 4,none⟩ [.int .i64 y])∧
 ∃ z:Int,(At (fun b=>b=o) ⟨c,0 + 5,none⟩ [.int .i64 z])∧
 New (.cells #[.int .i64 v,.int .i64 x,.int .i64 y,.int .i64 z] 3 (0,0)) (fun ak bb=>
 Calls Tryz.prog 49 #[.pointer ((some ⟨d,0,none⟩)),.slice ((some ⟨ak,0,none⟩)) 4 4] bb fun a1 ag=>
 (a1=.returned (.tuple #[]))∧
 ∃ A:Nat,(At (fun b=>b=ag) ⟨c,0 + 6,none⟩ [.float .f64 A])∧
 Calls Tryz.prog 87 #[.pointer ((some ⟨d,0,none⟩)),.float .f64 A] ag fun a2 U=>
 (a2=.returned (.tuple #[]))∧
 ∃ C:ByteArray,(At (fun b=>b=U) ⟨c,0 + 7,none⟩ [.string C])∧
 ∃ V:World,∃ g:Sl,((convert 9 42 (.string C)).run Tryz.prog U=.ok (.slice g.a g.len g.cap) V)∧
 Calls Tryz.prog 52 #[.pointer ((some ⟨d,0,none⟩)),.slice g.a g.len g.cap] V fun a3 X=>
 (a3=.returned (.tuple #[]))∧
 ∃ D:Int,(At (fun b=>b=X) ⟨c,0 + 8,none⟩ [.int .i64 D])∧
 New (.cells #[.int .i64 D] 3 (0,0)) (fun al a8=>
 Calls Tryz.prog 49 #[.pointer ((some ⟨d,0,none⟩)),.slice ((some ⟨al,0,none⟩)) 1 1] a8 fun a4 Y=>
 (a4=.returned (.tuple #[]))∧
 ∃ i:Sl,(At (fun b=>b=Y) ⟨c,0 + 8 + 1,none⟩ [.slice i.a i.len i.cap])∧
 Calls Tryz.prog 75 #[.pointer ((some ⟨d,0,none⟩)),.slice i.a i.len i.cap] Y fun a5 Z=>
 (a5=.returned (.tuple #[]))∧
 ∃ p:Sl,(At (fun b=>b=Z) ⟨c,0 + 10,none⟩ [.slice p.a p.len p.cap])∧
 New (.cells #[.int .i64 ((↑p.len:Int))] 3 (0,0)) (fun am a9=>
 Calls Tryz.prog 49 #[.pointer ((some ⟨d,0,none⟩)),.slice ((some ⟨am,0,none⟩)) 1 1] a9 fun a6 aa=>
 (a6=.returned (.tuple #[]))∧
 ∃ j:Sl,(At (fun b=>b=aa) ⟨c,0 + 10,none⟩ [.slice j.a j.len j.cap])∧
 ∃ (q:Int→World→Prop) (ah:Int→World→Nat),(q 0 aa)∧∀ (bc:Env) (e:Int) (n:World),q e n→
 Br (decide (e<(↑j.len:Int)))
 (Rng e j.len (NilP j.a fun ai=>
 ∃ E:Nat,(At (fun b=>b=n) (Addr.add ai e.toNat) [.float .f64 E])∧
 Calls Tryz.prog 87 #[.pointer ((some ⟨d,0,none⟩)),.float .f64 E] n fun a7 ab=>
 (a7=.returned (.tuple #[]))∧
 (q (IntKind.i64.wrap (e + 1)) ab)∧ah (IntKind.i64.wrap (e + 1)) ab<ah e n))
 (∃ k:Sl,(At (fun b=>b=n) ⟨d,0,none⟩ [.slice k.a k.len k.cap])∧
 K (.tuple #[.slice k.a k.len k.cap,.int .i64 0]) n)) Z) X) o) ad) ac)) w
def sk29:Sk:=(.seq .leaf (.seq .leaf (.seq .leaf (.seq .leaf (.seq .leaf (.seq .leaf (.seq .leaf (.seq .leaf (.seq .leaf (.seq .leaf (.seq .leaf (.seq (.seq .leaf (.block (.loop [62] [(.int .i64)] [6,62,63,64,65,66,67,68,69] .leaf))) .leaf))))))))))))
theorem call29 (d:Int) (e:ByteArray) (f:Int) (g:Int) (i:Int) (j:Int) (k:Nat) (l:ByteArray) (m:Int) (c:Sl) (b:Sl) (K:Value→World→Prop) (w:World) (h:B29 d e f g i j k l m c b K w):Gets Tryz.prog 29 #[.agg #[.int .i64 d,.string e,.int .i64 f,.int .i64 g,.int .i64 i,.int .i64 j,.float .f64 k,.string l,.int .i64 m,.slice c.a c.len c.cap,.slice b.a b.len b.cap]] w K:=cq (sk:=sk29) Tryz.func29 (by kernel_rfl) (by kernel_rfl) (by kernel_rfl) h
def B31 (D:Sl) (K:Value→World→Prop) (w:World):Prop:=
 New (.cells #[.int .i64 0,.string (ByteArray.mk #[]),.int .i64 0,.int .i64 0,.int .i64 0,.int .i64 0,.float .f64 0,.string (ByteArray.mk #[]),.int .i64 0,.slice none 0 0,.slice none 0 0] 38 (0,0)) (fun j e7=>
 Calls Tryz.prog 76 #[.slice D.a D.len D.cap] e7 fun d6 e8=>
 ∃ cw:Option Addr,(d6=.returned (.pointer cw))∧
 New (.cells #[.pointer none] 126 (0,0)) (fun c e9=>
 ∃ dr:World,((Instr.storeAt 126 (.pointer ((some ⟨c,0,none⟩))) (.agg #[.pointer cw])).run Tryz.prog e9=.ok () dr)∧
 ∃ (e:Option Addr→World→Prop),(Drw dr fun b dz=>
 ∃ E:Option Addr,(At b ⟨c,0,none⟩ [.pointer E])∧
 ∃ A:Option Addr,(At b ⟨c,0,none⟩ [.pointer A])∧
 ∃ g:Option Addr,(At b ⟨c,0,none⟩ [.pointer g])∧
 (Calls Tryz.prog 78 #[.agg #[.pointer E],.int .i64 9] dz fun d7 L=>
 ∃ i:Int,(d7=.returned (.int .i64 i))∧
 (b L)∧
 (Calls Tryz.prog 79 #[.agg #[.pointer A],.int .i64 16] L fun ei V=>
 ∃ k:ByteArray,(ei=.returned (.string k))∧
 (b V)∧
 (Calls Tryz.prog 90 #[.pointer ((some ⟨c,0,none⟩))] V fun et X=>
 ∃ y:Int,(et=.returned (.int .i64 y))∧
 (b X)∧
 (Calls Tryz.prog 90 #[.pointer ((some ⟨c,0,none⟩))] X fun e1 Y=>
 ∃ C:Int,(e1=.returned (.int .i64 C))∧
 (b Y)∧
 (Calls Tryz.prog 90 #[.pointer ((some ⟨c,0,none⟩))] Y fun e2 G=>
 ∃ F:Int,(e2=.returned (.int .i64 F))∧
 (b G)∧
 (Calls Tryz.prog 78 #[.agg #[.pointer g],.int .i64 1099511627776] G fun e3 cx=>
 ∃ a2:Int,(e3=.returned (.int .i64 a2))∧
 (b cx)∧
 New (.cells #[.int .i64 0,.string (ByteArray.mk #[]),.int .i64 0,.int .i64 0,.int .i64 0,.int .i64 0,.float .f64 0,.string (ByteArray.mk #[]),.int .i64 0,.slice none 0 0,.slice none 0 0] 38 (0,0)) (fun ae cy=>
 (b cy)∧
 ∃ cz:World,((Instr.storeAt 38 (.pointer ((some ⟨ae,0,none⟩))) (.agg #[.int .i64 i,.string k,.int .i64 y,.int .i64 C,.int .i64 F,.int .i64 a2,.float .f64 0,.string (ByteArray.mk #[]),.int .i64 0,.slice none 0 0,.slice none 0 0])).run Tryz.prog cy=.ok () cz)∧
 e ((some ⟨ae,0,none⟩)) cz) cx)∧
 New (.cells #[.int .i64 0,.string (ByteArray.mk #[]),.int .i64 0,.int .i64 0,.int .i64 0,.int .i64 0,.float .f64 0,.string (ByteArray.mk #[]),.int .i64 0,.slice none 0 0,.slice none 0 0] 38 (0,0)) (fun af c0=>
 (b c0)∧
 Calls Tryz.prog 78 #[.agg #[.pointer g],.int .i64 1099511627776] c0 fun e4 c1=>
 ∃ a3:Int,(e4=.returned (.int .i64 a3))∧
 (b c1)∧
 ∃ c2:World,((Instr.storeAt 38 (.pointer ((some ⟨af,0,none⟩))) (.agg #[.int .i64 i,.string k,.int .i64 y,.int .i64 C,.int .i64 F,.int .i64 a3,.float .f64 0,.string (ByteArray.mk #[]),.int .i64 0,.slice none 0 0,.slice none 0 0])).run Tryz.prog c1=.ok () c2)∧
 e ((some ⟨af,0,none⟩)) c2) G)∧
 New (.cells #[.int .i64 0,.string (ByteArray.mk #[]),.int .i64 0,.int .i64 0,.int .i64 0,.int .i64 0,.float .f64 0,.string (ByteArray.mk #[]),.int .i64 0,.slice none 0 0,.slice none 0 0] 38 (0,0)) (fun ag c3=>
 (b c3)∧
 Calls Tryz.prog 90 #[.pointer ((some ⟨c,0,none⟩))] c3 fun e5 c4=>
 ∃ ax:Int,(e5=.returned (.int .i64 ax))∧
 (b c4)∧
 Calls Tryz.prog 78 #[.agg #[.pointer g],.int .i64 1099511627776] c4 fun e6 c5=>
 ∃ a4:Int,(e6=.returned (.int .i64 a4))∧
 (b c5)∧
 ∃ c6:World,((Instr.storeAt 38 (.pointer ((some ⟨ag,0,none⟩))) (.agg #[.int .i64 i,.string k,.int .i64 y,.int .i64 C,.int .i64 ax,.int .i64 a4,.float .f64 0,.string (ByteArray.mk #[]),.int .i64 0,.slice none 0 0,.slice none 0 0])).run Tryz.prog c5=.ok () c6)∧
 e ((some ⟨ag,0,none⟩)) c6) Y)∧
 New (.cells #[.int .i64 0,.string (ByteArray.mk #[]),.int .i64 0,.int .i64 0,.int .i64 0,.int .i64 0,.float .f64 0,.string (ByteArray.mk #[]),.int .i64 0,.slice none 0 0,.slice none 0 0] 38 (0,0)) (fun ah c7=>
 (b c7)∧
 Calls Tryz.prog 90 #[.pointer ((some ⟨c,0,none⟩))] c7 fun d8 c8=>
 ∃ ar:Int,(d8=.returned (.int .i64 ar))∧
 (b c8)∧
 Calls Tryz.prog 90 #[.pointer ((some ⟨c,0,none⟩))] c8 fun d9 c9=>
 ∃ ay:Int,(d9=.returned (.int .i64 ay))∧
 (b c9)∧
 Calls Tryz.prog 78 #[.agg #[.pointer g],.int .i64 1099511627776] c9 fun ea da=>
 ∃ a5:Int,(ea=.returned (.int .i64 a5))∧
 (b da)∧
 ∃ db:World,((Instr.storeAt 38 (.pointer ((some ⟨ah,0,none⟩))) (.agg #[.int .i64 i,.string k,.int .i64 y,.int .i64 ar,.int .i64 ay,.int .i64 a5,.float .f64 0,.string (ByteArray.mk #[]),.int .i64 0,.slice none 0 0,.slice none 0 0])).run Tryz.prog da=.ok () db)∧
 e ((some ⟨ah,0,none⟩)) db) X)∧
 New (.cells #[.int .i64 0,.string (ByteArray.mk #[]),.int .i64 0,.int .i64 0,.int .i64 0,.int .i64 0,.float .f64 0,.string (ByteArray.mk #[]),.int .i64 0,.slice none 0 0,.slice none 0 0] 38 (0,0)) (fun ai dc=>
 (b dc)∧
 Calls Tryz.prog 90 #[.pointer ((some ⟨c,0,none⟩))] dc fun eb dd=>
 ∃ ao:Int,(eb=.returned (.int .i64 ao))∧
 (b dd)∧
 Calls Tryz.prog 90 #[.pointer ((some ⟨c,0,none⟩))] dd fun ec de=>
 ∃ au:Int,(ec=.returned (.int .i64 au))∧
 (b de)∧
 Calls Tryz.prog 90 #[.pointer ((some ⟨c,0,none⟩))] de fun ed df=>
 ∃ az:Int,(ed=.returned (.int .i64 az))∧
 (b df)∧
 Calls Tryz.prog 78 #[.agg #[.pointer g],.int .i64 1099511627776] df fun ee dg=>
 ∃ a6:Int,(ee=.returned (.int .i64 a6))∧
 (b dg)∧
 ∃ dh:World,((Instr.storeAt 38 (.pointer ((some ⟨ai,0,none⟩))) (.agg #[.int .i64 i,.string k,.int .i64 ao,.int .i64 au,.int .i64 az,.int .i64 a6,.float .f64 0,.string (ByteArray.mk #[]),.int .i64 0,.slice none 0 0,.slice none 0 0])).run Tryz.prog dg=.ok () dh)∧
 e ((some ⟨ai,0,none⟩)) dh) V)∧
 New (.cells #[.int .i64 0,.string (ByteArray.mk #[]),.int .i64 0,.int .i64 0,.int .i64 0,.int .i64 0,.float .f64 0,.string (ByteArray.mk #[]),.int .i64 0,.slice none 0 0,.slice none 0 0] 38 (0,0)) (fun aj di=>
 (b di)∧
 Calls Tryz.prog 79 #[.agg #[.pointer A],.int .i64 16] di fun ef dj=>
 ∃ am:ByteArray,(ef=.returned (.string am))∧
 (b dj)∧
 Calls Tryz.prog 90 #[.pointer ((some ⟨c,0,none⟩))] dj fun eg dk=>
 ∃ ap:Int,(eg=.returned (.int .i64 ap))∧
 (b dk)∧
 Calls Tryz.prog 90 #[.pointer ((some ⟨c,0,none⟩))] dk fun eh dl=>
 ∃ av:Int,(eh=.returned (.int .i64 av))∧
 (b dl)∧
 Calls Tryz.prog 90 #[.pointer ((some ⟨c,0,none⟩))] dl fun ej dm=>
 ∃ a0:Int,(ej=.returned (.int .i64 a0))∧
 (b dm)∧
 Calls Tryz.prog 78 #[.agg #[.pointer g],.int .i64 1099511627776] dm fun ek dn=>
 ∃ a7:Int,(ek=.returned (.int .i64 a7))∧
 (b dn)∧
 ∃ dp:World,((Instr.storeAt 38 (.pointer ((some ⟨aj,0,none⟩))) (.agg #[.int .i64 i,.string am,.int .i64 ap,.int .i64 av,.int .i64 a0,.int .i64 a7,.float .f64 0,.string (ByteArray.mk #[]),.int .i64 0,.slice none 0 0,.slice none 0 0])).run Tryz.prog dn=.ok () dp)∧
 e ((some ⟨aj,0,none⟩)) dp) L)∧
 New (.cells #[.int .i64 0,.string (ByteArray.mk #[]),.int .i64 0,.int .i64 0,.int .i64 0,.int .i64 0,.float .f64 0,.string (ByteArray.mk #[]),.int .i64 0,.slice none 0 0,.slice none 0 0] 38 (0,0)) (fun ak dq=>
 (b dq)∧
 Calls Tryz.prog 78 #[.agg #[.pointer E],.int .i64 9] dq fun el ds=>
 ∃ al:Int,(el=.returned (.int .i64 al))∧
 (b ds)∧
 Calls Tryz.prog 79 #[.agg #[.pointer A],.int .i64 16] ds fun em dt=>
 ∃ an:ByteArray,(em=.returned (.string an))∧
 (b dt)∧
 Calls Tryz.prog 90 #[.pointer ((some ⟨c,0,none⟩))] dt fun en du=>
 ∃ aq:Int,(en=.returned (.int .i64 aq))∧
 (b du)∧
 Calls Tryz.prog 90 #[.pointer ((some ⟨c,0,none⟩))] du fun eo dv=>
 ∃ aw:Int,(eo=.returned (.int .i64 aw))∧
 (b dv)∧
 Calls Tryz.prog 90 #[.pointer ((some ⟨c,0,none⟩))] dv fun ep dw=>
 ∃ a1:Int,(ep=.returned (.int .i64 a1))∧
 (b dw)∧
 Calls Tryz.prog 78 #[.agg #[.pointer g],.int .i64 1099511627776] dw fun eq dx=>
 ∃ a8:Int,(eq=.returned (.int .i64 a8))∧
 (b dx)∧
 ∃ dy:World,((Instr.storeAt 38 (.pointer ((some ⟨ak,0,none⟩))) (.agg #[.int .i64 al,.string an,.int .i64 aq,.int .i64 aw,.int .i64 a1,.int .i64 a8,.float .f64 0,.string (ByteArray.mk #[]),.int .i64 0,.slice none 0 0,.slice none 0 0])).run Tryz.prog dx=.ok () dy)∧
 e ((some ⟨ak,0,none⟩)) dy) dz)∧
 ∀ (fg:Env) (f:Option Addr) (H:World),e f H→
 ∃ a9:Option Addr,(At (fun d=>d=H) ⟨c,0,none⟩ [.pointer a9])∧
 Calls Tryz.prog 91 #[.agg #[.pointer a9]] H fun er fa=>
 ∃ ba:Nat,(er=.returned (.float .f64 ba))∧
 NilP f fun Z=>
 ∃ I:World,((Instr.storeAt 33 (.pointer ((some ⟨Z.block,Z.off + 6,none⟩))) (.float .f64 ba)).run Tryz.prog fa=.ok () I)∧
 ∃ bb:Option Addr,(At (fun d=>d=I) ⟨c,0,none⟩ [.pointer bb])∧
 Calls Tryz.prog 79 #[.agg #[.pointer bb],.int .i64 16] I fun es fb=>
 ∃ bc:ByteArray,(es=.returned (.string bc))∧
 NilP f fun aa=>
 ∃ d0:World,((Instr.storeAt 9 (.pointer ((some ⟨aa.block,aa.off + 7,none⟩))) (.string bc)).run Tryz.prog fb=.ok () d0)∧
 Calls Tryz.prog 90 #[.pointer ((some ⟨c,0,none⟩))] d0 fun eu fc=>
 ∃ be:Int,(eu=.returned (.int .i64 be))∧
 NilP f fun ab=>
 ∃ J:World,((Instr.storeAt 3 (.pointer ((some ⟨ab.block,ab.off + 8,none⟩))) (.int .i64 be)).run Tryz.prog fc=.ok () J)∧
 ∃ bf:Option Addr,(At (fun d=>d=J) ⟨c,0,none⟩ [.pointer bf])∧
 Calls Tryz.prog 78 #[.agg #[.pointer bf],.int .i64 16] J fun ev fd=>
 ∃ bg:Int,(ev=.returned (.int .i64 bg))∧
 Calls Tryz.prog 80 #[.int .i64 bg,.func (.func 90) #[] #[.pointer ((some ⟨c,0,none⟩))]] fd fun ew fe=>
 ∃ l:Sl,(ew=.returned (.slice l.a l.len l.cap))∧
 NilP f fun ac=>
 ∃ d1:World,((Instr.storeAt 28 (.pointer ((some ⟨ac.block,ac.off + 8 + 1,none⟩))) (.slice l.a l.len l.cap)).run Tryz.prog fe=.ok () d1)∧
 Drw d1 fun z ff=>
 ∃ b8:Option Addr,(At z ⟨c,0,none⟩ [.pointer b8])∧
 ∃ ca:Option Addr,(At z ⟨c,0,none⟩ [.pointer ca])∧
 Calls Tryz.prog 78 #[.agg #[.pointer b8],.int .i64 16] ff fun ex d2=>
 ∃ b9:Int,(ex=.returned (.int .i64 b9))∧
 (z d2)∧
 Calls Tryz.prog 92 #[.int .i64 b9,.func (.func 91) #[.agg #[.pointer ca]] #[]] d2 fun ey d3=>
 ∃ s:Sl,(ey=.returned (.slice s.a s.len s.cap))∧
 (z d3)∧
 NilP f fun ad=>
 ∃ M:World,((Instr.storeAt 36 (.pointer ((some ⟨ad.block,ad.off + 10,none⟩))) (.slice s.a s.len s.cap)).run Tryz.prog d3=.ok () M)∧
 ∃ cb:Option Addr,(At (fun d=>d=M) ⟨c,0,none⟩ [.pointer cb])∧
 Calls Tryz.prog 83 #[.pointer cb] M fun ez N=>
 ∃ cc:Bool,(ez=.returned (.bool cc))∧
 Br (!cc)
 (∃ O:World,((Instr.storeAt 38 (.pointer ((some ⟨j,0,none⟩))) (.agg #[.int .i64 0,.string (ByteArray.mk #[]),.int .i64 0,.int .i64 0,.int .i64 0,.int .i64 0,.float .f64 0,.string (ByteArray.mk #[]),.int .i64 0,.slice none 0 0,.slice none 0 0])).run Tryz.prog N=.ok () O)∧
 ∃ bd:Int,∃ bh:ByteArray,∃ br:Int,∃ b1:Int,∃ b3:Int,∃ b4:Int,∃ b5:Nat,∃ b6:ByteArray,∃ b7:Int,∃ r:Sl,∃ m:Sl,(At (fun d=>d=O) ⟨j,0,none⟩ [.int .i64 bd,.string bh,.int .i64 br,.int .i64 b1,.int .i64 b3,.int .i64 b4,.float .f64 b5,.string b6,.int .i64 b7,.slice r.a r.len r.cap,.slice m.a m.len m.cap])∧
 K (.tuple #[.agg #[.int .i64 bd,.string bh,.int .i64 br,.int .i64 b1,.int .i64 b3,.int .i64 b4,.float .f64 b5,.string b6,.int .i64 b7,.slice r.a r.len r.cap,.slice m.a m.len m.cap],.int .i64 6]) O)
 (NilP f fun d4=>
 ∃ cd:Int,∃ ce:ByteArray,∃ cf:Int,∃ cg:Int,∃ ch:Int,∃ ci:Int,∃ cj:Nat,∃ ck:ByteArray,∃ cl:Int,∃ u:Sl,∃ t:Sl,(At (fun d=>d=N) d4 [.int .i64 cd,.string ce,.int .i64 cf,.int .i64 cg,.int .i64 ch,.int .i64 ci,.float .f64 cj,.string ck,.int .i64 cl,.slice u.a u.len u.cap,.slice t.a t.len t.cap])∧
 Calls Tryz.prog 41 #[.agg #[.int .i64 cd,.string ce,.int .i64 cf,.int .i64 cg,.int .i64 ch,.int .i64 ci,.float .f64 cj,.string ck,.int .i64 cl,.slice u.a u.len u.cap,.slice t.a t.len t.cap]] N fun e0 Q=>
 ∃ cm:Bool,(e0=.returned (.bool cm))∧
 Br (!cm)
 (∃ T:World,((Instr.storeAt 38 (.pointer ((some ⟨j,0,none⟩))) (.agg #[.int .i64 0,.string (ByteArray.mk #[]),.int .i64 0,.int .i64 0,.int .i64 0,.int .i64 0,.float .f64 0,.string (ByteArray.mk #[]),.int .i64 0,.slice none 0 0,.slice none 0 0])).run Tryz.prog Q=.ok () T)∧
 ∃ bi:Int,∃ bj:ByteArray,∃ bk:Int,∃ bl:Int,∃ bm:Int,∃ bn:Int,∃ bo:Nat,∃ bp:ByteArray,∃ bq:Int,∃ n:Sl,∃ o:Sl,(At (fun d=>d=T) ⟨j,0,none⟩ [.int .i64 bi,.string bj,.int .i64 bk,.int .i64 bl,.int .i64 bm,.int .i64 bn,.float .f64 bo,.string bp,.int .i64 bq,.slice n.a n.len n.cap,.slice o.a o.len o.cap])∧
 K (.tuple #[.agg #[.int .i64 bi,.string bj,.int .i64 bk,.int .i64 bl,.int .i64 bm,.int .i64 bn,.float .f64 bo,.string bp,.int .i64 bq,.slice n.a n.len n.cap,.slice o.a o.len o.cap],.int .i64 6]) T)
 (NilP f fun d5=>
 ∃ cn:Int,∃ co:ByteArray,∃ cp:Int,∃ cq:Int,∃ cr:Int,∃ cs:Int,∃ ct:Nat,∃ cu:ByteArray,∃ cv:Int,∃ x:Sl,∃ v:Sl,(At (fun d=>d=Q) d5 [.int .i64 cn,.string co,.int .i64 cp,.int .i64 cq,.int .i64 cr,.int .i64 cs,.float .f64 ct,.string cu,.int .i64 cv,.slice x.a x.len x.cap,.slice v.a v.len v.cap])∧
 ∃ U:World,((Instr.storeAt 38 (.pointer ((some ⟨j,0,none⟩))) (.agg #[.int .i64 cn,.string co,.int .i64 cp,.int .i64 cq,.int .i64 cr,.int .i64 cs,.float .f64 ct,.string cu,.int .i64 cv,.slice x.a x.len x.cap,.slice v.a v.len v.cap])).run Tryz.prog Q=.ok () U)∧
 ∃ bs:Int,∃ bt:ByteArray,∃ bu:Int,∃ bv:Int,∃ bw:Int,∃ bx:Int,∃ bz:Nat,∃ b0:ByteArray,∃ b2:Int,∃ p:Sl,∃ q:Sl,(At (fun d=>d=U) ⟨j,0,none⟩ [.int .i64 bs,.string bt,.int .i64 bu,.int .i64 bv,.int .i64 bw,.int .i64 bx,.float .f64 bz,.string b0,.int .i64 b2,.slice p.a p.len p.cap,.slice q.a q.len q.cap])∧
 K (.tuple #[.agg #[.int .i64 bs,.string bt,.int .i64 bu,.int .i64 bv,.int .i64 bw,.int .i64 bx,.float .f64 bz,.string b0,.int .i64 b2,.slice p.a p.len p.cap,.slice q.a q.len q.cap],.int .i64 0]) U))) e8) w
def sk31:Sk:=(.seq .leaf (.seq .leaf (.seq .leaf (.cut [6] [.ptr] [6,11,12,13,14,15,16,17,18,19,20,21,22,23] .leaf .leaf))))
theorem call31 (b:Sl) (K:Value→World→Prop) (w:World) (h:B31 b K w):Gets Tryz.prog 31 #[.slice b.a b.len b.cap] w K:=cq (sk:=sk31) Tryz.func31 (by kernel_rfl) (by kernel_rfl) (by kernel_rfl) h
def B90 (d:Option Addr) (K:Value→World→Prop) (w:World):Prop:=
 NilP d fun c=>
 ∃ a:Option Addr,(At (fun f=>f=w) c [.pointer a])∧
 Calls Tryz.prog 78 #[.agg #[.pointer a],.int .i64 9999] w fun e g=>
 ∃ b:Int,(e=.returned (.int .i64 b))∧
 K (.int .i64 b) g
theorem call90 (a:Option Addr) (K:Value→World→Prop) (w:World) (h:B90 a K w):Gets Tryz.prog 90 #[.pointer a] w K:=cq (sk:=.leaf) Tryz.func90 (by kernel_rfl) (by kernel_rfl) (by kernel_rfl) h
def B42 (o:Option Addr) (aw:Int) (ax:ByteArray) (ay:Int) (az:Int) (a0:Int) (a1:Int) (a2:Nat) (a3:ByteArray) (a4:Int) (q:Sl) (p:Sl) (c:List PanicEntry→World→Prop) (K:Value→World→Prop) (w:World):Prop:=
 New (.cells #[.int .i64 aw,.string ax,.int .i64 ay,.int .i64 az,.int .i64 a0,.int .i64 a1,.float .f64 a2,.string a3,.int .i64 a4,.slice q.a q.len q.cap,.slice p.a p.len p.cap] 38 (0,0)) (fun d a5=>
 New (.cells #[.int .i64 0,.string (ByteArray.mk #[]),.int .i64 0,.int .i64 0,.int .i64 0,.int .i64 0,.int .i64 0,.slice none 0 0,.slice none 0 0] 31 (0,0)) (fun A a8=>
 Drw a8 fun l a9=>
 NilP o fun x=>
 ∃ Q:Option Nat,(At l ⟨x.block,x.off + 2,none⟩ [.map Q])∧
 ∃ T:Int,(At l ⟨d,0 + 2,none⟩ [.int .i64 T])∧
 ∃ U:Option Addr,∃ V:Option Addr,∃ X:Bool,(∀ b,l b→((Instr.lookup 77 (.map Q) (.int .i64 T) true)).run Tryz.prog b=.ok (.tuple #[.agg #[.pointer U,.pointer V],.bool X]) b)∧
 New (.cells #[.pointer none,.pointer none] 102 (0,0)) (fun av ap=>
 (l ap)∧
 ∃ aq:World,((Instr.storeAt 102 (.pointer ((some ⟨av,0,none⟩))) (.agg #[.pointer U,.pointer V])).run Tryz.prog ap=.ok () aq)∧
 Calls Tryz.prog 40 #[.bool (!X),.int .i64 7] aq fun I m=>
 ((I=.returned (.tuple #[]))∧
 NilP o fun y=>
 ∃ Y:Option Nat,(At (fun b=>b=m) ⟨y.block,y.off + 2,none⟩ [.map Y])∧
 ∃ Z:Int,(∀ b,(fun b=>b=m) b→((Builtin.len_ #[77] 3 #[.map Y])).run Tryz.prog b=.ok (.int .i64 Z) b)∧
 Calls Tryz.prog 40 #[.bool (decide (Z<8)),.int .i64 3] m fun J k=>
 ((J=.returned (.tuple #[]))∧
 ∃ aa:Int,(At (fun b=>b=k) ⟨d,0 + 2,none⟩ [.int .i64 aa])∧
 ∃ ab:Int,∃ e:Sl,(At (fun b=>b=k) ⟨d,0 + 8,none⟩ [.int .i64 ab,.slice e.a e.len e.cap])∧
 ∃ f:Sl,(At (fun b=>b=k) ⟨d,0 + 10,none⟩ [.slice f.a f.len f.cap])∧
 Calls Tryz.prog 109 #[.int .i64 aa,.agg #[.int .i64 ab,.slice e.a e.len e.cap],.slice f.a f.len f.cap] k fun L ar=>
 (∃ r:Option Addr,∃ ac:Int,(L=.returned (.tuple #[.pointer r,.int .i64 ac]))∧
 Calls Tryz.prog 110 #[.int .i64 ac] ar fun M au=>
 ((M=.returned (.tuple #[]))∧
 Drw au fun n a6=>
 NilP o fun z=>
 ∃ ad:Option Nat,(At n ⟨z.block,z.off + 2,none⟩ [.map ad])∧
 ∃ ae:Int,(At n ⟨d,0 + 2,none⟩ [.int .i64 ae])∧
 Calls Tryz.prog 111 #[] a6 fun N s=>
 (∃ af:Option Addr,(N=.returned (.pointer af))∧
 (n s)∧
 ∃ ao:World,((Instr.mapUpdate 77 (.map ad) (.int .i64 ae) (.agg #[.pointer r,.pointer af])).run Tryz.prog s=.ok () ao)∧
 Drw ao fun v a7=>
 ∃ ag:Int,(At v ⟨d,0 + 2,none⟩ [.int .i64 ag])∧
 Calls Tryz.prog 58 #[.pointer r] a7 fun O t=>
 (∃ g:Sl,(O=.returned (.slice g.a g.len g.cap))∧
 (v t)∧
 ∃ u:World,((Instr.storeAt 31 (.pointer ((some ⟨A,0,none⟩))) (.agg #[.int .i64 0,.string (ByteArray.mk #[]),.int .i64 0,.int .i64 ag,.int .i64 0,.int .i64 0,.int .i64 0,.slice g.a g.len g.cap,.slice none 0 0])).run Tryz.prog t=.ok () u)∧
 ∃ ah:Int,∃ ai:ByteArray,∃ aj:Int,∃ ak:Int,∃ al:Int,∃ am:Int,∃ an:Int,∃ i:Sl,∃ j:Sl,(At (fun b=>b=u) ⟨A,0,none⟩ [.int .i64 ah,.string ai,.int .i64 aj,.int .i64 ak,.int .i64 al,.int .i64 am,.int .i64 an,.slice i.a i.len i.cap,.slice j.a j.len j.cap])∧
 K (.agg #[.int .i64 ah,.string ai,.int .i64 aj,.int .i64 ak,.int .i64 al,.int .i64 am,.int .i64 an,.slice i.a i.len i.cap,.slice j.a j.len j.cap]) u)∨
 (∃ H:List PanicEntry,(O=.panicked H)∧c H t))∨
 (∃ G:List PanicEntry,(N=.panicked G)∧c G s))∨
 (∃ F:List PanicEntry,(M=.panicked F)∧c F au))∨
 (∃ E:List PanicEntry,(L=.panicked E)∧c E ar))∨
 (∃ D:List PanicEntry,(J=.panicked D)∧c D k))∨
 (∃ C:List PanicEntry,(I=.panicked C)∧c C m)) a9) a5) w
theorem call42 (e:Option Addr) (f:Int) (g:ByteArray) (i:Int) (j:Int) (k:Int) (l:Int) (m:Nat) (n:ByteArray) (o:Int) (c:Sl) (b:Sl) (d:List PanicEntry→World→Prop) (K:Value→World→Prop) (w:World) (h:B42 e f g i j k l m n o c b d K w):GetsX Tryz.prog 42 #[.pointer e,.agg #[.int .i64 f,.string g,.int .i64 i,.int .i64 j,.int .i64 k,.int .i64 l,.float .f64 m,.string n,.int .i64 o,.slice c.a c.len c.cap,.slice b.a b.len b.cap]] w d K:=cqx (sk:=.leaf) Tryz.func42 (by kernel_rfl) (by kernel_rfl) (by kernel_rfl) h
def B15 (g:Option Addr) (g4:Int) (g5:ByteArray) (g6:Int) (g7:Int) (g8:Int) (g9:Int) (ha:Nat) (hb:ByteArray) (hc:Int) (ap:Sl) (ao:Sl) (K:Value→World→Prop) (w:World):Prop:=
 New (.cells #[.int .i64 g4,.string g5,.int .i64 g6,.int .i64 g7,.int .i64 g8,.int .i64 g9,.float .f64 ha,.string hb,.int .i64 hc,.slice ap.a ap.len ap.cap,.slice ao.a ao.len ao.cap] 38 (0,0)) (fun d hd=>
 New (.cells #[.int .i64 0,.string (ByteArray.mk #[]),.int .i64 0,.int .i64 0,.int .i64 0,.int .i64 0,.int .i64 0,.slice none 0 0,.slice none 0 0] 31 (0,0)) (fun c gq=>
 ∃ dm:Int,∃ dn:ByteArray,∃ dp:Int,∃ dq:Int,∃ dr:Int,∃ ds:Int,∃ dt:Nat,∃ du:ByteArray,∃ dv:Int,∃ F:Sl,∃ E:Sl,(At (fun b=>b=gq) ⟨d,0,none⟩ [.int .i64 dm,.string dn,.int .i64 dp,.int .i64 dq,.int .i64 dr,.int .i64 ds,.float .f64 dt,.string du,.int .i64 dv,.slice F.a F.len F.cap,.slice E.a E.len E.cap])∧
 Calls Tryz.prog 41 #[.agg #[.int .i64 dm,.string dn,.int .i64 dp,.int .i64 dq,.int .i64 dr,.int .i64 ds,.float .f64 dt,.string du,.int .i64 dv,.slice F.a F.len F.cap,.slice E.a E.len E.cap]] gq fun a2 gy=>
 (∃ dw:Bool,(a2=.returned (.bool dw))∧
 Calls Tryz.prog 40 #[.bool dw,.int .i64 1] gy fun a3 al=>
 ((a3=.returned (.tuple #[]))∧
 ∃ f:Int,(At (fun b=>b=al) ⟨d,0,none⟩ [.int .i64 f])∧
 Br (f==1)
 (∃ ba:Int,∃ bb:ByteArray,∃ bc:Int,∃ bd:Int,∃ be:Int,∃ bf:Int,∃ bg:Nat,∃ bh:ByteArray,∃ bi:Int,∃ j:Sl,∃ i:Sl,(At (fun b=>b=al) ⟨d,0,none⟩ [.int .i64 ba,.string bb,.int .i64 bc,.int .i64 bd,.int .i64 be,.int .i64 bf,.float .f64 bg,.string bh,.int .i64 bi,.slice j.a j.len j.cap,.slice i.a i.len i.cap])∧
 Calls Tryz.prog 42 #[.pointer g,.agg #[.int .i64 ba,.string bb,.int .i64 bc,.int .i64 bd,.int .i64 be,.int .i64 bf,.float .f64 bg,.string bh,.int .i64 bi,.slice j.a j.len j.cap,.slice i.a i.len i.cap]] al fun a4 g0=>
 (∃ bj:Int,∃ bk:ByteArray,∃ bl:Int,∃ bm:Int,∃ bn:Int,∃ bo:Int,∃ bp:Int,∃ k:Sl,∃ l:Sl,(a4=.returned (.agg #[.int .i64 bj,.string bk,.int .i64 bl,.int .i64 bm,.int .i64 bn,.int .i64 bo,.int .i64 bp,.slice k.a k.len k.cap,.slice l.a l.len l.cap]))∧
 ∃ g1:World,((Instr.storeAt 31 (.pointer ((some ⟨c,0,none⟩))) (.agg #[.int .i64 bj,.string bk,.int .i64 bl,.int .i64 bm,.int .i64 bn,.int .i64 bo,.int .i64 bp,.slice k.a k.len k.cap,.slice l.a l.len l.cap])).run Tryz.prog g0=.ok () g1)∧
 LeaveF Tryz.prog 39 [.pointer ((some ⟨c,0,none⟩))] .returning (fun g2=>∃ dx:Int,∃ dy:ByteArray,∃ ek:Int,∃ et:Int,∃ e2:Int,∃ fb:Int,∃ fk:Int,∃ ab:Sl,∃ af:Sl,(At (fun b=>b=g2) ⟨c,0,none⟩ [.int .i64 dx,.string dy,.int .i64 ek,.int .i64 et,.int .i64 e2,.int .i64 fb,.int .i64 fk,.slice ab.a ab.len ab.cap,.slice af.a af.len af.cap])∧
 K (.agg #[.int .i64 dx,.string dy,.int .i64 ek,.int .i64 et,.int .i64 e2,.int .i64 fb,.int .i64 fk,.slice ab.a ab.len ab.cap,.slice af.a af.len af.cap]) g2) g1)∨
 (∃ aw:List PanicEntry,(a4=.panicked aw)∧LeaveF Tryz.prog 39 [.pointer ((some ⟨c,0,none⟩))] (.panicking aw) (fun g3=>∃ f7:Int,∃ dz:ByteArray,∃ d8:Int,∃ ee:Int,∃ ef:Int,∃ eg:Int,∃ eh:Int,∃ L:Sl,∃ M:Sl,(At (fun b=>b=g3) ⟨c,0,none⟩ [.int .i64 f7,.string dz,.int .i64 d8,.int .i64 ee,.int .i64 ef,.int .i64 eg,.int .i64 eh,.slice L.a L.len L.cap,.slice M.a M.len M.cap])∧
 K (.agg #[.int .i64 f7,.string dz,.int .i64 d8,.int .i64 ee,.int .i64 ef,.int .i64 eg,.int .i64 eh,.slice L.a L.len L.cap,.slice M.a M.len M.cap]) g3) g0))
 (∃ (an:Bool→World→Prop),(Br (f==2)
 (an (f==2) al)
 (an (f==7) al))∧
 ∀ (hf:Env) (bq:Bool) (e:World),an bq e→
 Br bq
 (∃ br:Int,∃ bs:ByteArray,∃ bt:Int,∃ bu:Int,∃ bv:Int,∃ bw:Int,∃ bx:Nat,∃ bz:ByteArray,∃ b0:Int,∃ n:Sl,∃ m:Sl,(At (fun b=>b=e) ⟨d,0,none⟩ [.int .i64 br,.string bs,.int .i64 bt,.int .i64 bu,.int .i64 bv,.int .i64 bw,.float .f64 bx,.string bz,.int .i64 b0,.slice n.a n.len n.cap,.slice m.a m.len m.cap])∧
 Calls Tryz.prog 43 #[.pointer g,.agg #[.int .i64 br,.string bs,.int .i64 bt,.int .i64 bu,.int .i64 bv,.int .i64 bw,.float .f64 bx,.string bz,.int .i64 b0,.slice n.a n.len n.cap,.slice m.a m.len m.cap]] e fun a5 gg=>
 (∃ b1:Int,∃ b2:ByteArray,∃ b3:Int,∃ b4:Int,∃ b5:Int,∃ b6:Int,∃ b7:Int,∃ o:Sl,∃ p:Sl,(a5=.returned (.agg #[.int .i64 b1,.string b2,.int .i64 b3,.int .i64 b4,.int .i64 b5,.int .i64 b6,.int .i64 b7,.slice o.a o.len o.cap,.slice p.a p.len p.cap]))∧
 ∃ gh:World,((Instr.storeAt 31 (.pointer ((some ⟨c,0,none⟩))) (.agg #[.int .i64 b1,.string b2,.int .i64 b3,.int .i64 b4,.int .i64 b5,.int .i64 b6,.int .i64 b7,.slice o.a o.len o.cap,.slice p.a p.len p.cap])).run Tryz.prog gg=.ok () gh)∧
 LeaveF Tryz.prog 39 [.pointer ((some ⟨c,0,none⟩))] .returning (fun gi=>∃ ei:Int,∃ ej:ByteArray,∃ el:Int,∃ em:Int,∃ en:Int,∃ eo:Int,∃ ep:Int,∃ N:Sl,∃ O:Sl,(At (fun b=>b=gi) ⟨c,0,none⟩ [.int .i64 ei,.string ej,.int .i64 el,.int .i64 em,.int .i64 en,.int .i64 eo,.int .i64 ep,.slice N.a N.len N.cap,.slice O.a O.len O.cap])∧
 K (.agg #[.int .i64 ei,.string ej,.int .i64 el,.int .i64 em,.int .i64 en,.int .i64 eo,.int .i64 ep,.slice N.a N.len N.cap,.slice O.a O.len O.cap]) gi) gh)∨
 (∃ ax:List PanicEntry,(a5=.panicked ax)∧LeaveF Tryz.prog 39 [.pointer ((some ⟨c,0,none⟩))] (.panicking ax) (fun gj=>∃ eq:Int,∃ er:ByteArray,∃ es:Int,∃ eu:Int,∃ ev:Int,∃ ew:Int,∃ ex:Int,∃ Q:Sl,∃ T:Sl,(At (fun b=>b=gj) ⟨c,0,none⟩ [.int .i64 eq,.string er,.int .i64 es,.int .i64 eu,.int .i64 ev,.int .i64 ew,.int .i64 ex,.slice Q.a Q.len Q.cap,.slice T.a T.len T.cap])∧
 K (.agg #[.int .i64 eq,.string er,.int .i64 es,.int .i64 eu,.int .i64 ev,.int .i64 ew,.int .i64 ex,.slice Q.a Q.len Q.cap,.slice T.a T.len T.cap]) gj) gg))
 (Br (f==8)
 (∃ b8:Int,∃ b9:ByteArray,∃ ca:Int,∃ cb:Int,∃ cc:Int,∃ cd:Int,∃ ce:Nat,∃ cf:ByteArray,∃ cg:Int,∃ r:Sl,∃ q:Sl,(At (fun b=>b=e) ⟨d,0,none⟩ [.int .i64 b8,.string b9,.int .i64 ca,.int .i64 cb,.int .i64 cc,.int .i64 cd,.float .f64 ce,.string cf,.int .i64 cg,.slice r.a r.len r.cap,.slice q.a q.len q.cap])∧
 Calls Tryz.prog 44 #[.pointer g,.agg #[.int .i64 b8,.string b9,.int .i64 ca,.int .i64 cb,.int .i64 cc,.int .i64 cd,.float .f64 ce,.string cf,.int .i64 cg,.slice r.a r.len r.cap,.slice q.a q.len q.cap]] e fun a6 gk=>
 (∃ ch:Int,∃ ci:ByteArray,∃ cj:Int,∃ ck:Int,∃ cl:Int,∃ cm:Int,∃ cn:Int,∃ s:Sl,∃ t:Sl,(a6=.returned (.agg #[.int .i64 ch,.string ci,.int .i64 cj,.int .i64 ck,.int .i64 cl,.int .i64 cm,.int .i64 cn,.slice s.a s.len s.cap,.slice t.a t.len t.cap]))∧
 ∃ gl:World,((Instr.storeAt 31 (.pointer ((some ⟨c,0,none⟩))) (.agg #[.int .i64 ch,.string ci,.int .i64 cj,.int .i64 ck,.int .i64 cl,.int .i64 cm,.int .i64 cn,.slice s.a s.len s.cap,.slice t.a t.len t.cap])).run Tryz.prog gk=.ok () gl)∧
 LeaveF Tryz.prog 39 [.pointer ((some ⟨c,0,none⟩))] .returning (fun gm=>∃ ey:Int,∃ ez:ByteArray,∃ e0:Int,∃ e1:Int,∃ e3:Int,∃ e4:Int,∃ e5:Int,∃ U:Sl,∃ V:Sl,(At (fun b=>b=gm) ⟨c,0,none⟩ [.int .i64 ey,.string ez,.int .i64 e0,.int .i64 e1,.int .i64 e3,.int .i64 e4,.int .i64 e5,.slice U.a U.len U.cap,.slice V.a V.len V.cap])∧
 K (.agg #[.int .i64 ey,.string ez,.int .i64 e0,.int .i64 e1,.int .i64 e3,.int .i64 e4,.int .i64 e5,.slice U.a U.len U.cap,.slice V.a V.len V.cap]) gm) gl)∨
 (∃ ay:List PanicEntry,(a6=.panicked ay)∧LeaveF Tryz.prog 39 [.pointer ((some ⟨c,0,none⟩))] (.panicking ay) (fun gn=>∃ e6:Int,∃ e7:ByteArray,∃ e8:Int,∃ e9:Int,∃ fa:Int,∃ fc:Int,∃ fd:Int,∃ X:Sl,∃ Y:Sl,(At (fun b=>b=gn) ⟨c,0,none⟩ [.int .i64 e6,.string e7,.int .i64 e8,.int .i64 e9,.int .i64 fa,.int .i64 fc,.int .i64 fd,.slice X.a X.len X.cap,.slice Y.a Y.len Y.cap])∧
 K (.agg #[.int .i64 e6,.string e7,.int .i64 e8,.int .i64 e9,.int .i64 fa,.int .i64 fc,.int .i64 fd,.slice X.a X.len X.cap,.slice Y.a Y.len Y.cap]) gn) gk))
 (Br (f==9)
 (∃ co:Int,∃ cp:ByteArray,∃ cq:Int,∃ cr:Int,∃ cs:Int,∃ ct:Int,∃ cu:Nat,∃ cv:ByteArray,∃ cw:Int,∃ v:Sl,∃ u:Sl,(At (fun b=>b=e) ⟨d,0,none⟩ [.int .i64 co,.string cp,.int .i64 cq,.int .i64 cr,.int .i64 cs,.int .i64 ct,.float .f64 cu,.string cv,.int .i64 cw,.slice v.a v.len v.cap,.slice u.a u.len u.cap])∧
 Calls Tryz.prog 19 #[.pointer g,.agg #[.int .i64 co,.string cp,.int .i64 cq,.int .i64 cr,.int .i64 cs,.int .i64 ct,.float .f64 cu,.string cv,.int .i64 cw,.slice v.a v.len v.cap,.slice u.a u.len u.cap]] e fun a7 go=>
 (∃ cx:Int,∃ cy:ByteArray,∃ cz:Int,∃ c0:Int,∃ c1:Int,∃ c2:Int,∃ c3:Int,∃ x:Sl,∃ y:Sl,(a7=.returned (.agg #[.int .i64 cx,.string cy,.int .i64 cz,.int .i64 c0,.int .i64 c1,.int .i64 c2,.int .i64 c3,.slice x.a x.len x.cap,.slice y.a y.len y.cap]))∧
 ∃ gp:World,((Instr.storeAt 31 (.pointer ((some ⟨c,0,none⟩))) (.agg #[.int .i64 cx,.string cy,.int .i64 cz,.int .i64 c0,.int .i64 c1,.int .i64 c2,.int .i64 c3,.slice x.a x.len x.cap,.slice y.a y.len y.cap])).run Tryz.prog go=.ok () gp)∧
 LeaveF Tryz.prog 39 [.pointer ((some ⟨c,0,none⟩))] .returning (fun gr=>∃ fe:Int,∃ ff:ByteArray,∃ fg:Int,∃ fh:Int,∃ fi:Int,∃ fj:Int,∃ fl:Int,∃ Z:Sl,∃ aa:Sl,(At (fun b=>b=gr) ⟨c,0,none⟩ [.int .i64 fe,.string ff,.int .i64 fg,.int .i64 fh,.int .i64 fi,.int .i64 fj,.int .i64 fl,.slice Z.a Z.len Z.cap,.slice aa.a aa.len aa.cap])∧
 K (.agg #[.int .i64 fe,.string ff,.int .i64 fg,.int .i64 fh,.int .i64 fi,.int .i64 fj,.int .i64 fl,.slice Z.a Z.len Z.cap,.slice aa.a aa.len aa.cap]) gr) gp)∨
 (∃ az:List PanicEntry,(a7=.panicked az)∧LeaveF Tryz.prog 39 [.pointer ((some ⟨c,0,none⟩))] (.panicking az) (fun gs=>∃ fm:Int,∃ fn:ByteArray,∃ fo:Int,∃ fp:Int,∃ fq:Int,∃ fr:Int,∃ fs:Int,∃ ac:Sl,∃ ad:Sl,(At (fun b=>b=gs) ⟨c,0,none⟩ [.int .i64 fm,.string fn,.int .i64 fo,.int .i64 fp,.int .i64 fq,.int .i64 fr,.int .i64 fs,.slice ac.a ac.len ac.cap,.slice ad.a ad.len ad.cap])∧
 K (.agg #[.int .i64 fm,.string fn,.int .i64 fo,.int .i64 fp,.int .i64 fq,.int .i64 fr,.int .i64 fs,.slice ac.a ac.len ac.cap,.slice ad.a ad.len ad.cap]) gs) go))
 (Drw e fun am he=>
 ∃ c4:ByteArray,(At am ⟨d,0 + 1,none⟩ [.string c4])∧
 ∃ c6:Int,∃ c7:ByteArray,∃ c8:Int,∃ c9:Int,∃ da:Int,∃ db:Int,∃ dc:Nat,∃ dd:ByteArray,∃ de:Int,∃ A:Sl,∃ z:Sl,(At am ⟨d,0,none⟩ [.int .i64 c6,.string c7,.int .i64 c8,.int .i64 c9,.int .i64 da,.int .i64 db,.float .f64 dc,.string dd,.int .i64 de,.slice A.a A.len A.cap,.slice z.a z.len z.cap])∧
 Calls Tryz.prog 46 #[.pointer g,.string c4] he fun a8 aq=>
 (∃ c5:Option Addr,(a8=.returned (.pointer c5))∧
 (am aq)∧
 Calls Tryz.prog 45 #[.pointer g,.pointer c5,.agg #[.int .i64 c6,.string c7,.int .i64 c8,.int .i64 c9,.int .i64 da,.int .i64 db,.float .f64 dc,.string dd,.int .i64 de,.slice A.a A.len A.cap,.slice z.a z.len z.cap]] aq fun a9 ar=>
 (∃ df:Int,∃ dg:ByteArray,∃ dh:Int,∃ di:Int,∃ dj:Int,∃ dk:Int,∃ dl:Int,∃ C:Sl,∃ D:Sl,(a9=.returned (.agg #[.int .i64 df,.string dg,.int .i64 dh,.int .i64 di,.int .i64 dj,.int .i64 dk,.int .i64 dl,.slice C.a C.len C.cap,.slice D.a D.len D.cap]))∧
 (am ar)∧
 ∃ gt:World,((Instr.storeAt 31 (.pointer ((some ⟨c,0,none⟩))) (.agg #[.int .i64 df,.string dg,.int .i64 dh,.int .i64 di,.int .i64 dj,.int .i64 dk,.int .i64 dl,.slice C.a C.len C.cap,.slice D.a D.len D.cap])).run Tryz.prog ar=.ok () gt)∧
 LeaveF Tryz.prog 39 [.pointer ((some ⟨c,0,none⟩))] .returning (fun gu=>∃ ft:Int,∃ fu:ByteArray,∃ fv:Int,∃ fw:Int,∃ fx:Int,∃ fy:Int,∃ fz:Int,∃ ae:Sl,∃ ag:Sl,(At (fun b=>b=gu) ⟨c,0,none⟩ [.int .i64 ft,.string fu,.int .i64 fv,.int .i64 fw,.int .i64 fx,.int .i64 fy,.int .i64 fz,.slice ae.a ae.len ae.cap,.slice ag.a ag.len ag.cap])∧
 K (.agg #[.int .i64 ft,.string fu,.int .i64 fv,.int .i64 fw,.int .i64 fx,.int .i64 fy,.int .i64 fz,.slice ae.a ae.len ae.cap,.slice ag.a ag.len ag.cap]) gu) gt)∨
 (∃ a1:List PanicEntry,(a9=.panicked a1)∧LeaveF Tryz.prog 39 [.pointer ((some ⟨c,0,none⟩))] (.panicking a1) (fun gv=>∃ f0:Int,∃ f1:ByteArray,∃ f2:Int,∃ f3:Int,∃ f4:Int,∃ f5:Int,∃ f6:Int,∃ ah:Sl,∃ ai:Sl,(At (fun b=>b=gv) ⟨c,0,none⟩ [.int .i64 f0,.string f1,.int .i64 f2,.int .i64 f3,.int .i64 f4,.int .i64 f5,.int .i64 f6,.slice ah.a ah.len ah.cap,.slice ai.a ai.len ai.cap])∧
 K (.agg #[.int .i64 f0,.string f1,.int .i64 f2,.int .i64 f3,.int .i64 f4,.int .i64 f5,.int .i64 f6,.slice ah.a ah.len ah.cap,.slice ai.a ai.len ai.cap]) gv) ar))∨
 (∃ a0:List PanicEntry,(a8=.panicked a0)∧LeaveF Tryz.prog 39 [.pointer ((some ⟨c,0,none⟩))] (.panicking a0) (fun gw=>∃ f8:Int,∃ f9:ByteArray,∃ ga:Int,∃ gb:Int,∃ gc:Int,∃ gd:Int,∃ ge:Int,∃ aj:Sl,∃ ak:Sl,(At (fun b=>b=gw) ⟨c,0,none⟩ [.int .i64 f8,.string f9,.int .i64 ga,.int .i64 gb,.int .i64 gc,.int .i64 gd,.int .i64 ge,.slice aj.a aj.len aj.cap,.slice ak.a ak.len ak.cap])∧
 K (.agg #[.int .i64 f8,.string f9,.int .i64 ga,.int .i64 gb,.int .i64 gc,.int .i64 gd,.int .i64 ge,.slice aj.a aj.len aj.cap,.slice ak.a ak.len ak.cap]) gw) aq))))))∨
 (∃ av:List PanicEntry,(a3=.panicked av)∧LeaveF Tryz.prog 39 [.pointer ((some ⟨c,0,none⟩))] (.panicking av) (fun gx=>∃ gf:Int,∃ d0:ByteArray,∃ d1:Int,∃ d2:Int,∃ d3:Int,∃ d4:Int,∃ d5:Int,∃ G:Sl,∃ H:Sl,(At (fun b=>b=gx) ⟨c,0,none⟩ [.int .i64 gf,.string d0,.int .i64 d1,.int .i64 d2,.int .i64 d3,.int .i64 d4,.int .i64 d5,.slice G.a G.len G.cap,.slice H.a H.len H.cap])∧
 K (.agg #[.int .i64 gf,.string d0,.int .i64 d1,.int .i64 d2,.int .i64 d3,.int .i64 d4,.int .i64 d5,.slice G.a G.len G.cap,.slice H.a H.len H.cap]) gx) al))∨
 (∃ au:List PanicEntry,(a2=.panicked au)∧LeaveF Tryz.prog 39 [.pointer ((some ⟨c,0,none⟩))] (.panicking au) (fun gz=>∃ d6:Int,∃ d7:ByteArray,∃ d9:Int,∃ ea:Int,∃ eb:Int,∃ ec:Int,∃ ed:Int,∃ I:Sl,∃ J:Sl,(At (fun b=>b=gz) ⟨c,0,none⟩ [.int .i64 d6,.string d7,.int .i64 d9,.int .i64 ea,.int .i64 eb,.int .i64 ec,.int .i64 ed,.slice I.a I.len I.cap,.slice J.a J.len J.cap])∧
 K (.agg #[.int .i64 d6,.string d7,.int .i64 d9,.int .i64 ea,.int .i64 eb,.int .i64 ec,.int .i64 ed,.slice I.a I.len I.cap,.slice J.a J.len J.cap]) gz) gy)) hd) w
def sk15:Sk:=(.seq .leaf (.seq (.seq .leaf (.block (.seq .leaf (.cond .leaf (.cut [15] [.bool] [15,16,17] .leaf .leaf))))) .leaf))
theorem call15 (d:Option Addr) (e:Int) (f:ByteArray) (g:Int) (i:Int) (j:Int) (k:Int) (l:Nat) (m:ByteArray) (n:Int) (c:Sl) (b:Sl) (K:Value→World→Prop) (w:World) (h:B15 d e f g i j k l m n c b K w):Gets Tryz.prog 15 #[.pointer d,.agg #[.int .i64 e,.string f,.int .i64 g,.int .i64 i,.int .i64 j,.int .i64 k,.float .f64 l,.string m,.int .i64 n,.slice c.a c.len c.cap,.slice b.a b.len b.cap]] w K:=cqd (sk:=sk15) Tryz.func15 (by kernel_rfl) (by kernel_rfl) (by kernel_rfl) h
end Go.Proofs.YtfgbbckfikiomaaGreatDoor
/- The formulas of functions of this seat's translation, printed by a program of mine off the translation; each is proved equal to 'fnF' of the function's body, so it is enough for the call. No condition. -/
namespace Go.Proofs.YtfgbbckfikiomaaGreatDoor
open Go Go.VC
set_option linter.unusedVariables false
set_option maxRecDepth 10000
def B89 (d:Nat) (K:Value→World→Prop) (w:World):Prop:=
 Ext Tryz.prog 149 #[.float .f64 d] w fun c b=>
 ∃ a:Int,(c=.returned (.int .u64 a))∧
 Br (decide (a<9223372036854775808))
 (K (.int .u64 (IntKind.u64.wrap (a + 9223372036854775808))) b)
 (K (.int .u64 (IntKind.u64.wrap (18446744073709551615 - a))) b)
theorem call89 (a:Nat) (K:Value→World→Prop) (w:World) (h:B89 a K w):Gets Tryz.prog 89 #[.float .f64 a] w K:=cq (sk:=.leaf) Tryz.func89 (by kernel_rfl) (by kernel_rfl) (by kernel_rfl) h
def B93 (a:Int) (K:Value→World→Prop) (w:World):Prop:=
 Br (decide (a ≥ 9223372036854775808))
 (Ext Tryz.prog 151 #[.int .u64 (IntKind.u64.wrap (a - 9223372036854775808))] w fun d f=>
 ∃ c:Nat,(d=.returned (.float .f64 c))∧
 K (.float .f64 c) f)
 (Ext Tryz.prog 151 #[.int .u64 (IntKind.u64.wrap (18446744073709551615 - a))] w fun e g=>
 ∃ b:Nat,(e=.returned (.float .f64 b))∧
 K (.float .f64 b) g)
theorem call93 (a:Int) (K:Value→World→Prop) (w:World) (h:B93 a K w):Gets Tryz.prog 93 #[.int .u64 a] w K:=cq (sk:=.leaf) Tryz.func93 (by kernel_rfl) (by kernel_rfl) (by kernel_rfl) h
def B62 (T:Int) (U:ByteArray) (V:Int) (X:Int) (Y:Int) (Z:Int) (aa:Nat) (ab:ByteArray) (ac:Int) (r:Sl) (q:Sl) (K:Value→World→Prop) (w:World):Prop:=
 New (.cells #[.int .i64 T,.string U,.int .i64 V,.int .i64 X,.int .i64 Y,.int .i64 Z,.float .f64 aa,.string ab,.int .i64 ac,.slice r.a r.len r.cap,.slice q.a q.len q.cap] 38 (0,0)) (fun d k=>
 ∃ G:Int,(At (fun b=>b=k) ⟨d,0 + 2,none⟩ [.int .i64 G])∧
 ∃ H:Int,(At (fun b=>b=k) ⟨d,0 + 3,none⟩ [.int .i64 H])∧
 ∃ u:Int,(At (fun b=>b=k) ⟨d,0 + 4,none⟩ [.int .i64 u])∧
 ∃ v:Int,(At (fun b=>b=k) ⟨d,0 + 8,none⟩ [.int .i64 v])∧
 New (.cells #[.int .i64 G,.int .i64 H,.int .i64 u,.int .i64 v] 3 (0,0)) (fun t ad=>
 ∃ (o:Int→World→Prop) (M:Int→World→Nat),(o 0 ad)∧∀ (ae:Env) (f:Int) (c:World),o f c→
 Br (decide (f<(↑4:Int)))
 (Rng f 4 (∃ x:Int,(At (fun b=>b=c) (Addr.add ⟨t,0,none⟩ f.toNat) [.int .i64 x])∧
 Br (decide (x<0))
 (K (.bool false) c)
 (Rng f 4 (∃ y:Int,(At (fun b=>b=c) (Addr.add ⟨t,0,none⟩ f.toNat) [.int .i64 y])∧
 Br (decide (y>9999))
 (K (.bool false) c)
 ((o (IntKind.i64.wrap (f + 1)) c)∧M (IntKind.i64.wrap (f + 1)) c<M f c)))))
 (∃ (s:World→Prop),(∃ z:Int,(At (fun b=>b=c) ⟨d,0,none⟩ [.int .i64 z])∧
 Br (decide (z<1))
 (K (.bool false) c)
 (∃ A:Int,(At (fun b=>b=c) ⟨d,0,none⟩ [.int .i64 A])∧
 Br (decide (A>9))
 (K (.bool false) c)
 (∃ C:Int,(At (fun b=>b=c) ⟨d,0 + 5,none⟩ [.int .i64 C])∧
 Br (decide (C<0))
 (K (.bool false) c)
 (∃ D:Int,(At (fun b=>b=c) ⟨d,0 + 5,none⟩ [.int .i64 D])∧
 Br (decide (D>1099511627776))
 (K (.bool false) c)
 (∃ E:ByteArray,(At (fun b=>b=c) ⟨d,0 + 1,none⟩ [.string E])∧
 Br (decide ((↑E.size:Int)>16))
 (K (.bool false) c)
 (∃ F:ByteArray,(At (fun b=>b=c) ⟨d,0 + 7,none⟩ [.string F])∧
 Br (decide ((↑F.size:Int)>16))
 (K (.bool false) c)
 (∃ l:Sl,(At (fun b=>b=c) ⟨d,0 + 8 + 1,none⟩ [.slice l.a l.len l.cap])∧
 Br (decide ((↑l.len:Int)>16))
 (K (.bool false) c)
 (∃ m:Sl,(At (fun b=>b=c) ⟨d,0 + 10,none⟩ [.slice m.a m.len m.cap])∧
 Br (decide ((↑m.len:Int)>16))
 (K (.bool false) c)
 (s  c)))))))))∧
 ∀ (af:Env)  (L:World),s  L→
 ∃ (p:Int→World→Prop) (N:Int→World→Nat),(p 0 L)∧∀ (ag:Env) (g:Int) (e:World),p g e→
 ∃ n:Sl,(At (fun b=>b=e) ⟨d,0 + 8 + 1,none⟩ [.slice n.a n.len n.cap])∧
 Br (decide (g<(↑n.len:Int)))
 (∃ i:Sl,(At (fun b=>b=e) ⟨d,0 + 8 + 1,none⟩ [.slice i.a i.len i.cap])∧
 Rng g i.len (NilP i.a fun O=>
 ∃ I:Int,(At (fun b=>b=e) (Addr.add O g.toNat) [.int .i64 I])∧
 Br (decide (I<0))
 (K (.bool false) e)
 (∃ j:Sl,(At (fun b=>b=e) ⟨d,0 + 8 + 1,none⟩ [.slice j.a j.len j.cap])∧
 Rng g j.len (NilP j.a fun Q=>
 ∃ J:Int,(At (fun b=>b=e) (Addr.add Q g.toNat) [.int .i64 J])∧
 Br (decide (J>9999))
 (K (.bool false) e)
 ((p (IntKind.i64.wrap (g + 1)) e)∧N (IntKind.i64.wrap (g + 1)) e<N g e)))))
 (K (.bool true) e))) k) w
def sk62:Sk:=(.seq .leaf (.seq .leaf (.seq (.seq .leaf (.block (.loop [4] [(.int .i64)] [2,4,16,17,18,19,20,21,22,23,24,25,26,27,28,29,30,31,32,33] .leaf))) (.cut [] [] [2,34,35,36,37,38,39,40,41,42,43,44,45,46,47,48,49,50,51,52,53,54,55,56,57,58,59,60,61,62,63,64,65,66,67,68,69,70,71,72,73,74,75,76] .leaf (.seq (.seq .leaf (.block (.loop [5] [(.int .i64)] [2,5,77,78,79,80,81,82,83,84,85,86,87,88,89,90,91,92,93,94,95,96,97,98,99,100] .leaf))) .leaf)))))
theorem call62 (d:Int) (e:ByteArray) (f:Int) (g:Int) (i:Int) (j:Int) (k:Nat) (l:ByteArray) (m:Int) (c:Sl) (b:Sl) (K:Value→World→Prop) (w:World) (h:B62 d e f g i j k l m c b K w):Gets Tryz.prog 62 #[.agg #[.int .i64 d,.string e,.int .i64 f,.int .i64 g,.int .i64 i,.int .i64 j,.float .f64 k,.string l,.int .i64 m,.slice c.a c.len c.cap,.slice b.a b.len b.cap]] w K:=cq (sk:=sk62) Tryz.func62 (by kernel_rfl) (by kernel_rfl) (by kernel_rfl) h
def B71 (i:Sl) (K:Value→World→Prop) (w:World):Prop:=
 ∃ (g:Sl→Int→World→Prop) (l:Sl→Int→World→Nat),(g ⟨none,0,0⟩ 0 w)∧∀ (q:Env) (b:Sl) (c:Int) (f:World),g b c f→
 Br (decide (c<(↑i.len:Int)))
 (Rng c i.len (NilP i.a fun m=>
 ∃ j:Int,(At (fun o=>o=f) (Addr.add m c.toNat) [.int .i64 j])∧
 Calls Tryz.prog 88 #[.int .u64 (IntKind.u64.wrap (if 0>j then 0 else j))] f fun n p=>
 ∃ d:Sl,(n=.returned (.slice d.a d.len d.cap))∧
 ∃ k:World,∃ e:Sl,((Builtin.append_ #[42,42] 42 #[.slice b.a b.len b.cap,.slice d.a d.len d.cap]).run Tryz.prog p=.ok (.slice e.a e.len e.cap) k)∧
 (g e (IntKind.i64.wrap (c + 1)) k)∧l e (IntKind.i64.wrap (c + 1)) k<l b c f))
 (K (.slice b.a b.len b.cap) f)
def sk71:Sk:=(.seq .leaf (.seq .leaf (.seq (.seq .leaf (.block (.loop [3,4] [.sl,(.int .i64)] [3,4,5,6,7,8,9,10,11,12,13,14,15,16,17,18,19] .leaf))) .leaf)))
theorem call71 (b:Sl) (K:Value→World→Prop) (w:World) (h:B71 b K w):Gets Tryz.prog 71 #[.slice b.a b.len b.cap] w K:=cq (sk:=sk71) Tryz.func71 (by kernel_rfl) (by kernel_rfl) (by kernel_rfl) h
def B30 (a8:Int) (a9:ByteArray) (ba:Int) (bb:Int) (bc:Int) (bd:Int) (be:Nat) (bf:ByteArray) (bg:Int) (O:Sl) (N:Sl) (K:Value→World→Prop) (w:World):Prop:=
 New (.cells #[.int .i64 a8,.string a9,.int .i64 ba,.int .i64 bb,.int .i64 bc,.int .i64 bd,.float .f64 be,.string bf,.int .i64 bg,.slice O.a O.len O.cap,.slice N.a N.len N.cap] 38 (0,0)) (fun c ax=>
 ∃ aj:Int,∃ ak:ByteArray,∃ al:Int,∃ am:Int,∃ an:Int,∃ ao:Int,∃ ap:Nat,∃ aq:ByteArray,∃ ar:Int,∃ A:Sl,∃ z:Sl,(At (fun b=>b=ax) ⟨c,0,none⟩ [.int .i64 aj,.string ak,.int .i64 al,.int .i64 am,.int .i64 an,.int .i64 ao,.float .f64 ap,.string aq,.int .i64 ar,.slice A.a A.len A.cap,.slice z.a z.len z.cap])∧
 Calls Tryz.prog 62 #[.agg #[.int .i64 aj,.string ak,.int .i64 al,.int .i64 am,.int .i64 an,.int .i64 ao,.float .f64 ap,.string aq,.int .i64 ar,.slice A.a A.len A.cap,.slice z.a z.len z.cap]] ax fun bh V=>
 ∃ au:Bool,(bh=.returned (.bool au))∧
 Br (!au)
 (K (.tuple #[.slice none 0 0,.int .i64 1]) V)
 (∃ Z:Int,(At (fun b=>b=V) ⟨c,0,none⟩ [.int .i64 Z])∧
 New (.cells #[.int .i64 Z] 3 (0,0)) (fun a4 b4=>
 Calls Tryz.prog 71 #[.slice ((some ⟨a4,0,none⟩)) 1 1] b4 fun bi a0=>
 ∃ g:Sl,(bi=.returned (.slice g.a g.len g.cap))∧
 ∃ aa:ByteArray,(At (fun b=>b=a0) ⟨c,0 + 1,none⟩ [.string aa])∧
 ∃ a1:World,∃ i:Sl,((convert 9 42 (.string aa)).run Tryz.prog a0=.ok (.slice i.a i.len i.cap) a1)∧
 Calls Tryz.prog 72 #[.slice i.a i.len i.cap] a1 fun bl b5=>
 ∃ j:Sl,(bl=.returned (.slice j.a j.len j.cap))∧
 ∃ D:World,∃ k:Sl,((Builtin.append_ #[42,42] 42 #[.slice g.a g.len g.cap,.slice j.a j.len j.cap]).run Tryz.prog b5=.ok (.slice k.a k.len k.cap) D)∧
 ∃ ab:Int,(At (fun b=>b=D) ⟨c,0 + 2,none⟩ [.int .i64 ab])∧
 ∃ ac:Int,(At (fun b=>b=D) ⟨c,0 + 3,none⟩ [.int .i64 ac])∧
 ∃ ad:Int,(At (fun b=>b=D) ⟨c,0 + 4,none⟩ [.int .i64 ad])∧
 ∃ ae:Int,(At (fun b=>b=D) ⟨c,0 + 5,none⟩ [.int .i64 ae])∧
 New (.cells #[.int .i64 ab,.int .i64 ac,.int .i64 ad,.int .i64 ae] 3 (0,0)) (fun a5 b6=>
 Calls Tryz.prog 71 #[.slice ((some ⟨a5,0,none⟩)) 4 4] b6 fun bm b7=>
 ∃ l:Sl,(bm=.returned (.slice l.a l.len l.cap))∧
 ∃ Q:World,∃ m:Sl,((Builtin.append_ #[42,42] 42 #[.slice k.a k.len k.cap,.slice l.a l.len l.cap]).run Tryz.prog b7=.ok (.slice m.a m.len m.cap) Q)∧
 ∃ af:Nat,(At (fun b=>b=Q) ⟨c,0 + 6,none⟩ [.float .f64 af])∧
 Calls Tryz.prog 89 #[.float .f64 af] Q fun bn bt=>
 ∃ ag:Int,(bn=.returned (.int .u64 ag))∧
 Calls Tryz.prog 88 #[.int .u64 ag] bt fun bo bu=>
 ∃ n:Sl,(bo=.returned (.slice n.a n.len n.cap))∧
 ∃ T:World,∃ o:Sl,((Builtin.append_ #[42,42] 42 #[.slice m.a m.len m.cap,.slice n.a n.len n.cap]).run Tryz.prog bu=.ok (.slice o.a o.len o.cap) T)∧
 ∃ ah:ByteArray,(At (fun b=>b=T) ⟨c,0 + 7,none⟩ [.string ah])∧
 ∃ ay:World,∃ p:Sl,((convert 9 42 (.string ah)).run Tryz.prog T=.ok (.slice p.a p.len p.cap) ay)∧
 Calls Tryz.prog 72 #[.slice p.a p.len p.cap] ay fun bp bv=>
 ∃ q:Sl,(bp=.returned (.slice q.a q.len q.cap))∧
 ∃ L:World,∃ r:Sl,((Builtin.append_ #[42,42] 42 #[.slice o.a o.len o.cap,.slice q.a q.len q.cap]).run Tryz.prog bv=.ok (.slice r.a r.len r.cap) L)∧
 ∃ ai:Int,(At (fun b=>b=L) ⟨c,0 + 8,none⟩ [.int .i64 ai])∧
 ∃ G:Sl,(At (fun b=>b=L) ⟨c,0 + 8 + 1,none⟩ [.slice G.a G.len G.cap])∧
 New (.cells #[.int .i64 ai,.int .i64 ((↑G.len:Int))] 3 (0,0)) (fun a6 bw=>
 Calls Tryz.prog 71 #[.slice ((some ⟨a6,0,none⟩)) 2 2] bw fun bq bx=>
 ∃ s:Sl,(bq=.returned (.slice s.a s.len s.cap))∧
 ∃ U:World,∃ t:Sl,((Builtin.append_ #[42,42] 42 #[.slice r.a r.len r.cap,.slice s.a s.len s.cap]).run Tryz.prog bx=.ok (.slice t.a t.len t.cap) U)∧
 ∃ u:Sl,(At (fun b=>b=U) ⟨c,0 + 8 + 1,none⟩ [.slice u.a u.len u.cap])∧
 Calls Tryz.prog 71 #[.slice u.a u.len u.cap] U fun br bz=>
 ∃ v:Sl,(br=.returned (.slice v.a v.len v.cap))∧
 ∃ X:World,∃ x:Sl,((Builtin.append_ #[42,42] 42 #[.slice t.a t.len t.cap,.slice v.a v.len v.cap]).run Tryz.prog bz=.ok (.slice x.a x.len x.cap) X)∧
 ∃ H:Sl,(At (fun b=>b=X) ⟨c,0 + 10,none⟩ [.slice H.a H.len H.cap])∧
 New (.cells #[.int .i64 ((↑H.len:Int))] 3 (0,0)) (fun a7 b0=>
 Calls Tryz.prog 71 #[.slice ((some ⟨a7,0,none⟩)) 1 1] b0 fun bs b1=>
 ∃ y:Sl,(bs=.returned (.slice y.a y.len y.cap))∧
 ∃ az:World,∃ I:Sl,((Builtin.append_ #[42,42] 42 #[.slice x.a x.len x.cap,.slice y.a y.len y.cap]).run Tryz.prog b1=.ok (.slice I.a I.len I.cap) az)∧
 ∃ (M:Sl→Int→World→Prop) (a2:Sl→Int→World→Nat),(M I 0 az)∧∀ (b8:Env) (d:Sl) (e:Int) (f:World),M d e f→
 ∃ J:Sl,(At (fun b=>b=f) ⟨c,0 + 10,none⟩ [.slice J.a J.len J.cap])∧
 Br (decide (e<(↑J.len:Int)))
 (∃ E:Sl,(At (fun b=>b=f) ⟨c,0 + 10,none⟩ [.slice E.a E.len E.cap])∧
 Rng e E.len (NilP E.a fun a3=>
 ∃ av:Nat,(At (fun b=>b=f) (Addr.add a3 e.toNat) [.float .f64 av])∧
 Calls Tryz.prog 89 #[.float .f64 av] f fun bj b2=>
 ∃ aw:Int,(bj=.returned (.int .u64 aw))∧
 Calls Tryz.prog 88 #[.int .u64 aw] b2 fun bk b3=>
 ∃ C:Sl,(bk=.returned (.slice C.a C.len C.cap))∧
 ∃ Y:World,∃ F:Sl,((Builtin.append_ #[42,42] 42 #[.slice d.a d.len d.cap,.slice C.a C.len C.cap]).run Tryz.prog b3=.ok (.slice F.a F.len F.cap) Y)∧
 (M F (IntKind.i64.wrap (e + 1)) Y)∧a2 F (IntKind.i64.wrap (e + 1)) Y<a2 d e f))
 (K (.tuple #[.slice d.a d.len d.cap,.int .i64 0]) f)) X) L) D) V)) w
def sk30:Sk:=(.seq .leaf (.seq .leaf (.seq .leaf (.seq .leaf (.seq .leaf (.seq .leaf (.seq .leaf (.seq .leaf (.seq .leaf (.seq .leaf (.seq .leaf (.seq (.seq .leaf (.block (.loop [5,6] [.sl,(.int .i64)] [5,6,69,70,71,72,73,74,75,76,77,78,79,80,81,82,83,84] .leaf))) .leaf))))))))))))
theorem call30 (d:Int) (e:ByteArray) (f:Int) (g:Int) (i:Int) (j:Int) (k:Nat) (l:ByteArray) (m:Int) (c:Sl) (b:Sl) (K:Value→World→Prop) (w:World) (h:B30 d e f g i j k l m c b K w):Gets Tryz.prog 30 #[.agg #[.int .i64 d,.string e,.int .i64 f,.int .i64 g,.int .i64 i,.int .i64 j,.float .f64 k,.string l,.int .i64 m,.slice c.a c.len c.cap,.slice b.a b.len b.cap]] w K:=cq (sk:=sk30) Tryz.func30 (by kernel_rfl) (by kernel_rfl) (by kernel_rfl) h
def B32 (H:Sl) (K:Value→World→Prop) (w:World):Prop:=
 New (.cells #[.int .i64 0,.string (ByteArray.mk #[]),.int .i64 0,.int .i64 0,.int .i64 0,.int .i64 0,.float .f64 0,.string (ByteArray.mk #[]),.int .i64 0,.slice none 0 0,.slice none 0 0] 38 (0,0)) (fun e cy=>
 New (.cells #[.slice H.a H.len H.cap,.int .i64 0,.bool false] 133 (0,0)) (fun d c3=>
 Calls Tryz.prog 84 #[.pointer ((some ⟨d,0,none⟩)),.int .u64 9] c3 fun ch c8=>
 ∃ O:Int,(ch=.returned (.int .u64 O))∧
 Calls Tryz.prog 85 #[.pointer ((some ⟨d,0,none⟩)),.int .i64 16] c8 fun ci ca=>
 ∃ f:Sl,(ci=.returned (.slice f.a f.len f.cap))∧
 ∃ Q:ByteArray,(∀ b,(fun b=>b=ca) b→((convert 42 9 (.slice f.a f.len f.cap))).run Tryz.prog b=.ok (.string Q) b)∧
 New (.cells #[.int .i64 0,.string (ByteArray.mk #[]),.int .i64 0,.int .i64 0,.int .i64 0,.int .i64 0,.float .f64 0,.string (ByteArray.mk #[]),.int .i64 0,.slice none 0 0,.slice none 0 0] 38 (0,0)) (fun c da=>
 ∃ cb:World,((Instr.storeAt 38 (.pointer ((some ⟨c,0,none⟩))) (.agg #[.int .i64 (IntKind.i64.wrap O),.string Q,.int .i64 0,.int .i64 0,.int .i64 0,.int .i64 0,.float .f64 0,.string (ByteArray.mk #[]),.int .i64 0,.slice none 0 0,.slice none 0 0])).run Tryz.prog da=.ok () cb)∧
 Calls Tryz.prog 84 #[.pointer ((some ⟨d,0,none⟩)),.int .u64 9999] cb fun cq db=>
 ∃ T:Int,(cq=.returned (.int .u64 T))∧
 ∃ cc:World,((Instr.storeAt 3 (.pointer ((some ⟨c,0 + 2,none⟩))) (.int .i64 (IntKind.i64.wrap T))).run Tryz.prog db=.ok () cc)∧
 Calls Tryz.prog 84 #[.pointer ((some ⟨d,0,none⟩)),.int .u64 9999] cc fun cr dc=>
 ∃ U:Int,(cr=.returned (.int .u64 U))∧
 ∃ bu:World,((Instr.storeAt 3 (.pointer ((some ⟨c,0 + 3,none⟩))) (.int .i64 (IntKind.i64.wrap U))).run Tryz.prog dc=.ok () bu)∧
 Calls Tryz.prog 84 #[.pointer ((some ⟨d,0,none⟩)),.int .u64 9999] bu fun cs cz=>
 ∃ X:Int,(cs=.returned (.int .u64 X))∧
 ∃ bv:World,((Instr.storeAt 3 (.pointer ((some ⟨c,0 + 4,none⟩))) (.int .i64 (IntKind.i64.wrap X))).run Tryz.prog cz=.ok () bv)∧
 Calls Tryz.prog 84 #[.pointer ((some ⟨d,0,none⟩)),.int .u64 1099511627776] bv fun ct c0=>
 ∃ Y:Int,(ct=.returned (.int .u64 Y))∧
 ∃ bw:World,((Instr.storeAt 3 (.pointer ((some ⟨c,0 + 5,none⟩))) (.int .i64 (IntKind.i64.wrap Y))).run Tryz.prog c0=.ok () bw)∧
 Calls Tryz.prog 84 #[.pointer ((some ⟨d,0,none⟩)),.int .u64 18446744073709551615] bw fun cu c1=>
 ∃ Z:Int,(cu=.returned (.int .u64 Z))∧
 Calls Tryz.prog 93 #[.int .u64 Z] c1 fun cv c2=>
 ∃ aa:Nat,(cv=.returned (.float .f64 aa))∧
 ∃ bx:World,((Instr.storeAt 33 (.pointer ((some ⟨c,0 + 6,none⟩))) (.float .f64 aa)).run Tryz.prog c2=.ok () bx)∧
 Calls Tryz.prog 85 #[.pointer ((some ⟨d,0,none⟩)),.int .i64 16] bx fun cw bz=>
 ∃ n:Sl,(cw=.returned (.slice n.a n.len n.cap))∧
 ∃ a3:ByteArray,(∀ b,(fun b=>b=bz) b→((convert 42 9 (.slice n.a n.len n.cap))).run Tryz.prog b=.ok (.string a3) b)∧
 ∃ b0:World,((Instr.storeAt 9 (.pointer ((some ⟨c,0 + 7,none⟩))) (.string a3)).run Tryz.prog bz=.ok () b0)∧
 Calls Tryz.prog 84 #[.pointer ((some ⟨d,0,none⟩)),.int .u64 9999] b0 fun cx c4=>
 ∃ a4:Int,(cx=.returned (.int .u64 a4))∧
 ∃ b1:World,((Instr.storeAt 3 (.pointer ((some ⟨c,0 + 8,none⟩))) (.int .i64 (IntKind.i64.wrap a4))).run Tryz.prog c4=.ok () b1)∧
 Calls Tryz.prog 84 #[.pointer ((some ⟨d,0,none⟩)),.int .u64 16] b1 fun cj c5=>
 ∃ a5:Int,(cj=.returned (.int .u64 a5))∧
 ∃ (E:Int→World→Prop) (cd:Int→World→Nat),(E 0 c5)∧∀ (dd:Env) (x:Int) (A:World),E x A→
 Br (decide (x<a5))
 (Drw A fun G c6=>
 ∃ o:Sl,(At G ⟨c,0 + 8 + 1,none⟩ [.slice o.a o.len o.cap])∧
 Calls Tryz.prog 84 #[.pointer ((some ⟨d,0,none⟩)),.int .u64 9999] c6 fun ck b2=>
 ∃ a6:Int,(ck=.returned (.int .u64 a6))∧
 (G b2)∧
 New (.cells #[.int .i64 (IntKind.i64.wrap a6)] 3 (0,0)) (fun cf b3=>
 (G b3)∧
 ∃ b4:World,∃ p:Sl,((Builtin.append_ #[28,28] 28 #[.slice o.a o.len o.cap,.slice ((some ⟨cf,0,none⟩)) 1 1]).run Tryz.prog b3=.ok (.slice p.a p.len p.cap) b4)∧
 ∃ I:World,((Instr.storeAt 28 (.pointer ((some ⟨c,0 + 8 + 1,none⟩))) (.slice p.a p.len p.cap)).run Tryz.prog b4=.ok () I)∧
 (E (IntKind.u64.wrap (x + 1)) I)∧cd (IntKind.u64.wrap (x + 1)) I<cd x A) b2)
 (Calls Tryz.prog 84 #[.pointer ((some ⟨d,0,none⟩)),.int .u64 16] A fun cl c7=>
 ∃ a7:Int,(cl=.returned (.int .u64 a7))∧
 ∃ (F:Int→World→Prop) (ce:Int→World→Nat),(F 0 c7)∧∀ (de:Env) (y:Int) (C:World),F y C→
 Br (decide (y<a7))
 (Drw C fun z c9=>
 ∃ q:Sl,(At z ⟨c,0 + 10,none⟩ [.slice q.a q.len q.cap])∧
 Calls Tryz.prog 84 #[.pointer ((some ⟨d,0,none⟩)),.int .u64 18446744073709551615] c9 fun cm b5=>
 ∃ a8:Int,(cm=.returned (.int .u64 a8))∧
 (z b5)∧
 Calls Tryz.prog 93 #[.int .u64 a8] b5 fun cn b6=>
 ∃ a9:Nat,(cn=.returned (.float .f64 a9))∧
 (z b6)∧
 New (.cells #[.float .f64 a9] 33 (0,0)) (fun cg b7=>
 (z b7)∧
 ∃ b8:World,∃ r:Sl,((Builtin.append_ #[36,36] 36 #[.slice q.a q.len q.cap,.slice ((some ⟨cg,0,none⟩)) 1 1]).run Tryz.prog b7=.ok (.slice r.a r.len r.cap) b8)∧
 ∃ J:World,((Instr.storeAt 36 (.pointer ((some ⟨c,0 + 10,none⟩))) (.slice r.a r.len r.cap)).run Tryz.prog b8=.ok () J)∧
 (F (IntKind.u64.wrap (y + 1)) J)∧ce (IntKind.u64.wrap (y + 1)) J<ce y C) b6)
 (Calls Tryz.prog 86 #[.pointer ((some ⟨d,0,none⟩))] C fun co b9=>
 ∃ ba:Bool,(co=.returned (.bool ba))∧
 ∃ bb:Int,∃ bc:ByteArray,∃ bd:Int,∃ be:Int,∃ bf:Int,∃ bg:Int,∃ bh:Nat,∃ bi:ByteArray,∃ bj:Int,∃ t:Sl,∃ s:Sl,(At (fun b=>b=b9) ⟨c,0,none⟩ [.int .i64 bb,.string bc,.int .i64 bd,.int .i64 be,.int .i64 bf,.int .i64 bg,.float .f64 bh,.string bi,.int .i64 bj,.slice t.a t.len t.cap,.slice s.a s.len s.cap])∧
 Calls Tryz.prog 62 #[.agg #[.int .i64 bb,.string bc,.int .i64 bd,.int .i64 be,.int .i64 bf,.int .i64 bg,.float .f64 bh,.string bi,.int .i64 bj,.slice t.a t.len t.cap,.slice s.a s.len s.cap]] b9 fun cp D=>
 ∃ bk:Bool,(cp=.returned (.bool bk))∧
 Br (!ba)
 (∃ L:World,((Instr.storeAt 38 (.pointer ((some ⟨e,0,none⟩))) (.agg #[.int .i64 0,.string (ByteArray.mk #[]),.int .i64 0,.int .i64 0,.int .i64 0,.int .i64 0,.float .f64 0,.string (ByteArray.mk #[]),.int .i64 0,.slice none 0 0,.slice none 0 0])).run Tryz.prog D=.ok () L)∧
 ∃ V:Int,∃ ab:ByteArray,∃ al:Int,∃ aw:Int,∃ ay:Int,∃ az:Int,∃ a0:Nat,∃ a1:ByteArray,∃ a2:Int,∃ m:Sl,∃ g:Sl,(At (fun b=>b=L) ⟨e,0,none⟩ [.int .i64 V,.string ab,.int .i64 al,.int .i64 aw,.int .i64 ay,.int .i64 az,.float .f64 a0,.string a1,.int .i64 a2,.slice m.a m.len m.cap,.slice g.a g.len g.cap])∧
 K (.tuple #[.agg #[.int .i64 V,.string ab,.int .i64 al,.int .i64 aw,.int .i64 ay,.int .i64 az,.float .f64 a0,.string a1,.int .i64 a2,.slice m.a m.len m.cap,.slice g.a g.len g.cap],.int .i64 6]) L)
 (Br (!bk)
 (∃ M:World,((Instr.storeAt 38 (.pointer ((some ⟨e,0,none⟩))) (.agg #[.int .i64 0,.string (ByteArray.mk #[]),.int .i64 0,.int .i64 0,.int .i64 0,.int .i64 0,.float .f64 0,.string (ByteArray.mk #[]),.int .i64 0,.slice none 0 0,.slice none 0 0])).run Tryz.prog D=.ok () M)∧
 ∃ ac:Int,∃ ad:ByteArray,∃ ae:Int,∃ af:Int,∃ ag:Int,∃ ah:Int,∃ ai:Nat,∃ aj:ByteArray,∃ ak:Int,∃ i:Sl,∃ j:Sl,(At (fun b=>b=M) ⟨e,0,none⟩ [.int .i64 ac,.string ad,.int .i64 ae,.int .i64 af,.int .i64 ag,.int .i64 ah,.float .f64 ai,.string aj,.int .i64 ak,.slice i.a i.len i.cap,.slice j.a j.len j.cap])∧
 K (.tuple #[.agg #[.int .i64 ac,.string ad,.int .i64 ae,.int .i64 af,.int .i64 ag,.int .i64 ah,.float .f64 ai,.string aj,.int .i64 ak,.slice i.a i.len i.cap,.slice j.a j.len j.cap],.int .i64 6]) M)
 (∃ bl:Int,∃ bm:ByteArray,∃ bn:Int,∃ bo:Int,∃ bp:Int,∃ bq:Int,∃ br:Nat,∃ bs:ByteArray,∃ bt:Int,∃ v:Sl,∃ u:Sl,(At (fun b=>b=D) ⟨c,0,none⟩ [.int .i64 bl,.string bm,.int .i64 bn,.int .i64 bo,.int .i64 bp,.int .i64 bq,.float .f64 br,.string bs,.int .i64 bt,.slice v.a v.len v.cap,.slice u.a u.len u.cap])∧
 ∃ N:World,((Instr.storeAt 38 (.pointer ((some ⟨e,0,none⟩))) (.agg #[.int .i64 bl,.string bm,.int .i64 bn,.int .i64 bo,.int .i64 bp,.int .i64 bq,.float .f64 br,.string bs,.int .i64 bt,.slice v.a v.len v.cap,.slice u.a u.len u.cap])).run Tryz.prog D=.ok () N)∧
 ∃ am:Int,∃ an:ByteArray,∃ ao:Int,∃ ap:Int,∃ aq:Int,∃ ar:Int,∃ au:Nat,∃ av:ByteArray,∃ ax:Int,∃ k:Sl,∃ l:Sl,(At (fun b=>b=N) ⟨e,0,none⟩ [.int .i64 am,.string an,.int .i64 ao,.int .i64 ap,.int .i64 aq,.int .i64 ar,.float .f64 au,.string av,.int .i64 ax,.slice k.a k.len k.cap,.slice l.a l.len l.cap])∧
 K (.tuple #[.agg #[.int .i64 am,.string an,.int .i64 ao,.int .i64 ap,.int .i64 aq,.int .i64 ar,.float .f64 au,.string av,.int .i64 ax,.slice k.a k.len k.cap,.slice l.a l.len l.cap],.int .i64 0]) N))))) ca) cy) w
def sk32:Sk:=(.seq .leaf (.seq .leaf (.seq .leaf (.seq .leaf (.seq .leaf (.seq .leaf (.seq .leaf (.seq .leaf (.seq .leaf (.seq .leaf (.seq .leaf (.seq (.seq .leaf (.block (.loop [7] [(.int .u64)] [7,52,53,54,55,56,57,58,59,60,61,62,63,64,65,66] .leaf))) (.seq .leaf (.seq (.seq .leaf (.block (.loop [8] [(.int .u64)] [8,69,70,71,72,73,74,75,76,77,78,79,80,81] .leaf))) .leaf))))))))))))))
theorem call32 (b:Sl) (K:Value→World→Prop) (w:World) (h:B32 b K w):Gets Tryz.prog 32 #[.slice b.a b.len b.cap] w K:=cq (sk:=sk32) Tryz.func32 (by kernel_rfl) (by kernel_rfl) (by kernel_rfl) h
def B33 (Q:Int) (T:ByteArray) (U:Int) (V:Int) (X:Int) (Y:Int) (Z:Nat) (aa:ByteArray) (ab:Int) (l:Sl) (k:Sl) (ac:Int) (ad:ByteArray) (ae:Int) (af:Int) (ag:Int) (ah:Int) (ai:Nat) (aj:ByteArray) (ak:Int) (n:Sl) (m:Sl) (K:Value→World→Prop) (w:World):Prop:=
 New (.cells #[.int .i64 Q,.string T,.int .i64 U,.int .i64 V,.int .i64 X,.int .i64 Y,.float .f64 Z,.string aa,.int .i64 ab,.slice l.a l.len l.cap,.slice k.a k.len k.cap] 38 (0,0)) (fun al ap=>
 New (.cells #[.int .i64 ac,.string ad,.int .i64 ae,.int .i64 af,.int .i64 ag,.int .i64 ah,.float .f64 ai,.string aj,.int .i64 ak,.slice n.a n.len n.cap,.slice m.a m.len m.cap] 38 (0,0)) (fun am N=>
 ∃ o:Int,∃ p:ByteArray,∃ q:Int,∃ r:Int,∃ s:Int,∃ t:Int,∃ u:Nat,∃ v:ByteArray,∃ x:Int,∃ d:Sl,∃ c:Sl,(At (fun b=>b=N) ⟨al,0,none⟩ [.int .i64 o,.string p,.int .i64 q,.int .i64 r,.int .i64 s,.int .i64 t,.float .f64 u,.string v,.int .i64 x,.slice d.a d.len d.cap,.slice c.a c.len c.cap])∧
 Calls Tryz.prog 30 #[.agg #[.int .i64 o,.string p,.int .i64 q,.int .i64 r,.int .i64 s,.int .i64 t,.float .f64 u,.string v,.int .i64 x,.slice d.a d.len d.cap,.slice c.a c.len c.cap]] N fun an O=>
 ∃ e:Sl,∃ y:Int,(an=.returned (.tuple #[.slice e.a e.len e.cap,.int .i64 y]))∧
 ∃ z:Int,∃ A:ByteArray,∃ C:Int,∃ D:Int,∃ E:Int,∃ F:Int,∃ G:Nat,∃ H:ByteArray,∃ I:Int,∃ g:Sl,∃ f:Sl,(At (fun b=>b=O) ⟨am,0,none⟩ [.int .i64 z,.string A,.int .i64 C,.int .i64 D,.int .i64 E,.int .i64 F,.float .f64 G,.string H,.int .i64 I,.slice g.a g.len g.cap,.slice f.a f.len f.cap])∧
 Calls Tryz.prog 30 #[.agg #[.int .i64 z,.string A,.int .i64 C,.int .i64 D,.int .i64 E,.int .i64 F,.float .f64 G,.string H,.int .i64 I,.slice g.a g.len g.cap,.slice f.a f.len f.cap]] O fun ao j=>
 ∃ i:Sl,∃ J:Int,(ao=.returned (.tuple #[.slice i.a i.len i.cap,.int .i64 J]))∧
 Br (y==J)
 (∃ L:ByteArray,(∀ b,(fun b=>b=j) b→((convert 42 9 (.slice e.a e.len e.cap))).run Tryz.prog b=.ok (.string L) b)∧
 ∃ M:ByteArray,(∀ b,(fun b=>b=j) b→((convert 42 9 (.slice i.a i.len i.cap))).run Tryz.prog b=.ok (.string M) b)∧
 K (.bool (L.toList==M.toList)) j)
 (K (.bool false) j)) ap) w
theorem call33 (f:Int) (g:ByteArray) (i:Int) (j:Int) (k:Int) (l:Int) (m:Nat) (n:ByteArray) (o:Int) (c:Sl) (b:Sl) (p:Int) (q:ByteArray) (r:Int) (s:Int) (t:Int) (u:Int) (v:Nat) (x:ByteArray) (y:Int) (e:Sl) (d:Sl) (K:Value→World→Prop) (w:World) (h:B33 f g i j k l m n o c b p q r s t u v x y e d K w):Gets Tryz.prog 33 #[.agg #[.int .i64 f,.string g,.int .i64 i,.int .i64 j,.int .i64 k,.int .i64 l,.float .f64 m,.string n,.int .i64 o,.slice c.a c.len c.cap,.slice b.a b.len b.cap],.agg #[.int .i64 p,.string q,.int .i64 r,.int .i64 s,.int .i64 t,.int .i64 u,.float .f64 v,.string x,.int .i64 y,.slice e.a e.len e.cap,.slice d.a d.len d.cap]] w K:=cq (sk:=.leaf) Tryz.func33 (by kernel_rfl) (by kernel_rfl) (by kernel_rfl) h
end Go.Proofs.YtfgbbckfikiomaaGreatDoor
/- Words of 64 bits: the highest bit. No condition. -/
namespace Go.VC
set_option linter.unusedVariables false
theorem and_top {x:Nat} (h:x<18446744073709551616):x &&& 9223372036854775808=if x<9223372036854775808 then 0 else 9223372036854775808:=by
 have e:(9223372036854775808:Nat)=2 ^ 63:=by decide
 apply Nat.eq_of_testBit_eq
 intro i
 rw [Nat.testBit_and]
 by_cases hi:63=i
 ·subst hi
  have h1:x.testBit 63=decide (¬ x<9223372036854775808):=by
   rw [Nat.testBit_eq_decide_div_mod_eq,←e]
   exact decide_eq_decide.2 (by omega)
  have h2:Nat.testBit 9223372036854775808 63=true:=by rw [e,Nat.testBit_two_pow];simp
  rw [h1,h2]
  split
  ·rw [decide_eq_false (by omega)];simp
  ·rw [decide_eq_true (by assumption)];simp [h2]
 ·have h2:Nat.testBit 9223372036854775808 i=false:=by rw [e,Nat.testBit_two_pow];simp [hi]
  rw [h2]
  split<;>simp [h2]
theorem or_top {x:Nat} (h:x<9223372036854775808):x|||9223372036854775808=x + 9223372036854775808:=by
 have:=Nat.two_pow_add_eq_or_of_lt (i:=63) (b:=x) (by simpa using h) 1
 rw [Nat.or_comm]
 simp only [Nat.mul_one] at this
 have e:(2:Nat) ^ 63=9223372036854775808:=by decide
 rw [e] at this
 omega
theorem not_u64 {x:Nat} (h:x<18446744073709551616):IntKind.u64.wrap ((BitVec.ofInt IntKind.u64.bits (if IntKind.u64.signed=true then -1 else IntKind.u64.max) ^^^ BitVec.ofInt IntKind.u64.bits (x:Int)).toNat:Int)=((18446744073709551615 - x:Nat):Int):=by
 have e1:BitVec.ofInt IntKind.u64.bits (if IntKind.u64.signed=true then -1 else IntKind.u64.max)=BitVec.allOnes 64:=by
  show BitVec.ofInt 64 18446744073709551615=BitVec.allOnes 64
  decide
 have e2:(BitVec.ofInt 64 (x:Int)).toNat=x:=bv_toNat 64 x (by simpa using h)
 rw [e1]
 show IntKind.u64.wrap (((BitVec.allOnes 64 ^^^ BitVec.ofInt 64 (x:Int)).toNat:Nat):Int)=_
 rw [BitVec.xor_comm,BitVec.xor_allOnes,BitVec.toNat_not,e2]
 have e3:(2:Nat) ^ 64 - 1 - x=18446744073709551615 - x:=by
  have:(2:Nat) ^ 64=18446744073709551616:=by decide
  rw [this]
 rw [e3]
 exact wrapU64 (by omega) (by omega)
theorem andnot_top {k:Nat} (h:k<18446744073709551616) (h1:9223372036854775808≤k):bitI .andNot .u64 (k:Int) 9223372036854775808=((k - 9223372036854775808:Nat):Int):=by
 have e1:(BitVec.ofInt 64 (k:Int)).toNat=k:=bv_toNat 64 k (by simpa using h)
 have e2:(BitVec.ofInt 64 9223372036854775808).toNat=9223372036854775808:=by decide
 have e3:(BitVec.ofInt 64 (k:Int) &&& ~~~ BitVec.ofInt 64 9223372036854775808).toNat=k - 9223372036854775808:=by
  rw [BitVec.toNat_and,BitVec.toNat_not,e1,e2]
  have e4:(2:Nat) ^ 64 - 1 - 9223372036854775808=2 ^ 63 - 1:=by decide
  rw [e4,Nat.and_two_pow_sub_one_eq_mod]
  have e5:(2:Nat) ^ 63=9223372036854775808:=by decide
  rw [e5]
  omega
 show IntKind.u64.wrap (((BitVec.ofInt 64 (k:Int) &&& ~~~ BitVec.ofInt 64 9223372036854775808).toNat:Nat):Int)=_
 rw [e3]
 exact wrapU64 (by omega) (by omega)
end Go.VC
/- Packages fare, cmp: floats in order, their places. Condition: words. -/
namespace Go.Proofs.YtfgbbckfikiomaaGreatDoor
set_option linter.unusedVariables false
open Go Go.VC Ieee
variable {R:Cx} {Hs Rest:List HP} {w:World}
theorem fb_name : (Tryz.f149.name == "runtime.NumGoroutine") = false := by kernel_rfl
theorem fb_body:Tryz.f149.body.isNone=true:=by kernel_rfl
theorem fb_next:Extern.findNext Tryz.f149=none:=by kernel_rfl
theorem fb_find:Extern.find Tryz.f149=some Extern.MathFloatBits.float64bits:=by kernel_rfl
theorem ff_name : (Tryz.f151.name == "runtime.NumGoroutine") = false := by kernel_rfl
theorem ff_body:Tryz.f151.body.isNone=true:=by kernel_rfl
theorem ff_next:Extern.findNext Tryz.f151=none:=by kernel_rfl
theorem ff_find:Extern.find Tryz.f151=some Extern.MathFloatBits.float64frombits:=by kernel_rfl
theorem bits_run (x:Nat) (w:World):(callFunc 149 #[.float .f64 x]).run Tryz.prog w=.ok (.value (.int .u64 x)) w:=by
 rw [run_callFunc_extern Tryz.func149 fb_name fb_body fb_next fb_find]
 rfl
theorem from_run (n:Nat) (w:World):(callFunc 151 #[.int .u64 n]).run Tryz.prog w=.ok (.value (.float .f64 n)) w:=by
 rw [run_callFunc_extern Tryz.func151 ff_name ff_body ff_next ff_find]
 rfl
theorem key_spec {x:Nat} (hx:x<18446744073709551616) (hw:Sat R Hs w):Gets Tryz.prog 127 #[.float .f64 x] w fun v w'=>v=.int .u64 (keyF x:Nat)∧Sat R Hs w':=by
 apply call127
 refine ⟨_,w,bits_run x w,_,rfl,?_⟩
 have e1:bitI BinOp.and IntKind.u64 (x:Int) 9223372036854775808=((x &&& 9223372036854775808:Nat):Int):=andU64 (y:=9223372036854775808) hx (by decide)
 have e2:bitI BinOp.or IntKind.u64 (x:Int) 9223372036854775808=((x|||9223372036854775808:Nat):Int):=orU64 (y:=9223372036854775808) hx (by decide)
 rw [e1,e2,and_top hx]
 refine Br.mk (fun h=>⟨?_,hw⟩) (fun h=>⟨?_,hw⟩)
 ·rw [not_u64 hx]
  unfold keyF
  split at h
  ·simp at h
  ·rename_i h1;rw [if_neg h1]
 ·split at h
  ·rename_i h1
   rw [or_top h1]
   unfold keyF
   rw [if_pos h1]
  ·simp at h
theorem of_spec {k:Nat} (hk:k<18446744073709551616) (hw:Sat R Hs w):Gets Tryz.prog 150 #[.int .u64 k] w fun v w'=>v=.float .f64 (ofF k)∧Sat R Hs w':=by
 apply call150
 have e1:bitI BinOp.and IntKind.u64 (k:Int) 9223372036854775808=((k &&& 9223372036854775808:Nat):Int):=andU64 (y:=9223372036854775808) hk (by decide)
 unfold B150
 rw [e1,and_top hk]
 refine Br.mk (fun h=>?_) (fun h=>?_)
 ·rw [not_u64 hk]
  refine ⟨_,w,from_run _ w,_,rfl,?_,hw⟩
  unfold ofF
  split at h
  ·rename_i h1;rw [if_neg (by omega)]
  ·simp at h
 ·have h1:¬ k<9223372036854775808:=by
   intro h1
   rw [if_pos h1] at h
   simp at h
  have e2:=andnot_top hk (by omega)
  rw [e2]
  refine ⟨_,w,from_run _ w,_,rfl,?_,hw⟩
  unfold ofF
  rw [if_pos (by omega)]
theorem rkey_spec {x:Nat} (hx:x<18446744073709551616) (hw:Sat R Hs w):Gets Tryz.prog 89 #[.float .f64 x] w fun v w'=>v=.int .u64 (keyF x:Nat)∧Sat R Hs w':=by
 apply call89
 refine ⟨_,w,bits_run x w,_,rfl,?_⟩
 unfold keyF
 with_reducible refine Br.d (fun h=>?_) (fun h=>?_)
 ·refine ⟨?_,hw⟩
  have e1:IntKind.u64.wrap ((x:Int) + 9223372036854775808)=((x + 9223372036854775808:Nat):Int):=by rw [wrapU64 (by omega) (by omega)];omega
  have h1:x<9223372036854775808:=by omega
  rw [if_pos h1]
  exact congrArg (Value.int .u64) e1
 ·refine ⟨?_,hw⟩
  have e1:IntKind.u64.wrap (18446744073709551615 - (x:Int))=((18446744073709551615 - x:Nat):Int):=by rw [wrapU64 (by omega) (by omega)];omega
  have h1:¬ x<9223372036854775808:=by omega
  rw [if_neg h1]
  exact congrArg (Value.int .u64) e1
theorem rof_spec {k:Nat} (hk:k<18446744073709551616) (hw:Sat R Hs w):Gets Tryz.prog 93 #[.int .u64 k] w fun v w'=>v=.float .f64 (ofF k)∧Sat R Hs w':=by
 apply call93
 unfold B93 ofF
 with_reducible refine Br.d (fun h=>?_) (fun h=>?_)
 ·rw [wrapU64 (by omega) (by omega),show (k:Int) - 9223372036854775808=((k - 9223372036854775808:Nat):Int) by omega]
  exact ⟨_,w,from_run _ w,_,rfl,by rw [if_pos (by omega)],hw⟩
 ·rw [wrapU64 (by omega) (by omega),show 18446744073709551615 - (k:Int)=((18446744073709551615 - k:Nat):Int) by omega]
  exact ⟨_,w,from_run _ w,_,rfl,by rw [if_neg (by omega)],hw⟩
end Go.Proofs.YtfgbbckfikiomaaGreatDoor
/- Package booking: a writer. Condition: bounds on lengths. -/
namespace Go.Proofs.YtfgbbckfikiomaaGreatDoor
set_option linter.unusedVariables false
open Go Go.VC
variable {R:Cx} {Hs Rest:List HP} {w:World}
abbrev wrp (p:Nat) (s:Sl):HP:=pts p (.cells [.slice s.a s.len s.cap].toArray 93 (0,0))
def WrB (p:Nat) (bs:List Int):HP:=exs fun s:Sl=>Star [wrp p s,Own s 5 (b8 bs)]
theorem Sat.wrB {p:Nat} {bs:List Int}:Sat R (WrB p bs::Hs) w↔∃ s:Sl,Sat R (wrp p s::Own s 5 (b8 bs)::Hs) w:=by
 unfold WrB
 rw [Sat.exs]
 exact ⟨fun ⟨s,h⟩=>⟨s,Sat.star.1 h⟩,fun ⟨s,h⟩=>⟨s,Sat.star.2 h⟩⟩
theorem nn_bd {n:Int} (h:n<9223372036854775808):0≤nn n∧nn n<9223372036854775808:=by unfold nn;omega
theorem nn_if (n:Int):(if 0>n then 0 else n)=nn n:=by unfold nn;split<;>omega
theorem wnums_spec {p:Nat} {s:Sl} {xs bs:List Int} (hxs:∀ x∈xs,x<9223372036854775808) (hl:bs.length + 9 * xs.length≤1099511627776) (hs:RoI R s xs) (hw:Sat R (WrB p bs::Hs) w):
  Gets Tryz.prog 49 #[.pointer (some ⟨p,0,none⟩),.slice s.a s.len s.cap] w fun v w'=>v=.tuple #[]∧Sat R (WrB p (bs++numsB (xs.map nn))::Hs) w':=by
 have hlen:=hs.len
 apply call49
 refine ⟨fun i w=>∃ k:Nat,i=k∧k≤xs.length∧Sat R (WrB p (bs++numsB ((xs.take k).map nn))::Hs) w,fun i _=>xs.length - i.toNat,⟨0,rfl,by omega,by simpa [numsB] using hw⟩,?_⟩
 clear hw
 rintro _ _ w ⟨k,rfl,hk,hw⟩
 refine Br.d (fun h=>?_) (fun h=>?_)
 ·have hkx:k<xs.length:=by omega
  have hx:=nn_bd (hxs xs[k] (List.getElem_mem _))
  have hxt:∀ x∈(xs.take k).map nn,0≤x∧x<18446744073709551616:=fun x hx=>by
   obtain ⟨y,hy,rfl⟩:=List.mem_map.1 hx
   have:=nn_bd (hxs y (List.mem_of_mem_take hy));omega
  have hnl:=numsB_len hxt
  rw [List.length_map,List.length_take] at hnl
  refine Ro.ix hs (eqS hw) k rfl hkx ?_
  obtain ⟨s0,hw⟩:=Sat.wrB.1 hw
  refine drw_ruleT hw fun w hw=>?_
  refine NilP.mk rfl ⟨s0,At.own selfS (by exact ⟨rfl,trivial⟩),?_⟩
  rw [nn_if]
  obtain ⟨n,hn⟩:=Int.eq_ofNat_of_zero_le hx.1
  rw [hn,wrapU64 (by omega) (by omega)]
  refine (number_spec (by omega) hw).use ?_
  rintro _ w ⟨t,rfl,hw⟩
  refine ⟨t,rfl,hw.absorb,?_⟩
  have hw:Sat R (Own s0 5 (b8 (bs++numsB ((xs.take k).map nn)))::Own t 5 (b8 (numB n))::wrp p s0::VC.tru::Hs) w:=hw.arr
  have hnb:=numB_len (n:=n) (by omega)
  refine appendOO elB8 (s:=s0) (n:=1099511627790) Tryz.underlying42 hw (by rw [List.length_append];omega) (by omega) (by omega) fun s2 w hw=>?_
  have hw:Sat R (wrp p s0::Own s2 5 (b8 (bs++numsB ((xs.take k).map nn)++numB n))::Hs) w:=by
   have h:Sat R (Own t 5 (b8 (numB n))::VC.tru::wrp p s0::Own s2 5 (b8 (bs++numsB ((xs.take k).map nn)++numB n))::Hs) w:=hw.arr
   exact h.drop.drop
  refine NilP.mk rfl ?_
  refine store_rule hw (by kernel_rfl) rfl (by simp [Value.cells]) fun w hw=>?_
  have hw:=hw.re (wrp p s2)
  rw [wrap64 (by omega) (by omega)]
  refine ⟨⟨k + 1,by omega,by omega,Sat.wrB.2 ⟨s2,?_⟩⟩,by dsimp only;omega⟩
  have e:(xs.take (k + 1)).map nn=(xs.take k).map nn++[nn xs[k]]:=by rw [List.take_add_one,List.getElem?_eq_getElem hkx,List.map_append];rfl
  rw [e,numsB_app,show numsB [nn xs[k]]=numB (nn xs[k]).toNat by simp [numsB],hn,Int.toNat_natCast,←List.append_assoc]
  exact hw
 ·have:k=xs.length:=by omega
  subst this
  rw [List.take_length] at hw
  exact ⟨rfl,hw⟩
theorem wtext_spec {p:Nat} {s:Sl} {d bs:List Int} (hl:bs.length + d.length≤1099511627776) (hd:d.length≤1099511627776) (hs:Ro R s (b8 d)) (hw:Sat R (WrB p bs::Hs) w):
  Gets Tryz.prog 52 #[.pointer (some ⟨p,0,none⟩),.slice s.a s.len s.cap] w fun v w'=>v=.tuple #[]∧Sat R (WrB p (bs++textB d)::Hs) w':=by
 apply call52
 obtain ⟨s0,hw⟩:=Sat.wrB.1 hw
 refine drw_ruleT hw fun w hw=>?_
 refine NilP.mk rfl ⟨s0,At.own selfS (by exact ⟨rfl,trivial⟩),?_⟩
 refine (ftext_spec hs hd hw).use ?_
 rintro _ w ⟨t,rfl,hw⟩
 refine ⟨t,rfl,hw.absorb,?_⟩
 have hw:Sat R (Own s0 5 (b8 bs)::Own t 5 (b8 (textB d))::wrp p s0::VC.tru::Hs) w:=hw.arr
 have hnb:=numB_len (n:=d.length) (by omega)
 have htl:(textB d).length≤d.length + 9:=by unfold textB;rw [List.length_append];omega
 refine appendOO elB8 (s:=s0) (n:=1099511627800) Tryz.underlying42 hw (by omega) (by omega) (by omega) fun s2 w hw=>?_
 have hw:Sat R (wrp p s0::Own s2 5 (b8 (bs++textB d))::Hs) w:=by
  have h:Sat R (Own t 5 (b8 (textB d))::VC.tru::wrp p s0::Own s2 5 (b8 (bs++textB d))::Hs) w:=hw.arr
  exact h.drop.drop
 refine NilP.mk rfl ?_
 refine store_rule hw (by kernel_rfl) rfl (by simp [Value.cells]) fun w hw=>?_
 have hw:=hw.re (wrp p s2)
 exact ⟨rfl,Sat.wrB.2 ⟨s2,hw⟩⟩
theorem wfloat_spec {p x:Nat} {bs:List Int} (hl:bs.length≤1099511627776) (hx:x<18446744073709551616) (hw:Sat R (WrB p bs::Hs) w):
  Gets Tryz.prog 87 #[.pointer (some ⟨p,0,none⟩),.float .f64 x] w fun v w'=>v=.tuple #[]∧Sat R (WrB p (bs++fltB x)::Hs) w':=by
 apply call87
 obtain ⟨s0,hw⟩:=Sat.wrB.1 hw
 refine drw_ruleT hw fun w hw=>?_
 refine NilP.mk rfl ⟨s0,At.own selfS (by exact ⟨rfl,trivial⟩),?_⟩
 refine (key_spec hx hw).use ?_
 rintro _ w ⟨rfl,hw⟩
 refine ⟨_,rfl,hw,?_⟩
 refine (number_spec (key_lt hx) hw).use ?_
 rintro _ w ⟨t,rfl,hw⟩
 refine ⟨t,rfl,hw.absorb,?_⟩
 have hw:Sat R (Own s0 5 (b8 bs)::Own t 5 (b8 (numB (keyF x)))::wrp p s0::VC.tru::Hs) w:=hw.arr
 have hnb:(numB (keyF x)).length≤9:=fltB_len hx
 unfold fltB
 refine appendOO elB8 (s:=s0) (n:=1099511627800) Tryz.underlying42 hw (by omega) (by omega) (by omega) fun s2 w hw=>?_
 have hw:Sat R (wrp p s0::Own s2 5 (b8 (bs++numB (keyF x)))::Hs) w:=by
  have h:Sat R (Own t 5 (b8 (numB (keyF x)))::VC.tru::wrp p s0::Own s2 5 (b8 (bs++numB (keyF x)))::Hs) w:=hw.arr
  exact h.drop.drop
 refine NilP.mk rfl ?_
 refine store_rule hw (by kernel_rfl) rfl (by simp [Value.cells]) fun w hw=>?_
 have hw:=hw.re (wrp p s2)
 exact ⟨rfl,Sat.wrB.2 ⟨s2,hw⟩⟩
end Go.Proofs.YtfgbbckfikiomaaGreatDoor
/- Package booking: whether a command may be. Condition: bounds on lengths. -/
namespace Go.Proofs.YtfgbbckfikiomaaGreatDoor
set_option linter.unusedVariables false
open Go Go.VC
open Classical
variable {R:Cx} {Hs Rest:List HP} {w:World}
abbrev cmV (c:Cm) (sg sp:Sl):List Value:=[.int .i64 c.kind,.string c.pnr,.int .i64 c.flt,.int .i64 c.cls,.int .i64 c.many,.int .i64 c.time,.float .f64 c.sc,.string c.lab,.int .i64 c.rows,.slice sg.a sg.len sg.cap,.slice sp.a sp.len sp.cap]
abbrev cmC (b:Nat) (c:Cm) (sg sp:Sl):HP:=pts b (.cells (cmV c sg sp).toArray 38 (0,0))
theorem right_iff {c:Cm}:RightC c↔(∀ n∈[c.flt,c.cls,c.many,c.rows]++c.grps,numOk n)∧(c.pnr.size≤16∧c.lab.size≤16)∧(c.grps.length≤16∧c.parts.length≤16)∧1≤c.kind∧c.kind≤9∧0≤c.time∧c.time≤1099511627776:=by
 constructor
 ·intro h
  refine ⟨fun n hn=>?_,⟨h.pnr,h.lab⟩,⟨h.gl,h.pl⟩,h.kind.1,h.kind.2,h.time.1,h.time.2⟩
  simp only [List.cons_append,List.nil_append,List.mem_cons] at hn
  rcases hn with rfl|rfl|rfl|rfl|hn
  ·exact h.flt
  ·exact h.cls
  ·exact h.many
  ·exact h.rows
  ·exact h.grps n hn
 ·rintro ⟨h1,⟨h2,h3⟩,⟨h4,h5⟩,h6,h7,h8,h9⟩
  exact ⟨h1 _ (by simp),h1 _ (by simp),h1 _ (by simp),h1 _ (by simp),fun n hn=>h1 n (by simp [hn]),h2,h3,h4,h5,⟨h6,h7⟩,h8,h9⟩
theorem bodd_spec {n:Int}:Gets Tryz.prog 108 #[.int .i64 n] w fun v w'=>v=.bool (decide (n<0∨n>9999))∧w'=w:=by
 apply call108
 refine Br.d (fun h=>⟨by rw [decide_eq_true (by omega)],rfl⟩) (fun h=>⟨?_,rfl⟩)
 congr 1
 exact decide_eq_decide.2 (by omega)
set_option maxHeartbeats 400000 in
theorem bright_spec {c:Cm} {sg sp:Sl} (hg:RoI R sg c.grps) (hgl:c.grps.length≤17592186043904) (hp:sp.len=c.parts.length) (hw:Sat R Hs w):
  Gets Tryz.prog 41 #[.agg #[.int .i64 c.kind,.string c.pnr,.int .i64 c.flt,.int .i64 c.cls,.int .i64 c.many,.int .i64 c.time,.float .f64 c.sc,.string c.lab,.int .i64 c.rows,.slice sg.a sg.len sg.cap,.slice sp.a sp.len sp.cap]] w fun v w'=>v=.bool (decide (RightC c))∧Sat R Hs w':=by
 have hglen:=hg.len
 apply call41
 refine new_rule hw fun b w hw=>?_
 have hw:Sat R (cmC b c sg sp::Hs) w:=hw
 repeat (first|refine NilP.mk rfl ?_|refine ⟨_,At.own selfS (by exact ⟨rfl,trivial⟩),?_⟩|refine ⟨_,At.own (eqS hw) (by exact ⟨rfl,trivial⟩),?_⟩|refine ⟨_,(by rw [add_off];exact At.own selfS (by exact ⟨rfl,trivial⟩)),?_⟩|refine ⟨_,(by rw [add_off];exact At.own (eqS hw) (by exact ⟨rfl,trivial⟩)),?_⟩)
 refine new_rule hw fun b2 w hw=>?_
 have hw:Sat R (Own ⟨some ⟨b2,0,none⟩,4,4⟩ 3 (intsI [c.flt,c.cls,c.many,c.rows])::cmC b c sg sp::Hs) w:=own_lit hw
 refine ⟨sg,At.own (eqS hw) (by exact ⟨rfl,trivial⟩),?_⟩
 refine appendRI (n:=17592186044416) (s:=⟨some ⟨b2,0,none⟩,4,4⟩) (ty:=28) elI8 Tryz.underlying28 hw hg (by simp;omega) (by omega) (by omega) fun t w hw=>?_
 obtain ⟨L,hL⟩:∃ L,L=[c.flt,c.cls,c.many,c.rows]++c.grps:=⟨_,rfl⟩
 have hLl:L.length=4 + c.grps.length:=by rw [hL];simp;omega
 rw [←hL] at hw
 have htl:t.len=L.length:=by have:=Own.len hw;simpa using this
 refine ⟨fun i w=>∃ k:Nat,i=k∧k≤L.length∧(∀ n∈L.take k,numOk n)∧Sat R (Own t 3 (intsI L)::cmC b c sg sp::Hs) w,fun i _=>L.length - i.toNat,⟨0,rfl,by omega,by simp,hw⟩,?_⟩
 clear hw
 rintro _ _ w ⟨k,rfl,hk,hok,hw⟩
 have no:¬ RightC c→∀ {w},Sat R (Own t 3 (intsI L)::cmC b c sg sp::Hs) w→(Value.bool false=.bool (decide (RightC c))∧Sat R Hs w):=fun h w hw=>⟨by rw [decide_eq_false h],hw.drop.drop⟩
 refine Br.d (fun h=>?_) (fun h=>?_)
 ·have hkx:k<L.length:=by omega
  refine Own.ix hw (eqS hw) k rfl hkx ?_
  refine bodd_spec.use ?_
  rintro _ w2 ⟨rfl,rfl⟩
  refine ⟨_,rfl,Br.mk (fun h2=>no (fun hr=>?_) hw) (fun h2=>?_)⟩
  ·have h3:=(right_iff.1 hr).1 L[k] (by rw [←hL];exact List.getElem_mem hkx)
   have h4:=of_decide_eq_true h2
   unfold numOk at h3
   omega
  ·rw [wrap64 (by omega) (by omega)]
   refine ⟨⟨k + 1,by omega,by omega,fun n hn=>?_,hw⟩,by dsimp only;omega⟩
   rw [List.take_add_one,List.getElem?_eq_getElem hkx] at hn
   rcases List.mem_append.1 hn with hn|hn
   ·exact hok n hn
   ·rw [show n=L[k] by simpa using hn]
    have h4:=of_decide_eq_false h2
    unfold numOk
    omega
 ·have hall:∀ n∈L,numOk n:=by rw [List.take_of_length_le (by omega)] at hok;exact hok
  refine ⟨fun t6 w=>t6=decide (c.pnr.size≤16∧c.lab.size≤16)∧Sat R (Own t 3 (intsI L)::cmC b c sg sp::Hs) w,⟨c.pnr,At.own (eqS hw) (by exact ⟨rfl,trivial⟩),Br.d (fun h=>?_) (fun h=>?_)⟩,?_⟩
  ·refine ⟨c.lab,At.own (eqS hw) (by exact ⟨rfl,trivial⟩),?_,hw⟩
   exact decide_eq_decide.2 (by omega)
  ·exact ⟨by rw [decide_eq_false (by omega)],hw⟩
  clear hw
  rintro _ _ w ⟨rfl,hw⟩
  refine ⟨fun t7 w=>t7=decide (c.grps.length≤16∧c.parts.length≤16)∧Sat R (Own t 3 (intsI L)::cmC b c sg sp::Hs) w,⟨sg,At.own (eqS hw) (by exact ⟨rfl,trivial⟩),Br.d (fun h=>?_) (fun h=>?_)⟩,?_⟩
  ·refine ⟨sp,At.own (eqS hw) (by exact ⟨rfl,trivial⟩),?_,hw⟩
   exact decide_eq_decide.2 (by omega)
  ·exact ⟨by rw [decide_eq_false (by omega)],hw⟩
  clear hw
  rintro _ _ w ⟨rfl,hw⟩
  have no2:¬ RightC c→(Value.bool false=.bool (decide (RightC c))∧Sat R Hs w):=fun h=>no h hw
  refine Br.d (fun h1=>?_) (fun h1=>no2 fun hr=>h1 (right_iff.1 hr).2.1)
  refine Br.d (fun h2=>?_) (fun h2=>no2 fun hr=>h2 (right_iff.1 hr).2.2.1)
  refine ⟨c.kind,At.own (eqS hw) (by exact ⟨rfl,trivial⟩),Br.d (fun h3=>?_) (fun h3=>no2 fun hr=>h3 (right_iff.1 hr).2.2.2.1)⟩
  refine ⟨c.kind,At.own (eqS hw) (by exact ⟨rfl,trivial⟩),Br.d (fun h4=>?_) (fun h4=>no2 fun hr=>h4 (right_iff.1 hr).2.2.2.2.1)⟩
  refine ⟨c.time,At.own (eqS hw) (by exact ⟨rfl,trivial⟩),Br.d (fun h5=>?_) (fun h5=>no2 fun hr=>h5 (right_iff.1 hr).2.2.2.2.2.1)⟩
  refine ⟨c.time,At.own (eqS hw) (by exact ⟨rfl,trivial⟩),?_,hw.drop.drop⟩
  congr 1
  refine decide_eq_decide.2 ?_
  rw [right_iff,←hL]
  exact ⟨fun h6=>⟨hall,h1,h2,h3,h4,h5,h6⟩,fun h6=>h6.2.2.2.2.2.2⟩
end Go.Proofs.YtfgbbckfikiomaaGreatDoor
/- Package booking: a writer's steps, as Encode and Answer take them. Condition: bounds on lengths. -/
namespace Go.Proofs.YtfgbbckfikiomaaGreatDoor
set_option linter.unusedVariables false
open Go Go.VC
variable {R:Cx} {Hs Rest:List HP} {w:World}
theorem wlit_spec {p b n:Nat} {xs bs:List Int} (hn:n=xs.length) (hxs:∀ x∈xs,x<9223372036854775808) (hl:bs.length + 9 * xs.length≤1099511627776) (hw:Sat R (pts b (.cells (intsI xs).toArray 3 (0,0))::WrB p bs::Hs) w):
  Gets Tryz.prog 49 #[.pointer (some ⟨p,0,none⟩),.slice (some ⟨b,0,none⟩) n n] w fun v w'=>v=.tuple #[]∧Sat R (WrB p (bs++numsB (xs.map nn))::Hs) w':=by
 have hw:Sat R (Own ⟨some ⟨b,0,none⟩,n,n⟩ 3 (intsI xs)::WrB p bs::Hs) w:=own_lit hw (by rw [List.length_map];exact hn)
 obtain ⟨R',hr,_,hw,back⟩:=Own.lendI hw (by omega)
 refine (wnums_spec hxs hl hr hw).use ?_
 rintro _ w ⟨rfl,hw⟩
 exact ⟨_,rfl,rfl,(back hw).drop⟩
theorem wstr_rule {p:Nat} {s:ByteArray} {bs:List Int} {K:World→Prop} (hl:bs.length + s.size≤1099511627776) (hw:Sat R (WrB p bs::Hs) w) (k:∀ w',Sat R (WrB p (bs++strB s)::Hs) w'→K w'):
  ∃ w_1:World,∃ t:Sl,((convert 9 42 (.string s)).run Tryz.prog w=.ok (.slice t.a t.len t.cap) w_1)∧
   Calls Tryz.prog 52 #[.pointer (some ⟨p,0,none⟩),.slice t.a t.len t.cap] w_1 fun e w_2=>(e=.returned (.tuple #[]))∧K w_2:=by
 refine convB_rule Tryz.underlying9 Tryz.underlying42 Tryz.underlying5 hw fun t w hw=>?_
 have hsz:=bytesL_len s
 obtain ⟨R',hr,_,hw,back⟩:=Own.lend hw (by rw [List.length_map];omega)
 refine (wtext_spec (by omega) (by omega) hr hw).use ?_
 rintro _ w ⟨rfl,hw⟩
 exact ⟨rfl,k _ (back hw).drop⟩
end Go.Proofs.YtfgbbckfikiomaaGreatDoor
/- Package booking: Encode. Condition: bounds on lengths; words. -/
namespace Go.Proofs.YtfgbbckfikiomaaGreatDoor
set_option linter.unusedVariables false
open Go Go.VC
open Classical
variable {R:Cx} {Hs Rest:List HP} {w:World}
theorem strB_len {s:ByteArray} (h:s.size≤100000):(strB s).length≤s.size + 9:=by
 have:=textB_len (d:=bytesL s) (by rw [bytesL_len];omega)
 rw [bytesL_len] at this
 exact this
theorem numsB_sp (a:Int) (l:List Int):numsB (a::l)=numsB [a]++numsB l:=numsB_one a l
theorem nn4 {a b c d:Int} (h0:0≤a) (h1:0≤b) (h2:0≤c) (h3:0≤d):numsB ([a,b,c,d].map nn)=numsB [a]++(numsB [b]++(numsB [c]++numsB [d])):=by
 show numsB [nn a,nn b,nn c,nn d]=_
 rw [nn_id h0,nn_id h1,nn_id h2,nn_id h3,numsB_sp a,numsB_sp b,numsB_sp c]
theorem nn1 {a:Int} (h:0≤a):numsB ([a].map nn)=numsB [a]:=by
 show numsB [nn a]=_
 rw [nn_id h]
theorem wlist_spec {p:Nat} {s:Sl} {xs bs:List Int} (hxs:∀ x∈xs,x<9223372036854775808) (hx:xs.length≤100000) (hl:bs.length≤1000000) (hs:RoI R s xs) (hw:Sat R (WrB p bs::Hs) w):
  Gets Tryz.prog 75 #[.pointer (some ⟨p,0,none⟩),.slice s.a s.len s.cap] w fun v w'=>v=.tuple #[]∧Sat R (WrB p (bs++numsB [(xs.length:Int)]++numsB (xs.map nn))::Hs) w':=by
 have hlen:=hs.len
 have l1:=nums1_len (x:=(xs.length:Int)) (by omega)
 apply call75
 refine new_rule hw fun b w hw=>?_
 refine (wlit_spec (xs:=[(s.len:Int)]) rfl (by simp;omega) (by simp only [List.length_cons,List.length_nil];omega) hw).use ?_
 clear hw
 rintro _ w ⟨rfl,hw⟩
 refine ⟨rfl,?_⟩
 rw [nn1 (by omega),show ((s.len:Nat):Int)=(xs.length:Int) by omega] at hw
 refine (wnums_spec hxs (by simp only [List.length_append];omega) hs hw).use ?_
 rintro _ w ⟨rfl,hw⟩
 exact ⟨rfl,rfl,hw⟩
set_option maxHeartbeats 1000000 in
theorem benc_spec {c:Cm} {sg sp:Sl} (hf:FltC c) (hg:RoI R sg c.grps) (hgl:c.grps.length≤17592186043904) (hp:SlR R.m sp (flts c.parts)) (hpl:c.parts.length≤9223372036854775807) (hw:Sat R Hs w):
  Gets Tryz.prog 29 #[.agg #[.int .i64 c.kind,.string c.pnr,.int .i64 c.flt,.int .i64 c.cls,.int .i64 c.many,.int .i64 c.time,.float .f64 c.sc,.string c.lab,.int .i64 c.rows,.slice sg.a sg.len sg.cap,.slice sp.a sp.len sp.cap]] w fun v w'=>
   (¬ RightC c∧v=.tuple #[.slice none 0 0,.int .i64 1]∧Sat R Hs w')∨(RightC c∧∃ t:Sl,v=.tuple #[.slice t.a t.len t.cap,.int .i64 0]∧Sat R (Own t 5 (b8 (cmB c))::Hs) w'):=by
 have hplen:sp.len=c.parts.length:=by have:=hp.len;simpa using this
 apply call29
 refine new_rule hw fun b w hw=>?_
 have hw:Sat R (cmC b c sg sp::Hs) w:=hw
 refine ⟨c.kind,c.pnr,c.flt,c.cls,c.many,c.time,c.sc,c.lab,c.rows,sg,sp,At.own (eqS hw) (by exact ⟨rfl,rfl,rfl,rfl,rfl,rfl,rfl,rfl,rfl,rfl,rfl,trivial⟩),?_⟩
 refine (bright_spec hg hgl hplen hw).use ?_
 clear hw
 rintro _ w ⟨rfl,hw⟩
 refine ⟨_,rfl,Br.nd (fun hr=>.inl ⟨hr,rfl,hw.drop⟩) (fun hr=>?_)⟩
 have r1:=hr.flt
 have r2:=hr.cls
 have r3:=hr.many
 have r4:=hr.rows
 have r5:=hr.kind
 have r6:=hr.time
 have r7:=hr.pnr
 have r8:=hr.lab
 have r9:=hr.gl
 have r10:=hr.pl
 unfold numOk at r1 r2 r3 r4
 have l1:=nums1_len (x:=c.kind) (by omega)
 have l2:=strB_len (s:=c.pnr) (by omega)
 have l3:=nums1_len (x:=c.flt) (by omega)
 have l4:=nums1_len (x:=c.cls) (by omega)
 have l5:=nums1_len (x:=c.many) (by omega)
 have l6:=nums1_len (x:=c.time) (by omega)
 have l7:=fltB_len hf.sc
 have l8:=strB_len (s:=c.lab) (by omega)
 have l9:=nums1_len (x:=c.rows) (by omega)
 have l10:=nums1_len (x:=(c.grps.length:Int)) (by omega)
 have l11:=numsB_len (l:=c.grps) fun y hy=>by have:=hr.grps y hy;unfold numOk at this;omega
 have l12:=nums1_len (x:=(c.parts.length:Int)) (by omega)
 refine new_rule hw fun p w hw=>?_
 have hw:Sat R (WrB p []::cmC b c sg sp::Hs) w:=Sat.wrB.2 ⟨⟨none,0,0⟩,(Own.nil hw).swap⟩
 refine ⟨c.kind,At.own (eqS hw) (by exact ⟨rfl,trivial⟩),?_⟩
 refine new_rule hw fun b15 w hw=>?_
 refine (wlit_spec (xs:=[c.kind]) rfl (by simp;omega) (by simp) hw).use ?_
 clear hw
 rintro _ w ⟨rfl,hw⟩
 refine ⟨rfl,?_⟩
 rw [nn1 (by omega),List.nil_append] at hw
 refine ⟨c.pnr,At.own (eqS hw) (by exact ⟨rfl,trivial⟩),?_⟩
 refine wstr_rule (by omega) hw fun w hw=>?_
 refine ⟨c.flt,At.own (eqS hw) (by exact ⟨rfl,trivial⟩),c.cls,At.own (eqS hw) (by exact ⟨rfl,trivial⟩),c.many,At.own (eqS hw) (by exact ⟨rfl,trivial⟩),c.time,At.own (eqS hw) (by exact ⟨rfl,trivial⟩),?_⟩
 refine new_rule hw fun b31 w hw=>?_
 refine (wlit_spec (xs:=[c.flt,c.cls,c.many,c.time]) rfl (by simp;omega) (by simp only [List.length_append,List.length_cons,List.length_nil];omega) hw).use ?_
 clear hw
 rintro _ w ⟨rfl,hw⟩
 refine ⟨rfl,?_⟩
 rw [nn4 (by omega) (by omega) (by omega) (by omega)] at hw
 refine ⟨c.sc,At.own (eqS hw) (by exact ⟨rfl,trivial⟩),?_⟩
 refine (wfloat_spec (by simp only [List.length_append];omega) hf.sc hw).use ?_
 clear hw
 rintro _ w ⟨rfl,hw⟩
 refine ⟨rfl,?_⟩
 refine ⟨c.lab,At.own (eqS hw) (by exact ⟨rfl,trivial⟩),?_⟩
 refine wstr_rule (by simp only [List.length_append];omega) hw fun w hw=>?_
 refine ⟨c.rows,At.own (eqS hw) (by exact ⟨rfl,trivial⟩),?_⟩
 refine new_rule hw fun b46 w hw=>?_
 refine (wlit_spec (xs:=[c.rows]) rfl (by simp;omega) (by simp only [List.length_append,List.length_cons,List.length_nil];omega) hw).use ?_
 clear hw
 rintro _ w ⟨rfl,hw⟩
 refine ⟨rfl,?_⟩
 rw [nn1 (by omega)] at hw
 refine ⟨sg,At.own (eqS hw) (by exact ⟨rfl,trivial⟩),?_⟩
 refine (wlist_spec (xs:=c.grps) (fun y hy=>by have:=hr.grps y hy;unfold numOk at this;omega) (by omega) (by simp only [List.length_append];omega) hg hw).use ?_
 clear hw
 rintro _ w ⟨rfl,hw⟩
 refine ⟨rfl,?_⟩
 rw [nn_map fun y hy=>(hr.grps y hy).1] at hw
 refine ⟨sp,At.own (eqS hw) (by exact ⟨rfl,trivial⟩),?_⟩
 refine new_rule hw fun b57 w hw=>?_
 refine (wlit_spec (xs:=[(sp.len:Int)]) rfl (by simp;omega) (by simp only [List.length_append,List.length_cons,List.length_nil];omega) hw).use ?_
 clear hw
 rintro _ w ⟨rfl,hw⟩
 refine ⟨rfl,?_⟩
 rw [nn1 (by omega),show ((sp.len:Nat):Int)=(c.parts.length:Int) by omega] at hw
 refine ⟨sp,At.own (eqS hw) (by exact ⟨rfl,trivial⟩),?_⟩
 obtain ⟨B,hBl,hB,hw⟩:∃ B:List Int,B.length≤100000∧B++(c.parts.map fltB).flatten=cmB c∧Sat R (WrB p B::cmC b c sg sp::Hs) w:=
  ⟨_,by simp only [List.length_append];omega,by unfold cmB;simp only [List.append_assoc],hw⟩
 refine ⟨fun i w=>∃ k:Nat,i=k∧k≤c.parts.length∧Sat R (WrB p (B++((c.parts.take k).map fltB).flatten)::cmC b c sg sp::Hs) w,fun i _=>c.parts.length - i.toNat,⟨0,rfl,by omega,by simpa using hw⟩,?_⟩
 clear hw
 rintro _ _ w ⟨k,rfl,hk,hw⟩
 refine Br.d (fun h=>?_) (fun h=>?_)
 ·have hkx:k<c.parts.length:=by omega
  have hfl:=flat_len (l:=c.parts.take k) (code:=fltB) (m:=9) fun x hx=>fltB_len (hf.parts x (List.mem_of_mem_take hx))
  rw [List.length_take] at hfl
  refine Ro.ixF (hp.ro (by rw [List.length_map];omega)) (eqS hw) k rfl hkx ?_
  refine (wfloat_spec (by rw [List.length_append];omega) (hf.parts _ (List.getElem_mem hkx)) hw).use ?_
  clear hw
  rintro _ w ⟨rfl,hw⟩
  refine ⟨rfl,?_⟩
  rw [wrap64 (by omega) (by omega)]
  refine ⟨⟨k + 1,by omega,by omega,?_⟩,by dsimp only;omega⟩
  rw [List.take_add_one,List.getElem?_eq_getElem hkx,List.map_append,List.flatten_append,←List.append_assoc]
  simpa using hw
 ·rw [List.take_of_length_le (l:=c.parts) (by omega),hB] at hw
  obtain ⟨s,hw⟩:=Sat.wrB.1 hw
  refine ⟨s,At.own (eqS hw) (by exact ⟨rfl,trivial⟩),.inr ⟨hr,s,rfl,?_⟩⟩
  exact (hw.drop.swap).drop
end Go.Proofs.YtfgbbckfikiomaaGreatDoor
/- Package booking: Answer. Condition: bounds on lengths. -/
namespace Go.Proofs.YtfgbbckfikiomaaGreatDoor
set_option linter.unusedVariables false
open Go Go.VC
variable {R:Cx} {Hs Rest:List HP} {w:World}
abbrev rpV (r:Rp) (sl sb:Sl):List Value:=[.int .i64 r.code,.string r.pnr,.int .i64 r.state,.int .i64 r.flt,.int .i64 r.cls,.int .i64 r.many,.int .i64 r.time,.slice sl.a sl.len sl.cap,.slice sb.a sb.len sb.cap]
abbrev rpC (b:Nat) (r:Rp) (sl sb:Sl):HP:=pts b (.cells (rpV r sl sb).toArray 31 (0,0))
structure RpW (r:Rp):Prop where
 ints:∀ x∈[r.code,r.state,r.flt,r.cls,r.many,r.time]++r.left,x<9223372036854775808
 pnr:r.pnr.size≤100000
 ll:r.left.length≤100000
 bl:r.labs.length≤100000
 labs:∀ s∈r.labs,s.size≤100000
end Go.Proofs.YtfgbbckfikiomaaGreatDoor
/- Package booking: a reader. Condition: bounds on lengths. -/
namespace Go.Proofs.YtfgbbckfikiomaaGreatDoor
set_option linter.unusedVariables false
open Go Go.VC
variable {R:Cx} {Hs Rest:List HP} {w:World}
theorem bnum_spec {r:Nat} {rd:Rd} {most:Int} (hb:Bytes rd.bs) (h0:0≤most) (h1:most<9223372036854775808) (hw:Sat R (RdAt r rd::Hs) w):
  Gets Tryz.prog 78 #[.agg #[.pointer (some ⟨r,0,none⟩)],.int .i64 most] w fun v w'=>v=.int .i64 (rdNum most rd).1∧Sat R (RdAt r (rdNum most rd).2::Hs) w':=by
 have hv:=rdNum_val hb h0
 apply call78
 refine new_rule hw fun b w hw=>?_
 refine ⟨_,At.own (eqS hw) (by exact ⟨rfl,trivial⟩),?_⟩
 rw [wrapU64 (by omega) (by omega)]
 refine (rnum_spec hb hw.drop).use ?_
 rintro _ w ⟨rfl,hw⟩
 refine ⟨_,rfl,?_,hw⟩
 rw [wrap64 (by omega) (by omega)]
theorem bstr_spec {r:Nat} {rd:Rd} {most:Int} (hb:Bytes rd.bs) (hl:rd.bs.length≤1099511627776) (h1:most<9223372036854775808) (hw:Sat R (RdAt r rd::Hs) w):
  Gets Tryz.prog 79 #[.agg #[.pointer (some ⟨r,0,none⟩)],.int .i64 most] w fun v w'=>v=.string (strRd most rd).1∧Sat R (RdAt r (strRd most rd).2::Hs) w':=by
 apply call79
 refine new_rule hw fun b w hw=>?_
 refine ⟨_,At.own (eqS hw) (by exact ⟨rfl,trivial⟩),?_⟩
 refine (rtext_spec h1 hl hb hw.drop).use ?_
 rintro _ w ⟨t,rfl,hw⟩
 have hlen:=rdText_len (most:=most) (rd:=rd)
 obtain ⟨R',hr,_,hw2,back⟩:=Own.lend hw (by rw [List.length_map];omega)
 refine ⟨t,rfl,VC.strOf (rdText most rd).1,fun w' e=>?_,rfl,hw.drop⟩
 rw [show w'=w from e]
 exact convS_ro Tryz.underlying42 Tryz.underlying5 Tryz.underlying9 hw2 hr
theorem bflt_spec {r:Nat} {rd:Rd} (hb:Bytes rd.bs) (hw:Sat R (RdAt r rd::Hs) w):
  Gets Tryz.prog 91 #[.agg #[.pointer (some ⟨r,0,none⟩)]] w fun v w'=>v=.float .f64 (fltRd rd).1∧Sat R (RdAt r (fltRd rd).2::Hs) w':=by
 have hv:=rdNum_val (most:=18446744073709551615) hb (by omega)
 apply call91
 refine new_rule hw fun b w hw=>?_
 refine ⟨_,At.own (eqS hw) (by exact ⟨rfl,trivial⟩),?_⟩
 refine (rnum_spec hb hw.drop).use ?_
 rintro _ w ⟨rfl,hw⟩
 refine ⟨_,rfl,?_⟩
 obtain ⟨n,hn⟩:=Int.eq_ofNat_of_zero_le hv.1
 rw [hn]
 refine (of_spec (k:=n) (by omega) hw).use ?_
 rintro _ w ⟨rfl,hw⟩
 refine ⟨_,rfl,?_,hw⟩
 show _=Value.float .f64 (ofF (rdNum 18446744073709551615 rd).1.toNat)
 rw [hn,Int.toNat_natCast]
end Go.Proofs.YtfgbbckfikiomaaGreatDoor
/- Package booking: so many things, one by one. Condition: bounds on lengths. -/
namespace Go.Proofs.YtfgbbckfikiomaaGreatDoor
set_option linter.unusedVariables false
open Go Go.VC
variable {R:Cx} {Hs Rest:List HP} {w:World}
theorem timesI_spec {r n:Nat} {rd:Rd} {f:Value} {one:Rd→Int × Rd} {I:Rd→Prop} (hI:∀ rd,I rd→I (one rd).2) (hn:n≤100000) (h0:I rd)
  (hone:∀ (T:HP) (rd:Rd) (w:World),I rd→Sat R (RdAt r rd::T::Hs) w→CalW Tryz.prog cl f [] w fun e w'=>e=.returned (.int .i64 (one rd).1)∧Sat R (RdAt r (one rd).2::T::Hs) w')
  (hw:Sat R (RdAt r rd::Hs) w):
  Gets Tryz.prog 80 #[.int .i64 n,f] w fun v w'=>∃ t:Sl,v=.slice t.a t.len t.cap∧Sat R (Own t 3 (intsI (rdEach one n rd).1)::RdAt r (rdEach one n rd).2::Hs) w':=by
 apply call80
 have inv:∀ k,I (rdEach one k rd).2:=fun k=>(rdEach_inv (one:=one) (P:=I) (Q:=fun _=>True) (fun r hr=>⟨trivial,hI r hr⟩) k h0).2
 refine ⟨fun out i w=>∃ k:Nat,i=k∧k≤n∧Sat R (Own out 3 (intsI (rdEach one k rd).1)::RdAt r (rdEach one k rd).2::Hs) w,fun _ i _=>n - i.toNat,⟨0,rfl,by omega,Own.nil hw⟩,?_⟩
 clear hw
 rintro _ out _ w ⟨k,rfl,hk,hw⟩
 refine Br.d (fun h=>?_) (fun h=>?_)
 ·refine (hone _ _ _ (inv k) hw.swap).mono ?_
  rintro _ w ⟨rfl,hw⟩
  refine ⟨_,rfl,?_⟩
  have hl:=rdEach_len one k rd
  refine pushI_rule elI8 hw.swap (by rw [hl];omega) fun out' w hw=>?_
  rw [wrap64 (by omega) (by omega)]
  refine ⟨⟨k + 1,by omega,by omega,?_⟩,by dsimp only;omega⟩
  rw [rdEach_snoc]
  exact hw
 ·have:k=n:=by omega
  subst this
  exact ⟨out,rfl,hw⟩
end Go.Proofs.YtfgbbckfikiomaaGreatDoor
/- Package booking: so many texts, so many floats, one by one. Condition: bounds on lengths. -/
namespace Go.Proofs.YtfgbbckfikiomaaGreatDoor
set_option linter.unusedVariables false
open Go Go.VC
variable {R:Cx} {Hs Rest:List HP} {w:World}
theorem elFl:El Tryz.prog 36 36 33 8:=⟨Tryz.underlying36,⟨_,Tryz.underlying36⟩,by kernel_rfl⟩
theorem oneAll_fl (l:List Nat):oneAll (flts l)=true:=by unfold oneAll flts;simp [Value.oneCell']
theorem timesF_spec {r n:Nat} {rd:Rd} {f:Value} {one:Rd→Nat × Rd} {I:Rd→Prop} (hI:∀ rd,I rd→I (one rd).2) (hn:n≤100000) (h0:I rd)
  (hone:∀ (T:HP) (rd:Rd) (w:World),I rd→Sat R (RdAt r rd::T::Hs) w→CalW Tryz.prog cl f [] w fun e w'=>e=.returned (.float .f64 (one rd).1)∧Sat R (RdAt r (one rd).2::T::Hs) w')
  (hw:Sat R (RdAt r rd::Hs) w):
  Gets Tryz.prog 92 #[.int .i64 n,f] w fun v w'=>∃ t:Sl,v=.slice t.a t.len t.cap∧Sat R (Own t 33 (flts (rdEach one n rd).1)::RdAt r (rdEach one n rd).2::Hs) w':=by
 apply call92
 have inv:∀ k,I (rdEach one k rd).2:=fun k=>(rdEach_inv (one:=one) (P:=I) (Q:=fun _=>True) (fun r hr=>⟨trivial,hI r hr⟩) k h0).2
 refine ⟨fun out i w=>∃ k:Nat,i=k∧k≤n∧Sat R (Own out 33 (flts (rdEach one k rd).1)::RdAt r (rdEach one k rd).2::Hs) w,fun _ i _=>n - i.toNat,⟨0,rfl,by omega,Own.nil hw⟩,?_⟩
 clear hw
 rintro _ out _ w ⟨k,rfl,hk,hw⟩
 refine Br.d (fun h=>?_) (fun h=>?_)
 ·refine (hone _ _ _ (inv k) hw.swap).mono ?_
  rintro _ w ⟨rfl,hw⟩
  refine ⟨_,rfl,?_⟩
  have hl:=rdEach_len one k rd
  refine push_rule elFl hw.swap (oneAll_fl _) rfl (by rw [List.length_map,hl];omega) (by rw [List.length_map,hl];omega) fun out' w hw=>?_
  rw [wrap64 (by omega) (by omega)]
  refine ⟨⟨k + 1,by omega,by omega,?_⟩,by dsimp only;omega⟩
  rw [rdEach_snoc]
  simpa using hw
 ·have:k=n:=by omega
  subst this
  exact ⟨out,rfl,hw⟩
end Go.Proofs.YtfgbbckfikiomaaGreatDoor
/- Reference 18: numbers as bytes. Condition: bounds on lengths. -/
namespace Go.Proofs.YtfgbbckfikiomaaGreatDoor
set_option linter.unusedVariables false
open Go Go.VC
variable {R:Cx} {Hs Rest:List HP} {w:World}
theorem r18nums_spec {s:Sl} {xs:List Int} (hxs:∀ x∈xs,x<9223372036854775808) (hl:9 * xs.length≤1099511627776) (hs:RoI R s xs) (hw:Sat R Hs w):
  Gets Tryz.prog 71 #[.slice s.a s.len s.cap] w fun v w'=>∃ t:Sl,v=.slice t.a t.len t.cap∧Sat R (Own t 5 (b8 (numsB (xs.map nn)))::Hs) w':=by
 have hlen:=hs.len
 apply call71
 refine ⟨fun out i w=>∃ k:Nat,i=k∧k≤xs.length∧Sat R (Own out 5 (b8 (numsB ((xs.take k).map nn)))::Hs) w,fun _ i _=>xs.length - i.toNat,⟨0,rfl,by omega,Own.nil hw⟩,?_⟩
 clear hw
 rintro _ out _ w ⟨k,rfl,hk,hw⟩
 refine Br.d (fun h=>?_) (fun h=>?_)
 ·have hkx:k<xs.length:=by omega
  have hx:=nn_bd (hxs xs[k] (List.getElem_mem _))
  have hxt:∀ x∈(xs.take k).map nn,0≤x∧x<18446744073709551616:=fun x hx=>by
   obtain ⟨y,hy,rfl⟩:=List.mem_map.1 hx
   have:=nn_bd (hxs y (List.mem_of_mem_take hy));omega
  have hnl:=numsB_len hxt
  rw [List.length_map,List.length_take] at hnl
  refine Ro.ix hs (eqS hw) k rfl hkx ?_
  rw [nn_if]
  obtain ⟨n,hn⟩:=Int.eq_ofNat_of_zero_le hx.1
  rw [hn,wrapU64 (by omega) (by omega)]
  refine (rnumber_spec (by omega) hw).use ?_
  rintro _ w ⟨t,rfl,hw⟩
  refine ⟨t,rfl,?_⟩
  have hnb:=numB_len (n:=n) (by omega)
  refine appendOO elB8 (s:=out) (n:=1099511627790) Tryz.underlying42 hw.swap (by omega) (by omega) (by omega) fun s2 w hw=>?_
  rw [wrap64 (by omega) (by omega)]
  refine ⟨⟨k + 1,by omega,by omega,?_⟩,by dsimp only;omega⟩
  have e:(xs.take (k + 1)).map nn=(xs.take k).map nn++[nn xs[k]]:=by rw [List.take_add_one,List.getElem?_eq_getElem hkx,List.map_append];rfl
  rw [e,numsB_app,show numsB [nn xs[k]]=numB (nn xs[k]).toNat by simp [numsB],hn,Int.toNat_natCast]
  exact hw.swap.drop
 ·rw [List.take_of_length_le (l:=xs) (by omega)] at hw
  exact ⟨out,rfl,hw⟩
end Go.Proofs.YtfgbbckfikiomaaGreatDoor
/- Reference 02: a reader's text, at this seat. Condition: bounds on lengths. -/
namespace Go.Proofs.YtfgbbckfikiomaaGreatDoor
set_option linter.unusedVariables false
open Go Go.VC
variable {R:Cx} {Hs Rest:List HP} {w:World}
theorem _root_.Go.VC.SlR.b8take {h:Heap} {s:Sl} {xs:List Int} (a:SlR h s (b8 xs)) {k:Nat} (hk:k≤xs.length):SlR h ⟨s.a,k,s.cap⟩ (b8 (xs.take k)):=by
 have:=a.take (k:=k) (by simpa using hk)
 simpa using this
theorem _root_.Go.VC.SlR.b8drop {h:Heap} {s:Sl} {xs:List Int} (a:SlR h s (b8 xs)) {k:Nat} (hk:k≤xs.length):SlR h (sdrop s k) (b8 (xs.drop k)):=by
 have:=a.drop (k:=k) (by simpa using hk)
 simpa using this
theorem rrtext_spec {r:Nat} {s:Sl} {bs:List Int} {rd:Rd} {most:Int} (hm:most<9223372036854775808) (hl:bs.length≤1099511627776) (hb:∀ x∈bs,0≤x∧x<256) (hs:SlR R.m s (b8 bs)) (hw:Sat R (RRdAt r s bs rd::Hs) w):
  Gets Tryz.prog 85 #[.pointer (some ⟨r,0,none⟩),.int .i64 most] w fun v w'=>∃ t:Sl,v=.slice t.a t.len t.cap∧Sat R (Own t 5 (b8 (rdText most rd).1)::RRdAt r s bs (rdText most rd).2::Hs) w':=by
 have hsl:s.len=bs.length:=by have:=hs.len;simpa using this
 have hscap:=hs.cap
 obtain ⟨n,⟨hn,hd⟩,hw⟩:=Sat.rrd.1 hw
 have hlen:rd.bs.length=bs.length - n:=by rw [←hd,List.length_drop]
 have hb2:∀ x∈rd.bs,0≤x∧x<256:=fun x hx=>hb x (by rw [←hd] at hx;exact List.mem_of_mem_drop hx)
 apply call85
 refine (rnext_spec hl hb hs hn hw).use ?_
 rintro _ w ⟨rfl,hw⟩
 refine ⟨_,_,_,rfl,?_⟩
 rw [hd]
 have bad:rdText most rd=([],⟨rd.bs,true⟩)→∀ {w},Sat R (pts r (rrCells s n rd.bad)::Hs) w→NilP (some ⟨r,0,none⟩) fun a_t25=>
   ∃ w_2:World,((Instr.storeAt 4 (.pointer ((some ⟨a_t25.block,a_t25.off + 2,none⟩))) (.bool true)).run Tryz.prog w=.ok () w_2)∧
   (∃ t:Sl,Value.slice none 0 0=.slice t.a t.len t.cap∧Sat R (Own t 5 (b8 (rdText most rd).1)::RRdAt r s bs (rdText most rd).2::Hs) w_2):=fun e w hw=>by
  refine NilP.mk rfl ?_
  refine store_rule hw (by kernel_rfl) rfl (by simp [Value.cells]) fun w hw=>?_
  have hw:=hw.re (pts r (rrCells s n true))
  rw [e]
  exact ⟨⟨none,0,0⟩,rfl,Own.nil (Sat.rrd.2 ⟨n,⟨hn,hd⟩,hw⟩)⟩
 refine ⟨fun w=>(∃ x k,rd.bad=false∧parse rd.bs=some (x,false,k)∧0≤most∧x≤most∧x≤(rd.bs.length:Int) - k)∧Sat R (pts r (rrCells s n rd.bad)::Hs) w,drw_rule hw fun w hw=>?_,?_⟩
 ·by_cases hbd:rd.bad=true
  ·have e:nextR ⟨rd.bs,rd.bad⟩=(0,false,0):=by unfold nextR;rw [if_pos hbd]
   rw [e];dsimp only
   refine Br.mk (fun h=>bad ?_ hw) (fun h=>by simp at h)
   unfold rdText;rw [if_pos hbd];rw [show rd=⟨rd.bs,rd.bad⟩ from rfl,hbd]
  ·have hbd:rd.bad=false:=by simpa using hbd
   cases hp:parse rd.bs with
   |none=>
    have e:nextR ⟨rd.bs,rd.bad⟩=(0,false,0):=by unfold nextR;simp [hp]
    rw [e];dsimp only
    refine Br.mk (fun h=>bad ?_ hw) (fun h=>by simp at h)
    unfold rdText;rw [if_neg (by rw [hbd];simp),hp]
   |some p=>
    obtain ⟨x,neg,k⟩:=p
    have e:nextR ⟨rd.bs,rd.bad⟩=(x,neg,(k:Int)):=by unfold nextR;simp [hp,hbd]
    rw [e];dsimp only
    obtain ⟨x0,x1,k0,k1,k2⟩:=parse_bd hb2 hp
    have e2:rdText most rd=if neg=false∧0≤most∧x≤most∧x≤((rd.bs.length:Int) - k) then (((rd.bs.drop k).take x.toNat),⟨rd.bs.drop (k + x.toNat),false⟩) else ([],⟨rd.bs,true⟩):=by
     unfold rdText;rw [if_neg (by rw [hbd];simp),hp]
    refine Br.e (fun h=>by omega) (fun _=>Br.mk (fun h=>bad ?_ hw) (fun h=>Br.d (fun h2=>bad ?_ hw) (fun h2=>?_)))
    ·rw [e2,if_neg (by rintro ⟨h3,_⟩;rw [h3] at h;cases h)]
    ·rw [e2,if_neg (by rintro ⟨_,h3,_⟩;omega)]
    ·rw [wrapU64 (x:=most) (by omega) (by omega)]
     refine Br.d (fun h3=>bad ?_ hw) (fun h3=>?_)
     ·rw [e2,if_neg (by rintro ⟨_,_,h4,_⟩;omega)]
     ·refine NilP.mk rfl ⟨s,At.own selfS (by exact ⟨rfl,trivial⟩),NilP.mk rfl ⟨n,At.own selfS (by exact ⟨rfl,trivial⟩),?_⟩⟩
      have e3:IntKind.u64.wrap (IntKind.i64.wrap (IntKind.i64.wrap ((s.len:Int) - (n:Int)) - (k:Int)))=(rd.bs.length:Int) - k:=by
       rw [wrap64 (x:=(s.len:Int) - (n:Int)) (by omega) (by omega),wrap64 (by omega) (by omega),wrapU64 (by omega) (by omega)];omega
      rw [e3]
      refine Br.d (fun h4=>bad ?_ hw) (fun h4=>⟨⟨x,k,hbd,by rw [h],by omega,by omega,by omega⟩,hw⟩)
      rw [e2,if_neg (by rintro ⟨_,_,_,h5⟩;omega)]
 clear bad hw
 rintro _ w ⟨⟨x,k,hbd,hp,hm0,hxm,hxl⟩,hw⟩
 obtain ⟨x0,x1,k0,k1,k2⟩:=parse_bd hb2 hp
 have e:nextR ⟨rd.bs,rd.bad⟩=(x,false,(k:Int)):=by unfold nextR;simp [hp,hbd]
 have e2:rdText most rd=(((rd.bs.drop k).take x.toNat),⟨rd.bs.drop (k + x.toNat),false⟩):=by
  unfold rdText;rw [if_neg (by rw [hbd];simp),hp];dsimp only;rw [if_pos ⟨rfl,hm0,hxm,hxl⟩]
 rw [e,e2]
 dsimp only
 obtain ⟨m,rfl⟩:=Int.eq_ofNat_of_zero_le x0
 refine NilP.mk rfl ⟨n,At.own (eqS hw) (by exact ⟨rfl,trivial⟩),NilP.mk rfl ?_⟩
 have e3:IntKind.i64.wrap ((n:Int) + (k:Int))=((n + k:Nat):Int):=by rw [wrap64 (by omega) (by omega)];omega
 have e4:IntKind.i64.wrap (((n + k:Nat):Int) + IntKind.i64.wrap (m:Int))=((n + k + m:Nat):Int):=by rw [wrap64 (x:=(m:Int)) (by omega) (by omega),wrap64 (by omega) (by omega)];omega
 dsimp only
 rw [e3,e4]
 refine store_rule hw (by kernel_rfl) rfl (by simp [Value.cells]) fun w hw=>?_
 rw [hbd] at hw
 have hw:=hw.re (pts r (rrCells s (n + k + m) false))
 refine drw_ruleT hw fun w hw=>?_
 refine NilP.mk rfl ⟨s,At.own selfS (by exact ⟨rfl,trivial⟩),NilP.mk rfl ⟨((n + k + m:Nat):Int),At.own selfS (by exact ⟨rfl,trivial⟩),by omega,by omega,by omega,by omega,?_⟩⟩
 rw [Int.toNat_natCast,Int.toNat_natCast,Int.toNat_natCast]
 refine new_rule hw fun b w hw=>?_
 have e5:n + k + m - (n + k)=m:=by omega
 rw [e5]
 have hro:SlR R.m ⟨(sdrop s (n + k)).a,m,(sdrop s (n + k)).cap⟩ (b8 ((rd.bs.drop k).take m)):=by
  have:=(hs.b8drop (k:=n + k) (by omega)).b8take (k:=m) (by simp;omega)
  rw [←List.drop_drop,hd] at this
  exact this
 have hll:((rd.bs.drop k).take m).length≤1099511627776:=by simp;omega
 refine ⟨hw.absorb,?_⟩
 have hw:Sat R (Own ⟨some ⟨b,0,none⟩,0,0⟩ 5 (([]:List Int).map (Value.int .u8))::VC.tru::pts r (rrCells s (n + k + m) false)::Hs) w:=own_lit hw
 refine appendRI elB8 (s:=⟨some ⟨b,0,none⟩,0,0⟩) (t:=⟨(sdrop s (n + k)).a,m,(sdrop s (n + k)).cap⟩) (n:=1099511627776) Tryz.underlying42 hw (hro.ro (by simp;omega)) (by simp;omega) (by omega) (by omega) fun t w hw=>?_
 refine ⟨hw.absorb,t,rfl,?_⟩
 rw [List.nil_append] at hw
 refine hw.cons fun _ h=>Sat.rrd.2 ⟨n + k + m,⟨by omega,?_⟩,h.drop⟩
 show bs.drop (n + k + m)=rd.bs.drop (k + m)
 rw [←hd,List.drop_drop,Nat.add_assoc]
end Go.Proofs.YtfgbbckfikiomaaGreatDoor
/- Package booking: Decode. Condition: bounds on lengths. -/
namespace Go.Proofs.YtfgbbckfikiomaaGreatDoor
set_option linter.unusedVariables false
open Go Go.VC
open Classical
variable {R:Cx} {Hs Rest:List HP} {w:World}
abbrev brC (b r:Nat):HP:=pts b (.cells [.pointer (some ⟨r,0,none⟩)].toArray 126 (0,0))
abbrev nilSl:Sl:=⟨none,0,0⟩
abbrev cmHead (k:Int) (p:ByteArray) (f c m t:Int):Cm:=⟨k,p,f,c,m,t,0,ByteArray.mk #[],0,[],[]⟩
abbrev cmNew (b:Nat):HP:=cmC b (cmHead 0 (ByteArray.mk #[]) 0 0 0 0) nilSl nilSl
theorem bdn_spec {b r:Nat} {rd:Rd} (hb:Bytes rd.bs) (hw:Sat R (RdAt r rd::brC b r::Hs) w):
  Gets Tryz.prog 90 #[.pointer (some ⟨b,0,none⟩)] w fun v w'=>v=.int .i64 (rdNum 9999 rd).1∧Sat R (RdAt r (rdNum 9999 rd).2::brC b r::Hs) w':=by
 apply call90
 have hw2:Sat R (brC b r::RdAt r rd::Hs) w:=hw.swap
 refine NilP.mk rfl ⟨some ⟨r,0,none⟩,At.own (eqS hw2) (by exact ⟨rfl,trivial⟩),?_⟩
 refine (bnum_spec (most:=9999) hb (by omega) (by omega) hw).use ?_
 rintro _ w ⟨rfl,hw⟩
 exact ⟨_,rfl,rfl,hw⟩
theorem tru2 {A B:HP} (hw:Sat R (A::B::Hs) w):Sat R [B,VC.tru] w:=hw.swap.restTru2
theorem tru3 {A B C:HP} (hw:Sat R (C::A::B::Hs) w):Sat R [B,VC.tru] w:=(hw.arr (Hs':=B::C::A::Hs)).restTru2
section
variable (S:World→Prop) (J:Option Addr→World→Prop) (b4 b:Nat) (r:Option Addr)
def dT6 (k:Int) (p:ByteArray) (f c m t:Int) (w:World):Prop:=
 ∃ w':World,((Instr.storeAt 38 (.pointer (some ⟨b,0,none⟩)) (.agg #[.int .i64 k,.string p,.int .i64 f,.int .i64 c,.int .i64 m,.int .i64 t,.float .f64 0,.string (ByteArray.mk #[]),.int .i64 0,.slice none 0 0,.slice none 0 0])).run Tryz.prog w=.ok () w')∧J (some ⟨b,0,none⟩) w'
def dT5 (k:Int) (p:ByteArray) (f c m:Int) (w:World):Prop:=
 Calls Tryz.prog 78 #[.agg #[.pointer r],.int .i64 1099511627776] w fun e w'=>∃ t:Int,(e=.returned (.int .i64 t))∧S w'∧dT6 J b k p f c m t w'
def dT4 (k:Int) (p:ByteArray) (f c:Int) (w:World):Prop:=
 Calls Tryz.prog 90 #[.pointer (some ⟨b4,0,none⟩)] w fun e w'=>∃ t:Int,(e=.returned (.int .i64 t))∧S w'∧dT5 S J b r k p f c t w'
def dT3 (k:Int) (p:ByteArray) (f:Int) (w:World):Prop:=
 Calls Tryz.prog 90 #[.pointer (some ⟨b4,0,none⟩)] w fun e w'=>∃ t:Int,(e=.returned (.int .i64 t))∧S w'∧dT4 S J b4 b r k p f t w'
def dT2 (k:Int) (p:ByteArray) (w:World):Prop:=
 Calls Tryz.prog 90 #[.pointer (some ⟨b4,0,none⟩)] w fun e w'=>∃ t:Int,(e=.returned (.int .i64 t))∧S w'∧dT3 S J b4 b r k p t w'
def dT1 (k:Int) (w:World):Prop:=
 Calls Tryz.prog 79 #[.agg #[.pointer r],.int .i64 16] w fun e w'=>∃ t:ByteArray,(e=.returned (.string t))∧S w'∧dT2 S J b4 b r k t w'
def dT0 (w:World):Prop:=
 Calls Tryz.prog 78 #[.agg #[.pointer r],.int .i64 9] w fun e w'=>∃ t:Int,(e=.returned (.int .i64 t))∧S w'∧dT1 S J b4 b r t w'
end
section
variable {J:Option Addr→World→Prop} {b4 b r:Nat} {rd:Rd} {k f c m t:Int} {p:ByteArray}
theorem dT6_ok (hJ:∀ {w},Sat R (cmC b (cmHead k p f c m t) nilSl nilSl::RdAt r rd::brC b4 r::Hs) w→J (some ⟨b,0,none⟩) w) (hw:Sat R (RdAt r rd::brC b4 r::cmNew b::Hs) w):dT6 J b k p f c m t w:=by
 have hw:Sat R (cmNew b::RdAt r rd::brC b4 r::Hs) w:=hw.arr
 refine store_rule hw (by kernel_rfl) rfl (by simp [Value.cells]) fun w hw=>?_
 exact hJ (hw.re (cmC b (cmHead k p f c m t) nilSl nilSl))
theorem dT5_ok (hb:Bytes rd.bs) (hJ:∀ {w},Sat R (cmC b (cmHead k p f c m (rdNum 1099511627776 rd).1) nilSl nilSl::RdAt r (rdNum 1099511627776 rd).2::brC b4 r::Hs) w→J (some ⟨b,0,none⟩) w)
  (hw:Sat R (RdAt r rd::brC b4 r::cmNew b::Hs) w):dT5 (Sat R [brC b4 r,VC.tru]) J b (some ⟨r,0,none⟩) k p f c m w:=by
 refine (bnum_spec (most:=1099511627776) hb (by omega) (by omega) hw).use ?_
 rintro _ w ⟨rfl,hw⟩
 exact ⟨_,rfl,tru2 hw,dT6_ok hJ hw⟩
theorem dT4_ok (hb:Bytes rd.bs) (hJ:∀ {w},Sat R (cmC b (cmHead k p f c (rdNum 9999 rd).1 (rdNum 1099511627776 (rdNum 9999 rd).2).1) nilSl nilSl::RdAt r (rdNum 1099511627776 (rdNum 9999 rd).2).2::brC b4 r::Hs) w→J (some ⟨b,0,none⟩) w)
  (hw:Sat R (RdAt r rd::brC b4 r::cmNew b::Hs) w):dT4 (Sat R [brC b4 r,VC.tru]) J b4 b (some ⟨r,0,none⟩) k p f c w:=by
 refine (bdn_spec hb hw).use ?_
 rintro _ w ⟨rfl,hw⟩
 exact ⟨_,rfl,tru2 hw,dT5_ok (rdNum_bd hb) hJ hw⟩
theorem dT3_ok (hb:Bytes rd.bs) (hJ:∀ {w},Sat R (cmC b (cmHead k p f (rdNum 9999 rd).1 (rdNum 9999 (rdNum 9999 rd).2).1 (rdNum 1099511627776 (rdNum 9999 (rdNum 9999 rd).2).2).1) nilSl nilSl::RdAt r (rdNum 1099511627776 (rdNum 9999 (rdNum 9999 rd).2).2).2::brC b4 r::Hs) w→J (some ⟨b,0,none⟩) w)
  (hw:Sat R (RdAt r rd::brC b4 r::cmNew b::Hs) w):dT3 (Sat R [brC b4 r,VC.tru]) J b4 b (some ⟨r,0,none⟩) k p f w:=by
 refine (bdn_spec hb hw).use ?_
 rintro _ w ⟨rfl,hw⟩
 exact ⟨_,rfl,tru2 hw,dT4_ok (rdNum_bd hb) hJ hw⟩
theorem dT2_ok (hb:Bytes rd.bs) (hJ:∀ {w},Sat R (cmC b (cmHead k p (rdNum 9999 rd).1 (rdNum 9999 (rdNum 9999 rd).2).1 (rdNum 9999 (rdNum 9999 (rdNum 9999 rd).2).2).1 (rdNum 1099511627776 (rdNum 9999 (rdNum 9999 (rdNum 9999 rd).2).2).2).1) nilSl nilSl::RdAt r (rdNum 1099511627776 (rdNum 9999 (rdNum 9999 (rdNum 9999 rd).2).2).2).2::brC b4 r::Hs) w→J (some ⟨b,0,none⟩) w)
  (hw:Sat R (RdAt r rd::brC b4 r::cmNew b::Hs) w):dT2 (Sat R [brC b4 r,VC.tru]) J b4 b (some ⟨r,0,none⟩) k p w:=by
 refine (bdn_spec hb hw).use ?_
 rintro _ w ⟨rfl,hw⟩
 exact ⟨_,rfl,tru2 hw,dT3_ok (rdNum_bd hb) hJ hw⟩
def hd2 (rd:Rd):(Int × Int × Int × Int) × Rd:=
 let f:=rdNum 9999 rd
 let c:=rdNum 9999 f.2
 let m:=rdNum 9999 c.2
 let t:=rdNum 1099511627776 m.2
 ((f.1,c.1,m.1,t.1),t.2)
abbrev JD (R:Cx) (Hs:List HP) (b4 r:Nat) (k:Int) (p:ByteArray) (x:(Int × Int × Int × Int) × Rd) (c6:Option Addr) (w:World):Prop:=
 ∃ b,c6=some ⟨b,0,none⟩∧Sat R (cmC b (cmHead k p x.1.1 x.1.2.1 x.1.2.2.1 x.1.2.2.2) nilSl nilSl::RdAt r x.2::brC b4 r::Hs) w
theorem dT1_ok (hb:Bytes rd.bs) (hl:rd.bs.length≤1099511627776) (hJ:∀ {w},Sat R (cmC b (cmHead k (strRd 16 rd).1 (hd2 (strRd 16 rd).2).1.1 (hd2 (strRd 16 rd).2).1.2.1 (hd2 (strRd 16 rd).2).1.2.2.1 (hd2 (strRd 16 rd).2).1.2.2.2) nilSl nilSl::RdAt r (hd2 (strRd 16 rd).2).2::brC b4 r::Hs) w→J (some ⟨b,0,none⟩) w)
  (hw:Sat R (RdAt r rd::brC b4 r::cmNew b::Hs) w):dT1 (Sat R [brC b4 r,VC.tru]) J b4 b (some ⟨r,0,none⟩) k w:=by
 refine (bstr_spec (most:=16) hb hl (by omega) hw).use ?_
 rintro _ w ⟨rfl,hw⟩
 exact ⟨_,rfl,tru2 hw,dT2_ok (strRd_bd hb) hJ hw⟩
theorem dT0_ok (hb:Bytes rd.bs) (hl:rd.bs.length≤1099511627776) (hJ:∀ {w},Sat R (cmC b (cmHead (rdNum 9 rd).1 (strRd 16 (rdNum 9 rd).2).1 (hd2 (strRd 16 (rdNum 9 rd).2).2).1.1 (hd2 (strRd 16 (rdNum 9 rd).2).2).1.2.1 (hd2 (strRd 16 (rdNum 9 rd).2).2).1.2.2.1 (hd2 (strRd 16 (rdNum 9 rd).2).2).1.2.2.2) nilSl nilSl::RdAt r (hd2 (strRd 16 (rdNum 9 rd).2).2).2::brC b4 r::Hs) w→J (some ⟨b,0,none⟩) w)
  (hw:Sat R (RdAt r rd::brC b4 r::cmNew b::Hs) w):dT0 (Sat R [brC b4 r,VC.tru]) J b4 b (some ⟨r,0,none⟩) w:=by
 refine (bnum_spec (most:=9) hb (by omega) (by omega) hw).use ?_
 rintro _ w ⟨rfl,hw⟩
 exact ⟨_,rfl,tru2 hw,dT1_ok (rdNum_bd hb) (by have:=rdNum_len (most:=9) (rd:=rd);omega) hJ hw⟩
end
end Go.Proofs.YtfgbbckfikiomaaGreatDoor
/- Package booking: Decode, the whole. Condition: bounds on lengths. -/
namespace Go.Proofs.YtfgbbckfikiomaaGreatDoor
set_option linter.unusedVariables false
open Go Go.VC
open Classical
variable {R:Cx} {Hs Rest:List HP} {w:World}
theorem CalW.mkB {g:FuncId} {first captured:Array Value} {args:List Value} {Q:Ending→World→Prop} (hc:cl g=true) (h:Calls Tryz.prog g (first.toList++(args++captured.toList)).toArray w Q):CalW Tryz.prog cl (.func (.func g) first captured) args w Q:=by
 unfold CalW
 simp only [hc]
 exact h
theorem CalW.mk1 {g:FuncId} {x:Value} {Q:Ending→World→Prop} (hc:cl g=true) (h:Calls Tryz.prog g #[x] w Q):CalW Tryz.prog cl (.func (.func g) #[x] #[]) [] w Q:=CalW.mkB hc (by
 have e:((#[x]:Array Value).toList++(([]:List Value)++(#[]:Array Value).toList)).toArray=#[x]:=rfl
 rw [e];exact h)
def zeroC:Cm:=cmHead 0 (ByteArray.mk #[]) 0 0 0 0
noncomputable def cmDec (bs:List Int):Cm × Int:=if rdWhole (cmRd ⟨bs,false⟩).2=true∧RightC (cmRd ⟨bs,false⟩).1 then ((cmRd ⟨bs,false⟩).1,0) else (zeroC,6)
theorem strRd_len {most:Int} {rd:Rd}:(strRd most rd).2.bs.length≤rd.bs.length:=rdText_len.2
theorem fltRd_len {rd:Rd}:(fltRd rd).2.bs.length≤rd.bs.length:=rdNum_len
theorem hd2_bd {rd:Rd} (hb:Bytes rd.bs):Bytes (hd2 rd).2.bs:=rdNum_bd (rdNum_bd (rdNum_bd (rdNum_bd hb)))
theorem hd2_len {rd:Rd}:(hd2 rd).2.bs.length≤rd.bs.length:=Nat.le_trans rdNum_len (Nat.le_trans rdNum_len (Nat.le_trans rdNum_len rdNum_len))
theorem cmRd_hd (r:Rd):cmRd r=
 let k:=rdNum 9 r
 let p:=strRd 16 k.2
 let h:=hd2 p.2
 let s:=fltRd h.2
 let l:=strRd 16 s.2
 let w:=rdNum 9999 l.2
 let n:=rdNum 16 w.2
 let g:=rdEach (rdNum 9999) n.1.toNat n.2
 let q:=rdNum 16 g.2
 let x:=rdEach fltRd q.1.toNat q.2
 (⟨k.1,p.1,h.1.1,h.1.2.1,h.1.2.2.1,h.1.2.2.2,s.1,l.1,w.1,g.1,x.1⟩,x.2):=rfl
set_option maxHeartbeats 1000000 in
theorem bdec_spec {s:Sl} {bs:List Int} (hb:Bytes bs) (hl:bs.length≤1099511627776) (hs:Ro R s (b8 bs)) (hw:Sat R Hs w):
  Gets Tryz.prog 31 #[.slice s.a s.len s.cap] w fun v w'=>∃ sg sp:Sl,v=.tuple #[.agg (cmV (cmDec bs).1 sg sp).toArray,.int .i64 (cmDec bs).2]∧Sat R (Own sg 3 (intsI (cmDec bs).1.grps)::Own sp 33 (flts (cmDec bs).1.parts)::Hs) w':=by
 apply call31
 have b0:Bytes (⟨bs,false⟩:Rd).bs:=hb
 have l0:(⟨bs,false⟩:Rd).bs.length≤1099511627776:=hl
 have hcm:=cmRd_hd ⟨bs,false⟩
 obtain ⟨rd0,e0⟩:∃ rd:Rd,rd=⟨bs,false⟩:=⟨_,rfl⟩
 rw [←e0] at b0 l0 hcm
 have b1:=rdNum_bd (most:=9) b0
 have l1:(rdNum 9 rd0).2.bs.length≤1099511627776:=Nat.le_trans rdNum_len l0
 refine new_rule hw fun b2 w hw=>?_
 have hw:Sat R (cmNew b2::Hs) w:=hw
 refine (fnew_spec hs hl hw).use ?_
 clear hw
 rintro _ w ⟨r,rfl,hw⟩
 refine ⟨_,rfl,?_⟩
 rw [←e0] at hw
 refine new_rule hw fun b4 w hw=>?_
 refine store_rule hw (by kernel_rfl) rfl (by simp [Value.cells]) fun w hw=>?_
 have hw:Sat R (RdAt r rd0::brC b4 r::cmNew b2::Hs) w:=hw.re (brC b4 r)|>.swap
 refine ⟨JD R (cmNew b2::Hs) b4 r (rdNum 9 rd0).1 (strRd 16 (rdNum 9 rd0).2).1 (hd2 (strRd 16 (rdNum 9 rd0).2).2),?_,?_⟩
 ·refine drw_rule' (Sat R [brC b4 r,VC.tru]) hw (fun w hw=>tru2 hw) fun w hw=>?_
  clear hcm
  refine ⟨_,At.own (fun _ h=>h) (by exact ⟨rfl,trivial⟩),_,At.own (fun _ h=>h) (by exact ⟨rfl,trivial⟩),_,At.own (fun _ h=>h) (by exact ⟨rfl,trivial⟩),?_⟩
  refine ⟨?_,new_rule hw fun b w hw=>⟨tru3 hw,dT0_ok b0 l0 (fun hw=>⟨b,rfl,hw⟩) (hw.arr (Hs':=RdAt r rd0::brC b4 r::cmNew b::cmNew b2::Hs))⟩⟩
  refine (bnum_spec (most:=9) b0 (by omega) (by omega) hw).use ?_
  clear hw
  rintro _ w ⟨rfl,hw⟩
  refine ⟨_,rfl,tru2 hw,?_⟩
  generalize (rdNum 9 rd0).1=k at *
  generalize (rdNum 9 rd0).2=rd1 at *
  refine ⟨?_,new_rule hw fun b w hw=>⟨tru3 hw,dT1_ok b1 l1 (fun hw=>⟨b,rfl,hw⟩) (hw.arr (Hs':=RdAt r rd1::brC b4 r::cmNew b::cmNew b2::Hs))⟩⟩
  have b2':=strRd_bd (most:=16) b1
  refine (bstr_spec (most:=16) b1 l1 (by omega) hw).use ?_
  clear hw
  rintro _ w ⟨rfl,hw⟩
  refine ⟨_,rfl,tru2 hw,?_⟩
  generalize (strRd 16 rd1).1=p at *
  generalize (strRd 16 rd1).2=rd2 at *
  refine ⟨?_,new_rule hw fun b w hw=>⟨tru3 hw,dT2_ok b2' (fun hw=>⟨b,rfl,hw⟩) (hw.arr (Hs':=RdAt r rd2::brC b4 r::cmNew b::cmNew b2::Hs))⟩⟩
  have b3:=rdNum_bd (most:=9999) b2'
  refine (bdn_spec b2' hw).use ?_
  clear hw
  rintro _ w ⟨rfl,hw⟩
  refine ⟨_,rfl,tru2 hw,?_⟩
  refine ⟨?_,new_rule hw fun b w hw=>⟨tru3 hw,dT3_ok b3 (fun hw=>⟨b,rfl,hw⟩) (hw.arr (Hs':=RdAt r _::brC b4 r::cmNew b::cmNew b2::Hs))⟩⟩
  have b4':=rdNum_bd (most:=9999) b3
  refine (bdn_spec b3 hw).use ?_
  clear hw
  rintro _ w ⟨rfl,hw⟩
  refine ⟨_,rfl,tru2 hw,?_⟩
  refine ⟨?_,new_rule hw fun b w hw=>⟨tru3 hw,dT4_ok b4' (fun hw=>⟨b,rfl,hw⟩) (hw.arr (Hs':=RdAt r _::brC b4 r::cmNew b::cmNew b2::Hs))⟩⟩
  have b5:=rdNum_bd (most:=9999) b4'
  refine (bdn_spec b4' hw).use ?_
  clear hw
  rintro _ w ⟨rfl,hw⟩
  refine ⟨_,rfl,tru2 hw,?_⟩
  refine ⟨?_,new_rule hw fun b w hw=>⟨tru3 hw,dT5_ok b5 (fun hw=>⟨b,rfl,hw⟩) (hw.arr (Hs':=RdAt r _::brC b4 r::cmNew b::cmNew b2::Hs))⟩⟩
  refine (bnum_spec (most:=1099511627776) b5 (by omega) (by omega) hw).use ?_
  clear hw
  rintro _ w ⟨rfl,hw⟩
  have hw:Sat R (RdAt r (hd2 rd2).2::brC b4 r::cmNew b2::Hs) w:=hw
  refine ⟨_,rfl,tru2 hw,new_rule hw fun b w hw=>⟨tru3 hw,dT6_ok (fun hw=>⟨b,rfl,hw⟩) (hw.arr (Hs':=RdAt r _::brC b4 r::cmNew b::cmNew b2::Hs))⟩⟩
 clear hw
 obtain ⟨k,rd1,e1⟩:∃ y rd,rdNum 9 rd0=(y,rd):=⟨_,_,rfl⟩
 rw [e1] at b1 l1 ⊢
 dsimp only at b1 l1 ⊢
 have b2':=strRd_bd (most:=16) b1
 have l2:(strRd 16 rd1).2.bs.length≤1099511627776:=Nat.le_trans strRd_len l1
 obtain ⟨p,rd2,e2⟩:∃ y rd,strRd 16 rd1=(y,rd):=⟨_,_,rfl⟩
 rw [e2] at b2' l2 ⊢
 dsimp only at b2' l2 ⊢
 have b3:=hd2_bd b2'
 have l3:(hd2 rd2).2.bs.length≤1099511627776:=Nat.le_trans hd2_len l2
 obtain ⟨⟨f,c,m,t⟩,rd3,e3⟩:∃ y rd,hd2 rd2=(y,rd):=⟨_,_,rfl⟩
 rw [e3] at b3 l3 ⊢
 dsimp only at b3 l3 ⊢
 rintro _ _ w ⟨b,rfl,hw⟩
 have b4':=fltRd_bd b3
 have l4:(fltRd rd3).2.bs.length≤1099511627776:=Nat.le_trans fltRd_len l3
 obtain ⟨sc,rd4,e4⟩:∃ y rd,fltRd rd3=(y,rd):=⟨_,_,rfl⟩
 have hw:Sat R (RdAt r rd3::brC b4 r::cmC b (cmHead k p f c m t) nilSl nilSl::cmNew b2::Hs) w:=hw.arr
 refine ⟨some ⟨r,0,none⟩,At.own (eqS hw) (by exact ⟨rfl,trivial⟩),?_⟩
 refine (bflt_spec b3 hw).use ?_
 clear hw
 rintro _ w ⟨rfl,hw⟩
 rw [e4] at b4' l4 hw ⊢
 dsimp only at b4' l4 hw ⊢
 refine ⟨_,rfl,NilP.mk rfl ?_⟩
 refine store_rule hw (by kernel_rfl) rfl (by simp [Value.cells]) fun w hw=>?_
 have hw:Sat R (RdAt r rd4::brC b4 r::cmC b { cmHead k p f c m t with sc:=sc } nilSl nilSl::cmNew b2::Hs) w:=(hw.re (cmC b { cmHead k p f c m t with sc:=sc } nilSl nilSl)).arr
 have b5:=strRd_bd (most:=16) b4'
 have l5:(strRd 16 rd4).2.bs.length≤1099511627776:=Nat.le_trans strRd_len l4
 obtain ⟨lab,rd5,e5⟩:∃ y rd,strRd 16 rd4=(y,rd):=⟨_,_,rfl⟩
 refine ⟨some ⟨r,0,none⟩,At.own (eqS hw) (by exact ⟨rfl,trivial⟩),?_⟩
 refine (bstr_spec (most:=16) b4' l4 (by omega) hw).use ?_
 clear hw
 rintro _ w ⟨rfl,hw⟩
 rw [e5] at b5 l5 hw ⊢
 dsimp only at b5 l5 hw ⊢
 refine ⟨_,rfl,NilP.mk rfl ?_⟩
 refine store_rule hw (by kernel_rfl) rfl (by simp [Value.cells]) fun w hw=>?_
 have hw:Sat R (RdAt r rd5::brC b4 r::cmC b { cmHead k p f c m t with sc:=sc,lab:=lab } nilSl nilSl::cmNew b2::Hs) w:=(hw.re (cmC b { cmHead k p f c m t with sc:=sc,lab:=lab } nilSl nilSl)).arr
 have b6:=rdNum_bd (most:=9999) b5
 have l6:(rdNum 9999 rd5).2.bs.length≤1099511627776:=Nat.le_trans rdNum_len l5
 obtain ⟨rows,rd6,e6⟩:∃ y rd,rdNum 9999 rd5=(y,rd):=⟨_,_,rfl⟩
 refine (bdn_spec b5 hw).use ?_
 clear hw
 rintro _ w ⟨rfl,hw⟩
 rw [e6] at b6 l6 hw ⊢
 dsimp only at b6 l6 hw ⊢
 refine ⟨_,rfl,NilP.mk rfl ?_⟩
 refine store_rule hw (by kernel_rfl) rfl (by simp [Value.cells]) fun w hw=>?_
 have hw:Sat R (RdAt r rd6::brC b4 r::cmC b { cmHead k p f c m t with sc:=sc,lab:=lab,rows:=rows } nilSl nilSl::cmNew b2::Hs) w:=(hw.re (cmC b { cmHead k p f c m t with sc:=sc,lab:=lab,rows:=rows } nilSl nilSl)).arr
 have b7:=rdNum_bd (most:=16) b6
 have v7:=rdNum_val (most:=16) b6 (by omega)
 obtain ⟨n7,rd7,e7⟩:∃ y rd,rdNum 16 rd6=(y,rd):=⟨_,_,rfl⟩
 refine ⟨some ⟨r,0,none⟩,At.own (eqS hw) (by exact ⟨rfl,trivial⟩),?_⟩
 refine (bnum_spec (most:=16) b6 (by omega) (by omega) hw).use ?_
 clear hw
 rintro _ w ⟨rfl,hw⟩
 rw [e7] at b7 v7 hw ⊢
 dsimp only at b7 v7 hw ⊢
 refine ⟨_,rfl,?_⟩
 obtain ⟨n,rfl⟩:=Int.eq_ofNat_of_zero_le v7.1
 have b8':Bytes (rdEach (rdNum 9999) n rd7).2.bs:=(rdEach_inv (one:=rdNum 9999) (P:=fun r=>Bytes r.bs) (Q:=fun _=>True) (fun r hr=>⟨trivial,rdNum_bd hr⟩) n b7).2
 refine (timesI_spec (one:=rdNum 9999) (I:=fun rd=>Bytes rd.bs) (fun rd h=>rdNum_bd h) (by omega) b7 (fun T rd w hI hw=>CalW.mk (by kernel_rfl) ((bdn_spec hI (hw.arr (Hs':=RdAt r rd::brC b4 r::T::cmC b { cmHead k p f c m t with sc:=sc,lab:=lab,rows:=rows } nilSl nilSl::cmNew b2::Hs))).use fun v w h=>⟨by rw [h.1],h.2.arr⟩)) hw).use ?_
 clear hw
 rintro _ w ⟨sg,rfl,hw⟩
 have gl:=rdEach_len (rdNum 9999) n rd7
 obtain ⟨gs,rd8,e8⟩:∃ y rd,rdEach (rdNum 9999) n rd7=(y,rd):=⟨_,_,rfl⟩
 rw [e8] at gl b8' hw
 dsimp only at gl b8' hw
 refine ⟨sg,rfl,NilP.mk rfl ?_⟩
 refine store_rule hw (by kernel_rfl) rfl (by simp [Value.cells]) fun w hw=>?_
 have hw:Sat R (RdAt r rd8::brC b4 r::Own sg 3 (intsI gs)::cmC b { cmHead k p f c m t with sc:=sc,lab:=lab,rows:=rows,grps:=gs } sg nilSl::cmNew b2::Hs) w:=(hw.re (cmC b { cmHead k p f c m t with sc:=sc,lab:=lab,rows:=rows,grps:=gs } sg nilSl)).arr
 have b9:=rdNum_bd (most:=16) b8'
 have v9:=rdNum_val (most:=16) b8' (by omega)
 obtain ⟨n9,rd9,e9⟩:∃ y rd,rdNum 16 rd8=(y,rd):=⟨_,_,rfl⟩
 refine drw_rule' (Sat R [brC b4 r,VC.tru]) hw (fun w hw=>tru2 hw) fun w hw=>?_
 refine ⟨some ⟨r,0,none⟩,At.own (fun _ h=>h) (by exact ⟨rfl,trivial⟩),some ⟨r,0,none⟩,At.own (fun _ h=>h) (by exact ⟨rfl,trivial⟩),?_⟩
 refine (bnum_spec (most:=16) b8' (by omega) (by omega) hw).use ?_
 clear hw
 rintro _ w ⟨rfl,hw⟩
 rw [e9] at b9 v9 hw ⊢
 dsimp only at b9 v9 hw ⊢
 refine ⟨_,rfl,tru2 hw,?_⟩
 obtain ⟨n',rfl⟩:=Int.eq_ofNat_of_zero_le v9.1
 refine (timesF_spec (one:=fltRd) (I:=fun rd=>Bytes rd.bs) (fun rd h=>fltRd_bd h) (by omega) b9 (fun T rd w hI hw=>CalW.mk1 (by kernel_rfl) ((bflt_spec hI hw).use fun v w h=>⟨by rw [h.1],h.2⟩)) hw).use ?_
 clear hw
 rintro _ w ⟨sp,rfl,hw⟩
 have pl:=rdEach_len fltRd n' rd9
 obtain ⟨ps,rd10,e10⟩:∃ y rd,rdEach fltRd n' rd9=(y,rd):=⟨_,_,rfl⟩
 rw [e10] at pl hw
 dsimp only at pl hw
 have hC:cmRd rd0=({ cmHead k p f c m t with sc:=sc,lab:=lab,rows:=rows,grps:=gs,parts:=ps },rd10):=by
  rw [hcm]
  simp only [e1,e2,e3,e4,e5,e6,e7,e8,e9,e10,Int.toNat_natCast]
 clear hcm
 rw [e0] at hC
 have hdec:cmDec bs=if rdWhole rd10=true∧RightC { cmHead k p f c m t with sc:=sc,lab:=lab,rows:=rows,grps:=gs,parts:=ps } then ({ cmHead k p f c m t with sc:=sc,lab:=lab,rows:=rows,grps:=gs,parts:=ps },0) else (zeroC,6):=by unfold cmDec;rw [hC]
 obtain ⟨C,eC⟩:∃ C:Cm,C={ cmHead k p f c m t with sc:=sc,lab:=lab,rows:=rows,grps:=gs,parts:=ps }:=⟨_,rfl⟩
 refine ⟨sp,rfl,(hw.arr (Hs':=RdAt r rd10::brC b4 r::Own sp 33 (flts ps)::Own sg 3 (intsI gs)::cmC b { cmHead k p f c m t with sc:=sc,lab:=lab,rows:=rows,grps:=gs } sg nilSl::cmNew b2::Hs))|>tru2,NilP.mk rfl ?_⟩
 refine store_rule hw (by kernel_rfl) rfl (by simp [Value.cells]) fun w hw=>?_
 have hw:=hw.re (cmC b { cmHead k p f c m t with sc:=sc,lab:=lab,rows:=rows,grps:=gs,parts:=ps } sg sp)
 rw [←eC] at hdec hw
 have eg:C.grps=gs:=by rw [eC]
 have ep:C.parts=ps:=by rw [eC]
 rw [←eg] at hw gl
 rw [←ep] at hw pl
 clear eC hC eg ep e1 e2 e3 e4 e5 e6 e7 e8 e9 e10 b0 b1 b2' b3 b4' b5 b6 b7 b8' b9 l0 l1 l2 l3 l4 l5 l6
 have hw:Sat R (RdAt r rd10::brC b4 r::cmC b C sg sp::Own sp 33 (flts C.parts)::Own sg 3 (intsI C.grps)::cmNew b2::Hs) w:=hw.arr
 refine ⟨some ⟨r,0,none⟩,At.own (eqS hw) (by exact ⟨rfl,trivial⟩),?_⟩
 refine (whole_spec hw).use ?_
 clear hw
 rintro _ w ⟨rfl,hw⟩
 refine ⟨_,rfl,?_⟩
 have no:cmDec bs=(zeroC,6)→∀ {w},Sat R (cmNew b2::Hs) w→∃ sg sp:Sl,Value.tuple #[.agg (cmV zeroC nilSl nilSl).toArray,.int .i64 6]=.tuple #[.agg (cmV (cmDec bs).1 sg sp).toArray,.int .i64 (cmDec bs).2]∧Sat R (Own sg 3 (intsI (cmDec bs).1.grps)::Own sp 33 (flts (cmDec bs).1.parts)::Hs) w:=fun e {w} hw=>by
  rw [e]
  exact ⟨nilSl,nilSl,rfl,Own.nil (Own.nil hw.drop)⟩
 refine Br.nb (fun h=>?_) (fun h=>?_)
 ·have hw:Sat R (cmNew b2::Hs) w:=hw.drop.drop.drop.drop.drop
  refine store_rule hw (by kernel_rfl) rfl (by simp [Value.cells]) fun w hw=>?_
  have hw:=hw.re (cmNew b2)
  refine ⟨_,_,_,_,_,_,_,_,_,nilSl,nilSl,At.own (eqS hw) (by exact ⟨rfl,rfl,rfl,rfl,rfl,rfl,rfl,rfl,rfl,rfl,rfl,trivial⟩),no ?_ hw⟩
  rw [hdec,if_neg (by rintro ⟨h1,_⟩;rw [h1] at h;cases h)]
 refine NilP.mk rfl ⟨C.kind,C.pnr,C.flt,C.cls,C.many,C.time,C.sc,C.lab,C.rows,sg,sp,At.own (eqS hw) (by exact ⟨rfl,rfl,rfl,rfl,rfl,rfl,rfl,rfl,rfl,rfl,rfl,trivial⟩),?_⟩
 have hw:Sat R (Own sg 3 (intsI C.grps)::RdAt r rd10::brC b4 r::cmC b C sg sp::Own sp 33 (flts C.parts)::cmNew b2::Hs) w:=hw.arr
 have sl:=Own.len (hw.arr (Hs':=Own sp 33 (flts C.parts)::Own sg 3 (intsI C.grps)::RdAt r rd10::brC b4 r::cmC b C sg sp::cmNew b2::Hs))
 obtain ⟨R',hr,_,hw,back⟩:=Own.lendI hw (by omega)
 refine (bright_spec hr (by omega) (by simpa using sl) hw).use ?_
 clear hw
 rintro _ w ⟨rfl,hw⟩
 have hw:=back hw
 refine ⟨_,rfl,Br.nb (fun h2=>?_) (fun h2=>?_)⟩
 ·have hw:Sat R (cmNew b2::Hs) w:=hw.drop.drop.drop.drop.drop
  refine store_rule hw (by kernel_rfl) rfl (by simp [Value.cells]) fun w hw=>?_
  have hw:=hw.re (cmNew b2)
  refine ⟨_,_,_,_,_,_,_,_,_,nilSl,nilSl,At.own (eqS hw) (by exact ⟨rfl,rfl,rfl,rfl,rfl,rfl,rfl,rfl,rfl,rfl,rfl,trivial⟩),no ?_ hw⟩
  rw [hdec,if_neg (by rintro ⟨_,h1⟩;rw [decide_eq_true h1] at h2;cases h2)]
 refine NilP.mk rfl ⟨C.kind,C.pnr,C.flt,C.cls,C.many,C.time,C.sc,C.lab,C.rows,sg,sp,At.own (eqS hw) (by exact ⟨rfl,rfl,rfl,rfl,rfl,rfl,rfl,rfl,rfl,rfl,rfl,trivial⟩),?_⟩
 have hw:Sat R (cmNew b2::Own sg 3 (intsI C.grps)::RdAt r rd10::brC b4 r::cmC b C sg sp::Own sp 33 (flts C.parts)::Hs) w:=hw.arr
 refine store_rule hw (by kernel_rfl) rfl (by simp [Value.cells]) fun w hw=>?_
 have hw:=hw.re (cmC b2 C sg sp)
 refine ⟨C.kind,C.pnr,C.flt,C.cls,C.many,C.time,C.sc,C.lab,C.rows,sg,sp,At.own (eqS hw) (by exact ⟨rfl,rfl,rfl,rfl,rfl,rfl,rfl,rfl,rfl,rfl,rfl,trivial⟩),?_⟩
 rw [hdec,if_pos ⟨h,of_decide_eq_true h2⟩]
 exact ⟨sg,sp,rfl,hw.drop.cons fun _ h=>(h.arr (Hs':=Own sp 33 (flts C.parts)::RdAt r rd10::brC b4 r::cmC b C sg sp::Hs)).cons fun _ h=>h.drop.drop.drop⟩
end Go.Proofs.YtfgbbckfikiomaaGreatDoor
/- Package booking: Read. Condition: bounds on lengths. -/
namespace Go.Proofs.YtfgbbckfikiomaaGreatDoor
set_option linter.unusedVariables false
open Go Go.VC
open Classical
variable {R:Cx} {Hs Rest:List HP} {w:World}
abbrev rpHead (k:Int) (p:ByteArray) (s f c m t:Int):Rp:=⟨k,p,s,f,c,m,t,[],[]⟩
abbrev rpNew (b:Nat):HP:=rpC b (rpHead 0 (ByteArray.mk #[]) 0 0 0 0 0) nilSl nilSl
section
variable (S:World→Prop) (J:Option Addr→World→Prop) (b4 b:Nat) (r:Option Addr)
end
section
variable {J:Option Addr→World→Prop} {b4 b r:Nat} {rd:Rd} {k s f c m t:Int} {p:ByteArray}
end
end Go.Proofs.YtfgbbckfikiomaaGreatDoor

/- Reference 18: whether a command may be; steps of its codes. Condition: bounds on lengths. -/
namespace Go.Proofs.YtfgbbckfikiomaaGreatDoor
set_option linter.unusedVariables false
open Go Go.VC
open Classical
variable {R:Cx} {Hs Rest:List HP} {w:World}
set_option maxHeartbeats 400000 in
theorem r18right_spec {c:Cm} {sg sp:Sl} (hg:RoI R sg c.grps) (hgl:c.grps.length≤100000) (hp:sp.len=c.parts.length) (hw:Sat R Hs w):
  Gets Tryz.prog 62 #[.agg #[.int .i64 c.kind,.string c.pnr,.int .i64 c.flt,.int .i64 c.cls,.int .i64 c.many,.int .i64 c.time,.float .f64 c.sc,.string c.lab,.int .i64 c.rows,.slice sg.a sg.len sg.cap,.slice sp.a sp.len sp.cap]] w fun v w'=>v=.bool (decide (RightC c))∧Sat R Hs w':=by
 have hglen:=hg.len
 apply call62
 refine new_rule hw fun b w hw=>?_
 have hw:Sat R (cmC b c sg sp::Hs) w:=hw
 refine ⟨c.flt,At.own (eqS hw) (by exact ⟨rfl,trivial⟩),c.cls,At.own (eqS hw) (by exact ⟨rfl,trivial⟩),c.many,At.own (eqS hw) (by exact ⟨rfl,trivial⟩),c.rows,At.own (eqS hw) (by exact ⟨rfl,trivial⟩),?_⟩
 refine new_rule hw fun b2 w hw=>?_
 have hw:Sat R (Own ⟨some ⟨b2,0,none⟩,4,4⟩ 3 (intsI [c.flt,c.cls,c.many,c.rows])::cmC b c sg sp::Hs) w:=own_lit hw
 obtain ⟨L,hL⟩:∃ L,L=[c.flt,c.cls,c.many,c.rows]:=⟨_,rfl⟩
 have hLl:L.length=4:=by rw [hL];rfl
 rw [←hL] at hw
 have no:¬ RightC c→∀ {w},Sat R (Own ⟨some ⟨b2,0,none⟩,4,4⟩ 3 (intsI L)::cmC b c sg sp::Hs) w→(Value.bool false=.bool (decide (RightC c))∧Sat R Hs w):=fun h w hw=>⟨by rw [decide_eq_false h],hw.drop.drop⟩
 have bad:∀ n∈L,¬ numOk n→¬ RightC c:=fun n hn h hr=>h ((right_iff.1 hr).1 n (List.mem_append.2 (.inl (by rw [←hL];exact hn))))
 refine ⟨fun i w=>∃ k:Nat,i=k∧k≤4∧(∀ n∈L.take k,numOk n)∧Sat R (Own ⟨some ⟨b2,0,none⟩,4,4⟩ 3 (intsI L)::cmC b c sg sp::Hs) w,fun i _=>4 - i.toNat,⟨0,rfl,by omega,by simp,hw⟩,?_⟩
 clear hw
 rintro _ _ w ⟨k,rfl,hk,hok,hw⟩
 refine Br.d (fun h=>?_) (fun h=>?_)
 ·have hkx:k<L.length:=by omega
  refine Own.ix (s:=⟨some ⟨b2,0,none⟩,4,4⟩) hw (eqS hw) k rfl hkx ?_
  refine Br.d (fun h2=>no (bad _ (List.getElem_mem hkx) (by unfold numOk;omega)) hw) (fun h2=>?_)
  refine Own.ix (s:=⟨some ⟨b2,0,none⟩,4,4⟩) hw (eqS hw) k rfl hkx ?_
  refine Br.d (fun h3=>no (bad _ (List.getElem_mem hkx) (by unfold numOk;omega)) hw) (fun h3=>?_)
  rw [wrap64 (by omega) (by omega)]
  refine ⟨⟨k + 1,by omega,by omega,fun n hn=>?_,hw⟩,by dsimp only;omega⟩
  rw [List.take_add_one,List.getElem?_eq_getElem hkx] at hn
  rcases List.mem_append.1 hn with hn|hn
  ·exact hok n hn
  ·rw [show n=L[k] by simpa using hn]
   unfold numOk
   omega
 rw [List.take_of_length_le (by omega)] at hok
 refine ⟨fun w=>((1≤c.kind∧c.kind≤9∧0≤c.time∧c.time≤1099511627776)∧(c.pnr.size≤16∧c.lab.size≤16)∧(c.grps.length≤16∧c.parts.length≤16))∧Sat R (Own ⟨some ⟨b2,0,none⟩,4,4⟩ 3 (intsI L)::cmC b c sg sp::Hs) w,?_,?_⟩
 ·refine ⟨c.kind,At.own (eqS hw) (by exact ⟨rfl,trivial⟩),Br.d (fun h1=>no (fun hr=>by have:=hr.kind;omega) hw) (fun h1=>?_)⟩
  refine ⟨c.kind,At.own (eqS hw) (by exact ⟨rfl,trivial⟩),Br.d (fun h2=>no (fun hr=>by have:=hr.kind;omega) hw) (fun h2=>?_)⟩
  refine ⟨c.time,At.own (eqS hw) (by exact ⟨rfl,trivial⟩),Br.d (fun h3=>no (fun hr=>by have:=hr.time;omega) hw) (fun h3=>?_)⟩
  refine ⟨c.time,At.own (eqS hw) (by exact ⟨rfl,trivial⟩),Br.d (fun h4=>no (fun hr=>by have:=hr.time;omega) hw) (fun h4=>?_)⟩
  refine ⟨c.pnr,At.own (eqS hw) (by exact ⟨rfl,trivial⟩),Br.d (fun h5=>no (fun hr=>by have:=hr.pnr;omega) hw) (fun h5=>?_)⟩
  refine ⟨c.lab,At.own (eqS hw) (by exact ⟨rfl,trivial⟩),Br.d (fun h6=>no (fun hr=>by have:=hr.lab;omega) hw) (fun h6=>?_)⟩
  refine ⟨sg,At.own (eqS hw) (by exact ⟨rfl,trivial⟩),Br.d (fun h7=>no (fun hr=>by have:=hr.gl;omega) hw) (fun h7=>?_)⟩
  refine ⟨sp,At.own (eqS hw) (by exact ⟨rfl,trivial⟩),Br.d (fun h8=>no (fun hr=>by have:=hr.pl;omega) hw) (fun h8=>?_)⟩
  exact ⟨⟨⟨by omega,by omega,by omega,by omega⟩,⟨by omega,by omega⟩,by omega,by omega⟩,hw⟩
 clear hw h hk
 rintro _ w ⟨⟨h1,h2,h3⟩,hw⟩
 refine ⟨fun i w=>∃ k:Nat,i=k∧k≤c.grps.length∧(∀ n∈c.grps.take k,numOk n)∧Sat R (Own ⟨some ⟨b2,0,none⟩,4,4⟩ 3 (intsI L)::cmC b c sg sp::Hs) w,fun i _=>c.grps.length - i.toNat,⟨0,rfl,by omega,by simp,hw⟩,?_⟩
 clear hw
 rintro _ _ w ⟨k,rfl,hk,hok2,hw⟩
 have badg:∀ n∈c.grps,¬ numOk n→¬ RightC c:=fun n hn h hr=>h (hr.grps n hn)
 refine ⟨sg,At.own (eqS hw) (by exact ⟨rfl,trivial⟩),Br.d (fun h=>?_) (fun h=>?_)⟩
 ·have hkx:k<c.grps.length:=by omega
  refine ⟨sg,At.own (eqS hw) (by exact ⟨rfl,trivial⟩),Ro.ix hg (eqS hw) k rfl hkx ?_⟩
  refine Br.d (fun h2=>no (badg _ (List.getElem_mem hkx) (by unfold numOk;omega)) hw) (fun h2=>?_)
  refine ⟨sg,At.own (eqS hw) (by exact ⟨rfl,trivial⟩),Ro.ix hg (eqS hw) k rfl hkx ?_⟩
  refine Br.d (fun h3=>no (badg _ (List.getElem_mem hkx) (by unfold numOk;omega)) hw) (fun h3=>?_)
  rw [wrap64 (by omega) (by omega)]
  refine ⟨⟨k + 1,by omega,by omega,fun n hn=>?_,hw⟩,by dsimp only;omega⟩
  rw [List.take_add_one,List.getElem?_eq_getElem hkx] at hn
  rcases List.mem_append.1 hn with hn|hn
  ·exact hok2 n hn
  ·rw [show n=c.grps[k] by simpa using hn]
   unfold numOk
   omega
 ·rw [List.take_of_length_le (by omega)] at hok2
  refine ⟨?_,hw.drop.drop⟩
  rw [decide_eq_true]
  refine right_iff.2 ⟨fun n hn=>?_,h2,h3,h1⟩
  rcases List.mem_append.1 hn with hn|hn
  ·exact hok n (by rw [hL];exact hn)
  ·exact hok2 n hn
theorem app8 {s t:Sl} {a b:List Int} {K:Sl→World→Prop} (hl:a.length + b.length≤1099511627776) (hw:Sat R (Own t 5 (b8 b)::Own s 5 (b8 a)::Hs) w)
  (k:∀ s2 w',Sat R (Own s2 5 (b8 (a++b))::Hs) w'→K s2 w'):
  ∃ w_1:World,∃ t2:Sl,((Builtin.append_ #[ 42,42 ] 42 #[.slice s.a s.len s.cap,.slice t.a t.len t.cap]).run Tryz.prog w=.ok (.slice t2.a t2.len t2.cap) w_1)∧K t2 w_1:=
 appendOO elB8 (s:=s) (n:=1099511627776) Tryz.underlying42 hw.swap (by omega) (by omega) (by omega) fun s2 w hw=>k s2 w (hw.swap.drop)
theorem rlit_spec {b n:Nat} {xs:List Int} (hn:n=xs.length) (hxs:∀ x∈xs,x<9223372036854775808) (hl:9 * xs.length≤1099511627776) (hw:Sat R (pts b (.cells (intsI xs).toArray 3 (0,0))::Hs) w):
  Gets Tryz.prog 71 #[.slice (some ⟨b,0,none⟩) n n] w fun v w'=>∃ t:Sl,v=.slice t.a t.len t.cap∧Sat R (Own t 5 (b8 (numsB (xs.map nn)))::Hs) w':=by
 have hw:Sat R (Own ⟨some ⟨b,0,none⟩,n,n⟩ 3 (intsI xs)::Hs) w:=own_lit hw (by rw [List.length_map];exact hn)
 obtain ⟨R',hr,_,hw,back⟩:=Own.lendI hw (by omega)
 refine (r18nums_spec hxs hl hr hw).use ?_
 rintro _ w ⟨t,rfl,hw⟩
 exact ⟨_,rfl,t,rfl,(back hw).swap.cons fun _ h=>h.drop⟩
theorem rstr_rule {s:ByteArray} {K:Sl→World→Prop} (hl:s.size≤1099511627776) (hw:Sat R Hs w) (k:∀ t w',Sat R (Own t 5 (b8 (strB s))::Hs) w'→K t w'):
  ∃ w_1:World,∃ t:Sl,((convert 9 42 (.string s)).run Tryz.prog w=.ok (.slice t.a t.len t.cap) w_1)∧
   Calls Tryz.prog 72 #[.slice t.a t.len t.cap] w_1 fun e w_2=>∃ t2:Sl,(e=.returned (.slice t2.a t2.len t2.cap))∧K t2 w_2:=by
 refine convB_rule Tryz.underlying9 Tryz.underlying42 Tryz.underlying5 hw fun t w hw=>?_
 have hsz:=bytesL_len s
 obtain ⟨R',hr,_,hw,back⟩:=Own.lend hw (by rw [List.length_map];omega)
 refine (rtextB_spec hr (by omega) hw).use ?_
 rintro _ w ⟨t2,rfl,hw⟩
 exact ⟨t2,rfl,k _ _ ((back hw).swap.cons fun _ h=>h.drop)⟩
theorem rflt_rule {x:Nat} {K:Sl→World→Prop} (hx:x<18446744073709551616) (hw:Sat R Hs w) (k:∀ t w',Sat R (Own t 5 (b8 (fltB x))::Hs) w'→K t w'):
  Calls Tryz.prog 89 #[.float .f64 x] w fun e w'=>∃ y:Int,(e=.returned (.int .u64 y))∧
   Calls Tryz.prog 88 #[.int .u64 y] w' fun e w'=>∃ t2:Sl,(e=.returned (.slice t2.a t2.len t2.cap))∧K t2 w':=by
 refine (rkey_spec hx hw).use ?_
 rintro _ w ⟨rfl,hw⟩
 refine ⟨_,rfl,?_⟩
 refine (rnumber_spec (key_lt hx) hw).use ?_
 rintro _ w ⟨t,rfl,hw⟩
 exact ⟨t,rfl,k _ _ hw⟩
end Go.Proofs.YtfgbbckfikiomaaGreatDoor
/- Reference 18: Encode, Answer. Condition: bounds on lengths; words. -/
namespace Go.Proofs.YtfgbbckfikiomaaGreatDoor
set_option linter.unusedVariables false
open Go Go.VC
open Classical
variable {R:Cx} {Hs Rest:List HP} {w:World}
theorem nn2 {a b:Int} (h0:0≤a) (h1:0≤b):numsB ([a,b].map nn)=numsB [a]++numsB [b]:=by
 show numsB [nn a,nn b]=_
 rw [nn_id h0,nn_id h1,numsB_sp a]
set_option maxHeartbeats 1000000 in
theorem r18enc_spec {c:Cm} {sg sp:Sl} (hf:FltC c) (hg:RoI R sg c.grps) (hgl:c.grps.length≤100000) (hp:SlR R.m sp (flts c.parts)) (hpl:c.parts.length≤100000) (hw:Sat R Hs w):
  Gets Tryz.prog 30 #[.agg #[.int .i64 c.kind,.string c.pnr,.int .i64 c.flt,.int .i64 c.cls,.int .i64 c.many,.int .i64 c.time,.float .f64 c.sc,.string c.lab,.int .i64 c.rows,.slice sg.a sg.len sg.cap,.slice sp.a sp.len sp.cap]] w fun v w'=>
   (¬ RightC c∧v=.tuple #[.slice none 0 0,.int .i64 1]∧Sat R Hs w')∨(RightC c∧∃ t:Sl,v=.tuple #[.slice t.a t.len t.cap,.int .i64 0]∧Sat R (Own t 5 (b8 (cmB c))::Hs) w'):=by
 have hplen:sp.len=c.parts.length:=by have:=hp.len;simpa using this
 have hglen:=hg.len
 apply call30
 refine new_rule hw fun b w hw=>?_
 have hw:Sat R (cmC b c sg sp::Hs) w:=hw
 refine ⟨c.kind,c.pnr,c.flt,c.cls,c.many,c.time,c.sc,c.lab,c.rows,sg,sp,At.own (eqS hw) (by exact ⟨rfl,rfl,rfl,rfl,rfl,rfl,rfl,rfl,rfl,rfl,rfl,trivial⟩),?_⟩
 refine (r18right_spec hg hgl hplen hw).use ?_
 clear hw
 rintro _ w ⟨rfl,hw⟩
 refine ⟨_,rfl,Br.nd (fun hr=>.inl ⟨hr,rfl,hw.drop⟩) (fun hr=>?_)⟩
 have r1:=hr.flt
 have r2:=hr.cls
 have r3:=hr.many
 have r4:=hr.rows
 have r5:=hr.kind
 have r6:=hr.time
 have r7:=hr.pnr
 have r8:=hr.lab
 have r9:=hr.gl
 have r10:=hr.pl
 unfold numOk at r1 r2 r3 r4
 have l1:=nums1_len (x:=c.kind) (by omega)
 have l2:=strB_len (s:=c.pnr) (by omega)
 have l3:=nums1_len (x:=c.flt) (by omega)
 have l4:=nums1_len (x:=c.cls) (by omega)
 have l5:=nums1_len (x:=c.many) (by omega)
 have l6:=nums1_len (x:=c.time) (by omega)
 have l7:=fltB_len hf.sc
 have l8:=strB_len (s:=c.lab) (by omega)
 have l9:=nums1_len (x:=c.rows) (by omega)
 have l10:=nums1_len (x:=(c.grps.length:Int)) (by omega)
 have l11:=numsB_len (l:=c.grps) fun y hy=>by have:=hr.grps y hy;unfold numOk at this;omega
 have l12:=nums1_len (x:=(c.parts.length:Int)) (by omega)
 refine ⟨c.kind,At.own (eqS hw) (by exact ⟨rfl,trivial⟩),?_⟩
 refine new_rule hw fun b15 w hw=>?_
 refine (rlit_spec (xs:=[c.kind]) rfl (by simp;omega) (by simp) hw).use ?_
 clear hw
 rintro _ w ⟨t1,rfl,hw⟩
 refine ⟨t1,rfl,?_⟩
 rw [nn1 (by omega)] at hw
 refine ⟨c.pnr,At.own (eqS hw) (by exact ⟨rfl,trivial⟩),?_⟩
 refine rstr_rule (by omega) hw fun t2 w hw=>?_
 refine app8 (by omega) hw fun t1 w hw=>?_
 refine ⟨c.flt,At.own (eqS hw) (by exact ⟨rfl,trivial⟩),c.cls,At.own (eqS hw) (by exact ⟨rfl,trivial⟩),c.many,At.own (eqS hw) (by exact ⟨rfl,trivial⟩),c.time,At.own (eqS hw) (by exact ⟨rfl,trivial⟩),?_⟩
 refine new_rule hw fun b31 w hw=>?_
 refine (rlit_spec (xs:=[c.flt,c.cls,c.many,c.time]) rfl (by simp;omega) (by simp) hw).use ?_
 clear hw
 rintro _ w ⟨t2,rfl,hw⟩
 refine ⟨t2,rfl,?_⟩
 rw [nn4 (by omega) (by omega) (by omega) (by omega)] at hw
 refine app8 (by simp only [List.length_append];omega) hw fun t1 w hw=>?_
 refine ⟨c.sc,At.own (eqS hw) (by exact ⟨rfl,trivial⟩),?_⟩
 refine rflt_rule hf.sc hw fun t2 w hw=>?_
 refine app8 (by simp only [List.length_append];omega) hw fun t1 w hw=>?_
 refine ⟨c.lab,At.own (eqS hw) (by exact ⟨rfl,trivial⟩),?_⟩
 refine rstr_rule (by omega) hw fun t2 w hw=>?_
 refine app8 (by simp only [List.length_append];omega) hw fun t1 w hw=>?_
 refine ⟨c.rows,At.own (eqS hw) (by exact ⟨rfl,trivial⟩),sg,At.own (eqS hw) (by exact ⟨rfl,trivial⟩),?_⟩
 refine new_rule hw fun b46 w hw=>?_
 refine (rlit_spec (xs:=[c.rows,(sg.len:Int)]) rfl (by simp;omega) (by simp) hw).use ?_
 clear hw
 rintro _ w ⟨t2,rfl,hw⟩
 refine ⟨t2,rfl,?_⟩
 rw [nn2 (by omega) (by omega),show ((sg.len:Nat):Int)=(c.grps.length:Int) by omega] at hw
 refine app8 (by simp only [List.length_append];omega) hw fun t1 w hw=>?_
 refine ⟨sg,At.own (eqS hw) (by exact ⟨rfl,trivial⟩),?_⟩
 refine (r18nums_spec (xs:=c.grps) (fun y hy=>by have:=hr.grps y hy;unfold numOk at this;omega) (by omega) hg hw).use ?_
 clear hw
 rintro _ w ⟨t2,rfl,hw⟩
 refine ⟨t2,rfl,?_⟩
 rw [nn_map fun y hy=>(hr.grps y hy).1] at hw
 refine app8 (by simp only [List.length_append];omega) hw fun t1 w hw=>?_
 refine ⟨sp,At.own (eqS hw) (by exact ⟨rfl,trivial⟩),?_⟩
 refine new_rule hw fun b57 w hw=>?_
 refine (rlit_spec (xs:=[(sp.len:Int)]) rfl (by simp;omega) (by simp) hw).use ?_
 clear hw
 rintro _ w ⟨t2,rfl,hw⟩
 refine ⟨t2,rfl,?_⟩
 rw [nn1 (by omega),show ((sp.len:Nat):Int)=(c.parts.length:Int) by omega] at hw
 refine app8 (by simp only [List.length_append];omega) hw fun t1 w hw=>?_
 obtain ⟨B,hBl,hB,hw⟩:∃ B:List Int,B.length≤100000∧B++(c.parts.map fltB).flatten=cmB c∧Sat R (Own t1 5 (b8 B)::cmC b c sg sp::Hs) w:=
  ⟨_,by simp only [List.length_append];omega,by unfold cmB;simp only [List.append_assoc],hw⟩
 refine ⟨fun out i w=>∃ k:Nat,i=k∧k≤c.parts.length∧Sat R (Own out 5 (b8 (B++((c.parts.take k).map fltB).flatten))::cmC b c sg sp::Hs) w,fun _ i _=>c.parts.length - i.toNat,⟨0,rfl,by omega,by simpa using hw⟩,?_⟩
 clear hw
 rintro _ out _ w ⟨k,rfl,hk,hw⟩
 refine ⟨sp,At.own (eqS hw) (by exact ⟨rfl,trivial⟩),?_⟩
 refine Br.d (fun h=>?_) (fun h=>?_)
 ·have hkx:k<c.parts.length:=by omega
  have hfl:=flat_len (l:=c.parts.take k) (code:=fltB) (m:=9) fun x hx=>fltB_len (hf.parts x (List.mem_of_mem_take hx))
  rw [List.length_take] at hfl
  have hfk:=fltB_len (hf.parts _ (List.getElem_mem hkx))
  refine ⟨sp,At.own (eqS hw) (by exact ⟨rfl,trivial⟩),?_⟩
  refine Ro.ixF (hp.ro (by rw [List.length_map];omega)) (eqS hw) k rfl hkx ?_
  refine rflt_rule (hf.parts _ (List.getElem_mem hkx)) hw fun t2 w hw=>?_
  refine app8 (by rw [List.length_append];omega) hw fun t1 w hw=>?_
  rw [wrap64 (by omega) (by omega)]
  refine ⟨⟨k + 1,by omega,by omega,?_⟩,by dsimp only;omega⟩
  rw [List.take_add_one,List.getElem?_eq_getElem hkx,List.map_append,List.flatten_append,←List.append_assoc]
  simpa using hw
 ·rw [List.take_of_length_le (l:=c.parts) (by omega),hB] at hw
  exact .inr ⟨hr,out,rfl,hw.cons fun _ h=>h.drop⟩
end Go.Proofs.YtfgbbckfikiomaaGreatDoor
/- Reference 18: Decode. Condition: bounds on lengths. -/
namespace Go.Proofs.YtfgbbckfikiomaaGreatDoor
set_option linter.unusedVariables false
open Go Go.VC
open Classical
variable {R:Cx} {Hs Rest:List HP} {w:World}
theorem pushS_rule {P:Program} {t1 t2 ty T T':TypeId} {bytes:Nat} (E:El P t1 t2 T bytes) {R:Cx} {Hs:List HP} {w:World} {s:Sl} {xs:List Value} {x:Value} {K:Sl→World→Prop} {S:World→Prop}
  (hw:Sat R (Own s T xs::Hs) w) (h1:oneAll xs=true) (hx:x.oneCell'=true) (hb:2 * (xs.length + 1) * bytes≤281474976710656) (hb':xs.length + 1≤9223372036854775807)
  (hS:∀ A w,Sat R (A::Own s T xs::Hs) w→S w)
  (k:∀ s' w',Sat R (Own s' T (xs++[x])::Hs) w'→K s' w'):
  New (.cells #[x] T' (0,0)) (fun b w=>S w∧∃ w',∃ t:Sl,(Builtin.append_ #[t1,t2] ty #[.slice s.a s.len s.cap,.slice (some ⟨b,0,none⟩) 1 1]).run P w=.ok (.slice t.a t.len t.cap) w'∧K t w') w:=by
 refine new_rule hw fun b w hw=>⟨hS _ _ hw,?_⟩
 have hw:Sat R (pts b (.cells [x].toArray T' (0,0))::Own s T xs::Hs) w:=hw
 exact append_rule E hw.swap (Src_one E.hk 1 hw hx) h1 hb hb' fun s' w' h=>k s' w' h.swap.drop
theorem rrstr_rule {q:Nat} {s:Sl} {bs:List Int} {rd:Rd} {most:Int} {K:ByteArray→World→Prop} (hm:most<9223372036854775808) (hl:bs.length≤1099511627776) (hb:Bytes bs) (hs:SlR R.m s (b8 bs)) (hw:Sat R (RRdAt q s bs rd::Hs) w)
  (k:∀ w',Sat R (RRdAt q s bs (strRd most rd).2::Hs) w'→K (strRd most rd).1 w'):
  Calls Tryz.prog 85 #[.pointer (some ⟨q,0,none⟩),.int .i64 most] w fun e w'=>∃ t:Sl,(e=.returned (.slice t.a t.len t.cap))∧
   ∃ x:ByteArray,(∀ w2,(fun w''=>w''=w') w2→((convert 42 9 (.slice t.a t.len t.cap))).run Tryz.prog w2=.ok (.string x) w2)∧K x w':=by
 obtain ⟨n,⟨hn,hd⟩,_⟩:=Sat.rrd.1 hw
 have hrd:rd.bs.length≤bs.length:=by rw [←hd,List.length_drop];omega
 have htl:=rdText_len (most:=most) (rd:=rd)
 refine (rrtext_spec hm hl hb hs hw).use ?_
 rintro _ w ⟨t,rfl,hw⟩
 refine ⟨t,rfl,VC.strOf (rdText most rd).1,fun w' e=>?_,k _ hw.drop⟩
 rw [show w'=w from e]
 obtain ⟨R',hr,_,hw2,back⟩:=Own.lend hw (by rw [List.length_map];omega)
 exact convS_ro Tryz.underlying42 Tryz.underlying5 Tryz.underlying9 hw2 hr
theorem wrapN {x:Int} (h:0≤x) (h2:x<9223372036854775808):IntKind.i64.wrap x=x:=wrap64 (by omega) h2
theorem cmRd_eq (r:Rd):cmRd r=
 let k:=rdNum 9 r
 let p:=strRd 16 k.2
 let f:=rdNum 9999 p.2
 let c:=rdNum 9999 f.2
 let m:=rdNum 9999 c.2
 let t:=rdNum 1099511627776 m.2
 let s:=fltRd t.2
 let l:=strRd 16 s.2
 let w:=rdNum 9999 l.2
 let n:=rdNum 16 w.2
 let g:=rdEach (rdNum 9999) n.1.toNat n.2
 let q:=rdNum 16 g.2
 let x:=rdEach fltRd q.1.toNat q.2
 (⟨k.1,p.1,f.1,c.1,m.1,t.1,s.1,l.1,w.1,g.1,x.1⟩,x.2):=rfl
set_option maxHeartbeats 1000000 in
theorem r18dec_spec {s:Sl} {bs:List Int} (hb:Bytes bs) (hl:bs.length≤1099511627776) (hs:SlR R.m s (b8 bs)) (hw:Sat R Hs w):
  Gets Tryz.prog 32 #[.slice s.a s.len s.cap] w fun v w'=>∃ sg sp:Sl,v=.tuple #[.agg (cmV (cmDec bs).1 sg sp).toArray,.int .i64 (cmDec bs).2]∧Sat R (Own sg 3 (intsI (cmDec bs).1.grps)::Own sp 33 (flts (cmDec bs).1.parts)::Hs) w':=by
 apply call32
 have bb0:Bytes (⟨bs,false⟩:Rd).bs:=hb
 have hcm:=cmRd_eq ⟨bs,false⟩
 obtain ⟨rd0,e0⟩:∃ rd:Rd,rd=⟨bs,false⟩:=⟨_,rfl⟩
 rw [←e0] at bb0 hcm
 refine new_rule hw fun b2 w hw=>?_
 have hw:Sat R (cmNew b2::Hs) w:=hw
 refine new_rule hw fun q w hw=>?_
 have hw:Sat R (pts q (rrCells s 0 false)::cmNew b2::Hs) w:=hw
 have hw:Sat R (RRdAt q s bs ⟨bs,false⟩::cmNew b2::Hs) w:=Sat.rrd.2 ⟨0,⟨by omega,rfl⟩,hw⟩
 rw [←e0] at hw
 have bb1:=rdNum_bd (most:=9) bb0
 have v1:=rdNum_val (most:=9) bb0 (by omega)
 obtain ⟨k,rd1,e1⟩:∃ y rd,rdNum 9 rd0=(y,rd):=⟨_,_,rfl⟩
 refine (rrnum_spec (most:=9) hl hb hs hw).use ?_
 clear hw
 rintro _ w ⟨rfl,hw⟩
 rw [e1] at bb1 v1 hw ⊢
 dsimp only at bb1 v1 hw ⊢
 refine ⟨_,rfl,?_⟩
 rw [wrapN (x:=k) v1.1 (by omega)]
 have bb2:=strRd_bd (most:=16) bb1
 obtain ⟨p,rd2,e2⟩:∃ y rd,strRd 16 rd1=(y,rd):=⟨_,_,rfl⟩
 refine rrstr_rule (most:=16) (by omega) hl hb hs hw fun w hw=>?_
 rw [e2] at bb2 hw ⊢
 dsimp only at bb2 hw ⊢
 refine new_rule hw fun b w hw=>?_
 have hw:Sat R (cmNew b::RRdAt q s bs rd2::cmNew b2::Hs) w:=hw
 refine store_rule hw (by kernel_rfl) rfl (by simp [Value.cells]) fun w hw=>?_
 have hw:Sat R (RRdAt q s bs rd2::cmC b (cmHead k p 0 0 0 0) nilSl nilSl::cmNew b2::Hs) w:=(hw.re (cmC b (cmHead k p 0 0 0 0) nilSl nilSl)).arr
 have bb3:=rdNum_bd (most:=9999) bb2
 have v3:=rdNum_val (most:=9999) bb2 (by omega)
 obtain ⟨f,rd3,e3⟩:∃ y rd,rdNum 9999 rd2=(y,rd):=⟨_,_,rfl⟩
 refine (rrnum_spec (most:=9999) hl hb hs hw).use ?_
 clear hw
 rintro _ w ⟨rfl,hw⟩
 rw [e3] at bb3 v3 hw ⊢
 dsimp only at bb3 v3 hw ⊢
 refine ⟨_,rfl,?_⟩
 rw [wrapN (x:=f) v3.1 (by omega)]
 refine store_rule hw (by kernel_rfl) rfl (by simp [Value.cells]) fun w hw=>?_
 have hw:Sat R (RRdAt q s bs rd3::cmC b ({ cmHead k p 0 0 0 0 with flt:=f }) nilSl nilSl::cmNew b2::Hs) w:=(hw.re (cmC b ({ cmHead k p 0 0 0 0 with flt:=f }) nilSl nilSl)).arr
 have bb4:=rdNum_bd (most:=9999) bb3
 have v4:=rdNum_val (most:=9999) bb3 (by omega)
 obtain ⟨c,rd4,e4⟩:∃ y rd,rdNum 9999 rd3=(y,rd):=⟨_,_,rfl⟩
 refine (rrnum_spec (most:=9999) hl hb hs hw).use ?_
 clear hw
 rintro _ w ⟨rfl,hw⟩
 rw [e4] at bb4 v4 hw ⊢
 dsimp only at bb4 v4 hw ⊢
 refine ⟨_,rfl,?_⟩
 rw [wrapN (x:=c) v4.1 (by omega)]
 refine store_rule hw (by kernel_rfl) rfl (by simp [Value.cells]) fun w hw=>?_
 have hw:Sat R (RRdAt q s bs rd4::cmC b ({ cmHead k p 0 0 0 0 with flt:=f,cls:=c }) nilSl nilSl::cmNew b2::Hs) w:=(hw.re (cmC b ({ cmHead k p 0 0 0 0 with flt:=f,cls:=c }) nilSl nilSl)).arr
 have bb5:=rdNum_bd (most:=9999) bb4
 have v5:=rdNum_val (most:=9999) bb4 (by omega)
 obtain ⟨m,rd5,e5⟩:∃ y rd,rdNum 9999 rd4=(y,rd):=⟨_,_,rfl⟩
 refine (rrnum_spec (most:=9999) hl hb hs hw).use ?_
 clear hw
 rintro _ w ⟨rfl,hw⟩
 rw [e5] at bb5 v5 hw ⊢
 dsimp only at bb5 v5 hw ⊢
 refine ⟨_,rfl,?_⟩
 rw [wrapN (x:=m) v5.1 (by omega)]
 refine store_rule hw (by kernel_rfl) rfl (by simp [Value.cells]) fun w hw=>?_
 have hw:Sat R (RRdAt q s bs rd5::cmC b ({ cmHead k p 0 0 0 0 with flt:=f,cls:=c,many:=m }) nilSl nilSl::cmNew b2::Hs) w:=(hw.re (cmC b ({ cmHead k p 0 0 0 0 with flt:=f,cls:=c,many:=m }) nilSl nilSl)).arr
 have bb6:=rdNum_bd (most:=1099511627776) bb5
 have v6:=rdNum_val (most:=1099511627776) bb5 (by omega)
 obtain ⟨t,rd6,e6⟩:∃ y rd,rdNum 1099511627776 rd5=(y,rd):=⟨_,_,rfl⟩
 refine (rrnum_spec (most:=1099511627776) hl hb hs hw).use ?_
 clear hw
 rintro _ w ⟨rfl,hw⟩
 rw [e6] at bb6 v6 hw ⊢
 dsimp only at bb6 v6 hw ⊢
 refine ⟨_,rfl,?_⟩
 rw [wrapN (x:=t) v6.1 (by omega)]
 refine store_rule hw (by kernel_rfl) rfl (by simp [Value.cells]) fun w hw=>?_
 have hw:Sat R (RRdAt q s bs rd6::cmC b ({ cmHead k p 0 0 0 0 with flt:=f,cls:=c,many:=m,time:=t }) nilSl nilSl::cmNew b2::Hs) w:=(hw.re (cmC b ({ cmHead k p 0 0 0 0 with flt:=f,cls:=c,many:=m,time:=t }) nilSl nilSl)).arr
 have bb7:=fltRd_bd bb6
 obtain ⟨sc,rd7,e7⟩:∃ y rd,fltRd rd6=(y,rd):=⟨_,_,rfl⟩
 have v7:=rdNum_val (most:=18446744073709551615) bb6 (by omega)
 refine (rrnum_spec (most:=18446744073709551615) hl hb hs hw).use ?_
 clear hw
 rintro _ w ⟨rfl,hw⟩
 refine ⟨_,rfl,?_⟩
 obtain ⟨y7,hy7⟩:=Int.eq_ofNat_of_zero_le v7.1
 rw [hy7]
 refine (rof_spec (k:=y7) (by omega) hw).use ?_
 clear hw
 rintro _ w ⟨rfl,hw⟩
 have e7a:ofF y7=sc:=by have:=congrArg Prod.fst e7;dsimp only [fltRd] at this;rw [hy7,Int.toNat_natCast] at this;exact this
 have e7b:(rdNum 18446744073709551615 rd6).2=rd7:=congrArg Prod.snd e7
 rw [e7b] at hw
 rw [e7] at bb7
 dsimp only at bb7
 refine ⟨_,rfl,?_⟩
 rw [e7a]
 refine store_rule hw (by kernel_rfl) rfl (by simp [Value.cells]) fun w hw=>?_
 have hw:Sat R (RRdAt q s bs rd7::cmC b ({ cmHead k p 0 0 0 0 with flt:=f,cls:=c,many:=m,time:=t,sc:=sc }) nilSl nilSl::cmNew b2::Hs) w:=(hw.re (cmC b ({ cmHead k p 0 0 0 0 with flt:=f,cls:=c,many:=m,time:=t,sc:=sc }) nilSl nilSl)).arr
 have bb8:=strRd_bd (most:=16) bb7
 obtain ⟨lab,rd8,e8⟩:∃ y rd,strRd 16 rd7=(y,rd):=⟨_,_,rfl⟩
 refine rrstr_rule (most:=16) (by omega) hl hb hs hw fun w hw=>?_
 rw [e8] at bb8 hw ⊢
 dsimp only at bb8 hw ⊢
 refine store_rule hw (by kernel_rfl) rfl (by simp [Value.cells]) fun w hw=>?_
 have hw:Sat R (RRdAt q s bs rd8::cmC b ({ cmHead k p 0 0 0 0 with flt:=f,cls:=c,many:=m,time:=t,sc:=sc,lab:=lab }) nilSl nilSl::cmNew b2::Hs) w:=(hw.re (cmC b ({ cmHead k p 0 0 0 0 with flt:=f,cls:=c,many:=m,time:=t,sc:=sc,lab:=lab }) nilSl nilSl)).arr
 have bb9:=rdNum_bd (most:=9999) bb8
 have v9:=rdNum_val (most:=9999) bb8 (by omega)
 obtain ⟨rows,rd9,e9⟩:∃ y rd,rdNum 9999 rd8=(y,rd):=⟨_,_,rfl⟩
 refine (rrnum_spec (most:=9999) hl hb hs hw).use ?_
 clear hw
 rintro _ w ⟨rfl,hw⟩
 rw [e9] at bb9 v9 hw ⊢
 dsimp only at bb9 v9 hw ⊢
 refine ⟨_,rfl,?_⟩
 rw [wrapN (x:=rows) v9.1 (by omega)]
 refine store_rule hw (by kernel_rfl) rfl (by simp [Value.cells]) fun w hw=>?_
 have hw:Sat R (RRdAt q s bs rd9::cmC b ({ cmHead k p 0 0 0 0 with flt:=f,cls:=c,many:=m,time:=t,sc:=sc,lab:=lab,rows:=rows }) nilSl nilSl::cmNew b2::Hs) w:=(hw.re (cmC b ({ cmHead k p 0 0 0 0 with flt:=f,cls:=c,many:=m,time:=t,sc:=sc,lab:=lab,rows:=rows }) nilSl nilSl)).arr
 have bb10:=rdNum_bd (most:=16) bb9
 have v10:=rdNum_val (most:=16) bb9 (by omega)
 obtain ⟨n10,rd10,e10⟩:∃ y rd,rdNum 16 rd9=(y,rd):=⟨_,_,rfl⟩
 refine (rrnum_spec (most:=16) hl hb hs hw).use ?_
 clear hw
 rintro _ w ⟨rfl,hw⟩
 rw [e10] at bb10 v10 hw ⊢
 dsimp only at bb10 v10 hw ⊢
 refine ⟨_,rfl,?_⟩
 obtain ⟨n,rfl⟩:=Int.eq_ofNat_of_zero_le v10.1
 have inv:∀ k,Bytes (rdEach (rdNum 9999) k rd10).2.bs:=fun k=>(rdEach_inv (one:=rdNum 9999) (P:=fun r=>Bytes r.bs) (Q:=fun _=>True) (fun r hr=>⟨trivial,rdNum_bd hr⟩) k bb10).2
 refine ⟨fun i w=>∃ (j:Nat) (sg:Sl),i=j∧j≤n∧Sat R (RRdAt q s bs (rdEach (rdNum 9999) j rd10).2::cmC b ({ cmHead k p 0 0 0 0 with flt:=f,cls:=c,many:=m,time:=t,sc:=sc,lab:=lab,rows:=rows,grps:=(rdEach (rdNum 9999) j rd10).1 }) sg nilSl::Own sg 3 (intsI (rdEach (rdNum 9999) j rd10).1)::cmNew b2::Hs) w,fun i _=>n - i.toNat,⟨0,nilSl,rfl,by omega,show Sat R (RRdAt q s bs rd10::cmC b ({ cmHead k p 0 0 0 0 with flt:=f,cls:=c,many:=m,time:=t,sc:=sc,lab:=lab,rows:=rows,grps:=[] }) nilSl nilSl::Own nilSl 3 (intsI [])::cmNew b2::Hs) w from (show Sat R (Own nilSl 3 (intsI [])::RRdAt q s bs rd10::cmC b ({ cmHead k p 0 0 0 0 with flt:=f,cls:=c,many:=m,time:=t,sc:=sc,lab:=lab,rows:=rows,grps:=[] }) nilSl nilSl::cmNew b2::Hs) w from Own.nil hw).arr⟩,?_⟩
 clear hw
 rintro _ _ w ⟨j,sg,rfl,hj,hw⟩
 refine Br.d (fun h=>?_) (fun h=>?_)
 ·have gl:=rdEach_len (rdNum 9999) j rd10
  have bj:=inv j
  have hsn:=rdEach_snoc (rdNum 9999) j rd10
  have vj:=rdNum_val (most:=9999) bj (by omega)
  rw [wrapU64 (x:=(j:Int) + 1) (by omega) (by omega)]
  generalize (rdEach (rdNum 9999) j rd10).1=gs at *
  generalize (rdEach (rdNum 9999) j rd10).2=rdj at *
  refine drw_rule' (Sat R [cmC b ({ cmHead k p 0 0 0 0 with flt:=f,cls:=c,many:=m,time:=t,sc:=sc,lab:=lab,rows:=rows,grps:=gs }) sg nilSl,VC.tru]) hw (fun w hw=>tru2 hw) fun w hw=>?_
  refine ⟨sg,At.own (fun _ h=>h) (by exact ⟨rfl,trivial⟩),?_⟩
  refine (rrnum_spec (most:=9999) hl hb hs hw).use ?_
  clear hw
  rintro _ w ⟨rfl,hw⟩
  refine ⟨_,rfl,tru2 hw,?_⟩
  rw [wrapN vj.1 (by omega)]
  have hw:Sat R (Own sg 3 (intsI gs)::cmC b ({ cmHead k p 0 0 0 0 with flt:=f,cls:=c,many:=m,time:=t,sc:=sc,lab:=lab,rows:=rows,grps:=gs }) sg nilSl::RRdAt q s bs (rdNum 9999 rdj).2::cmNew b2::Hs) w:=hw.arr
  refine pushS_rule elI8 hw (by unfold oneAll;simp [Value.oneCell']) rfl (by rw [List.length_map];omega) (by rw [List.length_map];omega) (fun A w hw=>(hw.arr (Hs':=cmC b ({ cmHead k p 0 0 0 0 with flt:=f,cls:=c,many:=m,time:=t,sc:=sc,lab:=lab,rows:=rows,grps:=gs }) sg nilSl::A::Own sg 3 (intsI gs)::RRdAt q s bs (rdNum 9999 rdj).2::cmNew b2::Hs)).restTru2) fun sg' w hw=>?_
  refine store_rule hw (by kernel_rfl) rfl (by simp [Value.cells]) fun w hw=>?_
  have hw:=hw.re (cmC b ({ cmHead k p 0 0 0 0 with flt:=f,cls:=c,many:=m,time:=t,sc:=sc,lab:=lab,rows:=rows,grps:=gs++[(rdNum 9999 rdj).1] }) sg' nilSl)
  refine ⟨⟨j + 1,sg',by omega,by omega,?_⟩,by dsimp only;omega⟩
  rw [hsn]
  simp only [List.map_append,List.map_cons,List.map_nil] at hw ⊢
  exact hw.arr
 have hjn:j=n:=by omega
 subst hjn
 have gl:=rdEach_len (rdNum 9999) j rd10
 have bb11:=inv j
 clear inv
 obtain ⟨gs,rd11,e11⟩:∃ y rd,rdEach (rdNum 9999) j rd10=(y,rd):=⟨_,_,rfl⟩
 rw [e11] at gl bb11 hw
 dsimp only at gl bb11 hw
 have bb12:=rdNum_bd (most:=16) bb11
 have v12:=rdNum_val (most:=16) bb11 (by omega)
 obtain ⟨n12,rd12,e12⟩:∃ y rd,rdNum 16 rd11=(y,rd):=⟨_,_,rfl⟩
 refine (rrnum_spec (most:=16) hl hb hs hw).use ?_
 clear hw
 rintro _ w ⟨rfl,hw⟩
 rw [e12] at bb12 v12 hw ⊢
 dsimp only at bb12 v12 hw ⊢
 refine ⟨_,rfl,?_⟩
 obtain ⟨n,rfl⟩:=Int.eq_ofNat_of_zero_le v12.1
 have inv:∀ k,Bytes (rdEach fltRd k rd12).2.bs:=fun k=>(rdEach_inv (one:=fltRd) (P:=fun r=>Bytes r.bs) (Q:=fun _=>True) (fun r hr=>⟨trivial,fltRd_bd hr⟩) k bb12).2
 refine ⟨fun i w=>∃ (j:Nat) (sp:Sl),i=j∧j≤n∧Sat R (RRdAt q s bs (rdEach fltRd j rd12).2::cmC b ({ cmHead k p 0 0 0 0 with flt:=f,cls:=c,many:=m,time:=t,sc:=sc,lab:=lab,rows:=rows,grps:=gs,parts:=(rdEach fltRd j rd12).1 }) sg sp::Own sg 3 (intsI gs)::Own sp 33 (flts (rdEach fltRd j rd12).1)::cmNew b2::Hs) w,fun i _=>n - i.toNat,⟨0,nilSl,rfl,by omega,show Sat R (RRdAt q s bs rd12::cmC b ({ cmHead k p 0 0 0 0 with flt:=f,cls:=c,many:=m,time:=t,sc:=sc,lab:=lab,rows:=rows,grps:=gs,parts:=[] }) sg nilSl::Own sg 3 (intsI gs)::Own nilSl 33 (flts [])::cmNew b2::Hs) w from (show Sat R (Own nilSl 33 (flts [])::RRdAt q s bs rd12::cmC b ({ cmHead k p 0 0 0 0 with flt:=f,cls:=c,many:=m,time:=t,sc:=sc,lab:=lab,rows:=rows,grps:=gs,parts:=[] }) sg nilSl::Own sg 3 (intsI gs)::cmNew b2::Hs) w from Own.nil hw).arr⟩,?_⟩
 clear hw
 rintro _ _ w ⟨i,sp,rfl,hi,hw⟩
 refine Br.d (fun h=>?_) (fun h=>?_)
 ·have pl:=rdEach_len fltRd i rd12
  have bj:=inv i
  have hsn:=rdEach_snoc fltRd i rd12
  have vj:=rdNum_val (most:=18446744073709551615) bj (by omega)
  rw [wrapU64 (x:=(i:Int) + 1) (by omega) (by omega)]
  generalize (rdEach fltRd i rd12).1=ps at *
  generalize (rdEach fltRd i rd12).2=rdj at *
  refine drw_rule' (Sat R [cmC b ({ cmHead k p 0 0 0 0 with flt:=f,cls:=c,many:=m,time:=t,sc:=sc,lab:=lab,rows:=rows,grps:=gs,parts:=ps }) sg sp,VC.tru]) hw (fun w hw=>tru2 hw) fun w hw=>?_
  refine ⟨sp,At.own (fun _ h=>h) (by exact ⟨rfl,trivial⟩),?_⟩
  refine (rrnum_spec (most:=18446744073709551615) hl hb hs hw).use ?_
  clear hw
  rintro _ w ⟨rfl,hw⟩
  refine ⟨_,rfl,tru2 hw,?_⟩
  obtain ⟨y,hy⟩:=Int.eq_ofNat_of_zero_le vj.1
  rw [hy]
  refine (rof_spec (k:=y) (by omega) hw).use ?_
  clear hw
  rintro _ w ⟨rfl,hw⟩
  refine ⟨_,rfl,tru2 hw,?_⟩
  have hw:Sat R (RRdAt q s bs (fltRd rdj).2::cmC b ({ cmHead k p 0 0 0 0 with flt:=f,cls:=c,many:=m,time:=t,sc:=sc,lab:=lab,rows:=rows,grps:=gs,parts:=ps }) sg sp::Own sg 3 (intsI gs)::Own sp 33 (flts ps)::cmNew b2::Hs) w:=hw
  have hw:Sat R (Own sp 33 (flts ps)::cmC b ({ cmHead k p 0 0 0 0 with flt:=f,cls:=c,many:=m,time:=t,sc:=sc,lab:=lab,rows:=rows,grps:=gs,parts:=ps }) sg sp::RRdAt q s bs (fltRd rdj).2::Own sg 3 (intsI gs)::cmNew b2::Hs) w:=hw.arr
  have ey:ofF y=(fltRd rdj).1:=by show _=ofF _;rw [hy,Int.toNat_natCast]
  rw [ey]
  refine pushS_rule elFl hw (oneAll_fl _) rfl (by rw [List.length_map];omega) (by rw [List.length_map];omega) (fun A w hw=>(hw.arr (Hs':=cmC b ({ cmHead k p 0 0 0 0 with flt:=f,cls:=c,many:=m,time:=t,sc:=sc,lab:=lab,rows:=rows,grps:=gs,parts:=ps }) sg sp::A::Own sp 33 (flts ps)::RRdAt q s bs (fltRd rdj).2::Own sg 3 (intsI gs)::cmNew b2::Hs)).restTru2) fun sp' w hw=>?_
  refine store_rule hw (by kernel_rfl) rfl (by simp [Value.cells]) fun w hw=>?_
  have hw:=hw.re (cmC b ({ cmHead k p 0 0 0 0 with flt:=f,cls:=c,many:=m,time:=t,sc:=sc,lab:=lab,rows:=rows,grps:=gs,parts:=ps++[(fltRd rdj).1] }) sg sp')
  refine ⟨⟨i + 1,sp',by omega,by omega,?_⟩,by dsimp only;omega⟩
  rw [hsn]
  have e:flts ps++[Value.float .f64 (fltRd rdj).1]=flts (ps++[(fltRd rdj).1]):=by simp
  rw [e] at hw
  exact hw.arr
 have hin:i=n:=by omega
 subst hin
 have pl:=rdEach_len fltRd i rd12
 clear inv
 obtain ⟨ps,rd13,e13⟩:∃ y rd,rdEach fltRd i rd12=(y,rd):=⟨_,_,rfl⟩
 rw [e13] at pl hw
 dsimp only at pl hw
 have hC:cmRd rd0=({ cmHead k p 0 0 0 0 with flt:=f,cls:=c,many:=m,time:=t,sc:=sc,lab:=lab,rows:=rows,grps:=gs,parts:=ps },rd13):=by
  rw [hcm]
  simp only [e1,e2,e3,e4,e5,e6,e7,e8,e9,e10,e11,e12,e13,Int.toNat_natCast]
 clear hcm
 rw [e0] at hC
 have hdec:cmDec bs=if rdWhole rd13=true∧RightC ({ cmHead k p 0 0 0 0 with flt:=f,cls:=c,many:=m,time:=t,sc:=sc,lab:=lab,rows:=rows,grps:=gs,parts:=ps }) then ({ cmHead k p 0 0 0 0 with flt:=f,cls:=c,many:=m,time:=t,sc:=sc,lab:=lab,rows:=rows,grps:=gs,parts:=ps },0) else (zeroC,6):=by unfold cmDec;rw [hC]
 obtain ⟨C,eC⟩:∃ C:Cm,C={ cmHead k p 0 0 0 0 with flt:=f,cls:=c,many:=m,time:=t,sc:=sc,lab:=lab,rows:=rows,grps:=gs,parts:=ps }:=⟨_,rfl⟩
 rw [←eC] at hdec hw
 have eg:C.grps=gs:=by rw [eC]
 have ep:C.parts=ps:=by rw [eC]
 rw [←eg] at hw gl
 rw [←ep] at hw pl
 clear eC hC eg ep e1 e2 e3 e4 e5 e6 e7 e8 e9 e10 e11 e12 e13
 refine (rrwhole_spec hs hw).use ?_
 clear hw
 rintro _ w ⟨rfl,hw⟩
 refine ⟨_,rfl,C.kind,C.pnr,C.flt,C.cls,C.many,C.time,C.sc,C.lab,C.rows,sg,sp,At.own (eqS hw) (by exact ⟨rfl,rfl,rfl,rfl,rfl,rfl,rfl,rfl,rfl,rfl,rfl,trivial⟩),?_⟩
 have hw:Sat R (Own sg 3 (intsI C.grps)::RRdAt q s bs rd13::cmC b C sg sp::Own sp 33 (flts C.parts)::cmNew b2::Hs) w:=hw.arr
 have sl:=Own.len (hw.arr (Hs':=Own sp 33 (flts C.parts)::Own sg 3 (intsI C.grps)::RRdAt q s bs rd13::cmC b C sg sp::cmNew b2::Hs))
 obtain ⟨R',hr,_,hw,back⟩:=Own.lendI hw (by omega)
 refine (r18right_spec hr (by omega) (by simpa using sl) hw).use ?_
 clear hw
 rintro _ w ⟨rfl,hw⟩
 have hw:=back hw
 refine ⟨_,rfl,?_⟩
 have no:cmDec bs=(zeroC,6)→∀ {w},Sat R (cmNew b2::Hs) w→∃ sg sp:Sl,Value.tuple #[.agg (cmV zeroC nilSl nilSl).toArray,.int .i64 6]=.tuple #[.agg (cmV (cmDec bs).1 sg sp).toArray,.int .i64 (cmDec bs).2]∧Sat R (Own sg 3 (intsI (cmDec bs).1.grps)::Own sp 33 (flts (cmDec bs).1.parts)::Hs) w:=fun e {w} hw=>by
  rw [e]
  exact ⟨nilSl,nilSl,rfl,Own.nil (Own.nil hw.drop)⟩
 refine Br.nb (fun h=>?_) (fun h=>Br.nb (fun h2=>?_) (fun h2=>?_))
 ·have hw:Sat R (cmNew b2::Hs) w:=hw.drop.drop.drop.drop
  refine store_rule hw (by kernel_rfl) rfl (by simp [Value.cells]) fun w hw=>?_
  have hw:=hw.re (cmNew b2)
  refine ⟨_,_,_,_,_,_,_,_,_,nilSl,nilSl,At.own (eqS hw) (by exact ⟨rfl,rfl,rfl,rfl,rfl,rfl,rfl,rfl,rfl,rfl,rfl,trivial⟩),no ?_ hw⟩
  rw [hdec,if_neg (by rintro ⟨h1,_⟩;rw [h1] at h;cases h)]
 ·have hw:Sat R (cmNew b2::Hs) w:=hw.drop.drop.drop.drop
  refine store_rule hw (by kernel_rfl) rfl (by simp [Value.cells]) fun w hw=>?_
  have hw:=hw.re (cmNew b2)
  refine ⟨_,_,_,_,_,_,_,_,_,nilSl,nilSl,At.own (eqS hw) (by exact ⟨rfl,rfl,rfl,rfl,rfl,rfl,rfl,rfl,rfl,rfl,rfl,trivial⟩),no ?_ hw⟩
  rw [hdec,if_neg (by rintro ⟨_,h1⟩;rw [decide_eq_true h1] at h2;cases h2)]
 refine ⟨C.kind,C.pnr,C.flt,C.cls,C.many,C.time,C.sc,C.lab,C.rows,sg,sp,At.own (eqS hw) (by exact ⟨rfl,rfl,rfl,rfl,rfl,rfl,rfl,rfl,rfl,rfl,rfl,trivial⟩),?_⟩
 have hw:Sat R (cmNew b2::Own sg 3 (intsI C.grps)::RRdAt q s bs rd13::cmC b C sg sp::Own sp 33 (flts C.parts)::Hs) w:=hw.arr
 refine store_rule hw (by kernel_rfl) rfl (by simp [Value.cells]) fun w hw=>?_
 have hw:=hw.re (cmC b2 C sg sp)
 refine ⟨C.kind,C.pnr,C.flt,C.cls,C.many,C.time,C.sc,C.lab,C.rows,sg,sp,At.own (eqS hw) (by exact ⟨rfl,rfl,rfl,rfl,rfl,rfl,rfl,rfl,rfl,rfl,rfl,trivial⟩),?_⟩
 rw [hdec,if_pos ⟨h,of_decide_eq_true h2⟩]
 exact ⟨sg,sp,rfl,hw.drop.cons fun _ h=>(h.arr (Hs':=Own sp 33 (flts C.parts)::RRdAt q s bs rd13::cmC b C sg sp::Hs)).cons fun _ h=>h.drop.drop⟩
end Go.Proofs.YtfgbbckfikiomaaGreatDoor

/- The formulas of functions of this seat's translation, printed by a program of mine off the translation; each is proved equal to 'fnF' of the function's body, so it is enough for the call. No condition. -/
namespace Go.Proofs.YtfgbbckfikiomaaGreatDoor
open Go Go.VC
set_option linter.unusedVariables false
set_option maxRecDepth 10000
def B12  (K:Value→World→Prop) (w:World):Prop:=
 Calls Tryz.prog 14 #[] w fun I G=>
 ∃ l:Option Addr,(I=.returned (.pointer l))∧
 Br l.isNone
 (K (.bool false) G)
 (Calls Tryz.prog 38 #[] G fun J M=>
 ∃ o:Int,∃ p:ByteArray,∃ q:Int,∃ r:Int,∃ s:Int,∃ t:Int,∃ u:Nat,∃ v:ByteArray,∃ x:Int,∃ e:Sl,∃ d:Sl,(J=.returned (.agg #[.int .i64 o,.string p,.int .i64 q,.int .i64 r,.int .i64 s,.int .i64 t,.float .f64 u,.string v,.int .i64 x,.slice e.a e.len e.cap,.slice d.a d.len d.cap]))∧
 Calls Tryz.prog 15 #[.pointer l,.agg #[.int .i64 o,.string p,.int .i64 q,.int .i64 r,.int .i64 s,.int .i64 t,.float .f64 u,.string v,.int .i64 x,.slice e.a e.len e.cap,.slice d.a d.len d.cap]] M fun L N=>
 ∃ y:Int,∃ z:ByteArray,∃ A:Int,∃ C:Int,∃ D:Int,∃ E:Int,∃ F:Int,∃ f:Sl,∃ g:Sl,(L=.returned (.agg #[.int .i64 y,.string z,.int .i64 A,.int .i64 C,.int .i64 D,.int .i64 E,.int .i64 F,.slice f.a f.len f.cap,.slice g.a g.len g.cap]))∧
 New (.cells #[.int .i64 0,.string (ByteArray.mk #[]),.int .i64 0,.int .i64 0,.int .i64 0,.int .i64 0,.int .i64 0,.slice none 0 0,.slice none 0 0] 31 (0,0)) (fun j O=>
 ∃ b:World,((Instr.storeAt 31 (.pointer ((some ⟨j,0,none⟩))) (.agg #[.int .i64 y,.string z,.int .i64 A,.int .i64 C,.int .i64 D,.int .i64 E,.int .i64 F,.slice f.a f.len f.cap,.slice g.a g.len g.cap])).run Tryz.prog O=.ok () b)∧
 ∃ m:Int,(At (fun c=>c=b) ⟨j,0,none⟩ [.int .i64 m])∧
 Br (m==0)
 (∃ k:Sl,(At (fun c=>c=b) ⟨j,0 + 7,none⟩ [.slice k.a k.len k.cap])∧
 Br ((↑k.len:Int)==1)
 (∃ i:Sl,(At (fun c=>c=b) ⟨j,0 + 7,none⟩ [.slice i.a i.len i.cap])∧
 Rng 0 i.len (NilP i.a fun H=>
 ∃ n:Int,(At (fun c=>c=b) (Addr.add H 0) [.int .i64 n])∧
 K (.bool (n==2)) b))
 (K (.bool false) b))
 (K (.bool false) b)) N)
theorem call12  (K:Value→World→Prop) (w:World) (h:B12  K w):Gets Tryz.prog 12 #[] w K:=cq (sk:=.leaf) Tryz.func12 (by kernel_rfl) (by kernel_rfl) (by kernel_rfl) h
def B38  (K:Value→World→Prop) (w:World):Prop:=
 New (.cells #[.int .i64 0,.string (ByteArray.mk #[]),.int .i64 0,.int .i64 0,.int .i64 0,.int .i64 0,.float .f64 0,.string (ByteArray.mk #[]),.int .i64 0,.slice none 0 0,.slice none 0 0] 38 (0,0)) (fun e s=>
 New (.cells #[.int .i64 2] 3 (0,0)) (fun p t=>
 New (.cells #[.float .f64 4607182418800017408] 33 (0,0)) (fun q u=>
 ∃ d:World,((Instr.storeAt 38 (.pointer ((some ⟨e,0,none⟩))) (.agg #[.int .i64 1,.string (ByteArray.mk #[]),.int .i64 7,.int .i64 0,.int .i64 0,.int .i64 0,.float .f64 0,.string (ByteArray.mk #[]),.int .i64 1,.slice ((some ⟨p,0,none⟩)) 1 1,.slice ((some ⟨q,0,none⟩)) 1 1])).run Tryz.prog u=.ok () d)∧
 ∃ f:Int,∃ g:ByteArray,∃ i:Int,∃ j:Int,∃ k:Int,∃ l:Int,∃ m:Nat,∃ n:ByteArray,∃ o:Int,∃ c:Sl,∃ b:Sl,(At (fun r=>r=d) ⟨e,0,none⟩ [.int .i64 f,.string g,.int .i64 i,.int .i64 j,.int .i64 k,.int .i64 l,.float .f64 m,.string n,.int .i64 o,.slice c.a c.len c.cap,.slice b.a b.len b.cap])∧
 K (.agg #[.int .i64 f,.string g,.int .i64 i,.int .i64 j,.int .i64 k,.int .i64 l,.float .f64 m,.string n,.int .i64 o,.slice c.a c.len c.cap,.slice b.a b.len b.cap]) d) t) s) w
theorem call38  (K:Value→World→Prop) (w:World) (h:B38  K w):Gets Tryz.prog 38 #[] w K:=cq (sk:=.leaf) Tryz.func38 (by kernel_rfl) (by kernel_rfl) (by kernel_rfl) h
def B13 (d:Sl) (K:Value→World→Prop) (w:World):Prop:=
 ∃ (j:Int→World→Prop) (r:Int→World→Nat),(j 0 w)∧∀ (s:Env) (b:Int) (f:World),j b f→
 ∃ (k:World→Prop),(Br (decide (b<(↑d.len:Int)))
 (Br (decide (b<400))
 (k  f)
 (K (.bool false) f))
 (K (.bool false) f))∧
 ∀ (t:Env)  (c:World),k  c→
 Rng b d.len (NilP d.a fun l=>
 ∃ g:Sl,(At (fun e=>e=c) ⟨(l.add (mulS b.toNat 11)).block,(l.add (mulS b.toNat 11)).off + 8 + 1,none⟩ [.slice g.a g.len g.cap])∧
 Br (decide ((↑g.len:Int)>100))
 (K (.bool true) c)
 (Rng b d.len (NilP d.a fun m=>
 ∃ i:Sl,(At (fun e=>e=c) ⟨(m.add (mulS b.toNat 11)).block,(m.add (mulS b.toNat 11)).off + 10,none⟩ [.slice i.a i.len i.cap])∧
 Br (decide ((↑i.len:Int)>100))
 (K (.bool true) c)
 (Rng b d.len (NilP d.a fun n=>
 ∃ p:ByteArray,(At (fun e=>e=c) ⟨(n.add (mulS b.toNat 11)).block,(n.add (mulS b.toNat 11)).off + 1,none⟩ [.string p])∧
 Br (decide ((↑p.size:Int)>1000))
 (K (.bool true) c)
 (Rng b d.len (NilP d.a fun o=>
 ∃ q:ByteArray,(At (fun e=>e=c) ⟨(o.add (mulS b.toNat 11)).block,(o.add (mulS b.toNat 11)).off + 7,none⟩ [.string q])∧
 Br (decide ((↑q.size:Int)>1000))
 (K (.bool true) c)
 ((j (IntKind.i64.wrap (b + 1)) c)∧r (IntKind.i64.wrap (b + 1)) c<r b f))))))))
def sk13:Sk:=(.seq .leaf (.seq (.seq .leaf (.block (.loop [3] [(.int .i64)] [2,3,4,5,6,7,8,9,10,11,12,13,14,15,16,17,18,19,20,21,22,23,24,25,26,27,28,29,30,31,32,33,34,35,36,37,38,39,40,41,42,43,44,45,46,47,48] (.cut [] [] [4,5,6,7,8,9,10,11] .leaf .leaf)))) .leaf))
theorem call13 (b:Sl) (K:Value→World→Prop) (w:World) (h:B13 b K w):Gets Tryz.prog 13 #[.slice b.a b.len b.cap] w K:=cq (sk:=sk13) Tryz.func13 (by kernel_rfl) (by kernel_rfl) (by kernel_rfl) h
def B8 (b2:Int) (b3:ByteArray) (b4:Int) (b5:Int) (b6:Int) (b7:Int) (b8:Nat) (b9:ByteArray) (ca:Int) (C:Sl) (A:Sl) (c:Sl) (K:Value→World→Prop) (w:World):Prop:=
 New (.cells #[.int .i64 b2,.string b3,.int .i64 b4,.int .i64 b5,.int .i64 b6,.int .i64 b7,.float .f64 b8,.string b9,.int .i64 ca,.slice C.a C.len C.cap,.slice A.a A.len A.cap] 38 (0,0)) (fun z ci=>
 Calls Tryz.prog 12 #[] ci fun cb bz=>
 ∃ v:Bool,(cb=.returned (.bool v))∧
 ∃ H:Int,∃ I:ByteArray,∃ J:Int,∃ L:Int,∃ M:Int,∃ N:Int,∃ O:Nat,∃ Q:ByteArray,∃ T:Int,∃ e:Sl,∃ d:Sl,(At (fun b=>b=bz) ⟨z,0,none⟩ [.int .i64 H,.string I,.int .i64 J,.int .i64 L,.int .i64 M,.int .i64 N,.float .f64 O,.string Q,.int .i64 T,.slice e.a e.len e.cap,.slice d.a d.len d.cap])∧
 New (.cells #[.int .i64 H,.string I,.int .i64 J,.int .i64 L,.int .i64 M,.int .i64 N,.float .f64 O,.string Q,.int .i64 T,.slice e.a e.len e.cap,.slice d.a d.len d.cap] 38 (0,0)) (fun b1 cl=>
 Calls Tryz.prog 13 #[.slice ((some ⟨b1,0,none⟩)) 1 1] cl fun cc y=>
 ∃ U:Bool,(cc=.returned (.bool U))∧
 ∃ (E:World→Prop),(Br (!v)
 (K (.bool v) y)
 (Br U
 (K (.bool v) y)
 (Br (decide ((↑c.len:Int)>20000))
 (K (.bool v) y)
 (E  y))))∧
 ∀ (cp:Env)  (D:World),E  D→
 ∃ V:Int,∃ X:ByteArray,∃ Y:Int,∃ Z:Int,∃ aa:Int,∃ ab:Int,∃ ac:Nat,∃ ad:ByteArray,∃ ae:Int,∃ g:Sl,∃ f:Sl,(At (fun b=>b=D) ⟨z,0,none⟩ [.int .i64 V,.string X,.int .i64 Y,.int .i64 Z,.int .i64 aa,.int .i64 ab,.float .f64 ac,.string ad,.int .i64 ae,.slice g.a g.len g.cap,.slice f.a f.len f.cap])∧
 Calls Tryz.prog 29 #[.agg #[.int .i64 V,.string X,.int .i64 Y,.int .i64 Z,.int .i64 aa,.int .i64 ab,.float .f64 ac,.string ad,.int .i64 ae,.slice g.a g.len g.cap,.slice f.a f.len f.cap]] D fun cd b0=>
 ∃ i:Sl,∃ af:Int,(cd=.returned (.tuple #[.slice i.a i.len i.cap,.int .i64 af]))∧
 ∃ ag:Int,∃ ah:ByteArray,∃ ai:Int,∃ aj:Int,∃ ak:Int,∃ al:Int,∃ am:Nat,∃ an:ByteArray,∃ ao:Int,∃ k:Sl,∃ j:Sl,(At (fun b=>b=b0) ⟨z,0,none⟩ [.int .i64 ag,.string ah,.int .i64 ai,.int .i64 aj,.int .i64 ak,.int .i64 al,.float .f64 am,.string an,.int .i64 ao,.slice k.a k.len k.cap,.slice j.a j.len j.cap])∧
 Calls Tryz.prog 30 #[.agg #[.int .i64 ag,.string ah,.int .i64 ai,.int .i64 aj,.int .i64 ak,.int .i64 al,.float .f64 am,.string an,.int .i64 ao,.slice k.a k.len k.cap,.slice j.a j.len j.cap]] b0 fun ce cm=>
 ∃ l:Sl,∃ ap:Int,(ce=.returned (.tuple #[.slice l.a l.len l.cap,.int .i64 ap]))∧
 Calls Tryz.prog 31 #[.slice c.a c.len c.cap] cm fun cf cn=>
 ∃ aq:Int,∃ ar:ByteArray,∃ av:Int,∃ aw:Int,∃ ax:Int,∃ ay:Int,∃ az:Nat,∃ a0:ByteArray,∃ a1:Int,∃ n:Sl,∃ m:Sl,∃ au:Int,(cf=.returned (.tuple #[.agg #[.int .i64 aq,.string ar,.int .i64 av,.int .i64 aw,.int .i64 ax,.int .i64 ay,.float .f64 az,.string a0,.int .i64 a1,.slice n.a n.len n.cap,.slice m.a m.len m.cap],.int .i64 au]))∧
 New (.cells #[.int .i64 0,.string (ByteArray.mk #[]),.int .i64 0,.int .i64 0,.int .i64 0,.int .i64 0,.float .f64 0,.string (ByteArray.mk #[]),.int .i64 0,.slice none 0 0,.slice none 0 0] 38 (0,0)) (fun G co=>
 ∃ bx:World,((Instr.storeAt 38 (.pointer ((some ⟨G,0,none⟩))) (.agg #[.int .i64 aq,.string ar,.int .i64 av,.int .i64 aw,.int .i64 ax,.int .i64 ay,.float .f64 az,.string a0,.int .i64 a1,.slice n.a n.len n.cap,.slice m.a m.len m.cap])).run Tryz.prog co=.ok () bx)∧
 Calls Tryz.prog 32 #[.slice c.a c.len c.cap] bx fun cg cj=>
 ∃ a2:Int,∃ a3:ByteArray,∃ a5:Int,∃ a6:Int,∃ a7:Int,∃ a8:Int,∃ a9:Nat,∃ ba:ByteArray,∃ bb:Int,∃ p:Sl,∃ o:Sl,∃ a4:Int,(cg=.returned (.tuple #[.agg #[.int .i64 a2,.string a3,.int .i64 a5,.int .i64 a6,.int .i64 a7,.int .i64 a8,.float .f64 a9,.string ba,.int .i64 bb,.slice p.a p.len p.cap,.slice o.a o.len o.cap],.int .i64 a4]))∧
 New (.cells #[.int .i64 0,.string (ByteArray.mk #[]),.int .i64 0,.int .i64 0,.int .i64 0,.int .i64 0,.float .f64 0,.string (ByteArray.mk #[]),.int .i64 0,.slice none 0 0,.slice none 0 0] 38 (0,0)) (fun F ck=>
 ∃ x:World,((Instr.storeAt 38 (.pointer ((some ⟨F,0,none⟩))) (.agg #[.int .i64 a2,.string a3,.int .i64 a5,.int .i64 a6,.int .i64 a7,.int .i64 a8,.float .f64 a9,.string ba,.int .i64 bb,.slice p.a p.len p.cap,.slice o.a o.len o.cap])).run Tryz.prog ck=.ok () x)∧
 ∃ bc:Int,∃ bd:ByteArray,∃ be:Int,∃ bf:Int,∃ bg:Int,∃ bh:Int,∃ bi:Nat,∃ bj:ByteArray,∃ bk:Int,∃ r:Sl,∃ q:Sl,(At (fun b=>b=x) ⟨G,0,none⟩ [.int .i64 bc,.string bd,.int .i64 be,.int .i64 bf,.int .i64 bg,.int .i64 bh,.float .f64 bi,.string bj,.int .i64 bk,.slice r.a r.len r.cap,.slice q.a q.len q.cap])∧
 ∃ bl:Int,∃ bm:ByteArray,∃ bn:Int,∃ bo:Int,∃ bp:Int,∃ bq:Int,∃ br:Nat,∃ bs:ByteArray,∃ bt:Int,∃ t:Sl,∃ s:Sl,(At (fun b=>b=x) ⟨F,0,none⟩ [.int .i64 bl,.string bm,.int .i64 bn,.int .i64 bo,.int .i64 bp,.int .i64 bq,.float .f64 br,.string bs,.int .i64 bt,.slice t.a t.len t.cap,.slice s.a s.len s.cap])∧
 Calls Tryz.prog 33 #[.agg #[.int .i64 bc,.string bd,.int .i64 be,.int .i64 bf,.int .i64 bg,.int .i64 bh,.float .f64 bi,.string bj,.int .i64 bk,.slice r.a r.len r.cap,.slice q.a q.len q.cap],.agg #[.int .i64 bl,.string bm,.int .i64 bn,.int .i64 bo,.int .i64 bp,.int .i64 bq,.float .f64 br,.string bs,.int .i64 bt,.slice t.a t.len t.cap,.slice s.a s.len s.cap]] x fun ch u=>
 ∃ bu:Bool,(ch=.returned (.bool bu))∧
 ∃ bv:ByteArray,(∀ b,(fun b=>b=u) b→((convert 42 9 (.slice i.a i.len i.cap))).run Tryz.prog b=.ok (.string bv) b)∧
 ∃ bw:ByteArray,(∀ b,(fun b=>b=u) b→((convert 42 9 (.slice l.a l.len l.cap))).run Tryz.prog b=.ok (.string bw) b)∧
 Br (bv.toList==bw.toList)
 (Br (af==ap)
 (Br bu
 (K (.bool (au==a4)) u)
 (K (.bool false) u))
 (K (.bool false) u))
 (K (.bool false) u)) cj) cn) bz) w
def sk8:Sk:=(.seq .leaf (.seq .leaf (.seq .leaf (.cut [] [] [4,20,21,22,23,24,25,26,27,28,29,30] .leaf .leaf))))
theorem call8 (e:Int) (f:ByteArray) (g:Int) (i:Int) (j:Int) (k:Int) (l:Nat) (m:ByteArray) (n:Int) (d:Sl) (c:Sl) (b:Sl) (K:Value→World→Prop) (w:World) (h:B8 e f g i j k l m n d c b K w):Gets Tryz.prog 8 #[.agg #[.int .i64 e,.string f,.int .i64 g,.int .i64 i,.int .i64 j,.int .i64 k,.float .f64 l,.string m,.int .i64 n,.slice d.a d.len d.cap,.slice c.a c.len c.cap],.slice b.a b.len b.cap] w K:=cq (sk:=sk8) Tryz.func8 (by kernel_rfl) (by kernel_rfl) (by kernel_rfl) h
end Go.Proofs.YtfgbbckfikiomaaGreatDoor
/- The laws of chapter 18: two replies, two commands; many commands. Condition: bounds on lengths. -/
namespace Go.Proofs.YtfgbbckfikiomaaGreatDoor
set_option linter.unusedVariables false
open Go Go.VC
open Classical
variable {R:Cx} {Hs Rest:List HP} {w:World}
theorem cmB_bd {c:Cm} (hr:RightC c) (hf:FltC c):(cmB c).length≤9223372036854775807:=by
 have r1:=hr.flt
 have r2:=hr.cls
 have r3:=hr.many
 have r4:=hr.rows
 have r5:=hr.kind
 have r6:=hr.time
 have r7:=hr.pnr
 have r8:=hr.lab
 have r9:=hr.gl
 have r10:=hr.pl
 unfold numOk at r1 r2 r3 r4
 have l1:=nums1_len (x:=c.kind) (by omega)
 have l2:=strB_len (s:=c.pnr) (by omega)
 have l3:=nums1_len (x:=c.flt) (by omega)
 have l4:=nums1_len (x:=c.cls) (by omega)
 have l5:=nums1_len (x:=c.many) (by omega)
 have l6:=nums1_len (x:=c.time) (by omega)
 have l7:=fltB_len hf.sc
 have l8:=strB_len (s:=c.lab) (by omega)
 have l9:=nums1_len (x:=c.rows) (by omega)
 have l10:=nums1_len (x:=(c.grps.length:Int)) (by omega)
 have l11:=numsB_len (l:=c.grps) fun y hy=>by have:=hr.grps y hy;unfold numOk at this;omega
 have l12:=nums1_len (x:=(c.parts.length:Int)) (by omega)
 have hfl:=flat_len (l:=c.parts) (code:=fltB) (m:=9) fun x hx=>fltB_len (hf.parts x hx)
 unfold cmB
 simp only [List.length_append]
 omega
theorem samec_spec {c:Cm} {sg sp tg tp:Sl} (hf:FltC c) (hgl:c.grps.length≤100000) (hpl:c.parts.length≤100000) (h1:RoI R sg c.grps) (h2:SlR R.m sp (flts c.parts)) (h3:RoI R tg c.grps) (h4:SlR R.m tp (flts c.parts)) (hw:Sat R Hs w):
  Gets Tryz.prog 33 #[.agg #[.int .i64 c.kind,.string c.pnr,.int .i64 c.flt,.int .i64 c.cls,.int .i64 c.many,.int .i64 c.time,.float .f64 c.sc,.string c.lab,.int .i64 c.rows,.slice sg.a sg.len sg.cap,.slice sp.a sp.len sp.cap],.agg #[.int .i64 c.kind,.string c.pnr,.int .i64 c.flt,.int .i64 c.cls,.int .i64 c.many,.int .i64 c.time,.float .f64 c.sc,.string c.lab,.int .i64 c.rows,.slice tg.a tg.len tg.cap,.slice tp.a tp.len tp.cap]] w
   fun v w'=>v=.bool true∧Sat R Hs w':=by
 apply call33
 refine new_rule hw fun x w hw=>new_rule hw fun y w hw=>?_
 have hw:Sat R (cmC y c tg tp::cmC x c sg sp::Hs) w:=hw
 refine ⟨c.kind,c.pnr,c.flt,c.cls,c.many,c.time,c.sc,c.lab,c.rows,sg,sp,At.own (eqS hw) (by exact ⟨rfl,rfl,rfl,rfl,rfl,rfl,rfl,rfl,rfl,rfl,rfl,trivial⟩),?_⟩
 have empty:∀ {w:World},Sat R Hs w→(convert 42 9 (.slice none 0 0)).run Tryz.prog w=.ok (.string (VC.strOf [])) w:=fun hw=>
  convS_ro (xs:=[]) (s:=⟨none,0,0⟩) Tryz.underlying42 Tryz.underlying5 Tryz.underlying9 hw ⟨rfl,by simp,fun h=>absurd rfl h⟩
 refine (r18enc_spec hf h1 hgl h2 hpl hw).use ?_
 clear hw
 rintro _ w (⟨hr,rfl,hw⟩|⟨hr,t,rfl,hw⟩)
 ·refine ⟨nilSl,1,rfl,?_⟩
  refine ⟨c.kind,c.pnr,c.flt,c.cls,c.many,c.time,c.sc,c.lab,c.rows,tg,tp,At.own (eqS hw) (by exact ⟨rfl,rfl,rfl,rfl,rfl,rfl,rfl,rfl,rfl,rfl,rfl,trivial⟩),?_⟩
  refine (r18enc_spec hf h3 hgl h4 hpl hw).use ?_
  clear hw
  rintro _ w (⟨_,rfl,hw⟩|⟨hr',_⟩)
  ·refine ⟨nilSl,1,rfl,Br.e (fun _=>?_) (fun h=>absurd rfl h)⟩
   refine ⟨_,fun w' e=>by rw [show w'=w from e];exact empty hw.drop.drop,_,fun w' e=>by rw [show w'=w from e];exact empty hw.drop.drop,?_,hw.drop.drop⟩
   rw [str_eql,decide_eq_true rfl]
  ·exact absurd hr' hr
 ·refine ⟨t,0,rfl,?_⟩
  refine ⟨c.kind,c.pnr,c.flt,c.cls,c.many,c.time,c.sc,c.lab,c.rows,tg,tp,At.own (eqS hw) (by exact ⟨rfl,rfl,rfl,rfl,rfl,rfl,rfl,rfl,rfl,rfl,rfl,trivial⟩),?_⟩
  refine (r18enc_spec hf h3 hgl h4 hpl hw).use ?_
  clear hw
  rintro _ w (⟨hr',_⟩|⟨_,t2,rfl,hw⟩)
  ·exact absurd hr hr'
  refine ⟨t2,0,rfl,Br.e (fun _=>?_) (fun h=>absurd rfl h)⟩
  have hcb:(cmB c).length≤9223372036854775807:=cmB_bd hr hf
  obtain ⟨R',r1,e1,hw2,_⟩:=Own.lend hw (by rw [List.length_map];exact hcb)
  obtain ⟨R2,r2,e2,hw3,_⟩:=Own.lend hw2 (by rw [List.length_map];exact hcb)
  refine ⟨_,fun w' e=>by rw [show w'=w from e];exact convS_ro Tryz.underlying42 Tryz.underlying5 Tryz.underlying9 hw3 r2,_,fun w' e=>by rw [show w'=w from e];exact convS_ro Tryz.underlying42 Tryz.underlying5 Tryz.underlying9 hw2 r1,?_,hw.drop.drop.drop.drop⟩
  rw [str_eql,decide_eq_true rfl]
abbrev CmS:=Cm × Sl × Sl
abbrev cmRow (c:CmS):List Value:=cmV c.1 c.2.1 c.2.2
def Much (c:CmS):Prop:=100<c.2.1.len∨100<c.2.2.len∨1000<c.1.pnr.size∨1000<c.1.lab.size
theorem much_spec {l:Sl} {cs:List CmS} (hr:∀ S:World→Prop,(∀ w,S w→Sat R Hs w)→ReadsN 11 l (cs.map cmRow) S) (hw:Sat R Hs w):
  Gets Tryz.prog 13 #[.slice l.a l.len l.cap] w fun v w'=>∃ b:Bool,v=.bool b∧(b=false→∀ c∈cs.take 400,¬ Much c)∧Sat R Hs w':=by
 have hlen:=(hr _ (eqS hw)).1
 rw [List.length_map] at hlen
 apply call13
 refine ⟨fun i w=>∃ k:Nat,i=k∧k≤400∧k≤cs.length∧(∀ c∈cs.take k,¬ Much c)∧Sat R Hs w,fun i _=>400 - i.toNat,⟨0,rfl,by omega,by omega,by simp,hw⟩,?_⟩
 clear hw
 rintro _ _ w ⟨k,rfl,hk,hkc,hm,hw⟩
 have fin:(cs.take k=cs.take 400)→∃ b:Bool,Value.bool false=.bool b∧(b=false→∀ c∈cs.take 400,¬ Much c)∧Sat R Hs w:=fun e=>⟨false,rfl,fun _=>by rw [←e];exact hm,hw⟩
 refine ⟨fun w=>(k<400∧k<cs.length)∧Sat R Hs w,?_,?_⟩
 ·with_reducible refine Br.d (fun h=>?_) (fun h=>fin ?_)
  ·with_reducible refine Br.d (fun h2=>?_) (fun h2=>fin ?_)
   ·exact ⟨⟨by omega,by omega⟩,hw⟩
   ·rw [show k=400 by omega]
  ·rw [List.take_of_length_le (by omega),List.take_of_length_le (by omega)]
 clear hw
 rintro _ w ⟨⟨h1,h2⟩,hw⟩
 have hS:=hr _ (eqS hw)
 have yes:∀ {b:Bool},b=true→∃ b2:Bool,Value.bool b=.bool b2∧(b2=false→∀ c∈cs.take 400,¬ Much c)∧Sat R Hs w:=fun {b} e=>⟨b,rfl,fun h=>(by rw [e] at h;cases h),hw⟩
 refine hS.rngM h2 fun a _ he=>⟨cs[k].2.1,he.f 9 (by exact ⟨rfl,trivial⟩),Br.d (fun _=>yes rfl) (fun g1=>?_)⟩
 refine hS.rngM h2 fun a _ he=>⟨cs[k].2.2,he.f 10 (by exact ⟨rfl,trivial⟩),Br.d (fun _=>yes rfl) (fun g2=>?_)⟩
 refine hS.rngM h2 fun a _ he=>⟨cs[k].1.pnr,he.f 1 (by exact ⟨rfl,trivial⟩),Br.d (fun _=>yes rfl) (fun g3=>?_)⟩
 refine hS.rngM h2 fun a _ he=>⟨cs[k].1.lab,he.f 7 (by exact ⟨rfl,trivial⟩),Br.d (fun _=>yes rfl) (fun g4=>?_)⟩
 rw [wrap64 (by omega) (by omega)]
 refine ⟨⟨k + 1,by omega,by omega,by omega,fun c hc=>?_,hw⟩,by dsimp only;omega⟩
 rw [List.take_add_one,List.getElem?_eq_getElem h2] at hc
 rcases List.mem_append.1 hc with hc|hc
 ·exact hm c hc
 ·rw [show c=cs[k] by simpa using hc]
  unfold Much
  omega
end Go.Proofs.YtfgbbckfikiomaaGreatDoor
