/- Commands and replies as bytes, plainly: there and back. No condition. -/
import Derived.Test.YtflgboncpbmikaaGreatDoorB3
import Derived.Test.YtflgboncpbmikaaGreatDoorB2
namespace Go.Proofs.YtflgboncpbmikaaGreatDoor
set_option linter.unusedVariables false
set_option linter.unusedSimpArgs false
open Go Go.VC
def rdEach {α:Type} (one:Rd→α × Rd):Nat→Rd→List α × Rd
 |0,r=>([],r)
 |n + 1,r=>((one r).1::(rdEach one n (one r).2).1,(rdEach one n (one r).2).2)
theorem rdEach_succ {α:Type} (one:Rd→α × Rd) (n:Nat) (r:Rd):rdEach one (n + 1) r=((one r).1::(rdEach one n (one r).2).1,(rdEach one n (one r).2).2):=rfl
theorem rdEach_len {α:Type} (one:Rd→α × Rd):∀ (n:Nat) (r:Rd),(rdEach one n r).1.length=n
 |0,_=>rfl
 |n + 1,r=>by rw [rdEach_succ,List.length_cons,rdEach_len one n]
theorem rdEach_snoc {α:Type} (one:Rd→α × Rd):∀ (k:Nat) (r:Rd),rdEach one (k + 1) r=((rdEach one k r).1++[(one (rdEach one k r).2).1],(one (rdEach one k r).2).2)
 |0,_=>rfl
 |k + 1,r=>by
  rw [rdEach_succ,rdEach_snoc one k (one r).2]
  rfl
theorem rdEach_inv {α:Type} {one:Rd→α × Rd} {P:Rd→Prop} {Q:α→Prop} (h:∀ r,P r→Q (one r).1∧P (one r).2):∀ (n:Nat) {r:Rd},P r→(∀ x∈(rdEach one n r).1,Q x)∧P (rdEach one n r).2
 |0,_,hr=>⟨fun _ hx=>(by cases hx),hr⟩
 |n + 1,r,hr=>by
  have h1:=h r hr
  have h2:=rdEach_inv h n h1.2
  refine ⟨fun x hx=>?_,h2.2⟩
  rcases List.mem_cons.1 hx with rfl|hx
  ·exact h1.1
  ·exact h2.1 x hx
def Bytes (l:List Int):Prop:=∀ x∈l,0≤x∧x<256
def strRd (most:Int) (r:Rd):ByteArray × Rd:=(VC.strOf (rdText most r).1,(rdText most r).2)
def fltRd (r:Rd):Nat × Rd:=(ofF (rdNum 18446744073709551615 r).1.toNat,(rdNum 18446744073709551615 r).2)
def strB (s:ByteArray):List Int:=textB (bytesL s)
theorem rdText_code {d rest:List Int} {most:Int} (hl:d.length<1000000) (hm:(d.length:Int)≤most):rdText most ⟨textB d++rest,false⟩=(d,⟨rest,false⟩):=by
 unfold rdText textB
 rw [if_neg (by simp)]
 dsimp only
 rw [List.append_assoc,parse_num (by omega)]
 dsimp only
 have hn:=numB_len (n:=d.length) (by omega)
 rw [if_pos ⟨rfl,by omega,hm,by simp only [List.length_append];omega⟩,List.drop_left,Int.toNat_natCast,List.take_left,←List.drop_drop,List.drop_left,List.drop_left]
theorem strRd_bd {most:Int} {rd:Rd} (hb:Bytes rd.bs):Bytes (strRd most rd).2.bs:=(rdText_bd hb).2
theorem strOf_size (l:List Int):(VC.strOf l).size=l.length:=by
 show (l.map fun n=>UInt8.ofNat n.toNat).toArray.size=_
 rw [List.size_toArray,List.length_map]
theorem fltRd_bd {rd:Rd} (hb:Bytes rd.bs):Bytes (fltRd rd).2.bs:=rdNum_bd hb
theorem fltRd_lt {rd:Rd} (hb:Bytes rd.bs):(fltRd rd).1<18446744073709551616:=by
 have:=rdNum_val (most:=18446744073709551615) hb (by omega)
 exact of_lt (by omega)
structure Cm where
 kind:Int
 pnr:ByteArray
 flt:Int
 cls:Int
 many:Int
 time:Int
 sc:Nat
 lab:ByteArray
 rows:Int
 grps:List Int
 parts:List Nat
def numOk (n:Int):Prop:=0≤n∧n≤9999
structure RightC (c:Cm):Prop where
 flt:numOk c.flt
 cls:numOk c.cls
 many:numOk c.many
 rows:numOk c.rows
 grps:∀ n∈c.grps,numOk n
 pnr:c.pnr.size≤16
 lab:c.lab.size≤16
 gl:c.grps.length≤16
 pl:c.parts.length≤16
 kind:1≤c.kind∧c.kind≤9
 time:0≤c.time∧c.time≤1099511627776
structure FltC (c:Cm):Prop where
 sc:c.sc<18446744073709551616
 parts:∀ x∈c.parts,x<18446744073709551616
def cmRd (r:Rd):Cm × Rd:=
 let k:=rdNum 9 r
 let p:=strRd 16 k.2
 let f:=rdNum 9999 p.2
 let c:=rdNum 9999 f.2
 let m:=rdNum 9999 c.2
 let t:=rdNum 1099511627776 m.2
 let s:=fltRd t.2
 let l:=strRd 16 s.2
 let w:=rdNum 9999 l.2
 let n:=rdNum 16 w.2
 let g:=rdEach (rdNum 9999) n.1.toNat n.2
 let q:=rdNum 16 g.2
 let x:=rdEach fltRd q.1.toNat q.2
 (⟨k.1,p.1,f.1,c.1,m.1,t.1,s.1,l.1,w.1,g.1,x.1⟩,x.2)
structure Rp where
 code:Int
 pnr:ByteArray
 state:Int
 flt:Int
 cls:Int
 many:Int
 time:Int
 left:List Int
 labs:List ByteArray
def nn (n:Int):Int:=max n 0
def rpB (r:Rp):List Int:=
 numsB [nn r.code]++(strB r.pnr++(numsB [nn r.state]++(numsB [nn r.flt]++(numsB [nn r.cls]++(numsB [nn r.many]++(numsB [nn r.time]++(numsB [(r.left.length:Int)]++(numsB (r.left.map nn)++(numsB [(r.labs.length:Int)]++(r.labs.map strB).flatten)))))))))
structure RpIn (r:Rp):Prop where
 code:0≤r.code∧r.code≤1099511627776
 pnr:r.pnr.size≤16
 state:0≤r.state∧r.state≤1099511627776
 flt:0≤r.flt∧r.flt≤1099511627776
 cls:0≤r.cls∧r.cls≤1099511627776
 many:0≤r.many∧r.many≤1099511627776
 time:0≤r.time∧r.time≤1099511627776
 ll:r.left.length≤8
 left:∀ n∈r.left,0≤n∧n≤1099511627776
 bl:r.labs.length≤600
 labs:∀ s∈r.labs,s.size≤16
theorem nn_id {n:Int} (h:0≤n):nn n=n:=by unfold nn;omega
theorem nn_map {l:List Int} (h:∀ n∈l,0≤n):l.map nn=l:=by
 induction l with
 |nil=>rfl
 |cons x l ih=>rw [List.map_cons,nn_id (h x (by simp)),ih fun y hy=>h y (by simp [hy])]
end Go.Proofs.YtflgboncpbmikaaGreatDoor
/- Lists by keys. No condition. -/
namespace Go.VC
set_option linter.unusedVariables false
set_option linter.unusedSimpArgs false
section
variable {α:Type} {k:α→Int}
def KRise (k:α→Int) (l:List α):Prop:=l.Pairwise fun a b=>k a<k b
def kget (k:α→Int) (n:Int) (l:List α):Option α:=l.find? fun x=>decide (k x=n)
def kset (k:α→Int) (n:Int) (f:α→α) (l:List α):List α:=l.map fun x=>if k x=n then f x else x
def kdel (k:α→Int) (n:Int) (l:List α):List α:=l.filter fun x=>!decide (k x=n)
def kins (k:α→Int) (x:α) (l:List α):List α:=l.takeWhile (fun y=>decide (k y<k x))++x::l.dropWhile (fun y=>decide (k y<k x))
theorem KRise.uniq {l:List α} (h:KRise k l) {a b:α} (ha:a∈l) (hb:b∈l) (e:k a=k b):a=b:=by
 induction l with
 |nil=>cases ha
 |cons x l ih=>
  have hp:=List.pairwise_cons.1 h
  rcases List.mem_cons.1 ha with e1|h1
  ·rcases List.mem_cons.1 hb with e2|h2
   ·rw [e1,e2]
   ·have:=hp.1 b h2;rw [e1] at e;omega
  ·rcases List.mem_cons.1 hb with e2|h2
   ·have:=hp.1 a h1;rw [e2] at e;omega
   ·exact ih hp.2 h1 h2
theorem kget_some {n:Int} {l:List α} {x:α} (h:kget k n l=some x):x∈l∧k x=n:=
 ⟨List.mem_of_find?_eq_some h,by have:=List.find?_some h;simpa using this⟩
theorem kget_none {n:Int} {l:List α}:kget k n l=none↔∀ x∈l,k x≠n:=by
 unfold kget
 rw [List.find?_eq_none]
 simp
theorem kget_iff {n:Int} {l:List α} (h:KRise k l) {x:α}:kget k n l=some x↔x∈l∧k x=n:=by
 refine ⟨kget_some,fun ⟨h1,h2⟩=>?_⟩
 cases hg:kget k n l with
 |none=>exact absurd h2 (kget_none.1 hg x h1)
 |some y=>
  have:=kget_some hg
  rw [h.uniq this.1 h1 (by omega)]
theorem mem_kset {n:Int} {f:α→α} {l:List α} {y:α}:y∈kset k n f l↔∃ x∈l,y=if k x=n then f x else x:=by
 unfold kset
 rw [List.mem_map]
 exact ⟨fun ⟨x,h1,h2⟩=>⟨x,h1,h2.symm⟩,fun ⟨x,h1,h2⟩=>⟨x,h1,h2.symm⟩⟩
theorem mem_kdel {n:Int} {l:List α} {y:α}:y∈kdel k n l↔y∈l∧k y≠n:=by
 unfold kdel
 rw [List.mem_filter]
 simp
theorem kset_len {n:Int} {f:α→α} {l:List α}:(kset k n f l).length=l.length:=List.length_map _
theorem kset_rise {n:Int} {f:α→α} {l:List α} (h:KRise k l) (hf:∀ x∈l,k x=n→k (f x)=n):KRise k (kset k n f l):=by
 unfold KRise kset
 rw [List.pairwise_map]
 refine List.Pairwise.imp_of_mem (fun {a b} ha hb hab=>?_) h
 have h1:k (if k a=n then f a else a)=k a:=by
  split
  ·rename_i e;rw [hf a ha e,e]
  ·rfl
 have h2:k (if k b=n then f b else b)=k b:=by
  split
  ·rename_i e;rw [hf b hb e,e]
  ·rfl
 rw [h1,h2]
 exact hab
theorem kdel_rise {n:Int} {l:List α} (h:KRise k l):KRise k (kdel k n l):=h.sublist List.filter_sublist
theorem kset_no {n:Int} {f:α→α} {l:List α} (h:∀ x∈l,k x≠n):kset k n f l=l:=by
 induction l with
 |nil=>rfl
 |cons a l ih=>
  show (if k a=n then f a else a)::kset k n f l=_
  rw [if_neg (h a (by simp)),ih fun x hx=>h x (by simp [hx])]
theorem kdel_no {n:Int} {l:List α} (h:∀ x∈l,k x≠n):kdel k n l=l:=by
 unfold kdel
 rw [List.filter_eq_self]
 intro x hx
 simpa using h x hx
theorem kset_mid {n:Int} {f:α→α} {A C:List α} {x:α} (hx:k x=n) (h:KRise k (A++x::C)):kset k n f (A++x::C)=A++f x::C:=by
 have hp:=List.pairwise_append.1 h
 have hc:=List.pairwise_cons.1 hp.2.1
 have e1:kset k n f A=A:=kset_no fun y hy=>by have:=hp.2.2 y hy x (by simp);omega
 have e2:kset k n f C=C:=kset_no fun y hy=>by have:=hc.1 y hy;omega
 show List.map _ (A++x::C)=_
 rw [List.map_append,List.map_cons,if_pos hx]
 show kset k n f A++f x::kset k n f C=_
 rw [e1,e2]
theorem kdel_mid {n:Int} {A C:List α} {x:α} (hx:k x=n) (h:KRise k (A++x::C)):kdel k n (A++x::C)=A++C:=by
 have hp:=List.pairwise_append.1 h
 have hc:=List.pairwise_cons.1 hp.2.1
 have e1:kdel k n A=A:=kdel_no fun y hy=>by have:=hp.2.2 y hy x (by simp);omega
 have e2:kdel k n C=C:=kdel_no fun y hy=>by have:=hc.1 y hy;omega
 show List.filter _ (A++x::C)=_
 rw [List.filter_append,List.filter_cons,if_neg (by simpa using hx)]
 show kdel k n A++kdel k n C=_
 rw [e1,e2]
theorem kins_cons (x a:α) (l:List α):kins k x (a::l)=if k a<k x then a::kins k x l else x::a::l:=by
 unfold kins
 rw [List.takeWhile_cons,List.dropWhile_cons]
 by_cases h:k a<k x
 ·rw [decide_eq_true h,if_pos h];rfl
 ·rw [decide_eq_false h,if_neg h];rfl
theorem mem_kins {x y:α}:∀ {l:List α},y∈kins k x l↔y=x∨y∈l
 |[]=>by simp [kins]
 |a::l=>by
  rw [kins_cons]
  split
  ·rw [List.mem_cons,mem_kins,List.mem_cons]
   constructor
   ·rintro (h|h|h)<;>simp [h]
   ·rintro (h|h|h)<;>simp [h]
  ·rw [List.mem_cons]
theorem kins_len {x:α}:∀ {l:List α},(kins k x l).length=l.length + 1
 |[]=>rfl
 |a::l=>by
  rw [kins_cons]
  split
  ·rw [List.length_cons,kins_len,List.length_cons]
  ·rfl
theorem kins_rise {x:α}:∀ {l:List α},KRise k l→(∀ y∈l,k y≠k x)→KRise k (kins k x l)
 |[],_,_=>List.Pairwise.cons (fun _ h=>(by cases h)) List.Pairwise.nil
 |a::l,h,hn=>by
  have hp:=List.pairwise_cons.1 h
  rw [kins_cons]
  split
  ·rename_i ha
   refine List.Pairwise.cons (fun y hy=>?_) (kins_rise hp.2 fun y hy=>hn y (by simp [hy]))
   rcases mem_kins.1 hy with rfl|hy
   ·exact ha
   ·exact hp.1 y hy
  ·rename_i ha
   have:=hn a (by simp)
   refine List.Pairwise.cons (fun y hy=>?_) h
   rcases List.mem_cons.1 hy with rfl|hy
   ·omega
   ·have:=hp.1 y hy;omega
theorem kins_perm {x:α}:∀ {l:List α},(kins k x l).Perm (x::l)
 |[]=>List.Perm.refl _
 |a::l=>by
  rw [kins_cons]
  split
  ·exact (kins_perm.cons a).trans (List.Perm.swap x a l)
  ·exact List.Perm.refl _
theorem krise_snoc {l:List α} {x:α} (h:KRise k l) (hx:∀ y∈l,k y<k x):KRise k (l++[x]):=by
 refine List.pairwise_append.2 ⟨h,List.pairwise_singleton _ _,fun a ha b hb=>?_⟩
 rw [List.mem_singleton.1 hb]
 exact hx a ha
theorem KRise.ne {l:List α} (h:KRise k l):l.Pairwise fun a b=>k a≠k b:=h.imp fun hab e=>by omega
end
end Go.VC


/- Both flights side by side: fresh, awake, few, do, alike. Condition: bounds. -/
namespace Go.Proofs.YtflgboncpbmikaaGreatDoor
set_option linter.unusedVariables false
set_option linter.unusedSimpArgs false
open Go Go.VC
variable {R R':Cx} {Hs Rest:List HP} {w:World}
theorem find_in {n:Int} {g:List Int} {lab:ByteArray} {k:Int} (h:findT n g lab=(k,0)):0≤k∧k<layN n g:=by
 unfold findT at h
 split at h
 ·rename_i hl
  obtain ⟨l1,l2,l3⟩:=layOk_iff.1 hl
  have:=(find_iff (n:=n) (w:=g.sum) (k:=k) (lab:=lab) (by omega) (sum_pos l2 l1.2.2.1) l3).1 h
  rw [layN_ok hl]
  exact ⟨this.1,this.2.1⟩
 ·cases h
end Go.Proofs.YtflgboncpbmikaaGreatDoor
/- The program's flight alone, told by the document's; alike; how the laws begin. Condition: bounds. -/
namespace Go.Proofs.YtflgboncpbmikaaGreatDoor
set_option linter.unusedVariables false
set_option linter.unusedSimpArgs false
open Go Go.VC
variable {R R':Cx} {Hs Rest:List HP} {w:World}
def LoneAt (p:Nat) (r:RF):HP:=exs fun f:PF=>Star [pur (Tie f r∧Good r),FlightAt p f]
theorem Sat.lone {p:Nat} {r:RF}:Sat R (LoneAt p r::Hs) w↔∃ f,(Tie f r∧Good r)∧Sat R (FlightAt p f::Hs) w:=by
 unfold LoneAt
 rw [Sat.exs]
 constructor
 ·rintro ⟨f,h⟩
  obtain ⟨h1,h2⟩:=Sat.pur.1 (Sat.star.1 h)
  exact ⟨f,h1,h2⟩
 ·rintro ⟨f,h1,h2⟩
  exact ⟨f,Sat.star.2 (Sat.pur.2 ⟨h1,h2⟩)⟩
section
variable {p:Nat} {r:RF}
theorem lone_take {o c m:Int} (hw:Sat R (LoneAt p r::Hs) w):Gets Tryz.prog 79 #[.pointer (some ⟨p,0,none⟩),.int .i64 o,.int .i64 c,.int .i64 m] w fun v w'=>v=.int .i64 (rtakeF r o c m).2∧Sat R (LoneAt p (rtakeF r o c m).1::Hs) w':=by
 obtain ⟨f,⟨t,g⟩,hw⟩:=Sat.lone.1 hw
 have b:=t.bounds g
 obtain ⟨e,t',g'⟩:=tie_take t g o c m
 refine (take_fspec (by omega) (by omega) hw).use ?_
 rintro _ w ⟨rfl,hw⟩
 exact ⟨_,rfl,by rw [e],Sat.lone.2 ⟨_,⟨t',g'⟩,hw⟩⟩
theorem lone_give {o:Int} (hw:Sat R (LoneAt p r::Hs) w):Gets Tryz.prog 83 #[.pointer (some ⟨p,0,none⟩),.int .i64 o] w fun v w'=>v=.int .i64 (rgiveF r o).2∧Sat R (LoneAt p (rgiveF r o).1::Hs) w':=by
 obtain ⟨f,⟨t,g⟩,hw⟩:=Sat.lone.1 hw
 have b:=t.bounds g
 obtain ⟨e,t',g'⟩:=tie_give t g o
 refine (give_fspec (by omega) (by omega) (fun e he=>by have:=b.2.2.2.2.2.1 e he;omega) hw).use ?_
 rintro _ w ⟨rfl,hw⟩
 exact ⟨_,rfl,by rw [e],Sat.lone.2 ⟨_,⟨t',g'⟩,hw⟩⟩
theorem lone_seat {o:Int} {lab:ByteArray} (hl:lab.size≤9223372036854775807) (hw:Sat R (LoneAt p r::Hs) w):Gets Tryz.prog 86 #[.pointer (some ⟨p,0,none⟩),.int .i64 o,.string lab] w fun v w'=>v=.int .i64 (rseatF r o lab).2∧Sat R (LoneAt p (rseatF r o lab).1::Hs) w':=by
 obtain ⟨f,⟨t,g⟩,hw⟩:=Sat.lone.1 hw
 have b:=t.bounds g
 obtain ⟨e,t',g'⟩:=tie_seat t g o lab fun k hk=>find_in hk
 refine (seat_fspec (by omega) hl (fun e he=>by have:=b.2.2.2.2.2.1 e he;exact ⟨this.1,by omega⟩) hw).use ?_
 rintro _ w ⟨rfl,hw⟩
 exact ⟨_,rfl,by rw [e],Sat.lone.2 ⟨_,⟨t',g'⟩,hw⟩⟩
theorem lone_auto {o:Int} (hw:Sat R (LoneAt p r::Hs) w):Gets Tryz.prog 87 #[.pointer (some ⟨p,0,none⟩),.int .i64 o] w fun v w'=>∃ t:Sl,v=.tuple #[.slice t.a t.len t.cap,.int .i64 (rautoF r o).2.2]∧Sat R (Own t 9 ((rautoF r o).2.1.map Value.string)::LoneAt p (rautoF r o).1::Hs) w':=by
 obtain ⟨f,⟨t,g⟩,hw⟩:=Sat.lone.1 hw
 have b:=t.bounds g
 obtain ⟨e,t',g',_⟩:=tie_auto t g o
 refine (auto_fspec (by omega) t.nod (fun k hk=>by have:=t.ownIn g k hk;have:=layN_bd r.rows r.grps;omega) (by omega) hw).use ?_
 rintro _ w ⟨s,rfl,hw⟩
 rw [e] at hw
 exact ⟨_,rfl,s,by rw [e],hw.cons fun _ h=>Sat.lone.2 ⟨_,⟨t',g'⟩,h⟩⟩
theorem lone_left (hw:Sat R (LoneAt p r::Hs) w):Gets Tryz.prog 77 #[.pointer (some ⟨p,0,none⟩)] w fun v w'=>∃ t:Sl,v=.slice t.a t.len t.cap∧Sat R (Own t 3 (intsI (rleftsF r))::LoneAt p r::Hs) w':=by
 obtain ⟨f,⟨t,g⟩,hw⟩:=Sat.lone.1 hw
 have b:=t.bounds g
 refine (left_fspec (by omega) (by omega) hw).use ?_
 rintro _ w ⟨s,rfl,hw⟩
 rw [tie_left t] at hw
 exact ⟨_,rfl,s,rfl,hw.cons fun _ h=>Sat.lone.2 ⟨_,⟨t,g⟩,h⟩⟩
theorem lone_labels {o:Int} (hw:Sat R (LoneAt p r::Hs) w):Gets Tryz.prog 113 #[.pointer (some ⟨p,0,none⟩),.int .i64 o] w fun v w'=>∃ t:Sl,v=.slice t.a t.len t.cap∧Sat R (Own t 9 ((rlabelsF r o).map Value.string)::LoneAt p r::Hs) w':=by
 obtain ⟨f,⟨t,g⟩,hw⟩:=Sat.lone.1 hw
 have b:=t.bounds g
 refine (labels_fspec (by omega) (fun e he=>by have:=b.2.2.2.2.2.1 e he;omega) hw).use ?_
 rintro _ w ⟨s,rfl,hw⟩
 rw [tie_labels t g.rise] at hw
 exact ⟨_,rfl,s,rfl,hw.cons fun _ h=>Sat.lone.2 ⟨_,⟨t,g⟩,h⟩⟩
end
end Go.Proofs.YtflgboncpbmikaaGreatDoor


/- FlightUnseats, FlightBack. Condition: bounds. -/
namespace Go.Proofs.YtflgboncpbmikaaGreatDoor
set_option linter.unusedVariables false
set_option linter.unusedSimpArgs false
open Go Go.VC
variable {R R':Cx} {Hs Rest:List HP} {w:World}
theorem seat_ok {r:RF} (g:Good r) {o:Int} {lab:ByteArray} (h:(rseatF r o lab).2=0):∃ A hd C n,findT r.rows r.grps lab=(n,0)∧r.L=A++hd::C∧hd.owner=o∧getO o A=none∧n ∉ takenL r.L∧rseatF r o lab=({ r with L:=A++hd.put n::C },0):=by
 unfold rseatF at h ⊢
 cases hg:getO o r.L with
 |none=>rw [hg] at h;cases h
 |some hd=>
  rw [hg] at h
  obtain ⟨A,C,hL,hA,ho⟩:=getO_split hg
  dsimp only at h ⊢
  split at h
  ·cases h
  rename_i h1
  split at h
  ·cases h
  rename_i h2
  split at h
  ·cases h
  rename_i h3
  rw [if_neg h1,if_neg h2,if_neg h3]
  refine ⟨A,hd,C,(findT r.rows r.grps lab).1,?_,hL,ho,hA,h3,?_⟩
  ·have:(findT r.rows r.grps lab).2=0:=Classical.byContradiction h1
   rw [←this]
  ·rw [hL,setO_app ho hA]
theorem seat_no {r:RF} {o:Int} {lab:ByteArray} (h:(rseatF r o lab).2≠0):(rseatF r o lab).1=r∧((rseatF r o lab).2=2∨(rseatF r o lab).2=7∨(rseatF r o lab).2=3):=by
 unfold rseatF at h ⊢
 split at h
 ·exact ⟨rfl,.inl rfl⟩
 ·split at h
  ·rename_i h1;rw [if_pos h1];exact ⟨rfl,.inl rfl⟩
  rename_i h1
  rw [if_neg h1]
  split at h
  ·rename_i h2;rw [if_pos h2];exact ⟨rfl,.inr (.inl rfl)⟩
  rename_i h2
  rw [if_neg h2]
  split at h
  ·rename_i h3;rw [if_pos h3];exact ⟨rfl,.inr (.inr rfl)⟩
  ·exact absurd rfl h
theorem insH_split {h:Hold}:∀ {L:List Hold},getO h.owner L=none→∃ A C,insH h L=A++h::C∧L=A++C∧getO h.owner A=none
 |[],_=>⟨[],[],rfl,rfl,rfl⟩
 |x::L,hn=>by
  rw [getO_cons] at hn
  split at hn
  ·cases hn
  rename_i hx
  unfold insH
  split
  ·obtain ⟨A,C,h1,h2,h3⟩:=insH_split hn
   exact ⟨x::A,C,by rw [h1];rfl,by rw [h2];rfl,by rw [getO_cons,if_neg hx];exact h3⟩
  ·exact ⟨[],x::L,rfl,rfl,rfl⟩
theorem take_ok {r:RF} {o c m:Int} (h:(rtakeF r o c m).2=0):∃ A C,rtakeF r o c m=({ r with L:=A++⟨o,c,m,[]⟩::C },0)∧r.L=A++C∧getO o A=none:=by
 unfold rtakeF at h ⊢
 split at h
 ·cases h
 rename_i h1
 split at h
 ·cases h
 rename_i h2
 rw [if_neg h1,if_neg h2]
 split at h
 ·rename_i h3
  rw [if_pos h3]
  have hno:getO o r.L=none:=by cases e:getO o r.L with|none=>rfl|some x=>rw [e] at h2;simp at h2
  obtain ⟨A,C,e1,e2,e3⟩:=insH_split (h:=⟨o,c,m,[]⟩) hno
  exact ⟨A,C,by rw [e1],e2,e3⟩
 ·rename_i h3;exact absurd h h3
theorem take_no {r:RF} {o c m:Int} (h:(rtakeF r o c m).2≠0):(rtakeF r o c m).1=r:=by
 unfold rtakeF at h ⊢
 split at h
 ·rename_i h1;rw [if_pos h1]
 rename_i h1
 rw [if_neg h1]
 split at h
 ·rename_i h2;rw [if_pos h2]
 rename_i h2
 rw [if_neg h2]
 split at h
 ·exact absurd rfl h
 ·rename_i h3;rw [if_neg h3]
end Go.Proofs.YtflgboncpbmikaaGreatDoor
/- The book, plainly: what each command does. No condition. -/
namespace Go.Proofs.YtflgboncpbmikaaGreatDoor
set_option linter.unusedVariables false
set_option linter.unusedSimpArgs false
open Go Go.VC
open Classical
noncomputable section
structure Pl where
 r:RF
 q:List Wt
abbrev Pl.n (p:Pl):Int:=p.r.num
structure Bk where
 id:Int
 flt:Int
 cls:Int
 many:Int
 state:Int
 till:Int
structure Book where
 now:Int
 next:Int
 fl:List Pl
 L:List Bk
def Book.at (b:Book) (n:Int):Option Pl:=kget Pl.n n b.fl
def Book.bk (b:Book) (id:Int):Option Bk:=kget Bk.id id b.L
def Book.put (b:Book) (n:Int) (f:Pl→Pl) (L:List Bk):Book:={ b with fl:=kset Pl.n n f b.fl,L:=L }
def newBook:Book:=⟨0,1,[],[]⟩
def emS:ByteArray:=ByteArray.empty
def errR (e:Int):Rp:=⟨e,emS,0,0,0,0,0,[],[]⟩
def locS (id:Int):ByteArray:=VC.strOf (locB id)
def tellP (p:Pl) (x:Bk):Rp:=⟨0,locS x.id,x.state,x.flt,x.cls,x.many,x.till,rleftsF p.r,rlabelsF p.r x.id⟩
def tellB (b:Book) (x:Bk):Rp:=match b.at x.flt with
 |none=>errR 0
 |some p=>tellP p x
def takeW (w:Wt) (p:Pl):Pl:=⟨(rtakeF p.r w.id w.cls w.many).1,delQ w.id p.q⟩
def bookX (x:Bk):Bk:={ x with state:=2 }
def moveB (b:Book) (n:Int) (w:Wt):Book:=b.put n (takeW w) (kset Bk.id w.id bookX b.L)
def promB:Nat→Int→Book→Book
 |0,_,b=>b
 |k + 1,n,b=>match b.at n with
  |none=>b
  |some p=>match qfirst p.q (rleftsF p.r) with
   |none=>b
   |some w=>promB k n (moveB b n w)
def promote (n:Int) (b:Book):Book:=promB 201 n b
def openB (b:Book) (c:Cm):Book × Rp:=
 if (b.at c.flt).isSome then (b,errR 7) else if 8≤b.fl.length then (b,errR 3)
 else if ¬ newOk c.flt c.rows c.grps c.parts then (b,errR 1)
 else ({ b with fl:=kins Pl.n ⟨rnewF c.flt c.rows c.grps (limitsT (layN c.rows c.grps) c.parts).1,[]⟩ b.fl },
  ⟨0,emS,0,c.flt,0,0,0,rleftsF (rnewF c.flt c.rows c.grps (limitsT (layN c.rows c.grps) c.parts).1),[]⟩)
def Book.full (b:Book):Prop:=300≤b.L.length∨28629151≤b.next
def takeP (id cls many:Int) (p:Pl):Pl:={ p with r:=(rtakeF p.r id cls many).1 }
def heldX (b:Book) (c:Cm):Bk:=⟨b.next,c.flt,c.cls,c.many,1,c.time⟩
def heldB (b:Book) (c:Cm):Book × Rp:=
 match b.at c.flt with
 |none=>(b,errR 2)
 |some p=>
  if c.time≤b.now then (b,errR 1) else if b.full then (b,errR 3)
  else if (rtakeF p.r b.next c.cls c.many).2≠0 then (b,errR (rtakeF p.r b.next c.cls c.many).2)
  else ({ b.put c.flt (takeP b.next c.cls c.many) (b.L++[heldX b c]) with next:=b.next + 1 },tellP (takeP b.next c.cls c.many p) (heldX b c))
def waitW (b:Book) (c:Cm):Wt:=⟨b.next,c.cls,c.many,b.now,c.sc⟩
def waitX (b:Book) (c:Cm):Bk:=⟨b.next,c.flt,c.cls,c.many,3,0⟩
def waitP (w:Wt) (p:Pl):Pl:={ p with q:=insQ w p.q }
def queued (b:Book) (c:Cm):Book:={ b.put c.flt (waitP (waitW b c)) (b.L++[waitX b c]) with next:=b.next + 1 }
def waitB (b:Book) (c:Cm):Book × Rp:=
 match b.at c.flt with
 |none=>(b,errR 2)
 |some p=>
  if (p.r.lims.length:Int)≤c.cls then (b,errR 1) else if b.full then (b,errR 3)
  else if (qadd p.q (waitW b c)).2≠0 then (b,errR (qadd p.q (waitW b c)).2)
  else (promote c.flt (queued b c),match (promote c.flt (queued b c)).bk b.next with
   |none=>errR 0
   |some x=>tellB (promote c.flt (queued b c)) x)
def old (now:Int) (x:Bk):Bool:=decide (x.state=1) && decide (x.till≤now)
def giveP (id:Int) (p:Pl):Pl:={ p with r:=(rgiveF p.r id).1 }
def dropB (b:Book) (x:Bk):Book:=b.put x.flt (giveP x.id) (kdel Bk.id x.id b.L)
def expAll:List Bk→Book→Book
 |[],b=>b
 |x::l,b=>expAll l (if old b.now x then dropB b x else b)
def promAll (l:List Int) (b:Book):Book:=l.foldl (fun b n=>promote n b) b
def ticked (b:Book) (t:Int):Book:=expAll b.L { b with now:=t }
def clockB (b:Book) (c:Cm):Book × Rp:=
 if c.time<b.now then (b,errR 7)
 else (promAll (b.fl.map Pl.n) (ticked b c.time),⟨0,emS,0,0,0,0,c.time,[],[]⟩)
def namedB (b:Book) (pnr:ByteArray):Option Bk × Int:=
 if (locRd (bytesL pnr)).2≠0 then (none,(locRd (bytesL pnr)).2) else match b.bk (locRd (bytesL pnr)).1 with
  |none=>(none,2)
  |some x=>(some x,0)
def sureX (x:Bk):Bk:={ x with state:=2,till:=0 }
def quitP (id:Int) (p:Pl):Pl:={ p with q:=delQ id p.q }
def gone (b:Book) (x:Bk):Book:=if x.state=3 then b.put x.flt (quitP x.id) (kdel Bk.id x.id b.L) else dropB b x
def seatP (r:RF) (p:Pl):Pl:={ p with r:=r }
def oneB (b:Book) (x:Bk) (c:Cm):Book × Rp:=
 match b.at x.flt with
 |none=>(b,errR 0)
 |some p=>
  if c.kind=3 then (if x.state≠1 then (b,errR 7) else ({ b with L:=kset Bk.id x.id sureX b.L },tellP p (sureX x)))
  else if c.kind=4 then (promote x.flt (gone b x),⟨0,c.pnr,0,0,0,0,0,[],[]⟩)
  else if x.state=3 then (b,errR 7)
  else if c.kind=5 then
   (if (rseatF p.r x.id c.lab).2≠0 then (b,errR (rseatF p.r x.id c.lab).2)
    else (b.put x.flt (seatP (rseatF p.r x.id c.lab).1) b.L,tellP (seatP (rseatF p.r x.id c.lab).1 p) x))
  else (if (rautoF p.r x.id).2.2≠0 then (b,errR (rautoF p.r x.id).2.2)
    else (b.put x.flt (seatP (rautoF p.r x.id).1) b.L,tellP (seatP (rautoF p.r x.id).1 p) x))
def showB (b:Book) (c:Cm):Rp:=
 if ¬ RightC c∨c.kind≠9 then errR 1
 else if c.pnr≠emS then (match namedB b c.pnr with
  |(none,e)=>errR e
  |(some x,_)=>tellB b x)
 else match b.at c.flt with
  |none=>errR 2
  |some p=>⟨0,emS,0,c.flt,0,(p.q.length:Int),0,rleftsF p.r,[]⟩
def applyB (b:Book) (c:Cm):Book × Rp:=
 if ¬ RightC c then (b,errR 1)
 else if c.kind=1 then openB b c
 else if c.kind=2 then heldB b c
 else if c.kind=7 then waitB b c
 else if c.kind=8 then clockB b c
 else if c.kind=9 then (b,showB b c)
 else match namedB b c.pnr with
  |(none,e)=>(b,errR e)
  |(some x,_)=>oneB b x c
def HasP (p:Pl) (x:Bk):Prop:=
 if x.state=3 then (∃ w∈p.q,w.id=x.id∧w.cls=x.cls∧w.many=x.many)∧x.cls<p.r.lims.length
 else ∃ h∈p.r.L,h.owner=x.id∧h.cls=x.cls∧h.many=x.many
structure BkOk (next:Int) (x:Bk):Prop where
 id:1≤x.id∧x.id<next
 flt:0≤x.flt∧x.flt≤9999
 cls:0≤x.cls∧x.cls≤9999
 many:0≤x.many∧x.many≤9999
 state:1≤x.state∧x.state≤3
 till:0≤x.till∧x.till≤1099511627776
 free:x.state≠1→x.till=0
structure LocP (L:List Bk) (p:Pl):Prop where
 has:∀ x∈L,x.flt=p.n→HasP p x
 backQ:∀ w∈p.q,∃ x∈L,x.id=w.id∧x.flt=p.n∧x.state=3
 backH:∀ h∈p.r.L,∃ x∈L,x.id=h.owner∧x.flt=p.n∧x.state≠3
structure Core (b:Book):Prop where
 now:0≤b.now∧b.now≤1099511627776
 next:1≤b.next∧b.next≤28629151
 good:∀ p∈b.fl,Good p.r
 qok:∀ p∈b.fl,QOk p.q
 nums:KRise Pl.n b.fl
 few:b.fl.length≤8
 ids:KRise Bk.id b.L
 each:∀ x∈b.L,BkOk b.next x
 many:b.L.length≤300
 there:∀ x∈b.L,∃ p∈b.fl,p.n=x.flt
 loc:∀ p∈b.fl,LocP b.L p
def Timely (b:Book):Prop:=∀ x∈b.L,x.state=1→b.now<x.till
def NoFit (p:Pl):Prop:=qfirst p.q (rleftsF p.r)=none
structure BookOk (b:Book):Prop where
 core:Core b
 time:Timely b
 nofit:∀ p∈b.fl,NoFit p
theorem core_new:Core newBook:=
 ⟨⟨by decide,by decide⟩,⟨by decide,by decide⟩,fun _ h=>(by cases h),fun _ h=>(by cases h),List.Pairwise.nil,by decide,List.Pairwise.nil,fun _ h=>(by cases h),by decide,fun _ h=>(by cases h),fun _ h=>(by cases h)⟩
theorem ok_new:BookOk newBook:=⟨core_new,fun _ h=>(by cases h),fun _ h=>(by cases h)⟩
theorem Core.swap {b:Book} (c:Core b) {n:Int} {f:Pl→Pl} {L:List Bk} {next:Int} (hn:b.next≤next∧next≤28629151)
  (hf:∀ p∈b.fl,p.n=n→(f p).n=n∧Good (f p).r∧QOk (f p).q∧LocP L (f p))
  (ids:KRise Bk.id L) (each:∀ x∈L,BkOk next x) (many:L.length≤300)
  (out:∀ x,x.flt≠n→(x∈L↔x∈b.L)) (here:∀ x∈L,x.flt=n→∃ p∈b.fl,p.n=n):Core { b.put n f L with next:=next }:=by
 have hmem:∀ {p},p∈kset Pl.n n f b.fl→∃ q∈b.fl,q.n=p.n∧((q.n=n∧p=f q)∨(q.n≠n∧p=q)):=fun {p} hp=>by
  obtain ⟨q,hq,e⟩:=mem_kset.1 hp
  by_cases h:q.n=n
  ·rw [if_pos h] at e
   exact ⟨q,hq,by rw [e,(hf q hq h).1,h],.inl ⟨h,e⟩⟩
  ·rw [if_neg h] at e
   exact ⟨q,hq,by rw [e],.inr ⟨h,e⟩⟩
 have hput:∀ {q},q∈b.fl→∃ p∈kset Pl.n n f b.fl,p.n=q.n:=fun {q} hq=>by
  by_cases h:q.n=n
  ·exact ⟨f q,mem_kset.2 ⟨q,hq,by rw [if_pos h]⟩,by rw [(hf q hq h).1,h]⟩
  ·exact ⟨q,mem_kset.2 ⟨q,hq,by rw [if_neg h]⟩,rfl⟩
 refine ⟨c.now,⟨Int.le_trans c.next.1 hn.1,hn.2⟩,fun p hp=>?_,fun p hp=>?_,kset_rise c.nums fun p hp e=>(hf p hp e).1,by show (kset Pl.n n f b.fl).length≤8;rw [kset_len];exact c.few,ids,each,many,fun x hx=>?_,fun p hp=>?_⟩
 ·obtain ⟨q,hq,_,⟨h,rfl⟩|⟨h,rfl⟩⟩:=hmem hp
  ·exact (hf q hq h).2.1
  ·exact c.good p hq
 ·obtain ⟨q,hq,_,⟨h,rfl⟩|⟨h,rfl⟩⟩:=hmem hp
  ·exact (hf q hq h).2.2.1
  ·exact c.qok p hq
 ·by_cases h:x.flt=n
  ·obtain ⟨p,hp,e⟩:=here x hx h
   obtain ⟨p',hp',e'⟩:=hput hp
   exact ⟨p',hp',by rw [e',e,h]⟩
  ·obtain ⟨p,hp,e⟩:=c.there x ((out x h).1 hx)
   obtain ⟨p',hp',e'⟩:=hput hp
   exact ⟨p',hp',by rw [e',e]⟩
 ·obtain ⟨q,hq,_,⟨h,rfl⟩|⟨h,rfl⟩⟩:=hmem hp
  ·exact (hf q hq h).2.2.2
  ·have hl:=c.loc p hq
   refine ⟨fun x hx e=>hl.has x ((out x (by rw [e];exact h)).1 hx) e,fun w hw=>?_,fun o ho=>?_⟩
   ·obtain ⟨x,hx,a1,a2,a3⟩:=hl.backQ w hw
    exact ⟨x,(out x (by rw [a2];exact h)).2 hx,a1,a2,a3⟩
   ·obtain ⟨x,hx,a1,a2,a3⟩:=hl.backH o ho
    exact ⟨x,(out x (by rw [a2];exact h)).2 hx,a1,a2,a3⟩
theorem BkOk.le {n m:Int} {x:Bk} (h:BkOk n x) (hl:n≤m):BkOk m x:=⟨⟨h.id.1,Int.lt_of_lt_of_le h.id.2 hl⟩,h.flt,h.cls,h.many,h.state,h.till,h.free⟩
theorem at_some {b:Book} {n:Int} {p:Pl} (h:b.at n=some p):p∈b.fl∧p.n=n:=kget_some h
theorem at_iff {b:Book} (c:Core b) {n:Int} {p:Pl}:b.at n=some p↔p∈b.fl∧p.n=n:=kget_iff c.nums
theorem bk_iff {b:Book} (c:Core b) {n:Int} {x:Bk}:b.bk n=some x↔x∈b.L∧x.id=n:=kget_iff c.ids
theorem Core.at_of {b:Book} (c:Core b) {x:Bk} (hx:x∈b.L):∃ p,b.at x.flt=some p:=by
 obtain ⟨p,hp,e⟩:=c.there x hx
 exact ⟨p,(at_iff c).2 ⟨hp,e⟩⟩
theorem at_put {b:Book} {n:Int} {f:Pl→Pl} {L:List Bk} {p:Pl} (hf:(f p).n=n) (c:Core b) (h:b.at n=some p) (c':KRise Pl.n (kset Pl.n n f b.fl)):(b.put n f L).at n=some (f p):=by
 have h1:=at_some h
 exact (kget_iff c').2 ⟨mem_kset.2 ⟨p,h1.1,by rw [if_pos h1.2]⟩,hf⟩
end
end Go.Proofs.YtflgboncpbmikaaGreatDoor
/- What a flight's steps do to what is left, and to who has what. No condition. -/
namespace Go.Proofs.YtflgboncpbmikaaGreatDoor
set_option linter.unusedVariables false
set_option linter.unusedSimpArgs false
open Go Go.VC
variable {r:RF} {o c m:Int}
theorem good_take (g:Good r) (o c m:Int):Good (rtakeF r o c m).1:=by
 obtain ⟨f,_,t⟩:=dec_enc g
 exact (tie_take t g o c m).2.2
theorem good_give (g:Good r) (o:Int):Good (rgiveF r o).1:=by
 obtain ⟨f,_,t⟩:=dec_enc g
 exact (tie_give t g o).2.2
theorem good_seat (g:Good r) (o:Int) (lab:ByteArray):Good (rseatF r o lab).1:=by
 obtain ⟨f,_,t⟩:=dec_enc g
 exact (tie_seat t g o lab fun k h=>find_in h).2.2
theorem good_auto (g:Good r) (o:Int):Good (rautoF r o).1:=by
 obtain ⟨f,_,t⟩:=dec_enc g
 exact (tie_auto t g o).2.2.1
theorem take_num:(rtakeF r o c m).1.num=r.num∧(rtakeF r o c m).1.lims=r.lims:=by
 by_cases h:(rtakeF r o c m).2=0
 ·obtain ⟨A,C,e,_,_⟩:=take_ok h
  rw [e]
  exact ⟨rfl,rfl⟩
 ·rw [take_no h]
  exact ⟨rfl,rfl⟩
theorem take_mem (h:(rtakeF r o c m).2=0) {x:Hold}:x∈(rtakeF r o c m).1.L↔x=⟨o,c,m,[]⟩∨x∈r.L:=by
 obtain ⟨A,C,e,hL,_⟩:=take_ok h
 rw [e,hL]
 dsimp only
 rw [List.mem_append,List.mem_cons,List.mem_append]
 constructor
 ·rintro (h|h|h)<;>simp [h]
 ·rintro (h|h|h)<;>simp [h]
theorem take_facts (h:(rtakeF r o c m).2=0):(1≤o∧o≤28629151)∧getO o r.L=none∧(sellT r.lims r.sold c m).2=0∧rtakeF r o c m=({ r with L:=insH ⟨o,c,m,[]⟩ r.L },0):=by
 unfold rtakeF at h ⊢
 split at h
 ·cases h
 rename_i h1
 split at h
 ·cases h
 rename_i h2
 rw [if_neg h1,if_neg h2]
 split at h
 ·rename_i h3
  rw [if_pos h3]
  exact ⟨by omega,by cases e:getO o r.L with|none=>rfl|some x=>rw [e] at h2;simp at h2,h3,rfl⟩
 ·rename_i h3;exact absurd h h3
theorem take_sold (h:(rtakeF r o c m).2=0):(rtakeF r o c m).1.sold=r.sold.set c.toNat (r.sold.getD c.toNat 0 + m)∧0≤c∧c<r.lims.length∧1≤m:=by
 obtain ⟨_,_,h3,e⟩:=take_facts h
 obtain ⟨_,_,c0,c1,m0⟩:=nest_sell h3
 refine ⟨?_,c0,c1,m0⟩
 rw [e]
 exact (soldL_put (n:=r.lims.length) (insH_perm ⟨o,c,m,[]⟩ r.L) c0 c1).symm
theorem mnF_mono {x y:Nat→Int}:∀ {k:Nat},(∀ i,i<k→x i≤y i)→mnF x k≤mnF y k
 |0,_=>Int.le_refl _
 |k + 1,h=>by
  have h1:=mnF_mono (k:=k) fun i hi=>h i (by omega)
  have h2:=h k (by omega)
  unfold mnF
  split<;>split<;>omega
theorem lefts_len (r:RF):(rleftsF r).length=r.lims.length:=by simp [rleftsF]
theorem lefts_get {k:Nat} (h:k<r.lims.length):(rleftsF r).getD k 0=(leftT r.lims r.sold k).1:=by
 unfold rleftsF
 rw [List.getD_eq_getElem?_getD]
 simp [h]
theorem left_val (g:Good r) {k:Nat} (h:k<r.lims.length):(leftT r.lims r.sold k).1=mnF (roomF r.lims r.sold) (k + 1)∧(leftT r.lims r.sold k).2=0:=by
 unfold leftT
 rw [if_pos ⟨g.nest,by omega,by omega⟩]
 exact ⟨by rw [Int.toNat_natCast],rfl⟩
theorem take_left (g:Good r) (h:(rtakeF r o c m).2=0) {k:Nat} (hk:k<r.lims.length):(rleftsF (rtakeF r o c m).1).getD k 0≤(rleftsF r).getD k 0:=by
 obtain ⟨hs,c0,c1,m0⟩:=take_sold h
 have hl:=(take_num (r:=r) (o:=o) (c:=c) (m:=m)).2
 have g':=good_take g o c m
 rw [lefts_get hk,lefts_get (by rw [hl];exact hk),(left_val g hk).1,(left_val g' (by rw [hl];exact hk)).1,hl,hs]
 refine mnF_mono fun i hi=>?_
 unfold roomF
 have hlen:r.sold.length=r.lims.length:=soldL_len _ _
 have:=fromN_add (sold:=r.sold) (c:=c.toNat) (m:=m) (by omega) (r.lims.length - i) i (by omega)
 rw [this]
 split<;>omega
theorem take_fits (g:Good r) {w:Wt} (hw:w.Ok) (hf:fitsQ (rleftsF r) w=true) (hn:getO w.id r.L=none):(rtakeF r w.id w.cls w.many).2=0:=by
 obtain ⟨⟨a1,a2⟩,⟨b1,b2⟩,⟨c1,c2⟩,_⟩:=hw
 unfold fitsQ at hf
 simp only [Bool.and_eq_true,decide_eq_true_eq] at hf
 rw [lefts_len] at hf
 rw [lefts_get (by omega)] at hf
 have hv:=left_val g (k:=w.cls.toNat) (by omega)
 have e:((w.cls.toNat:Nat):Int)=w.cls:=by omega
 rw [e] at hf hv
 have hs:(sellT r.lims r.sold w.cls w.many).2=0:=by
  unfold sellT
  rw [if_neg (by rw [hv.2];omega),if_neg (by omega)]
 unfold rtakeF
 rw [if_neg (by omega),hn,if_neg (by simp),if_pos hs]
theorem fits_take (g:Good r) (h:(rtakeF r o c m).2=0) {w:Wt} (hw:0≤w.cls) (hf:fitsQ (rleftsF (rtakeF r o c m).1) w=true):fitsQ (rleftsF r) w=true:=by
 unfold fitsQ at *
 simp only [Bool.and_eq_true,decide_eq_true_eq] at *
 rw [lefts_len] at *
 rw [(take_num (r:=r) (o:=o) (c:=c) (m:=m)).2] at hf
 have:=take_left g h (k:=w.cls.toNat) (by omega)
 omega
theorem give_num:(rgiveF r o).1.num=r.num∧(rgiveF r o).1.lims=r.lims:=by
 unfold rgiveF
 split<;>exact ⟨rfl,rfl⟩
theorem give_mem (g:Good r) {x:Hold}:x∈(rgiveF r o).1.L↔x∈r.L∧x.owner≠o:=by
 unfold rgiveF
 cases hg:getO o r.L with
 |none=>
  dsimp only
  exact ⟨fun h=>⟨h,getO_none.1 hg x h⟩,fun h=>h.1⟩
 |some hd=>
  obtain ⟨A,C,hL,hA,ho⟩:=getO_split hg
  have hr:=g.rise
  dsimp only
  rw [hL] at hr ⊢
  rw [delO_app ho hA]
  have hp:=List.pairwise_append.1 hr
  have hc:=List.pairwise_cons.1 hp.2.1
  rw [List.mem_append,List.mem_append,List.mem_cons]
  constructor
  ·rintro (h|h)
   ·exact ⟨.inl h,getO_none.1 hA x h⟩
   ·exact ⟨.inr (.inr h),by have:=hc.1 x h;omega⟩
  ·rintro ⟨h|rfl|h,hn⟩
   ·exact .inl h
   ·exact absurd ho hn
   ·exact .inr h
structure Seatly (r r':RF):Prop where
 num:r'.num=r.num
 lims:r'.lims=r.lims
 rows:r'.rows=r.rows
 grps:r'.grps=r.grps
 each:∃ A hd hd' C,r.L=A++hd::C∧r'.L=A++hd'::C∧hd'.owner=hd.owner∧hd'.cls=hd.cls∧hd'.many=hd.many
theorem Seatly.sold {r':RF} (h:Seatly r r'):r'.sold=r.sold:=by
 obtain ⟨A,hd,hd',C,e1,e2,_,e4,e5⟩:=h.each
 unfold RF.sold soldL
 rw [h.lims]
 apply List.map_congr_left
 intro k _
 rw [e1,e2,cntL_app,cntL_app,cntL_cons,cntL_cons,e4,e5]
theorem Seatly.lefts {r':RF} (h:Seatly r r'):rleftsF r'=rleftsF r:=by
 unfold rleftsF
 rw [h.lims,h.sold]
theorem Seatly.mem {r':RF} (h:Seatly r r') {x:Hold} (hx:x∈r.L):∃ y∈r'.L,y.owner=x.owner∧y.cls=x.cls∧y.many=x.many:=by
 obtain ⟨A,hd,hd',C,e1,e2,e3,e4,e5⟩:=h.each
 rw [e1,List.mem_append,List.mem_cons] at hx
 rw [e2]
 rcases hx with hx|rfl|hx
 ·exact ⟨x,by simp [hx],rfl,rfl,rfl⟩
 ·exact ⟨hd',by simp,e3,e4,e5⟩
 ·exact ⟨x,by simp [hx],rfl,rfl,rfl⟩
theorem Seatly.symm {r':RF} (h:Seatly r r'):Seatly r' r:=by
 obtain ⟨A,hd,hd',C,e1,e2,e3,e4,e5⟩:=h.each
 exact ⟨h.num.symm,h.lims.symm,h.rows.symm,h.grps.symm,A,hd',hd,C,e2,e1,e3.symm,e4.symm,e5.symm⟩
theorem seat_ly (g:Good r) {lab:ByteArray} (h:(rseatF r o lab).2=0):Seatly r (rseatF r o lab).1:=by
 obtain ⟨A,hd,C,n,_,hL,_,_,_,e⟩:=seat_ok g h
 rw [e]
 exact ⟨rfl,rfl,rfl,rfl,A,hd,hd.put n,C,hL,rfl,rfl,rfl,rfl⟩
theorem auto_ly (h:(rautoF r o).2.2=0):Seatly r (rautoF r o).1:=by
 unfold rautoF at *
 cases hg:getO o r.L with
 |none=>rw [hg] at h;cases h
 |some hd=>
  obtain ⟨A,C,hL,hA,ho⟩:=getO_split hg
  rw [hg] at h
  dsimp only at h ⊢
  split at h
  ·cases h
  ·rename_i h1
   rw [if_neg h1]
   split at h
   ·rename_i h2
    rw [if_pos h2]
    refine ⟨rfl,rfl,rfl,rfl,A,hd,{ hd with seats:=(bestT r.rows r.grps (takenL r.L) hd.many).1 },C,hL,?_,rfl,rfl,rfl⟩
    show setO o _ r.L=_
    rw [hL]
    exact setO_app ho hA
   ·rename_i h2;exact absurd h h2
theorem seat_no' {lab:ByteArray} (h:(rseatF r o lab).2≠0):(rseatF r o lab).1=r:=(seat_no h).1
theorem auto_no (h:(rautoF r o).2.2≠0):(rautoF r o).1=r:=by
 unfold rautoF at *
 cases hg:getO o r.L with
 |none=>rfl
 |some hd=>
  rw [hg] at h
  dsimp only at h ⊢
  split
  ·rfl
  ·rename_i h1
   rw [if_neg h1] at h
   split
   ·rename_i h2;rw [if_pos h2] at h;exact absurd rfl h
   ·rfl
end Go.Proofs.YtflgboncpbmikaaGreatDoor
/- The book, plainly: what holds of it, behind each step. No condition. -/
namespace Go.Proofs.YtflgboncpbmikaaGreatDoor
set_option linter.unusedVariables false
set_option linter.unusedSimpArgs false
open Go Go.VC
variable {b:Book} {n:Int} {p:Pl} {w:Wt} {x:Bk}
theorem Core.uniq (c:Core b) {x y:Bk} (hx:x∈b.L) (hy:y∈b.L) (e:x.id=y.id):x=y:=c.ids.uniq hx hy e
theorem Core.uniqP (c:Core b) {p q:Pl} (hp:p∈b.fl) (hq:q∈b.fl) (e:p.n=q.n):p=q:=c.nums.uniq hp hq e
theorem Core.waits (c:Core b) (hp:p∈b.fl) (hw:w∈p.q):∃ x∈b.L,x.id=w.id∧x.flt=p.n∧x.state=3∧x.cls=w.cls∧x.many=w.many:=by
 obtain ⟨x,hx,e1,e2,e3⟩:=(c.loc p hp).backQ w hw
 have h:=(c.loc p hp).has x hx e2
 unfold HasP at h
 rw [if_pos e3] at h
 obtain ⟨⟨w',hw',a1,a2,a3⟩,_⟩:=h
 have:w'=w:=by
  have hq:=(c.qok p hp).ids
  have key:∀ {q:List Wt},QIds q→∀ {a b:Wt},a∈q→b∈q→a.id=b.id→a=b:=by
   intro q
   induction q with
   |nil=>intro _ a b ha;cases ha
   |cons y q ih=>
    intro h a b ha hb e
    have hp:=List.pairwise_cons.1 h
    rcases List.mem_cons.1 ha with e1|h1
    ·rcases List.mem_cons.1 hb with e2|h2
     ·rw [e1,e2]
     ·rw [e1] at e;exact absurd e (hp.1 b h2)
    ·rcases List.mem_cons.1 hb with e2|h2
     ·rw [e2] at e;exact absurd e.symm (hp.1 a h1)
     ·exact ih hp.2 h1 h2 e
  exact key hq hw' hw (by omega)
 rw [this] at a2 a3
 exact ⟨x,hx,e1,e2,e3,a2.symm,a3.symm⟩
theorem Core.noHold (c:Core b) (hp:p∈b.fl) (hw:w∈p.q):getO w.id p.r.L=none:=by
 rw [getO_none]
 intro h hh e
 obtain ⟨x,hx,e1,e2,e3,_⟩:=c.waits hp hw
 obtain ⟨y,hy,a1,a2,a3⟩:=(c.loc p hp).backH h hh
 have:=c.uniq hx hy (by omega)
 rw [this] at e3
 exact a3 e3
theorem takeW_n:(takeW w p).n=p.n:=take_num.1
theorem fit_take (c:Core b) (hp:p∈b.fl) (hw:qfirst p.q (rleftsF p.r)=some w):w∈p.q∧fitsQ (rleftsF p.r) w=true∧(rtakeF p.r w.id w.cls w.many).2=0:=by
 obtain ⟨h1,h2⟩:=qfirst_mem hw
 exact ⟨h1,h2,take_fits (c.good p hp) ((c.qok p hp).ok w h1) h2 (c.noHold hp h1)⟩
theorem core_move (c:Core b) (hp:p∈b.fl) (hn:p.n=n) (hf:qfirst p.q (rleftsF p.r)=some w):Core (moveB b n w):=by
 obtain ⟨hw,hfit,htake⟩:=fit_take c hp hf
 obtain ⟨x,hx,e1,e2,e3,e4,e5⟩:=c.waits hp hw
 have hq:=c.qok p hp
 refine c.swap (next:=b.next) ⟨Int.le_refl _,c.next.2⟩ (fun p' hp' hn'=>?_) (kset_rise c.ids fun y _ e=>e) (fun y hy=>?_) (by show (kset Bk.id w.id bookX b.L).length≤300;rw [kset_len];exact c.many) (fun y hy=>?_) fun y _ _=>⟨p,hp,hn⟩
 ·obtain rfl:p'=p:=c.uniqP hp' hp (by omega)
  refine ⟨by rw [takeW_n];exact hn,good_take (c.good _ hp) _ _ _,hq.del _,?_⟩
  have hl:=c.loc _ hp
  refine ⟨fun y hy e=>?_,fun v hv=>?_,fun h hh=>?_⟩
  ·obtain ⟨z,hz,rfl⟩:=mem_kset.1 hy
   by_cases hid:z.id=w.id
   ·rw [if_pos hid]
    obtain rfl:z=x:=c.uniq hz hx (by omega)
    unfold HasP
    rw [if_neg (by show (2:Int)≠3;omega)]
    exact ⟨⟨w.id,w.cls,w.many,[]⟩,(take_mem htake).2 (.inl rfl),hid.symm,e4.symm,e5.symm⟩
   ·rw [if_neg hid] at e ⊢
    have hz2:=hl.has z hz (by rw [e,takeW_n])
    unfold HasP at *
    by_cases h3:z.state=3
    ·rw [if_pos h3] at hz2 ⊢
     obtain ⟨⟨v,hv,a1,a2,a3⟩,a4⟩:=hz2
     refine ⟨⟨v,(delQ_mem hq.ids).2 ⟨hv,by omega⟩,a1,a2,a3⟩,?_⟩
     show z.cls<((rtakeF _ _ _ _).1.lims.length:Int)
     rw [take_num.2];exact a4
    ·rw [if_neg h3] at hz2 ⊢
     obtain ⟨h,hh,a1,a2,a3⟩:=hz2
     exact ⟨h,(take_mem htake).2 (.inr hh),a1,a2,a3⟩
  ·obtain ⟨hv1,hv2⟩:=(delQ_mem hq.ids).1 hv
   obtain ⟨y,hy,a1,a2,a3⟩:=hl.backQ v hv1
   exact ⟨y,mem_kset.2 ⟨y,hy,by rw [if_neg (by omega)]⟩,a1,by rw [a2,takeW_n],a3⟩
  ·rcases (take_mem htake).1 hh with rfl|hh
   ·exact ⟨bookX x,mem_kset.2 ⟨x,hx,by rw [if_pos e1]⟩,e1,by show x.flt=_;rw [e2,takeW_n],by show (2:Int)≠3;omega⟩
   ·obtain ⟨y,hy,a1,a2,a3⟩:=hl.backH h hh
    refine ⟨y,mem_kset.2 ⟨y,hy,?_⟩,a1,by rw [a2,takeW_n],a3⟩
    rw [if_neg fun e=>?_]
    obtain rfl:y=x:=c.uniq hy hx (by omega)
    exact a3 e3
 ·obtain ⟨z,hz,rfl⟩:=mem_kset.1 hy
  have hb:=c.each z hz
  by_cases hid:z.id=w.id
  ·rw [if_pos hid]
   obtain rfl:z=x:=c.uniq hz hx (by omega)
   exact ⟨hb.id,hb.flt,hb.cls,hb.many,⟨by show (1:Int)≤2;omega,by show (2:Int)≤3;omega⟩,hb.till,fun _=>hb.free (by omega)⟩
  ·rw [if_neg hid];exact hb
 ·constructor
  ·intro h
   obtain ⟨z,hz,rfl⟩:=mem_kset.1 h
   by_cases hid:z.id=w.id
   ·rw [if_pos hid] at hy
    obtain rfl:z=x:=c.uniq hz hx (by omega)
    exact absurd (e2.trans hn) hy
   ·rw [if_neg hid];exact hz
  ·intro h
   refine mem_kset.2 ⟨y,h,?_⟩
   rw [if_neg fun e=>?_]
   obtain rfl:y=x:=c.uniq h hx (by omega)
   exact hy (e2.trans hn)
theorem move_at (c:Core b) (hp:b.at n=some p):(moveB b n w).at n=some (takeW w p):=
 at_put (by rw [takeW_n];exact (at_some hp).2) c hp (kset_rise c.nums fun q _ e=>by rw [takeW_n];exact e)
theorem move_fl {q:Pl} (h:q∈(moveB b n w).fl):q.n=n∨q∈b.fl:=by
 obtain ⟨z,hz,rfl⟩:=mem_kset.1 h
 by_cases e:z.n=n
 ·rw [if_pos e];exact .inl (by rw [takeW_n];exact e)
 ·rw [if_neg e];exact .inr hz
theorem move_timely (t:Timely b):Timely (moveB b n w):=by
 intro x hx hs
 obtain ⟨z,hz,rfl⟩:=mem_kset.1 hx
 by_cases e:z.id=w.id
 ·rw [if_pos e] at hs;exact absurd hs (by show (2:Int)≠1;omega)
 ·rw [if_neg e] at hs ⊢;exact t z hz hs
theorem delQ_len {id:Int} {q:List Wt} (h:hasQ id q=true):(delQ id q).length + 1=q.length:=by
 obtain ⟨A,w,C,e,_,_,e2⟩:=delQ_split h
 rw [e2,e]
 simp
 omega
structure Kept (n:Int) (b b':Book):Prop where
 now:b'.now=b.now
 next:b'.next=b.next
 keys:b'.fl.map Pl.n=b.fl.map Pl.n
 others:∀ q∈b'.fl,q.n=n∨q∈b.fl
 ids:b'.L.map Bk.id=b.L.map Bk.id
 bk:∀ y∈b'.L,∃ x∈b.L,y.id=x.id∧y.flt=x.flt∧y.cls=x.cls∧y.many=x.many∧y.till=x.till
theorem Kept.refl (n:Int) (b:Book):Kept n b b:=⟨rfl,rfl,rfl,fun _ h=>.inr h,rfl,fun y hy=>⟨y,hy,rfl,rfl,rfl,rfl,rfl⟩⟩
theorem Kept.trans {b1 b2 b3:Book} (h1:Kept n b1 b2) (h2:Kept n b2 b3):Kept n b1 b3:=
 ⟨h2.now.trans h1.now,h2.next.trans h1.next,h2.keys.trans h1.keys,fun q hq=>by
  rcases h2.others q hq with h|h
  ·exact .inl h
  ·exact h1.others q h,h2.ids.trans h1.ids,fun y hy=>by
  obtain ⟨x,hx,a1,a2,a3,a4,a5⟩:=h2.bk y hy
  obtain ⟨z,hz,c1,c2,c3,c4,c5⟩:=h1.bk x hx
  exact ⟨z,hz,by omega,by omega,by omega,by omega,by omega⟩⟩
theorem kset_keys {α:Type} {k:α→Int} {n:Int} {f:α→α} (hf:∀ x,k x=n→k (f x)=n):∀ l:List α,(kset k n f l).map k=l.map k
 |[]=>rfl
 |a::l=>by
  show k (if k a=n then f a else a)::(kset k n f l).map k=_
  rw [kset_keys hf l,List.map_cons]
  split
  ·rename_i e;rw [hf a e,e]
  ·rfl
theorem kept_move:Kept n b (moveB b n w):=by
 refine ⟨rfl,rfl,kset_keys (fun q e=>by rw [takeW_n];exact e) _,fun q hq=>move_fl hq,kset_keys (k:=Bk.id) (f:=bookX) (fun y e=>e) b.L,fun y hy=>?_⟩
 obtain ⟨z,hz,rfl⟩:=mem_kset.1 hy
 refine ⟨z,hz,?_⟩
 split<;>exact ⟨rfl,rfl,rfl,rfl,rfl⟩
theorem prom_ok:∀ (k:Nat) {b:Book},Core b→Core (promB k n b)∧Kept n b (promB k n b)∧(Timely b→Timely (promB k n b))∧((∀ p,b.at n=some p→p.q.length<k)→∀ p∈(promB k n b).fl,p.n=n→NoFit p)
 |0,b,c=>⟨c,Kept.refl n b,fun t=>t,fun h p hp e=>absurd (h p ((at_iff c).2 ⟨hp,e⟩)) (by omega)⟩
 |k + 1,b,c=>by
  unfold promB
  cases ha:b.at n with
  |none=>
   refine ⟨c,Kept.refl n b,fun t=>t,fun _ p hp e=>?_⟩
   rw [(at_iff c).2 ⟨hp,e⟩] at ha
   cases ha
  |some p=>
   dsimp only
   have hp:=at_some ha
   cases hq:qfirst p.q (rleftsF p.r) with
   |none=>
    refine ⟨c,Kept.refl n b,fun t=>t,fun _ p' hp' e=>?_⟩
    obtain rfl:p'=p:=c.uniqP hp' hp.1 (by rw [e,hp.2])
    exact hq
   |some w=>
    dsimp only
    have c':=core_move c hp.1 hp.2 hq
    obtain ⟨i1,i2,i3,i4⟩:=prom_ok k c'
    refine ⟨i1,kept_move.trans i2,fun t=>i3 (move_timely t),fun h=>i4 fun p' hp'=>?_⟩
    rw [move_at c ha] at hp'
    cases hp'
    have h1:=h p rfl
    have hm:=(fit_take c hp.1 hq).1
    have h2:=delQ_len (hasQ_iff.2 ⟨w,hm,rfl⟩)
    show (delQ w.id p.q).length<k
    omega
theorem promote_ok (c:Core b):Core (promote n b)∧Kept n b (promote n b)∧(Timely b→Timely (promote n b))∧∀ p∈(promote n b).fl,p.n=n→NoFit p:=by
 obtain ⟨h1,h2,h3,h4⟩:=prom_ok (n:=n) 201 c
 exact ⟨h1,h2,h3,h4 fun p hp=>by have:=(c.qok p (at_some hp).1).len;omega⟩
theorem core_open (c:Core b) {r:RF} (g:Good r) (hL:r.L=[]) (hn:b.at r.num=none) (hf:b.fl.length<8):Core { b with fl:=kins Pl.n ⟨r,[]⟩ b.fl }:=by
 have hno:=kget_none.1 hn
 refine ⟨c.now,c.next,fun p hp=>?_,fun p hp=>?_,kins_rise c.nums hno,by show (kins Pl.n _ b.fl).length≤8;rw [kins_len];omega,c.ids,c.each,c.many,fun x hx=>?_,fun p hp=>?_⟩
 ·rcases mem_kins.1 hp with rfl|hp
  ·exact g
  ·exact c.good p hp
 ·rcases mem_kins.1 hp with rfl|hp
  ·exact QOk.nil
  ·exact c.qok p hp
 ·obtain ⟨p,hp,e⟩:=c.there x hx
  exact ⟨p,mem_kins.2 (.inr hp),e⟩
 ·rcases mem_kins.1 hp with rfl|hp
  ·refine ⟨fun x hx e=>?_,fun w hw=>(by cases hw),fun h hh=>?_⟩
   ·obtain ⟨p,hp,e2⟩:=c.there x hx
    exact absurd (e2.trans e) (hno p hp)
   ·rw [show (Pl.mk r []).r.L=r.L from rfl,hL] at hh;cases hh
  ·exact c.loc p hp
theorem core_out (c:Core b) (hx:x∈b.L) {f:Pl→Pl} (hf:∀ p∈b.fl,p.n=x.flt→(f p).n=x.flt∧Good (f p).r∧QOk (f p).q∧(f p).r.lims=p.r.lims∧(∀ w,w∈(f p).q↔w∈p.q∧w.id≠x.id)∧∀ h,h∈(f p).r.L↔h∈p.r.L∧h.owner≠x.id):
  Core (b.put x.flt f (kdel Bk.id x.id b.L)):=by
 refine c.swap (next:=b.next) ⟨Int.le_refl _,c.next.2⟩ (fun p hp hn=>?_) (kdel_rise c.ids) (fun y hy=>c.each y (mem_kdel.1 hy).1) (Nat.le_trans (List.length_filter_le _ _) c.many) (fun y hy=>?_) fun y _ _=>c.there x hx
 ·obtain ⟨f1,f2,f3,f6,f4,f5⟩:=hf p hp hn
  have hl:=c.loc p hp
  refine ⟨f1,f2,f3,fun y hy e=>?_,fun w hw=>?_,fun h hh=>?_⟩
  ·obtain ⟨hy1,hy2⟩:=mem_kdel.1 hy
   have h:=hl.has y hy1 (by rw [e,f1,hn])
   unfold HasP at *
   by_cases h3:y.state=3
   ·rw [if_pos h3] at h ⊢
    obtain ⟨⟨w,hw,a1,a2,a3⟩,a4⟩:=h
    exact ⟨⟨w,(f4 w).2 ⟨hw,by omega⟩,a1,a2,a3⟩,by rw [f6];exact a4⟩
   ·rw [if_neg h3] at h ⊢
    obtain ⟨h,hh,a1,a2,a3⟩:=h
    exact ⟨h,(f5 h).2 ⟨hh,by omega⟩,a1,a2,a3⟩
  ·obtain ⟨hw1,hw2⟩:=(f4 w).1 hw
   obtain ⟨y,hy,a1,a2,a3⟩:=hl.backQ w hw1
   exact ⟨y,mem_kdel.2 ⟨hy,by omega⟩,a1,by rw [a2,f1,hn],a3⟩
  ·obtain ⟨hh1,hh2⟩:=(f5 h).1 hh
   obtain ⟨y,hy,a1,a2,a3⟩:=hl.backH h hh1
   exact ⟨y,mem_kdel.2 ⟨hy,by omega⟩,a1,by rw [a2,f1,hn],a3⟩
 ·refine mem_kdel.trans ⟨fun h=>h.1,fun h=>⟨h,fun e=>hy ?_⟩⟩
  rw [c.uniq h hx e]
theorem core_drop (c:Core b) (hx:x∈b.L) (hs:x.state≠3):Core (dropB b x):=by
 refine core_out c hx fun p hp hn=>⟨by show (rgiveF _ _).1.num=_;rw [give_num.1];exact hn,good_give (c.good p hp) _,c.qok p hp,give_num.2,fun w=>⟨fun hw=>⟨hw,fun e=>?_⟩,fun h=>h.1⟩,fun h=>give_mem (c.good p hp)⟩
 obtain ⟨y,hy,e1,_,e3,_⟩:=c.waits hp hw
 rw [c.uniq hy hx (by omega)] at e3
 exact hs e3
theorem core_gone (c:Core b) (hx:x∈b.L):Core (gone b x):=by
 unfold gone
 split
 ·rename_i hs
  refine core_out c hx fun p hp hn=>⟨hn,c.good p hp,(c.qok p hp).del _,rfl,fun w=>delQ_mem (c.qok p hp).ids,fun h=>⟨fun hh=>⟨hh,fun e=>?_⟩,fun hh=>hh.1⟩⟩
  obtain ⟨y,hy,a1,a2,a3⟩:=(c.loc p hp).backH h hh
  rw [c.uniq hy hx (by omega)] at a3
  exact a3 hs
 ·rename_i hs
  exact core_drop c hx hs
theorem put_timely {f:Pl→Pl} {L:List Bk} (t:Timely b) (h:∀ y∈L,y.state=1→y∈b.L):Timely (b.put n f L):=fun y hy hs=>t y (h y hy hs) hs
theorem gone_timely (t:Timely b):Timely (gone b x):=by
 unfold gone dropB
 split<;>exact put_timely t fun y hy _=>(mem_kdel.1 hy).1
theorem gone_fl {q:Pl} (h:q∈(gone b x).fl):q.n=x.flt∨q∈b.fl:=by
 unfold gone dropB at h
 split at h<;>
 ·obtain ⟨z,hz,rfl⟩:=mem_kset.1 h
  by_cases e:z.n=x.flt
  ·rw [if_pos e]
   exact .inl (by first|exact e|(show (rgiveF _ _).1.num=_;rw [give_num.1];exact e))
  ·rw [if_neg e];exact .inr hz
end Go.Proofs.YtflgboncpbmikaaGreatDoor
/- The book, plainly: each command. No condition. -/
namespace Go.Proofs.YtflgboncpbmikaaGreatDoor
set_option linter.unusedVariables false
set_option linter.unusedSimpArgs false
open Go Go.VC
variable {b:Book} {n:Int} {p:Pl} {w:Wt} {x:Bk} {c:Cm}
theorem mem_snoc {α:Type} {l:List α} {a y:α}:y∈l++[a]↔y∈l∨y=a:=by simp
theorem Core.fresh (k:Core b) {y:Bk} (hy:y∈b.L):y.id<b.next:=(k.each y hy).id.2
theorem core_add (k:Core b) (hx:BkOk (b.next + 1) x) (hid:x.id=b.next) (hf:¬ b.full) (hp:p∈b.fl) (hn:p.n=x.flt) {f:Pl→Pl} (hl:(f p).n=p.n∧Good (f p).r∧QOk (f p).q∧LocP (b.L++[x]) (f p)):
  Core { b.put x.flt f (b.L++[x]) with next:=b.next + 1 }:=by
 unfold Book.full at hf
 refine k.swap (next:=b.next + 1) ⟨by omega,by omega⟩ (fun p' hp' hn'=>?_) (krise_snoc k.ids fun y hy=>by rw [hid];exact k.fresh hy) (fun y hy=>?_) (by rw [List.length_append,List.length_singleton];omega) (fun y hy=>?_) fun y _ _=>⟨p,hp,hn⟩
 ·obtain rfl:p'=p:=k.uniqP hp' hp (by omega)
  exact ⟨by rw [hl.1];exact hn,hl.2.1,hl.2.2.1,hl.2.2.2⟩
 ·rcases mem_snoc.1 hy with hy|rfl
  ·exact (k.each y hy).le (by omega)
  ·exact hx
 ·refine mem_snoc.trans ⟨fun h=>?_,fun h=>.inl h⟩
  rcases h with h|rfl
  ·exact h
  ·exact absurd rfl hy
theorem core_hold (k:Core b) (hc:RightC c) (hp:b.at c.flt=some p) (hf:¬ b.full) (ht:(rtakeF p.r b.next c.cls c.many).2=0):
  Core { b.put c.flt (takeP b.next c.cls c.many) (b.L++[heldX b c]) with next:=b.next + 1 }:=by
 obtain ⟨hp1,hp2⟩:=at_some hp
 have hnx:=k.next
 refine core_add k (x:=heldX b c) ⟨⟨hnx.1,by show b.next<b.next + 1;omega⟩,hc.flt,hc.cls,hc.many,⟨by show (1:Int)≤1;omega,by show (1:Int)≤3;omega⟩,hc.time,fun h=>absurd rfl h⟩ rfl hf hp1 hp2 ?_
 refine ⟨take_num.1,good_take (k.good p hp1) _ _ _,k.qok p hp1,?_⟩
 have hl:=k.loc p hp1
 have hnum:(takeP b.next c.cls c.many p).n=p.n:=take_num.1
 refine ⟨fun y hy e=>?_,fun v hv=>?_,fun h hh=>?_⟩
 ·rcases mem_snoc.1 hy with hy|rfl
  ·have h:=hl.has y hy (by rw [e,hnum])
   unfold HasP at *
   by_cases h3:y.state=3
   ·rw [if_pos h3] at h ⊢
    exact ⟨h.1,by show y.cls<((rtakeF _ _ _ _).1.lims.length:Int);rw [take_num.2];exact h.2⟩
   ·rw [if_neg h3] at h ⊢
    obtain ⟨h,hh,a⟩:=h
    exact ⟨h,(take_mem ht).2 (.inr hh),a⟩
  ·unfold HasP
   rw [if_neg (by show (1:Int)≠3;omega)]
   exact ⟨⟨b.next,c.cls,c.many,[]⟩,(take_mem ht).2 (.inl rfl),rfl,rfl,rfl⟩
 ·obtain ⟨y,hy,a1,a2,a3⟩:=hl.backQ v hv
  exact ⟨y,mem_snoc.2 (.inl hy),a1,by rw [a2,hnum],a3⟩
 ·rcases (take_mem ht).1 hh with rfl|hh
  ·exact ⟨heldX b c,mem_snoc.2 (.inr rfl),rfl,by show c.flt=_;rw [hnum];exact hp2.symm,by show (1:Int)≠3;omega⟩
  ·obtain ⟨y,hy,a1,a2,a3⟩:=hl.backH h hh
   exact ⟨y,mem_snoc.2 (.inl hy),a1,by rw [a2,hnum],a3⟩
theorem qadd_facts {q:List Wt} (h:(qadd q w).2=0):w.Ok∧hasQ w.id q=false∧q.length<200∧qadd q w=(insQ w q,0):=by
 unfold qadd at *
 split at h
 ·cases h
 rename_i h1
 split at h
 ·cases h
 rename_i h2
 split at h
 ·cases h
 rename_i h3
 rw [if_neg h1,if_neg h2,if_neg h3]
 exact ⟨by simpa using h1,by simpa using h2,by omega,rfl⟩
theorem core_wait (k:Core b) (hc:RightC c) (hs:c.sc<18446744073709551616) (hp:b.at c.flt=some p) (hcl:¬ (p.r.lims.length:Int)≤c.cls) (hf:¬ b.full) (hq:(qadd p.q (waitW b c)).2=0):Core (queued b c):=by
 obtain ⟨hp1,hp2⟩:=at_some hp
 obtain ⟨q1,q2,q3,_⟩:=qadd_facts hq
 have hnx:=k.next
 refine core_add k (x:=waitX b c) ⟨⟨hnx.1,by show b.next<b.next + 1;omega⟩,hc.flt,hc.cls,hc.many,⟨by show (1:Int)≤3;omega,by show (3:Int)≤3;omega⟩,⟨Int.le_refl _,by show (0:Int)≤_;omega⟩,fun _=>rfl⟩ rfl hf hp1 hp2 ?_
 refine ⟨rfl,k.good p hp1,(k.qok p hp1).ins q1 hs q2 q3,?_⟩
 have hl:=k.loc p hp1
 refine ⟨fun y hy e=>?_,fun v hv=>?_,fun h hh=>?_⟩
 ·rcases mem_snoc.1 hy with hy|rfl
  ·have h:=hl.has y hy e
   unfold HasP at *
   by_cases h3:y.state=3
   ·rw [if_pos h3] at h ⊢
    obtain ⟨⟨v,hv,a⟩,a4⟩:=h
    exact ⟨⟨v,insQ_mem.2 (.inr hv),a⟩,a4⟩
   ·rw [if_neg h3] at h ⊢
    exact h
  ·unfold HasP
   rw [if_pos (by rfl)]
   exact ⟨⟨waitW b c,insQ_mem.2 (.inl rfl),rfl,rfl,rfl⟩,by show c.cls<(p.r.lims.length:Int);omega⟩
 ·rcases insQ_mem.1 hv with rfl|hv
  ·exact ⟨waitX b c,mem_snoc.2 (.inr rfl),rfl,hp2.symm,rfl⟩
  ·obtain ⟨y,hy,a⟩:=hl.backQ v hv
   exact ⟨y,mem_snoc.2 (.inl hy),a⟩
 ·obtain ⟨y,hy,a⟩:=hl.backH h hh
  exact ⟨y,mem_snoc.2 (.inl hy),a⟩
theorem core_sure (k:Core b) (hx:x∈b.L) (hs:x.state=1):Core { b with L:=kset Bk.id x.id sureX b.L }:=by
 have hmem:∀ {y},y∈kset Bk.id x.id sureX b.L→y=sureX x∨(y∈b.L∧y.id≠x.id):=fun {y} hy=>by
  obtain ⟨z,hz,rfl⟩:=mem_kset.1 hy
  by_cases e:z.id=x.id
  ·rw [if_pos e,k.uniq hz hx e];exact .inl rfl
  ·rw [if_neg e];exact .inr ⟨hz,e⟩
 have hput:∀ {y},y∈b.L→y.id≠x.id→y∈kset Bk.id x.id sureX b.L:=fun {y} hy e=>mem_kset.2 ⟨y,hy,by rw [if_neg e]⟩
 have hnew:sureX x∈kset Bk.id x.id sureX b.L:=mem_kset.2 ⟨x,hx,by rw [if_pos rfl]⟩
 refine ⟨k.now,k.next,k.good,k.qok,k.nums,k.few,kset_rise k.ids fun _ _ e=>e,fun y hy=>?_,by show (kset Bk.id _ _ b.L).length≤_;rw [kset_len];exact k.many,fun y hy=>?_,fun p hp=>?_⟩
 ·rcases hmem hy with rfl|⟨hy,_⟩
  ·have hb:=k.each x hx
   exact ⟨hb.id,hb.flt,hb.cls,hb.many,⟨by show (1:Int)≤2;omega,by show (2:Int)≤3;omega⟩,⟨Int.le_refl _,by show (0:Int)≤_;omega⟩,fun _=>rfl⟩
  ·exact k.each y hy
 ·rcases hmem hy with rfl|⟨hy,_⟩
  ·exact k.there x hx
  ·exact k.there y hy
 ·have hl:=k.loc p hp
  refine ⟨fun y hy e=>?_,fun w hw=>?_,fun h hh=>?_⟩
  ·rcases hmem hy with rfl|⟨hy,_⟩
   ·have h:=hl.has x hx e
    unfold HasP at *
    rw [if_neg (by omega)] at h
    rw [if_neg (by show (2:Int)≠3;omega)]
    exact h
   ·exact hl.has y hy e
  ·obtain ⟨y,hy,a1,a2,a3⟩:=hl.backQ w hw
   refine ⟨y,hput hy fun e=>?_,a1,a2,a3⟩
   rw [k.uniq hy hx e] at a3
   omega
  ·obtain ⟨y,hy,a1,a2,a3⟩:=hl.backH h hh
   by_cases e:y.id=x.id
   ·rw [k.uniq hy hx e] at a1 a2
    exact ⟨sureX x,hnew,a1,a2,by show (2:Int)≠3;omega⟩
   ·exact ⟨y,hput hy e,a1,a2,a3⟩
theorem core_seat (k:Core b) {r:RF} (hp:b.at n=some p) (g:Good r) (h:Seatly p.r r):Core (b.put n (seatP r) b.L):=by
 obtain ⟨hp1,hp2⟩:=at_some hp
 refine k.swap (next:=b.next) ⟨Int.le_refl _,k.next.2⟩ (fun p' hp' hn'=>?_) k.ids k.each k.many (fun y _=>Iff.rfl) fun y _ _=>⟨p,hp1,hp2⟩
 obtain rfl:p'=p:=k.uniqP hp' hp1 (by omega)
 have hl:=k.loc _ hp1
 have hnum:(seatP r p').n=p'.n:=h.num
 refine ⟨by rw [hnum];exact hp2,g,k.qok p' hp1,fun y hy e=>?_,fun w hw=>?_,fun o ho=>?_⟩
 ·have h2:=hl.has y hy (by rw [e,hnum])
  unfold HasP at *
  by_cases h3:y.state=3
  ·rw [if_pos h3] at h2 ⊢
   exact ⟨h2.1,by show y.cls<(r.lims.length:Int);rw [h.lims];exact h2.2⟩
  ·rw [if_neg h3] at h2 ⊢
   obtain ⟨o,ho,a1,a2,a3⟩:=h2
   obtain ⟨o',ho',c1,c2,c3⟩:=h.mem ho
   exact ⟨o',ho',by omega,by omega,by omega⟩
 ·obtain ⟨y,hy,a1,a2,a3⟩:=hl.backQ w hw
  exact ⟨y,hy,a1,by rw [a2,hnum],a3⟩
 ·obtain ⟨o',ho',c1,_,_⟩:=h.symm.mem ho
  obtain ⟨y,hy,a1,a2,a3⟩:=hl.backH o' ho'
  exact ⟨y,hy,by omega,by rw [a2,hnum],a3⟩
theorem core_now (k:Core b) {t:Int} (h:0≤t∧t≤1099511627776):Core { b with now:=t }:=⟨h,k.next,k.good,k.qok,k.nums,k.few,k.ids,k.each,k.many,k.there,k.loc⟩
theorem drop_now:(dropB b x).now=b.now:=rfl
theorem exp_ok:∀ (l:List Bk) {b:Book},Core b→(∀ x∈l,x∈b.L)→KRise Bk.id l→
  Core (expAll l b)∧(expAll l b).now=b.now∧(expAll l b).next=b.next∧((expAll l b).fl.map Pl.n=b.fl.map Pl.n)∧∀ y,y∈(expAll l b).L↔y∈b.L∧¬ (y∈l∧old b.now y=true)
 |[],b,k,_,_=>⟨k,rfl,rfl,rfl,fun y=>by simp [expAll]⟩
 |x::l,b,k,hl,hr=>by
  have hp:=List.pairwise_cons.1 hr
  have hx:=hl x (by simp)
  unfold expAll
  by_cases ho:old b.now x=true
  ·rw [if_pos ho]
   have hs:x.state=1:=by unfold old at ho;simp at ho;exact ho.1
   have k':=core_drop k hx (by omega)
   have hin:∀ y∈l,y∈(dropB b x).L:=fun y hy=>mem_kdel.2 ⟨hl y (by simp [hy]),by have:=hp.1 y hy;omega⟩
   obtain ⟨i1,i2,i3,i4,i5⟩:=exp_ok l k' hin hp.2
   refine ⟨i1,i2,i3,i4.trans (kset_keys (fun q e=>by show (rgiveF _ _).1.num=_;rw [give_num.1];exact e) _),fun y=>?_⟩
   rw [i5,drop_now]
   have hm:y∈(dropB b x).L↔y∈b.L∧y.id≠x.id:=mem_kdel
   rw [hm,List.mem_cons]
   constructor
   ·rintro ⟨⟨h1,h2⟩,h3⟩
    refine ⟨h1,fun ⟨h4,h5⟩=>?_⟩
    rcases h4 with rfl|h4
    ·exact h2 rfl
    ·exact h3 ⟨h4,h5⟩
   ·rintro ⟨h1,h2⟩
    refine ⟨⟨h1,fun e=>h2 ⟨.inl (k.uniq h1 hx e),?_⟩⟩,fun ⟨h4,h5⟩=>h2 ⟨.inr h4,h5⟩⟩
    rw [k.uniq h1 hx e];exact ho
  ·rw [if_neg ho]
   obtain ⟨i1,i2,i3,i4,i5⟩:=exp_ok l k (fun y hy=>hl y (by simp [hy])) hp.2
   refine ⟨i1,i2,i3,i4,fun y=>?_⟩
   rw [i5,List.mem_cons]
   constructor
   ·rintro ⟨h1,h2⟩
    refine ⟨h1,fun ⟨h4,h5⟩=>?_⟩
    rcases h4 with rfl|h4
    ·exact ho h5
    ·exact h2 ⟨h4,h5⟩
   ·rintro ⟨h1,h2⟩
    exact ⟨h1,fun ⟨h4,h5⟩=>h2 ⟨.inr h4,h5⟩⟩
theorem ticked_ok (k:Core b) {t:Int} (h:0≤t∧t≤1099511627776):Core (ticked b t)∧Timely (ticked b t)∧(ticked b t).now=t∧(ticked b t).next=b.next∧(ticked b t).fl.map Pl.n=b.fl.map Pl.n:=by
 obtain ⟨i1,i2,i3,i4,i5⟩:=exp_ok b.L (core_now k h) (fun x hx=>hx) k.ids
 refine ⟨i1,fun y hy hs=>?_,i2,i3,i4⟩
 obtain ⟨h1,h2⟩:=(i5 y).1 hy
 show (ticked b t).now<_
 rw [show (ticked b t).now=t from i2]
 refine Int.not_le.1 fun h3=>h2 ⟨h1,?_⟩
 unfold old
 simp [hs]
 exact h3
theorem promAll_ok:∀ (l:List Int) {b:Book},Core b→Timely b→∀ S:Int→Prop,(∀ p∈b.fl,S p.n→NoFit p)→
  Core (promAll l b)∧Timely (promAll l b)∧(promAll l b).now=b.now∧(promAll l b).next=b.next∧(promAll l b).fl.map Pl.n=b.fl.map Pl.n∧∀ p∈(promAll l b).fl,(S p.n∨p.n∈l)→NoFit p
 |[],b,k,t,S,h=>⟨k,t,rfl,rfl,rfl,fun p hp e=>h p hp (by simpa using e)⟩
 |n::l,b,k,t,S,h=>by
  obtain ⟨p1,p2,p3,p4⟩:=promote_ok (n:=n) k
  obtain ⟨i1,i2,i3,i4,i5,i6⟩:=promAll_ok l p1 (p3 t) (fun k=>S k∨k=n) fun p hp e=>by
   by_cases hn:p.n=n
   ·exact p4 p hp hn
   ·rcases p2.others p hp with h2|h2
    ·exact absurd h2 hn
    ·exact h p h2 (e.resolve_right hn)
  refine ⟨i1,i2,i3.trans p2.now,i4.trans p2.next,i5.trans p2.keys,fun p hp e=>i6 p hp ?_⟩
  rcases e with e|e
  ·exact .inl (.inl e)
  ·rcases List.mem_cons.1 e with e|e
   ·exact .inl (.inr e)
   ·exact .inr e
theorem BookOk.promoted (k:Core b) (t:Timely b) (h:∀ p∈b.fl,p.n=n∨NoFit p):BookOk (promote n b):=by
 obtain ⟨p1,p2,p3,p4⟩:=promote_ok (n:=n) k
 refine ⟨p1,p3 t,fun p hp=>?_⟩
 by_cases e:p.n=n
 ·exact p4 p hp e
 ·rcases p2.others p hp with h2|h2
  ·exact absurd h2 e
  ·exact (h p h2).resolve_left e
theorem nofit_nil {r:RF}:NoFit ⟨r,[]⟩:=rfl
theorem nofit_take (g:Good p.r) (hq:QOk p.q) (h:NoFit p) {id cls many:Int} (ht:(rtakeF p.r id cls many).2=0):NoFit (takeP id cls many p):=by
 unfold NoFit qfirst at *
 rw [List.find?_eq_none] at *
 intro w hw hf
 exact h w hw (fits_take g ht (hq.ok w hw).2.1.1 hf)
theorem nofit_seat {r:RF} (h:NoFit p) (hs:Seatly p.r r):NoFit (seatP r p):=by
 unfold NoFit at *
 show qfirst p.q (rleftsF r)=none
 rw [hs.lefts]
 exact h
theorem put_fl {f:Pl→Pl} {L:List Bk} {q:Pl} (h:q∈(b.put n f L).fl):(∃ p∈b.fl,p.n=n∧q=f p)∨(q∈b.fl∧q.n≠n):=by
 obtain ⟨z,hz,rfl⟩:=mem_kset.1 h
 by_cases e:z.n=n
 ·rw [if_pos e];exact .inl ⟨z,hz,e,rfl⟩
 ·rw [if_neg e];exact .inr ⟨hz,e⟩
theorem ok_open (k:BookOk b):BookOk (openB b c).1:=by
 unfold openB
 split
 ·exact k
 rename_i h1
 split
 ·exact k
 rename_i h2
 split
 ·exact k
 rename_i h3
 have hn:b.at c.flt=none:=by cases e:b.at c.flt with|none=>rfl|some p=>rw [e] at h1;simp at h1
 have h3:newOk c.flt c.rows c.grps c.parts:=Classical.byContradiction h3
 refine ⟨core_open k.core (good_new h3) rfl hn (by omega),k.time,fun p hp=>?_⟩
 rcases mem_kins.1 hp with rfl|hp
 ·exact nofit_nil
 ·exact k.nofit p hp
theorem ok_hold (k:BookOk b) (hc:RightC c):BookOk (heldB b c).1:=by
 unfold heldB
 cases hp:b.at c.flt with
 |none=>exact k
 |some p=>
  dsimp only
  split
  ·exact k
  rename_i h1
  split
  ·exact k
  rename_i h2
  split
  ·exact k
  rename_i h3
  have h3:(rtakeF p.r b.next c.cls c.many).2=0:=Classical.byContradiction h3
  obtain ⟨hp1,hp2⟩:=at_some hp
  refine ⟨core_hold k.core hc hp h2 h3,fun y hy hs=>?_,fun q hq=>?_⟩
  ·rcases mem_snoc.1 hy with hy|rfl
   ·exact k.time y hy hs
   ·show b.now<c.time;omega
  ·rcases put_fl (b:=b) (L:=b.L) hq with ⟨z,hz,e,rfl⟩|⟨hq,_⟩
   ·obtain rfl:z=p:=k.core.uniqP hz hp1 (by omega)
    exact nofit_take (k.core.good _ hz) (k.core.qok _ hz) (k.nofit _ hz) h3
   ·exact k.nofit q hq
theorem ok_wait (k:BookOk b) (hc:RightC c) (hs:c.sc<18446744073709551616):BookOk (waitB b c).1:=by
 unfold waitB
 cases hp:b.at c.flt with
 |none=>exact k
 |some p=>
  dsimp only
  split
  ·exact k
  rename_i h1
  split
  ·exact k
  rename_i h2
  split
  ·exact k
  rename_i h3
  have h3:(qadd p.q (waitW b c)).2=0:=Classical.byContradiction h3
  refine BookOk.promoted (core_wait k.core hc hs hp h1 h2 h3) (fun y hy hs=>?_) fun q hq=>?_
  ·rcases mem_snoc.1 hy with hy|rfl
   ·exact k.time y hy hs
   ·exact absurd hs (by show (3:Int)≠1;omega)
  ·rcases put_fl (b:=b) (L:=b.L) hq with ⟨z,hz,e,rfl⟩|⟨hq,_⟩
   ·exact .inl e
   ·exact .inr (k.nofit q hq)
theorem ok_clock (k:BookOk b) (hc:RightC c):BookOk (clockB b c).1:=by
 unfold clockB
 split
 ·exact k
 obtain ⟨t1,t2,t3,t4,t5⟩:=ticked_ok k.core hc.time
 obtain ⟨p1,p2,p3,p4,p5,p6⟩:=promAll_ok (b.fl.map Pl.n) t1 t2 (fun _=>False) fun p _ h=>h.elim
 refine ⟨p1,p2,fun p hp=>p6 p hp (.inr ?_)⟩
 rw [←t5,←p5]
 exact List.mem_map_of_mem hp
theorem ok_one (k:BookOk b) (hx:x∈b.L):BookOk (oneB b x c).1:=by
 unfold oneB
 cases hp:b.at x.flt with
 |none=>exact k
 |some p=>
  obtain ⟨hp1,hp2⟩:=at_some hp
  dsimp only
  split
  ·split
   ·exact k
   ·rename_i h
    have h:x.state=1:=Classical.byContradiction h
    refine ⟨core_sure k.core hx h,fun y hy hs=>?_,k.nofit⟩
    obtain ⟨z,hz,rfl⟩:=mem_kset.1 hy
    by_cases e:z.id=x.id
    ·rw [if_pos e] at hs;exact absurd hs (by show (2:Int)≠1;omega)
    ·rw [if_neg e] at hs ⊢;exact k.time z hz hs
  ·split
   ·exact BookOk.promoted (core_gone k.core hx) (gone_timely k.time) fun q hq=>(gone_fl hq).imp_right (k.nofit q)
   ·split
    ·exact k
    ·have seat:∀ r,Good r→Seatly p.r r→BookOk (b.put x.flt (seatP r) b.L):=fun r g hs=>by
      refine ⟨core_seat k.core hp g hs,fun y hy=>k.time y hy,fun q hq=>?_⟩
      rcases put_fl (b:=b) (L:=b.L) hq with ⟨z,hz,e,rfl⟩|⟨hq,_⟩
      ·obtain rfl:z=p:=k.core.uniqP hz hp1 (by omega)
       exact nofit_seat (k.nofit _ hz) hs
      ·exact k.nofit q hq
     split
     ·split
      ·exact k
      ·rename_i h
       exact seat _ (good_seat (k.core.good p hp1) _ _) (seat_ly (k.core.good p hp1) (Classical.byContradiction h))
     ·split
      ·exact k
      ·rename_i h
       exact seat _ (good_auto (k.core.good p hp1) _) (auto_ly (Classical.byContradiction h))
theorem named_mem {s:ByteArray} {e:Int} (h:namedB b s=(some x,e)):x∈b.L:=by
 unfold namedB at h
 split at h
 ·cases h
 ·split at h
  ·cases h
  ·rename_i y hy
   cases h
   exact (kget_some hy).1
theorem ok_apply (k:BookOk b) (hs:c.sc<18446744073709551616):BookOk (applyB b c).1:=by
 unfold applyB
 split
 ·exact k
 rename_i hc
 have hc:RightC c:=Classical.byContradiction hc
 split
 ·exact ok_open k
 split
 ·exact ok_hold k hc
 split
 ·exact ok_wait k hc hs
 split
 ·exact ok_clock k hc
 split
 ·exact k
 split
 ·exact k
 ·rename_i hnm
  exact ok_one k (named_mem hnm)
end Go.Proofs.YtflgboncpbmikaaGreatDoor
/- The book, plainly: errors, the time, names, what a reply may be. No condition. -/
namespace Go.Proofs.YtflgboncpbmikaaGreatDoor
set_option linter.unusedVariables false
set_option linter.unusedSimpArgs false
open Go Go.VC
variable {b:Book} {n:Int} {p:Pl} {w:Wt} {x:Bk} {c:Cm}
theorem tell_code {b:Book} {x:Bk}:(tellB b x).code=0:=by
 unfold tellB
 split<;>rfl
theorem err_wait (h:(waitB b c).2.code≠0):waitB b c=(b,errR (waitB b c).2.code):=by
 unfold waitB at *
 cases hp:b.at c.flt with
 |none=>rfl
 |some p=>
  rw [hp] at h
  dsimp only at h ⊢
  split
  ·rfl
  rename_i h1
  rw [if_neg h1] at h
  split
  ·rfl
  rename_i h2
  rw [if_neg h2] at h
  split
  ·rfl
  rename_i h3
  rw [if_neg h3] at h
  refine absurd ?_ h
  dsimp only
  split
  ·rfl
  ·exact tell_code
theorem wait_cases (k:BookOk b) (hc:RightC c) (hs:c.sc<18446744073709551616):
  ((waitB b c).2.code≠0∧(waitB b c).1=b)∨
  (∃ p y,b.at c.flt=some p∧¬ (p.r.lims.length:Int)≤c.cls∧¬ b.full∧(qadd p.q (waitW b c)).2=0∧Core (queued b c)∧
   y∈(promote c.flt (queued b c)).L∧y.id=b.next∧y.flt=c.flt∧y.cls=c.cls∧y.many=c.many∧y.till=0∧
   waitB b c=(promote c.flt (queued b c),tellB (promote c.flt (queued b c)) y)):=by
 unfold waitB
 cases hp:b.at c.flt with
 |none=>exact .inl ⟨by show (2:Int)≠0;omega,rfl⟩
 |some p=>
  dsimp only
  split
  ·exact .inl ⟨by show (1:Int)≠0;omega,rfl⟩
  rename_i h1
  split
  ·exact .inl ⟨by show (3:Int)≠0;omega,rfl⟩
  rename_i h2
  split
  ·rename_i h3;exact .inl ⟨h3,rfl⟩
  rename_i h3
  have h3:(qadd p.q (waitW b c)).2=0:=Classical.byContradiction h3
  have kc:=core_wait k.core hc hs hp h1 h2 h3
  obtain ⟨p1,p2,_,_⟩:=promote_ok (n:=c.flt) kc
  have hid:b.next∈(promote c.flt (queued b c)).L.map Bk.id:=by
   rw [p2.ids]
   exact List.mem_map.2 ⟨waitX b c,mem_snoc.2 (.inr rfl),rfl⟩
  obtain ⟨y,hy,he⟩:=List.mem_map.1 hid
  obtain ⟨z,hz,a1,a2,a3,a4,a5⟩:=p2.bk y hy
  have hzx:z=waitX b c:=by
   rcases mem_snoc.1 hz with hz|rfl
   ·have:=k.core.fresh hz;omega
   ·rfl
  subst hzx
  refine .inr ⟨p,y,rfl,h1,h2,h3,kc,hy,he,a2,a3,a4,a5,?_⟩
  rw [(bk_iff p1).2 ⟨hy,he⟩]
end Go.Proofs.YtflgboncpbmikaaGreatDoor
/- The book, plainly: what a reply may be. No condition. -/
namespace Go.Proofs.YtflgboncpbmikaaGreatDoor
set_option linter.unusedVariables false
set_option linter.unusedSimpArgs false
open Go Go.VC
variable {b:Book} {n:Int} {p:Pl} {w:Wt} {x:Bk} {c:Cm} {r:RF}
theorem mnF_bd {f:Nat→Int}:∀ {k:Nat},(∀ i,i<k→0≤f i)→0≤mnF f k∧mnF f k≤10000
 |0,_=>by show (0:Int)≤10000∧(10000:Int)≤10000;omega
 |k + 1,h=>by
  have h1:=mnF_bd (k:=k) fun i hi=>h i (by omega)
  have h2:=h k (by omega)
  unfold mnF
  split<;>omega
theorem lefts_bd (g:Good r):(rleftsF r).length≤8∧∀ y∈rleftsF r,0≤y∧y≤10000:=by
 have h8:=(good_lims g).2.2
 refine ⟨by rw [lefts_len];exact h8,fun y hy=>?_⟩
 obtain ⟨k,hk,rfl⟩:=List.mem_map.1 hy
 have hk:=List.mem_range.1 hk
 rw [(left_val g hk).1]
 refine mnF_bd fun i hi=>?_
 have h:=(nestOk_iff.1 g.nest).2.2 i (by omega)
 unfold roomF
 omega
theorem lab_len {q:Fin 60} {m:Fin 10}:(labelL (q.1 + 1) m.1).length≤3:=by
 have:∀ q:Fin 60,∀ m:Fin 10,(labelL (q.1 + 1) m.1).length≤3:=by decide +kernel
 exact this q m
theorem labT_size {n:Int} {g:List Int} {k:Int}:(labT n g k).1.size≤3:=by
 unfold labT
 split
 ·rename_i h
  obtain ⟨a,b,q,m,_,_,b1,b2,hq,hm,e,_⟩:=labT_in h
  dsimp only
  rw [e,strOf_size]
  exact lab_len (q:=⟨q,hq⟩) (m:=⟨m,by omega⟩)
 ·exact Nat.zero_le _
theorem labels_bd (g:Good r) (o:Int):(rlabelsF r o).length≤600∧∀ s∈rlabelsF r o,s.size≤3:=by
 unfold rlabelsF
 cases h:getO o r.L with
 |none=>exact ⟨by simp,fun s hs=>(by cases hs)⟩
 |some hd=>
  obtain ⟨hm,_⟩:=(getO_iff g.rise.ne).1 h
  have h1:=(g.each hd hm).few
  have h2:=g.len.2 hd hm
  dsimp only
  unfold labsF
  refine ⟨by rw [List.length_map];omega,fun s hs=>?_⟩
  obtain ⟨k,_,rfl⟩:=List.mem_map.1 hs
  exact labT_size
theorem locS_size (id:Int):(locS id).size=6:=by
 unfold locS
 rw [strOf_size,locB_len]
theorem rpin_tell {n:Int} (g:Good p.r) (h:BkOk n x):RpIn (tellP p x):=by
 obtain ⟨l1,l2⟩:=lefts_bd g
 obtain ⟨b1,b2⟩:=labels_bd g x.id
 have h1:=h.flt
 have h2:=h.cls
 have h3:=h.many
 have h4:=h.state
 have h5:=h.till
 refine ⟨by show (0:Int)≤0∧(0:Int)≤_;omega,by show (locS x.id).size≤16;rw [locS_size];omega,?_,?_,?_,?_,?_,l1,fun y hy=>?_,b1,fun s hs=>?_⟩
 ·show 0≤x.state∧x.state≤_;omega
 ·show 0≤x.flt∧x.flt≤_;omega
 ·show 0≤x.cls∧x.cls≤_;omega
 ·show 0≤x.many∧x.many≤_;omega
 ·show 0≤x.till∧x.till≤_;omega
 ·have:=l2 y hy;omega
 ·have:=b2 s hs;omega
theorem rpin_few {e f m t:Int} {s:ByteArray} {l:List Int} (he:0≤e∧e≤1099511627776) (hf:0≤f∧f≤1099511627776) (hm:0≤m∧m≤1099511627776) (ht:0≤t∧t≤1099511627776) (hs:s.size≤16) (hl:l.length≤8∧∀ y∈l,0≤y∧y≤10000):RpIn ⟨e,s,0,f,0,m,t,l,[]⟩:=
 ⟨he,hs,by show (0:Int)≤0∧(0:Int)≤_;omega,hf,by show (0:Int)≤0∧(0:Int)≤_;omega,hm,ht,hl.1,fun y hy=>by have:=hl.2 y hy;omega,by show ([]:List ByteArray).length≤_;simp,fun y hy=>(by cases hy)⟩
theorem rpin_err {e:Int} (he:0≤e∧e≤1099511627776):RpIn (errR e):=
 rpin_few he (by omega) (by omega) (by omega) (by show emS.size≤16;decide) ⟨by simp,fun y hy=>(by cases hy)⟩
theorem rpin_tellB (k:Core b) (hx:x∈b.L):RpIn (tellB b x):=by
 obtain ⟨p,hp⟩:=k.at_of hx
 unfold tellB
 rw [hp]
 exact rpin_tell (k.good p (at_some hp).1) (k.each x hx)
theorem take_code {o c m:Int}:0≤(rtakeF r o c m).2∧(rtakeF r o c m).2≤7:=by
 unfold rtakeF
 split
 ·(dsimp only;omega)
 ·split
  ·(dsimp only;omega)
  ·split
   ·(dsimp only;omega)
   ·dsimp only
    unfold sellT
    split
    ·(dsimp only;omega)
    ·split<;>(dsimp only;omega)
theorem qadd_code {q:List Wt}:0≤(qadd q w).2∧(qadd q w).2≤7:=by
 unfold qadd
 split
 ·(dsimp only;omega)
 ·split
  ·(dsimp only;omega)
  ·split<;>(dsimp only;omega)
theorem seat_code {o:Int} {lab:ByteArray}:0≤(rseatF r o lab).2∧(rseatF r o lab).2≤7:=by
 by_cases h:(rseatF r o lab).2=0
 ·omega
 ·have:=(seat_no h).2;omega
theorem auto_code (g:Good r) {o:Int}:0≤(rautoF r o).2.2∧(rautoF r o).2.2≤7:=by
 obtain ⟨f,_,t⟩:=dec_enc g
 have:=(tie_auto t g o).2.2.2
 omega
theorem loc_code {l:List Int}:0≤(locRd l).2∧(locRd l).2≤7:=by
 unfold locRd
 split
 ·(dsimp only;omega)
 ·split<;>(dsimp only;omega)
theorem named_code {s:ByteArray}:0≤(namedB b s).2∧(namedB b s).2≤7:=by
 unfold namedB
 split
 ·exact loc_code
 ·split<;>(dsimp only;omega)
theorem emS_size:emS.size≤16:=by decide
theorem rpin_show (k:BookOk b):RpIn (showB b c):=by
 unfold showB
 split
 ·exact rpin_err (by omega)
 rename_i h1
 split
 ·split
  ·rename_i e h
   have:=named_code (b:=b) (s:=c.pnr)
   rw [h] at this
   exact rpin_err (by dsimp only at this;omega)
  ·rename_i h
   exact rpin_tellB k.core (named_mem h)
 ·split
  ·exact rpin_err (by omega)
  ·rename_i p hp
   have hp:=at_some hp
   have hc:RightC c:=Classical.byContradiction fun h=>h1 (.inl h)
   have h2:=hc.flt
   have h3:=(k.core.qok p hp.1).len
   unfold numOk at h2
   exact rpin_few (by omega) (by omega) (by omega) (by omega) emS_size (lefts_bd (k.core.good p hp.1))
theorem rpin_apply (k:BookOk b) (hs:c.sc<18446744073709551616):RpIn (applyB b c).2:=by
 have k':=ok_apply k hs
 unfold applyB at *
 split
 ·exact rpin_err (by omega)
 rename_i hc
 have hc:RightC c:=Classical.byContradiction hc
 have hcf:=hc.flt
 unfold numOk at hcf
 split
 ·unfold openB
  split
  ·exact rpin_err (by omega)
  ·split
   ·exact rpin_err (by omega)
   ·split
    ·exact rpin_err (by omega)
    ·rename_i h
     have h:newOk c.flt c.rows c.grps c.parts:=Classical.byContradiction h
     exact rpin_few (by omega) (by omega) (by omega) (by omega) emS_size (lefts_bd (good_new h))
 split
 ·unfold heldB
  cases hp:b.at c.flt with
  |none=>exact rpin_err (by omega)
  |some p=>
   obtain ⟨hp1,hp2⟩:=at_some hp
   have:=take_code (r:=p.r) (o:=b.next) (c:=c.cls) (m:=c.many)
   dsimp only
   split
   ·exact rpin_err (by omega)
   rename_i h1
   split
   ·exact rpin_err (by omega)
   rename_i h2
   split
   ·exact rpin_err (by omega)
   ·rename_i h3
    have k2:=core_hold k.core hc hp h2 (Classical.byContradiction h3)
    exact rpin_tell (n:=b.next + 1) (good_take (k.core.good p hp1) _ _ _) (k2.each (heldX b c) (mem_snoc.2 (.inr rfl)))
 split
 ·rcases wait_cases k hc hs with ⟨h,h'⟩|⟨_,y,_,_,_,_,kc,hy,_,_,_,_,_,e⟩
  ·rw [err_wait h]
   refine rpin_err ?_
   unfold waitB at h ⊢
   cases hp:b.at c.flt with
   |none=>show (0:Int)≤2∧(2:Int)≤_;omega
   |some p=>
    have:=qadd_code (w:=waitW b c) (q:=p.q)
    rw [hp] at h
    dsimp only at h ⊢
    by_cases h1:(p.r.lims.length:Int)≤c.cls
    ·rw [if_pos h1];show (0:Int)≤1∧(1:Int)≤_;omega
    rw [if_neg h1] at h ⊢
    by_cases h2:b.full
    ·rw [if_pos h2];show (0:Int)≤3∧(3:Int)≤_;omega
    rw [if_neg h2] at h ⊢
    by_cases h3:(qadd p.q (waitW b c)).2≠0
    ·rw [if_pos h3];show 0≤(qadd p.q (waitW b c)).2∧(qadd p.q (waitW b c)).2≤_;omega
    ·rw [if_neg h3] at h
     refine absurd ?_ h
     dsimp only
     split
     ·rfl
     ·exact tell_code
  ·rw [e]
   exact rpin_tellB (promote_ok (n:=c.flt) kc).1 hy
 split
 ·unfold clockB
  split
  ·exact rpin_err (by omega)
  ·exact rpin_few (by omega) (by omega) (by omega) hc.time emS_size ⟨by simp,fun y hy=>(by cases hy)⟩
 split
 ·exact rpin_show k
 split
 ·rename_i e h
  have:=named_code (b:=b) (s:=c.pnr)
  rw [h] at this
  exact rpin_err (by dsimp only at this;omega)
 ·rename_i x e h
  have hx:=named_mem h
  obtain ⟨p,hp⟩:=k.core.at_of hx
  obtain ⟨hp1,hp2⟩:=at_some hp
  have g:=k.core.good p hp1
  have hb:=k.core.each x hx
  have s1:=seat_code (r:=p.r) (o:=x.id) (lab:=c.lab)
  have s2:=auto_code g (o:=x.id)
  unfold oneB
  rw [hp]
  dsimp only
  split
  ·split
   ·exact rpin_err (by omega)
   ·rename_i h3
    have h3:x.state=1:=Classical.byContradiction h3
    exact rpin_tell (n:=b.next) g ((core_sure k.core hx h3).each (sureX x) (mem_kset.2 ⟨x,hx,by rw [if_pos rfl]⟩))
  ·split
   ·exact rpin_few (by omega) (by omega) (by omega) (by omega) hc.pnr ⟨by simp,fun y hy=>(by cases hy)⟩
   ·split
    ·exact rpin_err (by omega)
    ·split
     ·split
      ·exact rpin_err (by omega)
      ·exact rpin_tell (p:=seatP _ p) (good_seat g _ _) hb
     ·split
      ·exact rpin_err (by omega)
      ·exact rpin_tell (p:=seatP _ p) (good_auto g _) hb
end Go.Proofs.YtflgboncpbmikaaGreatDoor
/- The book, plainly: its bytes, and what is loaded of them. No condition. -/
namespace Go.Proofs.YtflgboncpbmikaaGreatDoor
set_option linter.unusedVariables false
set_option linter.unusedSimpArgs false
open Go Go.VC
open Classical
noncomputable section
variable {b:Book} {n:Int} {p:Pl} {w:Wt} {x:Bk} {r:RF}
theorem nums1_len {x:Int} (h:0≤x∧x<18446744073709551616):(numsB [x]).length≤9:=by
 have:=numsB_len (l:=[x]) fun y hy=>by rw [List.mem_singleton.1 hy];exact h
 simpa using this
theorem flat_len {α:Type} {code:α→List Int} {m:Nat}:∀ {l:List α},(∀ x∈l,(code x).length≤m)→((l.map code).flatten).length≤m * l.length
 |[],_=>by simp
 |a::l,h=>by
  have h1:=h a (by simp)
  have h2:=flat_len (l:=l) fun x hx=>h x (by simp [hx])
  rw [List.map_cons,List.flatten_cons,List.length_append,List.length_cons,Nat.mul_succ]
  omega
theorem textB_len {d:List Int} (h:d.length<1000000):(textB d).length≤d.length + 9:=by
 have:=numB_len (n:=d.length) (by omega)
 unfold textB
 rw [List.length_append]
 omega
end
end Go.Proofs.YtflgboncpbmikaaGreatDoor
/- The formulas of functions of this seat's translation, printed by a program of mine off the translation; each is proved equal to 'fnF' of the function's body, so it is enough for the call. No condition. -/
namespace Go.Proofs.YtflgboncpbmikaaGreatDoor
open Go Go.VC
set_option linter.unusedVariables false
set_option maxRecDepth 10000
def B98 (a:Int) (K:Value→World→Prop) (w:World):Prop:=
 Br (bitI BinOp.and IntKind.u64 a 9223372036854775808==0)
 (Ext Tryz.prog 135 #[.int .u64 (IntKind.u64.wrap (↑(BitVec.ofInt IntKind.u64.bits (if IntKind.u64.signed=true then -1 else IntKind.u64.max) ^^^ BitVec.ofInt IntKind.u64.bits a).toNat:Int))] w fun d f=>
 ∃ c:Nat,(d=.returned (.float .f64 c))∧
 K (.float .f64 c) f)
 (Ext Tryz.prog 135 #[.int .u64 (bitI BinOp.andNot IntKind.u64 a 9223372036854775808)] w fun e g=>
 ∃ b:Nat,(e=.returned (.float .f64 b))∧
 K (.float .f64 b) g)
theorem call98 (a:Int) (K:Value→World→Prop) (w:World) (h:B98 a K w):Gets Tryz.prog 98 #[.int .u64 a] w K:=cq (sk:=.leaf) Tryz.func98 (by kernel_rfl) (by kernel_rfl) (by kernel_rfl) h
def B147 (b:Nat) (c:Nat) (K:Value→World→Prop) (w:World):Prop:=
 Calls Tryz.prog 168 #[.float .f64 b,.float .f64 c] w fun d e=>
 ∃ a:Int,(d=.returned (.int .i64 a))∧
 K (.int .i64 a) e
theorem call147 (a:Nat) (b:Nat) (K:Value→World→Prop) (w:World) (h:B147 a b K w):Gets Tryz.prog 147 #[.float .f64 a,.float .f64 b] w K:=cq (sk:=.leaf) Tryz.func147 (by kernel_rfl) (by kernel_rfl) (by kernel_rfl) h
def B168 (c:Nat) (d:Nat) (K:Value→World→Prop) (w:World):Prop:=
 Calls Tryz.prog 179 #[.float .f64 c] w fun j l=>
 ∃ i:Bool,(j=.returned (.bool i))∧
 Calls Tryz.prog 179 #[.float .f64 d] l fun k b=>
 ∃ e:Bool,(k=.returned (.bool e))∧
 Br i
 (Br e
 (K (.int .i64 0) b)
 (K (.int .i64 ((-1))) b))
 (Br e
 (K (.int .i64 1) b)
 (∃ f:Bool,(∀ a,(fun a=>a=b) a→((do eqGuard BinOp.lss 91 (Operand.tmp 14) (Operand.tmp 15) (.float .f64 c) (.float .f64 d);binOp BinOp.lss 91 (.float .f64 c) (.float .f64 d):Sem Value)).run Tryz.prog a=.ok (.bool f) a)∧
 Br f
 (K (.int .i64 ((-1))) b)
 (∃ g:Bool,(∀ a,(fun a=>a=b) a→((do eqGuard BinOp.gtr 91 (Operand.tmp 17) (Operand.tmp 18) (.float .f64 c) (.float .f64 d);binOp BinOp.gtr 91 (.float .f64 c) (.float .f64 d):Sem Value)).run Tryz.prog a=.ok (.bool g) a)∧
 Br g
 (K (.int .i64 1) b)
 (K (.int .i64 0) b))))
theorem call168 (a:Nat) (b:Nat) (K:Value→World→Prop) (w:World) (h:B168 a b K w):Gets Tryz.prog 168 #[.float .f64 a,.float .f64 b] w K:=cq (sk:=.leaf) Tryz.func168 (by kernel_rfl) (by kernel_rfl) (by kernel_rfl) h
def B179 (b:Nat) (K:Value→World→Prop) (w:World):Prop:=
 ∃ c:Bool,(∀ a,(fun a=>a=w) a→((do eqGuard BinOp.neq 91 (Operand.tmp 3) (Operand.tmp 4) (.float .f64 b) (.float .f64 b);binOp BinOp.neq 91 (.float .f64 b) (.float .f64 b):Sem Value)).run Tryz.prog a=.ok (.bool c) a)∧
 K (.bool c) w
theorem call179 (a:Nat) (K:Value→World→Prop) (w:World) (h:B179 a K w):Gets Tryz.prog 179 #[.float .f64 a] w K:=cq (sk:=.leaf) Tryz.func179 (by kernel_rfl) (by kernel_rfl) (by kernel_rfl) h
def B148 (c:Int) (d:Int) (K:Value→World→Prop) (w:World):Prop:=
 Calls Tryz.prog 165 #[.int .i64 c] w fun f i=>
 ∃ e:Bool,(f=.returned (.bool e))∧
 Calls Tryz.prog 165 #[.int .i64 d] i fun g a=>
 ∃ b:Bool,(g=.returned (.bool b))∧
 Br e
 (Br b
 (K (.int .i64 0) a)
 (K (.int .i64 ((-1))) a))
 (Br b
 (K (.int .i64 1) a)
 (Br (decide (c<d))
 (K (.int .i64 ((-1))) a)
 (Br (decide (c>d))
 (K (.int .i64 1) a)
 (K (.int .i64 0) a))))
theorem call148 (a:Int) (b:Int) (K:Value→World→Prop) (w:World) (h:B148 a b K w):Gets Tryz.prog 148 #[.int .i64 a,.int .i64 b] w K:=cq (sk:=.leaf) Tryz.func148 (by kernel_rfl) (by kernel_rfl) (by kernel_rfl) h
def B146 (f:Sl) (K:Value→World→Prop) (w:World):Prop:=
 ∃ (d:Int→World→Prop) (g:Int→World→Nat),(d 0 w)∧∀ (k:Env) (b:Int) (c:World),d b c→
 Br (decide (b<(↑f.len:Int)))
 (Rng b f.len (NilP f.a fun i=>
 ∃ e:Int,(At (fun j=>j=c) (Addr.add i b.toNat) [.int .i64 e])∧
 Br (e !=0)
 (K (.int .i64 e) c)
 ((d (IntKind.i64.wrap (b + 1)) c)∧g (IntKind.i64.wrap (b + 1)) c<g b c)))
 (K (.int .i64 0) c)
def sk146:Sk:=(.seq .leaf (.seq .leaf (.seq (.seq .leaf (.block (.loop [8] [(.int .i64)] [2,5,8,9,10,11,12,13,14,15,16] .leaf))) .leaf)))
theorem call146 (b:Sl) (K:Value→World→Prop) (w:World) (h:B146 b K w):Gets Tryz.prog 146 #[.slice b.a b.len b.cap] w K:=cq (sk:=sk146) Tryz.func146 (by kernel_rfl) (by kernel_rfl) (by kernel_rfl) h
def B76  (K:Value→World→Prop) (w:World):Prop:=
 New (.cells #[.slice none 0 0] 172 (0,0)) (fun a b=>
 K (.pointer ((some ⟨a,0,none⟩))) b) w
theorem call76  (K:Value→World→Prop) (w:World) (h:B76  K w):Gets Tryz.prog 76 #[] w K:=cq (sk:=.leaf) Tryz.func76 (by kernel_rfl) (by kernel_rfl) (by kernel_rfl) h
def B109 (z:Int) (A:Int) (C:Int) (D:Int) (E:Nat) (I:Int) (J:Int) (L:Int) (M:Int) (N:Nat) (K:Value→World→Prop) (w:World):Prop:=
 New (.cells #[.int .i64 z,.int .i64 A,.int .i64 C,.int .i64 D,.float .f64 E] 174 (0,0)) (fun b F=>
 New (.cells #[.int .i64 I,.int .i64 J,.int .i64 L,.int .i64 M,.float .f64 N] 174 (0,0)) (fun c G=>
 Drw G fun a H=>
 ∃ n:Nat,(At a ⟨c,0 + 4,none⟩ [.float .f64 n])∧
 ∃ d:Nat,(At a ⟨b,0 + 4,none⟩ [.float .f64 d])∧
 ∃ f:Int,(At a ⟨b,0 + 3,none⟩ [.int .i64 f])∧
 ∃ g:Int,(At a ⟨c,0 + 3,none⟩ [.int .i64 g])∧
 ∃ j:Int,(At a ⟨b,0,none⟩ [.int .i64 j])∧
 ∃ k:Int,(At a ⟨c,0,none⟩ [.int .i64 k])∧
 Calls Tryz.prog 147 #[.float .f64 n,.float .f64 d] H fun u o=>
 ∃ e:Int,(u=.returned (.int .i64 e))∧
 (a o)∧
 Calls Tryz.prog 148 #[.int .i64 f,.int .i64 g] o fun v p=>
 ∃ i:Int,(v=.returned (.int .i64 i))∧
 (a p)∧
 Calls Tryz.prog 148 #[.int .i64 j,.int .i64 k] p fun x q=>
 ∃ l:Int,(x=.returned (.int .i64 l))∧
 (a q)∧
 New (.cells #[.int .i64 e,.int .i64 i,.int .i64 l] 3 (0,0)) (fun t r=>
 (a r)∧
 Calls Tryz.prog 146 #[.slice ((some ⟨t,0,none⟩)) 3 3] r fun y s=>
 ∃ m:Int,(y=.returned (.int .i64 m))∧
 (a s)∧
 K (.int .i64 m) s) q) F) w
theorem call109 (a:Int) (b:Int) (c:Int) (d:Int) (e:Nat) (f:Int) (g:Int) (i:Int) (j:Int) (k:Nat) (K:Value→World→Prop) (w:World) (h:B109 a b c d e f g i j k K w):Gets Tryz.prog 109 #[.agg #[.int .i64 a,.int .i64 b,.int .i64 c,.int .i64 d,.float .f64 e],.agg #[.int .i64 f,.int .i64 g,.int .i64 i,.int .i64 j,.float .f64 k]] w K:=cq (sk:=.leaf) Tryz.func109 (by kernel_rfl) (by kernel_rfl) (by kernel_rfl) h
def B106 (t:Int) (u:Int) (v:Int) (x:Int) (y:Nat) (K:Value→World→Prop) (w:World):Prop:=
 New (.cells #[.int .i64 t,.int .i64 u,.int .i64 v,.int .i64 x,.float .f64 y] 174 (0,0)) (fun b o=>
 ∃ m:Int,(At (fun a=>a=o) ⟨b,0,none⟩ [.int .i64 m])∧
 Calls Tryz.prog 143 #[.int .i64 m,.int .i64 1,.int .i64 28629151] o fun p c=>
 ∃ n:Bool,(p=.returned (.bool n))∧
 Br n
 (∃ f:Int,(At (fun a=>a=c) ⟨b,0 + 1,none⟩ [.int .i64 f])∧
 Calls Tryz.prog 143 #[.int .i64 f,.int .i64 0,.int .i64 7] c fun q d=>
 ∃ g:Bool,(q=.returned (.bool g))∧
 Br g
 (∃ i:Int,(At (fun a=>a=d) ⟨b,0 + 2,none⟩ [.int .i64 i])∧
 Calls Tryz.prog 143 #[.int .i64 i,.int .i64 1,.int .i64 600] d fun r e=>
 ∃ j:Bool,(r=.returned (.bool j))∧
 Br j
 (∃ k:Int,(At (fun a=>a=e) ⟨b,0 + 3,none⟩ [.int .i64 k])∧
 Calls Tryz.prog 143 #[.int .i64 k,.int .i64 0,.int .i64 1099511627776] e fun s z=>
 ∃ l:Bool,(s=.returned (.bool l))∧
 K (.bool l) z)
 (K (.bool false) e))
 (K (.bool false) d))
 (K (.bool false) c)) w
theorem call106 (a:Int) (b:Int) (c:Int) (d:Int) (e:Nat) (K:Value→World→Prop) (w:World) (h:B106 a b c d e K w):Gets Tryz.prog 106 #[.agg #[.int .i64 a,.int .i64 b,.int .i64 c,.int .i64 d,.float .f64 e]] w K:=cq (sk:=.leaf) Tryz.func106 (by kernel_rfl) (by kernel_rfl) (by kernel_rfl) h
def B143 (a:Int) (c:Int) (b:Int) (K:Value→World→Prop) (w:World):Prop:=
 Br (decide (a ≥ c))
 (K (.bool (decide (a≤b))) w)
 (K (.bool false) w)
theorem call143 (c:Int) (b:Int) (a:Int) (K:Value→World→Prop) (w:World) (h:B143 c b a K w):Gets Tryz.prog 143 #[.int .i64 c,.int .i64 b,.int .i64 a] w K:=cq (sk:=.leaf) Tryz.func143 (by kernel_rfl) (by kernel_rfl) (by kernel_rfl) h
def B107 (j:Option Addr) (i:Int) (K:Value→World→Prop) (w:World):Prop:=
 New (.cells #[.int .i64 i] 3 (0,0)) (fun f d=>
 NilP j fun e=>
 ∃ b:Sl,(At (fun k=>k=d) (Addr.add e 0) [.slice b.a b.len b.cap])∧
 Calls Tryz.prog 144 #[.slice b.a b.len b.cap,.func (.func 145) #[] #[.pointer ((some ⟨f,0,none⟩))]] d fun g l=>
 ∃ c:Int,(g=.returned (.int .i64 c))∧
 K (.int .i64 c) l) w
theorem call107 (b:Option Addr) (a:Int) (K:Value→World→Prop) (w:World) (h:B107 b a K w):Gets Tryz.prog 107 #[.pointer b,.int .i64 a] w K:=cq (sk:=.leaf) Tryz.func107 (by kernel_rfl) (by kernel_rfl) (by kernel_rfl) h
def B145 (i:Int) (j:Int) (k:Int) (l:Int) (m:Nat) (g:Option Addr) (K:Value→World→Prop) (w:World):Prop:=
 New (.cells #[.int .i64 i,.int .i64 j,.int .i64 k,.int .i64 l,.float .f64 m] 174 (0,0)) (fun f b=>
 ∃ c:Int,(At (fun a=>a=b) ⟨f,0,none⟩ [.int .i64 c])∧
 NilP g fun e=>
 ∃ d:Int,(At (fun a=>a=b) e [.int .i64 d])∧
 K (.bool (c==d)) b) w
theorem call145 (b:Int) (c:Int) (d:Int) (e:Int) (f:Nat) (a:Option Addr) (K:Value→World→Prop) (w:World) (h:B145 b c d e f a K w):Gets Tryz.prog 145 #[.agg #[.int .i64 b,.int .i64 c,.int .i64 d,.int .i64 e,.float .f64 f],.pointer a] w K:=cq (sk:=.leaf) Tryz.func145 (by kernel_rfl) (by kernel_rfl) (by kernel_rfl) h
def B80 (f:Option Addr) (ai:Int) (aj:Int) (ak:Int) (al:Int) (am:Nat) (K:Value→World→Prop) (w:World):Prop:=
 New (.cells #[.int .i64 ai,.int .i64 aj,.int .i64 ak,.int .i64 al,.float .f64 am] 147 (0,0)) (fun o T=>
 ∃ L:Int,∃ M:Int,∃ N:Int,∃ O:Int,∃ Q:Nat,(At (fun b=>b=T) ⟨o,0,none⟩ [.int .i64 L,.int .i64 M,.int .i64 N,.int .i64 O,.float .f64 Q])∧
 New (.cells #[.int .i64 0,.int .i64 0,.int .i64 0,.int .i64 0,.float .f64 0] 174 (0,0)) (fun i an=>
 ∃ l:World,((Instr.storeAt 174 (.pointer ((some ⟨i,0,none⟩))) (.agg #[.int .i64 L,.int .i64 M,.int .i64 N,.int .i64 O,.float .f64 Q])).run Tryz.prog an=.ok () l)∧
 ∃ p:Int,∃ q:Int,∃ r:Int,∃ s:Int,∃ t:Nat,(At (fun b=>b=l) ⟨i,0,none⟩ [.int .i64 p,.int .i64 q,.int .i64 r,.int .i64 s,.float .f64 t])∧
 Calls Tryz.prog 106 #[.agg #[.int .i64 p,.int .i64 q,.int .i64 r,.int .i64 s,.float .f64 t]] l fun ad m=>
 ∃ u:Bool,(ad=.returned (.bool u))∧
 Br (!u)
 (K (.int .i64 1) m)
 (∃ v:Int,(At (fun b=>b=m) ⟨o,0,none⟩ [.int .i64 v])∧
 Calls Tryz.prog 107 #[.pointer f,.int .i64 v] m fun ae k=>
 ∃ x:Int,(ae=.returned (.int .i64 x))∧
 Br (decide (x ≥ 0))
 (K (.int .i64 7) k)
 (NilP f fun Y=>
 ∃ j:Sl,(At (fun b=>b=k) (Addr.add Y 0) [.slice j.a j.len j.cap])∧
 Br (decide ((↑j.len:Int) ≥ 200))
 (K (.int .i64 3) k)
 (Drw k fun n ao=>
 NilP f fun Z=>
 ∃ c:Sl,(At n (Addr.add Z 0) [.slice c.a c.len c.cap])∧
 ∃ y:Int,∃ z:Int,∃ A:Int,∃ C:Int,∃ D:Nat,(At n ⟨i,0,none⟩ [.int .i64 y,.int .i64 z,.int .i64 A,.int .i64 C,.float .f64 D])∧
 Calls Tryz.prog 108 #[.slice c.a c.len c.cap,.agg #[.int .i64 y,.int .i64 z,.int .i64 A,.int .i64 C,.float .f64 D],.func (.func 109) #[] #[]] ao fun af ap=>
 ∃ E:Int,∃ ah:Bool,(af=.returned (.tuple #[.int .i64 E,.bool ah]))∧
 Drw ap fun g aq=>
 NilP f fun aa=>
 ∃ d:Sl,(At g (Addr.add aa 0) [.slice d.a d.len d.cap])∧
 ∃ F:Int,∃ G:Int,∃ H:Int,∃ I:Int,∃ J:Nat,(At g ⟨i,0,none⟩ [.int .i64 F,.int .i64 G,.int .i64 H,.int .i64 I,.float .f64 J])∧
 New (.cells #[.int .i64 F,.int .i64 G,.int .i64 H,.int .i64 I,.float .f64 J] 174 (0,0)) (fun ac X=>
 (g X)∧
 Calls Tryz.prog 110 #[.slice d.a d.len d.cap,.int .i64 E,.slice ((some ⟨ac,0,none⟩)) 1 1] X fun ag U=>
 ∃ e:Sl,(ag=.returned (.slice e.a e.len e.cap))∧
 (g U)∧
 NilP f fun ab=>
 ∃ V:World,((Instr.storeAt 170 (.pointer ((some (Addr.add ab 0)))) (.slice e.a e.len e.cap)).run Tryz.prog U=.ok () V)∧
 K (.int .i64 0) V) aq)))) T) w
theorem call80 (a:Option Addr) (b:Int) (c:Int) (d:Int) (e:Int) (f:Nat) (K:Value→World→Prop) (w:World) (h:B80 a b c d e f K w):Gets Tryz.prog 80 #[.pointer a,.agg #[.int .i64 b,.int .i64 c,.int .i64 d,.int .i64 e,.float .f64 f]] w K:=cq (sk:=.leaf) Tryz.func80 (by kernel_rfl) (by kernel_rfl) (by kernel_rfl) h
def B85 (e:Option Addr) (m:Int) (K:Value→World→Prop) (w:World):Prop:=
 Calls Tryz.prog 107 #[.pointer e,.int .i64 m] w fun k f=>
 ∃ d:Int,(k=.returned (.int .i64 d))∧
 Br (decide (d<0))
 (K (.int .i64 2) f)
 (NilP e fun i=>
 ∃ b:Sl,(At (fun n=>n=f) (Addr.add i 0) [.slice b.a b.len b.cap])∧
 Calls Tryz.prog 115 #[.slice b.a b.len b.cap,.int .i64 d,.int .i64 (IntKind.i64.wrap (d + 1))] f fun l o=>
 ∃ c:Sl,(l=.returned (.slice c.a c.len c.cap))∧
 NilP e fun j=>
 ∃ g:World,((Instr.storeAt 170 (.pointer ((some (Addr.add j 0)))) (.slice c.a c.len c.cap)).run Tryz.prog o=.ok () g)∧
 K (.int .i64 0) g)
theorem call85 (b:Option Addr) (a:Int) (K:Value→World→Prop) (w:World) (h:B85 b a K w):Gets Tryz.prog 85 #[.pointer b,.int .i64 a] w K:=cq (sk:=.leaf) Tryz.func85 (by kernel_rfl) (by kernel_rfl) (by kernel_rfl) h
def B84 (C:Option Addr) (K:Value→World→Prop) (w:World):Prop:=
 NilP C fun z=>
 ∃ d:Sl,(At (fun f=>f=w) (Addr.add z 0) [.slice d.a d.len d.cap])∧
 ∃ (i:Sl→Int→World→Prop) (x:Sl→Int→World→Nat),(i ⟨none,0,0⟩ 0 w)∧∀ (F:Env) (b:Sl) (c:Int) (g:World),i b c g→
 Br (decide (c<(↑d.len:Int)))
 (Rng c d.len (NilP d.a fun y=>
 ∃ m:Int,∃ n:Int,∃ o:Int,∃ p:Int,∃ q:Nat,(At (fun f=>f=g) (Addr.add y (mulS c.toNat 5)) [.int .i64 m,.int .i64 n,.int .i64 o,.int .i64 p,.float .f64 q])∧
 New (.cells #[.int .i64 0,.int .i64 0,.int .i64 0,.int .i64 0,.float .f64 0] 174 (0,0)) (fun l D=>
 ∃ j:World,((Instr.storeAt 174 (.pointer ((some ⟨l,0,none⟩))) (.agg #[.int .i64 m,.int .i64 n,.int .i64 o,.int .i64 p,.float .f64 q])).run Tryz.prog D=.ok () j)∧
 ∃ r:Int,∃ s:Int,∃ t:Int,∃ u:Int,∃ v:Nat,(At (fun f=>f=j) ⟨l,0,none⟩ [.int .i64 r,.int .i64 s,.int .i64 t,.int .i64 u,.float .f64 v])∧
 New (.cells #[.int .i64 r,.int .i64 s,.int .i64 t,.int .i64 u,.float .f64 v] 147 (0,0)) (fun A E=>
 ∃ k:World,∃ e:Sl,((Builtin.append_ #[151,151] 151 #[.slice b.a b.len b.cap,.slice ((some ⟨A,0,none⟩)) 1 1]).run Tryz.prog E=.ok (.slice e.a e.len e.cap) k)∧
 (i e (IntKind.i64.wrap (c + 1)) k)∧x e (IntKind.i64.wrap (c + 1)) k<x b c g) j) g))
 (K (.slice b.a b.len b.cap) g)
def sk84:Sk:=(.seq .leaf (.seq .leaf (.seq (.seq .leaf (.block (.loop [3,11] [.sl,(.int .i64)] [3,5,11,12,13,14,15,16,17,18,19,20] .leaf))) .leaf)))
theorem call84 (a:Option Addr) (K:Value→World→Prop) (w:World) (h:B84 a K w):Gets Tryz.prog 84 #[.pointer a] w K:=cq (sk:=sk84) Tryz.func84 (by kernel_rfl) (by kernel_rfl) (by kernel_rfl) h
def B111 (Z:Option Addr) (m:Sl) (K:Value→World→Prop) (w:World):Prop:=
 New (.cells #[.int .i64 0,.int .i64 0,.int .i64 0,.int .i64 0,.float .f64 0] 147 (0,0)) (fun k T=>
 NilP Z fun Y=>
 ∃ d:Sl,(At (fun c=>c=T) (Addr.add Y 0) [.slice d.a d.len d.cap])∧
 ∃ (i:Int→World→Prop) (l:Int→World→Nat),(i 0 T)∧∀ (ab:Env) (b:Int) (e:World),i b e→
 Br (decide (b<(↑d.len:Int)))
 (Rng b d.len (NilP d.a fun V=>
 ∃ q:Int,∃ r:Int,∃ s:Int,∃ t:Int,∃ u:Nat,(At (fun c=>c=e) (Addr.add V (mulS b.toNat 5)) [.int .i64 q,.int .i64 r,.int .i64 s,.int .i64 t,.float .f64 u])∧
 New (.cells #[.int .i64 0,.int .i64 0,.int .i64 0,.int .i64 0,.float .f64 0] 174 (0,0)) (fun g aa=>
 ∃ U:World,((Instr.storeAt 174 (.pointer ((some ⟨g,0,none⟩))) (.agg #[.int .i64 q,.int .i64 r,.int .i64 s,.int .i64 t,.float .f64 u])).run Tryz.prog aa=.ok () U)∧
 Drw U fun j f=>
 ∃ v:Int,(At j ⟨g,0 + 1,none⟩ [.int .i64 v])∧
 Br (decide (v<(↑m.len:Int)))
 (∃ x:Int,(At j ⟨g,0 + 2,none⟩ [.int .i64 x])∧
 ∃ n:Int,(At j ⟨g,0 + 1,none⟩ [.int .i64 n])∧
 Rng n m.len (NilP m.a fun X=>
 ∃ y:Int,(At j (Addr.add X n.toNat) [.int .i64 y])∧
 Br (decide (x≤y))
 (∃ z:Int,∃ A:Int,∃ C:Int,∃ D:Int,∃ E:Nat,(At (fun c=>c=f) ⟨g,0,none⟩ [.int .i64 z,.int .i64 A,.int .i64 C,.int .i64 D,.float .f64 E])∧
 ∃ o:World,((Instr.storeAt 147 (.pointer ((some ⟨k,0,none⟩))) (.agg #[.int .i64 z,.int .i64 A,.int .i64 C,.int .i64 D,.float .f64 E])).run Tryz.prog f=.ok () o)∧
 ∃ F:Int,∃ G:Int,∃ H:Int,∃ I:Int,∃ J:Nat,(At (fun c=>c=o) ⟨k,0,none⟩ [.int .i64 F,.int .i64 G,.int .i64 H,.int .i64 I,.float .f64 J])∧
 K (.tuple #[.agg #[.int .i64 F,.int .i64 G,.int .i64 H,.int .i64 I,.float .f64 J],.bool true]) o)
 ((i (IntKind.i64.wrap (b + 1)) f)∧l (IntKind.i64.wrap (b + 1)) f<l b e)))
 ((i (IntKind.i64.wrap (b + 1)) f)∧l (IntKind.i64.wrap (b + 1)) f<l b e)) e))
 (∃ p:World,((Instr.storeAt 147 (.pointer ((some ⟨k,0,none⟩))) (.agg #[.int .i64 0,.int .i64 0,.int .i64 0,.int .i64 0,.float .f64 0])).run Tryz.prog e=.ok () p)∧
 ∃ L:Int,∃ M:Int,∃ N:Int,∃ O:Int,∃ Q:Nat,(At (fun c=>c=p) ⟨k,0,none⟩ [.int .i64 L,.int .i64 M,.int .i64 N,.int .i64 O,.float .f64 Q])∧
 K (.tuple #[.agg #[.int .i64 L,.int .i64 M,.int .i64 N,.int .i64 O,.float .f64 Q],.bool false]) p)) w
def sk111:Sk:=(.seq .leaf (.seq (.seq .leaf (.block (.loop [13] [(.int .i64)] [5,7,13,14,15,16,17,18,19,20,21,22,23,24,25,26,27,28,29,30,31,32,33,34,35,36,37] .leaf))) .leaf))
theorem call111 (c:Option Addr) (b:Sl) (K:Value→World→Prop) (w:World) (h:B111 c b K w):Gets Tryz.prog 111 #[.pointer c,.slice b.a b.len b.cap] w K:=cq (sk:=sk111) Tryz.func111 (by kernel_rfl) (by kernel_rfl) (by kernel_rfl) h
def B144 (e:Sl) (q:Value) (K:Value→World→Prop) (w:World):Prop:=
 ∃ (d:Int→World→Prop) (n:Int→World→Nat),(d 0 w)∧∀ (s:Env) (b:Int) (c:World),d b c→
 Br (decide (b<(↑e.len:Int)))
 (Rng b e.len (NilP e.a fun o=>
 ∃ g:Int,∃ i:Int,∃ j:Int,∃ k:Int,∃ l:Nat,(At (fun r=>r=c) (Addr.add o (mulS b.toNat 5)) [.int .i64 g,.int .i64 i,.int .i64 j,.int .i64 k,.float .f64 l])∧
 CalW Tryz.prog cl q [.agg #[.int .i64 g,.int .i64 i,.int .i64 j,.int .i64 k,.float .f64 l]] c fun p f=>
 ∃ m:Bool,(p=.returned (.bool m))∧
 Br m
 (K (.int .i64 b) f)
 ((d (IntKind.i64.wrap (b + 1)) f)∧n (IntKind.i64.wrap (b + 1)) f<n b c)))
 (K (.int .i64 ((-1))) c)
def sk144:Sk:=(.seq .leaf (.seq (.seq .leaf (.block (.loop [8] [(.int .i64)] [4,5,8,9,10,11,12,13,14,15,16,17,18] .leaf))) .leaf))
theorem call144 (b:Sl) (c:Value) (K:Value→World→Prop) (w:World) (h:B144 b c K w):Gets Tryz.prog 144 #[.slice b.a b.len b.cap,c] w K:=cq (sk:=sk144) Tryz.func144 (by kernel_rfl) (by kernel_rfl) (by kernel_rfl) h
def B108 (d:Sl) (U:Int) (V:Int) (X:Int) (Y:Int) (Z:Nat) (m:Value) (K:Value→World→Prop) (w:World):Prop:=
 New (.cells #[.int .i64 U,.int .i64 V,.int .i64 X,.int .i64 Y,.float .f64 Z] 174 (0,0)) (fun l aa=>
 ∃ (f:Int→Int→World→Prop) (i:Int→Int→World→Nat),(f 0 ((↑d.len:Int)) aa)∧∀ (ad:Env) (b:Int) (c:Int) (e:World),f b c e→
 Br (decide (b<c))
 (Drw e fun j ab=>
 Rng (IntKind.i64.wrap (shrI IntKind.u64 (IntKind.u64.wrap (IntKind.i64.wrap (b + c))) 1)) d.len (NilP d.a fun N=>
 ∃ n:Int,∃ o:Int,∃ p:Int,∃ q:Int,∃ r:Nat,(At j (Addr.add N (mulS (IntKind.i64.wrap (shrI IntKind.u64 (IntKind.u64.wrap (IntKind.i64.wrap (b + c))) 1)).toNat 5)) [.int .i64 n,.int .i64 o,.int .i64 p,.int .i64 q,.float .f64 r])∧
 ∃ s:Int,∃ t:Int,∃ u:Int,∃ v:Int,∃ x:Nat,(At j ⟨l,0,none⟩ [.int .i64 s,.int .i64 t,.int .i64 u,.int .i64 v,.float .f64 x])∧
 CalW Tryz.prog cl m [.agg #[.int .i64 n,.int .i64 o,.int .i64 p,.int .i64 q,.float .f64 r],.agg #[.int .i64 s,.int .i64 t,.int .i64 u,.int .i64 v,.float .f64 x]] ab fun Q g=>
 ∃ y:Int,(Q=.returned (.int .i64 y))∧
 Br (decide (y<0))
 ((f (IntKind.i64.wrap (IntKind.i64.wrap (shrI IntKind.u64 (IntKind.u64.wrap (IntKind.i64.wrap (b + c))) 1) + 1)) c g)∧i (IntKind.i64.wrap (IntKind.i64.wrap (shrI IntKind.u64 (IntKind.u64.wrap (IntKind.i64.wrap (b + c))) 1) + 1)) c g<i b c e)
 ((f b (IntKind.i64.wrap (shrI IntKind.u64 (IntKind.u64.wrap (IntKind.i64.wrap (b + c))) 1)) g)∧i b (IntKind.i64.wrap (shrI IntKind.u64 (IntKind.u64.wrap (IntKind.i64.wrap (b + c))) 1)) g<i b c e)))
 (Drw e fun k M=>
 Br (decide (b<(↑d.len:Int)))
 (Rng b d.len (NilP d.a fun O=>
 ∃ z:Int,∃ A:Int,∃ C:Int,∃ D:Int,∃ E:Nat,(At k (Addr.add O (mulS b.toNat 5)) [.int .i64 z,.int .i64 A,.int .i64 C,.int .i64 D,.float .f64 E])∧
 ∃ F:Int,∃ G:Int,∃ H:Int,∃ I:Int,∃ J:Nat,(At k ⟨l,0,none⟩ [.int .i64 F,.int .i64 G,.int .i64 H,.int .i64 I,.float .f64 J])∧
 CalW Tryz.prog cl m [.agg #[.int .i64 z,.int .i64 A,.int .i64 C,.int .i64 D,.float .f64 E],.agg #[.int .i64 F,.int .i64 G,.int .i64 H,.int .i64 I,.float .f64 J]] M fun T ac=>
 ∃ L:Int,(T=.returned (.int .i64 L))∧
 K (.tuple #[.int .i64 b,.bool (L==0)]) ac))
 (K (.tuple #[.int .i64 b,.bool false]) M))) w
def sk108:Sk:=(.seq .leaf (.seq .leaf (.seq .leaf (.seq (.block (.loop [9,10] [(.int .i64),(.int .i64)] [9,10,11,15,16,17,18,19,20,21,22,23,24,25,26,27,28,29,30,31,32,33,34] .leaf)) .leaf))))
theorem call108 (b:Sl) (d:Int) (e:Int) (f:Int) (g:Int) (i:Nat) (c:Value) (K:Value→World→Prop) (w:World) (h:B108 b d e f g i c K w):Gets Tryz.prog 108 #[.slice b.a b.len b.cap,.agg #[.int .i64 d,.int .i64 e,.int .i64 f,.int .i64 g,.float .f64 i],c] w K:=cq (sk:=sk108) Tryz.func108 (by kernel_rfl) (by kernel_rfl) (by kernel_rfl) h
def B110 (b:Sl) (d:Int) (c:Sl) (K:Value→World→Prop) (w:World):Prop:=
 ((0:Int)≤d)∧
 ((d:Int)≤(↑b.len:Int))∧
 Br ((↑c.len:Int)==0)
 (K (.slice b.a b.len b.cap) w)
 (Br (d==(↑b.len:Int))
 (∃ i:World,∃ f:Sl,((Builtin.append_ #[170,170] 170 #[.slice b.a b.len b.cap,.slice c.a c.len c.cap]).run Tryz.prog w=.ok (.slice f.a f.len f.cap) i)∧
 K (.slice f.a f.len f.cap) i)
 (Br (decide (IntKind.i64.wrap ((↑b.len:Int) + (↑c.len:Int))>(↑b.cap:Int)))
 (((0:Int)≤d)∧
 ((d:Int)≤(↑b.cap:Int))∧
 ∃ k:World,∃ e:Sl,((Builtin.append_ #[170,3] 170 #[.slice b.a d.toNat b.cap,.int .i64 (IntKind.i64.wrap (IntKind.i64.wrap ((↑b.len:Int) + (↑c.len:Int)) - d))]).run Tryz.prog w=.ok (.slice e.a e.len e.cap) k)∧
 ((0:Int)≤d)∧
 ((d:Int)≤(↑e.len:Int))∧
 ∃ l:World,∃ s:Int,((Builtin.copy_ #[170,170] 3 #[.slice (cutA e.a d.toNat e.cap 5) (e.len - d.toNat) (e.cap - d.toNat),.slice c.a c.len c.cap]).run Tryz.prog k=.ok (.int .i64 s) l)∧
 Drw l fun C z=>
 ((0:Int)≤IntKind.i64.wrap (d + (↑c.len:Int)))∧
 ((IntKind.i64.wrap (d + (↑c.len:Int)):Int)≤(↑e.len:Int))∧
 ((0:Int)≤d)∧
 ((d:Int)≤(↑b.len:Int))∧
 ∃ m:World,∃ t:Int,((Builtin.copy_ #[170,170] 3 #[.slice (cutA e.a (IntKind.i64.wrap (d + (↑c.len:Int))).toNat e.cap 5) (e.len - (IntKind.i64.wrap (d + (↑c.len:Int))).toNat) (e.cap - (IntKind.i64.wrap (d + (↑c.len:Int))).toNat),.slice (cutA b.a d.toNat b.cap 5) (b.len - d.toNat) (b.cap - d.toNat)]).run Tryz.prog z=.ok (.int .i64 t) m)∧
 K (.slice e.a e.len e.cap) m)
 (((0:Int)≤IntKind.i64.wrap ((↑b.len:Int) + (↑c.len:Int)))∧
 ((IntKind.i64.wrap ((↑b.len:Int) + (↑c.len:Int)):Int)≤(↑b.cap:Int))∧
 ((0:Int)≤IntKind.i64.wrap (d + (↑c.len:Int)))∧
 ((IntKind.i64.wrap (d + (↑c.len:Int)):Int)≤(↑(IntKind.i64.wrap ((↑b.len:Int) + (↑c.len:Int))).toNat:Int))∧
 Ext Tryz.prog 149 #[.slice c.a c.len c.cap,.slice (cutA b.a (IntKind.i64.wrap (d + (↑c.len:Int))).toNat b.cap 5) ((IntKind.i64.wrap ((↑b.len:Int) + (↑c.len:Int))).toNat - (IntKind.i64.wrap (d + (↑c.len:Int))).toNat) (b.cap - (IntKind.i64.wrap (d + (↑c.len:Int))).toNat)] w fun q n=>
 ∃ g:Bool,(q=.returned (.bool g))∧
 Br (!g)
 (Drw n fun D A=>
 ((0:Int)≤IntKind.i64.wrap (d + (↑c.len:Int)))∧
 ((IntKind.i64.wrap (d + (↑c.len:Int)):Int)≤(↑(IntKind.i64.wrap ((↑b.len:Int) + (↑c.len:Int))).toNat:Int))∧
 ((0:Int)≤d)∧
 ((d:Int)≤(↑(IntKind.i64.wrap ((↑b.len:Int) + (↑c.len:Int))).toNat:Int))∧
 ∃ o:World,∃ u:Int,((Builtin.copy_ #[170,170] 3 #[.slice (cutA b.a (IntKind.i64.wrap (d + (↑c.len:Int))).toNat b.cap 5) ((IntKind.i64.wrap ((↑b.len:Int) + (↑c.len:Int))).toNat - (IntKind.i64.wrap (d + (↑c.len:Int))).toNat) (b.cap - (IntKind.i64.wrap (d + (↑c.len:Int))).toNat),.slice (cutA b.a d.toNat b.cap 5) ((IntKind.i64.wrap ((↑b.len:Int) + (↑c.len:Int))).toNat - d.toNat) (b.cap - d.toNat)]).run Tryz.prog A=.ok (.int .i64 u) o)∧
 ((0:Int)≤d)∧
 ((d:Int)≤(↑(IntKind.i64.wrap ((↑b.len:Int) + (↑c.len:Int))).toNat:Int))∧
 ∃ p:World,∃ v:Int,((Builtin.copy_ #[170,170] 3 #[.slice (cutA b.a d.toNat b.cap 5) ((IntKind.i64.wrap ((↑b.len:Int) + (↑c.len:Int))).toNat - d.toNat) (b.cap - d.toNat),.slice c.a c.len c.cap]).run Tryz.prog o=.ok (.int .i64 v) p)∧
 K (.slice b.a ((IntKind.i64.wrap ((↑b.len:Int) + (↑c.len:Int))).toNat) b.cap) p)
 (((0:Int)≤(↑b.len:Int))∧
 (((↑b.len:Int):Int)≤(↑(IntKind.i64.wrap ((↑b.len:Int) + (↑c.len:Int))).toNat:Int))∧
 ∃ j:World,∃ x:Int,((Builtin.copy_ #[170,170] 3 #[.slice (cutA b.a (↑b.len:Int).toNat b.cap 5) ((IntKind.i64.wrap ((↑b.len:Int) + (↑c.len:Int))).toNat - (↑b.len:Int).toNat) (b.cap - (↑b.len:Int).toNat),.slice c.a c.len c.cap]).run Tryz.prog n=.ok (.int .i64 x) j)∧
 ((0:Int)≤d)∧
 ((d:Int)≤(↑(IntKind.i64.wrap ((↑b.len:Int) + (↑c.len:Int))).toNat:Int))∧
 Calls Tryz.prog 150 #[.slice (cutA b.a d.toNat b.cap 5) ((IntKind.i64.wrap ((↑b.len:Int) + (↑c.len:Int))).toNat - d.toNat) (b.cap - d.toNat),.int .i64 ((↑c.len:Int))] j fun r y=>
 (r=.returned (.tuple #[]))∧
 K (.slice b.a ((IntKind.i64.wrap ((↑b.len:Int) + (↑c.len:Int))).toNat) b.cap) y))))
theorem call110 (b:Sl) (d:Int) (c:Sl) (K:Value→World→Prop) (w:World) (h:B110 b d c K w):Gets Tryz.prog 110 #[.slice b.a b.len b.cap,.int .i64 d,.slice c.a c.len c.cap] w K:=cq (sk:=.leaf) Tryz.func110 (by kernel_rfl) (by kernel_rfl) (by kernel_rfl) h
def B115 (b:Sl) (e:Int) (d:Int) (K:Value→World→Prop) (w:World):Prop:=
 ((0:Int)≤(↑b.len:Int))∧
 (((↑b.len:Int):Int)≤(↑b.cap:Int))∧
 ((0:Int)≤d)∧
 ((d:Int)≤(↑(↑b.len:Int).toNat:Int))∧
 ((0:Int)≤e)∧
 ((e:Int)≤(↑d.toNat:Int))∧
 Br (e==d)
 (K (.slice b.a b.len b.cap) w)
 (Drw w fun j i=>
 ((0:Int)≤e)∧
 ((e:Int)≤(↑b.cap:Int))∧
 ((0:Int)≤d)∧
 ((d:Int)≤(↑b.len:Int))∧
 ∃ f:World,∃ c:Sl,((Builtin.append_ #[170,170] 170 #[.slice b.a e.toNat b.cap,.slice (cutA b.a d.toNat b.cap 5) (b.len - d.toNat) (b.cap - d.toNat)]).run Tryz.prog i=.ok (.slice c.a c.len c.cap) f)∧
 ((0:Int)≤(↑b.len:Int))∧
 (((↑b.len:Int):Int)≤(↑c.cap:Int))∧
 ((0:Int)≤(↑c.len:Int))∧
 (((↑c.len:Int):Int)≤(↑(↑b.len:Int).toNat:Int))∧
 ∃ g:World,((Builtin.clear_ #[170] 0 #[.slice (cutA c.a (↑c.len:Int).toNat c.cap 5) ((↑b.len:Int).toNat - (↑c.len:Int).toNat) (c.cap - (↑c.len:Int).toNat)]).run Tryz.prog f=.ok (.tuple #[]) g)∧
 K (.slice c.a c.len c.cap) g)
theorem call115 (b:Sl) (c:Int) (d:Int) (K:Value→World→Prop) (w:World) (h:B115 b c d K w):Gets Tryz.prog 115 #[.slice b.a b.len b.cap,.int .i64 c,.int .i64 d] w K:=cq (sk:=.leaf) Tryz.func115 (by kernel_rfl) (by kernel_rfl) (by kernel_rfl) h
def B121  (K:Value→World→Prop) (w:World):Prop:=
 New (.cells #[.int .i64 0] 3 (0,0)) (fun a e=>
 New (.cells #[.int .i64 0] 3 (0,0)) (fun b f=>
 ∃ c:World,((Instr.storeAt 3 (.pointer ((some ⟨a,0,none⟩))) (.int .i64 0)).run Tryz.prog f=.ok () c)∧
 ∃ d:World,((Instr.storeAt 3 (.pointer ((some ⟨b,0,none⟩))) (.int .i64 2)).run Tryz.prog c=.ok () d)∧
 K (.func (.func 158) #[] #[.pointer ((some ⟨a,0,none⟩)),.pointer ((some ⟨b,0,none⟩))]) d) e) w
theorem call121  (K:Value→World→Prop) (w:World) (h:B121  K w):Gets Tryz.prog 121 #[] w K:=cq (sk:=.leaf) Tryz.func121 (by kernel_rfl) (by kernel_rfl) (by kernel_rfl) h
def B158 (o:Int) (b:Option Addr) (c:Option Addr) (K:Value→World→Prop) (w:World):Prop:=
 NilP b fun m=>
 ∃ i:Int,(At (fun a=>a=w) m [.int .i64 i])∧
 NilP c fun n=>
 ∃ j:Int,(At (fun a=>a=w) n [.int .i64 j])∧
 ∃ d:World,((Instr.storeAt 3 (.pointer b) (.int .i64 ((IntKind.i64.wrap (i + IntKind.i64.wrap (j * o))).tmod 31))).run Tryz.prog w=.ok () d)∧
 NilP c fun k=>
 ∃ f:Int,(At (fun a=>a=d) k [.int .i64 f])∧
 ∃ e:World,((Instr.storeAt 3 (.pointer c) (.int .i64 (IntKind.i64.wrap (f + 1)))).run Tryz.prog d=.ok () e)∧
 NilP b fun l=>
 ∃ g:Int,(At (fun a=>a=e) l [.int .i64 g])∧
 K (.int .i64 g) e
theorem call158 (c:Int) (a:Option Addr) (b:Option Addr) (K:Value→World→Prop) (w:World) (h:B158 c a b K w):Gets Tryz.prog 158 #[.int .i64 c,.pointer a,.pointer b] w K:=cq (sk:=.leaf) Tryz.func158 (by kernel_rfl) (by kernel_rfl) (by kernel_rfl) h
def B112 (m:Int) (K:Value→World→Prop) (w:World):Prop:=
 ∃ (r:World→Prop),(Br (decide (m<0))
 (K (.tuple #[.string (ByteArray.mk #[]),.int .i64 1]) w)
 (Br (decide (m ≥ 28629151))
 (K (.tuple #[.string (ByteArray.mk #[]),.int .i64 1]) w)
 (r  w)))∧
 ∀ (L:Env)  (z:World),r  z→
 New (.cells #[.int .u8 0,.int .u8 0,.int .u8 0,.int .u8 0,.int .u8 0,.int .u8 0] 230 (0,0)) (fun l I=>
 New (.cells #[.int .i64 0,.int .i64 0,.int .i64 0,.int .i64 0,.int .i64 0] 231 (0,0)) (fun s J=>
 ∃ (j:Int→Int→World→Prop) (E:Int→Int→World→Nat),(j m 4 J)∧∀ (M:Env) (d:Int) (b:Int) (g:World),j d b g→
 Br (decide (b ≥ 0))
 (Rng b 5 (∃ q:World,((Instr.storeAt 3 (.pointer ((some (Addr.add ⟨s,0,none⟩ b.toNat)))) (.int .i64 (d.tmod 31))).run Tryz.prog g=.ok () q)∧
 (j (IntKind.i64.wrap (d.tdiv 31)) (IntKind.i64.wrap (b - 1)) q)∧E (IntKind.i64.wrap (d.tdiv 31)) (IntKind.i64.wrap (b - 1)) q<E d b g))
 (Calls Tryz.prog 121 #[] g fun G A=>
 ∃ t:Value,(G=.returned (t))∧
 ∃ n:List Value,(n.length=5)∧
 (At (fun c=>c=A) ⟨s,0,none⟩ n)∧
 ∃ (k:Int→Int→World→Prop) (F:Int→Int→World→Nat),(k 0 0 A)∧∀ (N:Env) (e:Int) (a:Int) (i:World),k e a i→
 Br (decide (a<5))
 (Rng a 5 (∃ f:Int,(n.toArray[a.toNat]? =some (Value.int IntKind.i64 f))∧
 ∃ u:UInt8,((0:Int)≤f)∧
 ((ByteArray.mk #[65,66,67,68,69,70,71,72,74,75,76,77,78,80,81,82,84,85,86,87,88,89,90,50,51,52,53,54,55,56,57])[f.toNat]? =some u)∧
 Rng a 6 (∃ C:World,((Instr.storeAt 5 (.pointer ((some (Addr.add ⟨l,0,none⟩ a.toNat)))) (.int .u8 ((↑u.toNat:Int)))).run Tryz.prog i=.ok () C)∧
 CalW Tryz.prog cl t [.int .i64 f] C fun H D=>
 ∃ o:Int,(H=.returned (.int .i64 o))∧
 (k o (IntKind.i64.wrap (a + 1)) D)∧F o (IntKind.i64.wrap (a + 1)) D<F e a i)))
 (∃ v:UInt8,((0:Int)≤(IntKind.i64.wrap (31 - e)).tmod 31)∧
 ((ByteArray.mk #[65,66,67,68,69,70,71,72,74,75,76,77,78,80,81,82,84,85,86,87,88,89,90,50,51,52,53,54,55,56,57])[((IntKind.i64.wrap (31 - e)).tmod 31).toNat]? =some v)∧
 ∃ p:World,((Instr.storeAt 5 (.pointer ((some (Addr.add ⟨l,0,none⟩ 5)))) (.int .u8 ((↑v.toNat:Int)))).run Tryz.prog i=.ok () p)∧
 ∃ x:Addr,(some (Addr.mk l 0 none)=some x)∧
 ∃ y:ByteArray,(∀ c,(fun c=>c=p) c→((convert 22 9 (.slice ((some (x))) 6 6))).run Tryz.prog c=.ok (.string y) c)∧
 K (.tuple #[.string y,.int .i64 0]) p))) I) z
def sk112:Sk:=(.seq .leaf (.cut [] [] [2,3,11,12,13,14,15,16] .leaf (.seq .leaf (.seq .leaf (.seq (.seq .leaf (.block (.loop [0,6] [(.int .i64),(.int .i64)] [0,6,17,18,19,20,21,22,23,24,25,26] .leaf))) (.seq .leaf (.seq (.seq .leaf (.block (.loop [8,29] [(.int .i64),(.int .i64)] [8,9,10,29,30,31,32,33,34,35,36,37,38,39,40] .leaf))) .leaf)))))))
theorem call112 (a:Int) (K:Value→World→Prop) (w:World) (h:B112 a K w):Gets Tryz.prog 112 #[.int .i64 a] w K:=cq (sk:=sk112) Tryz.func112 (by kernel_rfl) (by kernel_rfl) (by kernel_rfl) h
def B88 (l:ByteArray) (K:Value→World→Prop) (w:World):Prop:=
 Br ((↑l.size:Int) !=6)
 (K (.tuple #[.int .i64 0,.int .i64 6]) w)
 (Calls Tryz.prog 121 #[] w fun r v=>
 ∃ m:Value,(r=.returned (m))∧
 New (.stringIter l 0) (fun q x=>
 ∃ (e:Int→Int→World→Prop) (g:Int→Int→World→Nat),(e 0 0 x)∧∀ (A:Env) (a:Int) (b:Int) (f:World),e a b f→
 NextS ((some ⟨q,0,none⟩)) (fun u k y=>
 Calls Tryz.prog 122 #[.string (ByteArray.mk #[65,66,67,68,69,70,71,72,74,75,76,77,78,80,81,82,84,85,86,87,88,89,90,50,51,52,53,54,55,56,57]),.int .u8 (IntKind.u8.wrap k)] y fun s o=>
 ∃ c:Int,(s=.returned (.int .i64 c))∧
 ∃ (i:Bool→World→Prop),(Br (decide (c<0))
 (i true o)
 (i (decide (k>90)) o))∧
 ∀ (C:Env) (n:Bool) (d:World),i n d→
 Br n
 (K (.tuple #[.int .i64 0,.int .i64 6]) d)
 (Br (decide (u<5))
 (CalW Tryz.prog cl m [.int .i64 c] d fun t p=>
 ∃ j:Int,(t=.returned (.int .i64 j))∧
 (e (IntKind.i64.wrap (IntKind.i64.wrap (a * 31) + c)) j p)∧g (IntKind.i64.wrap (IntKind.i64.wrap (a * 31) + c)) j p<g a b f)
 (Br ((IntKind.i64.wrap (b + c)).tmod 31 !=0)
 (K (.tuple #[.int .i64 0,.int .i64 6]) d)
 ((e a b d)∧g a b d<g a b f))))
 (fun z=>
 K (.tuple #[.int .i64 a,.int .i64 0]) z) f) v)
def sk88:Sk:=(.seq .leaf (.seq .leaf (.seq .leaf (.seq (.seq .leaf (.block (.loop [5,6] [(.int .i64),(.int .i64)] [2,3,5,6,7,8,9,16,17,18,19,20,21,22,23,24,25,26,27,28,29,30,31,32,33,34,35,36,37,38,39,40,41,42,43,44,45] (.seq .leaf (.seq .leaf (.block (.seq .leaf (.seq .leaf (.block (.cut [23] [.bool] [23,24,25,26,27,28,29] .leaf .leaf)))))))))) .leaf))))
theorem call88 (a:ByteArray) (K:Value→World→Prop) (w:World) (h:B88 a K w):Gets Tryz.prog 88 #[.string a] w K:=cq (sk:=sk88) Tryz.func88 (by kernel_rfl) (by kernel_rfl) (by kernel_rfl) h
def B122 (d:ByteArray) (b:Int) (K:Value→World→Prop) (w:World):Prop:=
 Calls Tryz.prog 159 #[.string d,.int .u8 b] w fun c e=>
 ∃ a:Int,(c=.returned (.int .i64 a))∧
 K (.int .i64 a) e
theorem call122 (b:ByteArray) (a:Int) (K:Value→World→Prop) (w:World) (h:B122 b a K w):Gets Tryz.prog 122 #[.string b,.int .u8 a] w K:=cq (sk:=.leaf) Tryz.func122 (by kernel_rfl) (by kernel_rfl) (by kernel_rfl) h
def B159 (d:ByteArray) (b:Int) (K:Value→World→Prop) (w:World):Prop:=
 Ext Tryz.prog 175 #[.string d,.int .u8 b] w fun c e=>
 ∃ a:Int,(c=.returned (.int .i64 a))∧
 K (.int .i64 a) e
theorem call159 (b:ByteArray) (a:Int) (K:Value→World→Prop) (w:World) (h:B159 b a K w):Gets Tryz.prog 159 #[.string b,.int .u8 a] w K:=cq (sk:=.leaf) Tryz.func159 (by kernel_rfl) (by kernel_rfl) (by kernel_rfl) h
end Go.Proofs.YtflgboncpbmikaaGreatDoor
/- The formulas of functions of this seat's translation, printed by a program of mine off the translation; each is proved equal to 'fnF' of the function's body, so it is enough for the call. No condition. -/
namespace Go.Proofs.YtflgboncpbmikaaGreatDoor
open Go Go.VC
set_option linter.unusedVariables false
set_option maxRecDepth 10000
def B45 (c:Bool) (b:Int) (a:List PanicEntry→World→Prop) (K:Value→World→Prop) (w:World):Prop:=
 Br (!c)
 (a [⟨.iface 28 (.int .i64 b),false,false⟩] w)
 (K (.tuple #[]) w)
theorem call45 (c:Bool) (b:Int) (a:List PanicEntry→World→Prop) (K:Value→World→Prop) (w:World) (h:B45 c b a K w):GetsX Tryz.prog 45 #[.bool c,.int .i64 b] w a K:=cqx (sk:=.leaf) Tryz.func45 (by kernel_rfl) (by kernel_rfl) (by kernel_rfl) h
def B75 (a:Int) (b:List PanicEntry→World→Prop) (K:Value→World→Prop) (w:World):Prop:=
 Br (a !=0)
 (b [⟨.iface 28 (.int .i64 a),false,false⟩] w)
 (K (.tuple #[]) w)
theorem call75 (b:Int) (a:List PanicEntry→World→Prop) (K:Value→World→Prop) (w:World) (h:B75 b a K w):GetsX Tryz.prog 75 #[.int .i64 b] w a K:=cqx (sk:=.leaf) Tryz.func75 (by kernel_rfl) (by kernel_rfl) (by kernel_rfl) h
def B44 (g:Option Addr) (b:Value) (K:World→Prop) (w:World):Prop:=
 ∃ c:Bool,(∀ a,(fun a=>a=w) a→((do eqGuard BinOp.neq 20 (Operand.tmp 4) (Operand.const Value.nilIface) b .nilIface;binOp BinOp.neq 20 b .nilIface:Sem Value)).run Tryz.prog a=.ok (.bool c) a)∧
 Br c
 (∃ d:Int,(∀ a,(fun a=>a=w) a→((Instr.typeAssert b 20 28 false)).run Tryz.prog a=.ok (.int .i64 d) a)∧
 NilP g fun f=>
 ∃ e:World,((Instr.storeAt 102 (.pointer ((some (f)))) (.agg #[.int .i64 d,.string (ByteArray.mk #[]),.int .i64 0,.int .i64 0,.int .i64 0,.int .i64 0,.int .i64 0,.slice none 0 0,.slice none 0 0])).run Tryz.prog w=.ok () e)∧
 K e)
 (K w)
theorem callP44 (b:Option Addr) (a:Value) (K:World→Prop) (w:World) (h:B44 b a K w):CallsD Tryz.prog 44 #[.pointer b] (.panicking [⟨a,false,false⟩]) w fun c d e=>(∃ f,c=.returned f)∧d=.panicking [⟨a,true,false⟩]∧K e:=
 rec_panic (sk:=.leaf) cl_ok mixed Tryz.func44 (by kernel_rfl) (Nat.le_of_ble_eq_true (by kernel_rfl)) (cast (by kernel_rfl) h)
theorem callR44 (a:Option Addr) (K:World→Prop) (w:World) (h:B44 a .nilIface K w):CallsD Tryz.prog 44 #[.pointer a] .returning w fun b c d=>(∃ e,b=.returned e)∧c=.returning∧K d:=
 rec_return (sk:=.leaf) cl_ok mixed Tryz.func44 (by kernel_rfl) (Nat.le_of_ble_eq_true (by kernel_rfl)) (cast (by kernel_rfl) h)
def B46 (Q:Int) (T:ByteArray) (U:Int) (V:Int) (X:Int) (Y:Int) (Z:Nat) (aa:ByteArray) (ab:Int) (r:Sl) (q:Sl) (K:Value→World→Prop) (w:World):Prop:=
 New (.cells #[.int .i64 Q,.string T,.int .i64 U,.int .i64 V,.int .i64 X,.int .i64 Y,.float .f64 Z,.string aa,.int .i64 ab,.slice r.a r.len r.cap,.slice q.a q.len q.cap] 96 (0,0)) (fun c j=>
 ∃ H:Int,(At (fun b=>b=j) ⟨c,0 + 2,none⟩ [.int .i64 H])∧
 ∃ u:Int,(At (fun b=>b=j) ⟨c,0 + 3,none⟩ [.int .i64 u])∧
 ∃ v:Int,(At (fun b=>b=j) ⟨c,0 + 4,none⟩ [.int .i64 v])∧
 ∃ x:Int,(At (fun b=>b=j) ⟨c,0 + 8,none⟩ [.int .i64 x])∧
 New (.cells #[.int .i64 H,.int .i64 u,.int .i64 v,.int .i64 x] 3 (0,0)) (fun O J=>
 ∃ g:Sl,(At (fun b=>b=J) ⟨c,0 + 8 + 1,none⟩ [.slice g.a g.len g.cap])∧
 ∃ L:World,∃ i:Sl,((Builtin.append_ #[68,68] 68 #[.slice ((some ⟨O,0,none⟩)) 4 4,.slice g.a g.len g.cap]).run Tryz.prog J=.ok (.slice i.a i.len i.cap) L)∧
 ∃ (n:Int→World→Prop) (M:Int→World→Nat),(n 0 L)∧∀ (ad:Env) (f:Int) (e:World),n f e→
 Br (decide (f<(↑i.len:Int)))
 (Rng f i.len (NilP i.a fun N=>
 ∃ y:Int,(At (fun b=>b=e) (Addr.add N f.toNat) [.int .i64 y])∧
 Calls Tryz.prog 73 #[.int .i64 y] e fun ac s=>
 ∃ z:Bool,(ac=.returned (.bool z))∧
 Br z
 (K (.bool false) s)
 ((n (IntKind.i64.wrap (f + 1)) s)∧M (IntKind.i64.wrap (f + 1)) s<M f e)))
 (∃ (o:Bool→World→Prop),(∃ A:ByteArray,(At (fun b=>b=e) ⟨c,0 + 1,none⟩ [.string A])∧
 Br (decide ((↑A.size:Int)≤16))
 (∃ C:ByteArray,(At (fun b=>b=e) ⟨c,0 + 7,none⟩ [.string C])∧
 o (decide ((↑C.size:Int)≤16)) e)
 (o false e))∧
 ∀ (ae:Env) (I:Bool) (k:World),o I k→
 ∃ (p:Bool→World→Prop),(∃ l:Sl,(At (fun b=>b=k) ⟨c,0 + 8 + 1,none⟩ [.slice l.a l.len l.cap])∧
 Br (decide ((↑l.len:Int)≤16))
 (∃ m:Sl,(At (fun b=>b=k) ⟨c,0 + 10,none⟩ [.slice m.a m.len m.cap])∧
 p (decide ((↑m.len:Int)≤16)) k)
 (p false k))∧
 ∀ (af:Env) (t:Bool) (d:World),p t d→
 Br I
 (Br t
 (∃ D:Int,(At (fun b=>b=d) ⟨c,0,none⟩ [.int .i64 D])∧
 Br (decide (D ≥ 1))
 (∃ E:Int,(At (fun b=>b=d) ⟨c,0,none⟩ [.int .i64 E])∧
 Br (decide (E≤9))
 (∃ F:Int,(At (fun b=>b=d) ⟨c,0 + 5,none⟩ [.int .i64 F])∧
 Br (decide (F ≥ 0))
 (∃ G:Int,(At (fun b=>b=d) ⟨c,0 + 5,none⟩ [.int .i64 G])∧
 K (.bool (decide (G≤1099511627776))) d)
 (K (.bool false) d))
 (K (.bool false) d))
 (K (.bool false) d))
 (K (.bool false) d))
 (K (.bool false) d))) j) w
def sk46:Sk:=(.seq .leaf (.seq .leaf (.seq (.seq .leaf (.block (.loop [23] [(.int .i64)] [2,5,23,24,25,26,27,28,29,30] .leaf))) (.cut [6] [.bool] [6,31,32,33,34,35,36,37,38,39,40] .leaf (.cut [7] [.bool] [7,41,42,43,44,45,46,47,48,49,50,51] .leaf .leaf)))))
theorem call46 (d:Int) (e:ByteArray) (f:Int) (g:Int) (i:Int) (j:Int) (k:Nat) (l:ByteArray) (m:Int) (c:Sl) (b:Sl) (K:Value→World→Prop) (w:World) (h:B46 d e f g i j k l m c b K w):Gets Tryz.prog 46 #[.agg #[.int .i64 d,.string e,.int .i64 f,.int .i64 g,.int .i64 i,.int .i64 j,.float .f64 k,.string l,.int .i64 m,.slice c.a c.len c.cap,.slice b.a b.len b.cap]] w K:=cq (sk:=sk46) Tryz.func46 (by kernel_rfl) (by kernel_rfl) (by kernel_rfl) h
def B73 (a:Int) (K:Value→World→Prop) (w:World):Prop:=
 Br (decide (a<0))
 (K (.bool true) w)
 (K (.bool (decide (a>9999))) w)
theorem call73 (a:Int) (K:Value→World→Prop) (w:World) (h:B73 a K w):Gets Tryz.prog 73 #[.int .i64 a] w K:=cq (sk:=.leaf) Tryz.func73 (by kernel_rfl) (by kernel_rfl) (by kernel_rfl) h
def B24  (K:Value→World→Prop) (w:World):Prop:=
 New (.map #[] 0) (fun a d=>
 New (.map #[] 0) (fun b e=>
 New (.cells #[.int .i64 0,.int .i64 1,.map ((some a)),.map ((some b))] 90 (0,0)) (fun c f=>
 K (.pointer ((some ⟨c,0,none⟩))) f) e) d) w
theorem call24  (K:Value→World→Prop) (w:World) (h:B24  K w):Gets Tryz.prog 24 #[] w K:=cq (sk:=.leaf) Tryz.func24 (by kernel_rfl) (by kernel_rfl) (by kernel_rfl) h
def B56 (m:Option Addr) (i:Sl) (K:Value→World→Prop) (w:World):Prop:=
 ∃ (g:Int→World→Prop) (p:Int→World→Nat),(g 0 w)∧∀ (x:Env) (b:Int) (f:World),g b f→
 Br (decide (b<(↑i.len:Int)))
 (Rng b i.len (NilP i.a fun q=>
 ∃ j:Int,(At (fun u=>u=f) (Addr.add q b.toNat) [.int .i64 j])∧
 Drw f fun l v=>
 NilP m fun r=>
 ∃ c:Sl,(At l (Addr.add r 0) [.slice c.a c.len c.cap])∧
 Calls Tryz.prog 35 #[.int .u64 (IntKind.u64.wrap (if 0>j then 0 else j))] v fun t n=>
 ∃ d:Sl,(t=.returned (.slice d.a d.len d.cap))∧
 (l n)∧
 ∃ o:World,∃ e:Sl,((Builtin.append_ #[22,22] 22 #[.slice c.a c.len c.cap,.slice d.a d.len d.cap]).run Tryz.prog n=.ok (.slice e.a e.len e.cap) o)∧
 NilP m fun s=>
 ∃ k:World,((Instr.storeAt 22 (.pointer ((some (Addr.add s 0)))) (.slice e.a e.len e.cap)).run Tryz.prog o=.ok () k)∧
 (g (IntKind.i64.wrap (b + 1)) k)∧p (IntKind.i64.wrap (b + 1)) k<p b f))
 (K (.tuple #[]) f)
def sk56:Sk:=(.seq .leaf (.block (.loop [8] [(.int .i64)] [5,8,9,10,11,12,13,14,15,16,17,18,19,20,21,22,23,24] .leaf)))
theorem call56 (c:Option Addr) (b:Sl) (K:Value→World→Prop) (w:World) (h:B56 c b K w):Gets Tryz.prog 56 #[.pointer c,.slice b.a b.len b.cap] w K:=cq (sk:=sk56) Tryz.func56 (by kernel_rfl) (by kernel_rfl) (by kernel_rfl) h
def B72 (c:Option Addr) (b:Sl) (K:Value→World→Prop) (w:World):Prop:=
 New (.cells #[.int .i64 ((↑b.len:Int))] 3 (0,0)) (fun d g=>
 Calls Tryz.prog 56 #[.pointer c,.slice ((some ⟨d,0,none⟩)) 1 1] g fun e i=>
 (e=.returned (.tuple #[]))∧
 Calls Tryz.prog 56 #[.pointer c,.slice b.a b.len b.cap] i fun f j=>
 (f=.returned (.tuple #[]))∧
 K (.tuple #[]) j) w
theorem call72 (c:Option Addr) (b:Sl) (K:Value→World→Prop) (w:World) (h:B72 c b K w):Gets Tryz.prog 72 #[.pointer c,.slice b.a b.len b.cap] w K:=cq (sk:=.leaf) Tryz.func72 (by kernel_rfl) (by kernel_rfl) (by kernel_rfl) h
def B58 (g:Option Addr) (e:Sl) (K:Value→World→Prop) (w:World):Prop:=
 Drw w fun f o=>
 NilP g fun m=>
 ∃ d:Sl,(At f (Addr.add m 0) [.slice d.a d.len d.cap])∧
 Calls Tryz.prog 19 #[.slice e.a e.len e.cap] o fun n i=>
 ∃ b:Sl,(n=.returned (.slice b.a b.len b.cap))∧
 (f i)∧
 ∃ j:World,∃ c:Sl,((Builtin.append_ #[22,22] 22 #[.slice d.a d.len d.cap,.slice b.a b.len b.cap]).run Tryz.prog i=.ok (.slice c.a c.len c.cap) j)∧
 NilP g fun l=>
 ∃ k:World,((Instr.storeAt 22 (.pointer ((some (Addr.add l 0)))) (.slice c.a c.len c.cap)).run Tryz.prog j=.ok () k)∧
 K (.tuple #[]) k
theorem call58 (c:Option Addr) (b:Sl) (K:Value→World→Prop) (w:World) (h:B58 c b K w):Gets Tryz.prog 58 #[.pointer c,.slice b.a b.len b.cap] w K:=cq (sk:=.leaf) Tryz.func58 (by kernel_rfl) (by kernel_rfl) (by kernel_rfl) h
def B67 (g:Option Addr) (f:Int) (K:Value→World→Prop) (w:World):Prop:=
 New (.cells #[.pointer g] 130 (0,0)) (fun d c=>
 ∃ a:Option Addr,(At (fun i=>i=c) ⟨d,0,none⟩ [.pointer a])∧
 Calls Tryz.prog 36 #[.pointer a,.int .u64 (IntKind.u64.wrap f)] c fun e j=>
 ∃ b:Int,(e=.returned (.int .u64 b))∧
 K (.int .i64 (IntKind.i64.wrap b)) j) w
theorem call67 (b:Option Addr) (a:Int) (K:Value→World→Prop) (w:World) (h:B67 b a K w):Gets Tryz.prog 67 #[.agg #[.pointer b],.int .i64 a] w K:=cq (sk:=.leaf) Tryz.func67 (by kernel_rfl) (by kernel_rfl) (by kernel_rfl) h
def B68 (l:Option Addr) (k:Int) (K:Value→World→Prop) (w:World):Prop:=
 New (.cells #[.pointer l] 130 (0,0)) (fun i f=>
 ∃ d:Option Addr,(At (fun b=>b=f) ⟨i,0,none⟩ [.pointer d])∧
 Calls Tryz.prog 22 #[.pointer d,.int .i64 k] f fun j g=>
 ∃ c:Sl,(j=.returned (.slice c.a c.len c.cap))∧
 ∃ e:ByteArray,(∀ b,(fun b=>b=g) b→((convert 22 9 (.slice c.a c.len c.cap))).run Tryz.prog b=.ok (.string e) b)∧
 K (.string e) g) w
theorem call68 (b:Option Addr) (a:Int) (K:Value→World→Prop) (w:World) (h:B68 b a K w):Gets Tryz.prog 68 #[.agg #[.pointer b],.int .i64 a] w K:=cq (sk:=.leaf) Tryz.func68 (by kernel_rfl) (by kernel_rfl) (by kernel_rfl) h
def B69 (i:Option Addr) (K:Value→World→Prop) (w:World):Prop:=
 New (.cells #[.pointer i] 130 (0,0)) (fun e d=>
 ∃ a:Option Addr,(At (fun j=>j=d) ⟨e,0,none⟩ [.pointer a])∧
 Calls Tryz.prog 36 #[.pointer a,.int .u64 18446744073709551615] d fun f k=>
 ∃ b:Int,(f=.returned (.int .u64 b))∧
 Calls Tryz.prog 98 #[.int .u64 b] k fun g l=>
 ∃ c:Nat,(g=.returned (.float .f64 c))∧
 K (.float .f64 c) l) w
theorem call69 (a:Option Addr) (K:Value→World→Prop) (w:World) (h:B69 a K w):Gets Tryz.prog 69 #[.agg #[.pointer a]] w K:=cq (sk:=.leaf) Tryz.func69 (by kernel_rfl) (by kernel_rfl) (by kernel_rfl) h
def B70 (m:Int) (n:Value) (K:Value→World→Prop) (w:World):Prop:=
 ∃ (f:Sl→Int→World→Prop) (j:Sl→Int→World→Nat),(f ⟨none,0,0⟩ 0 w)∧∀ (q:Env) (b:Sl) (d:Int) (e:World),f b d e→
 Br (decide (d<m))
 (CalW Tryz.prog cl n [] e fun l o=>
 ∃ i:Int,(l=.returned (.int .i64 i))∧
 New (.cells #[.int .i64 i] 3 (0,0)) (fun k p=>
 ∃ g:World,∃ c:Sl,((Builtin.append_ #[68,68] 68 #[.slice b.a b.len b.cap,.slice ((some ⟨k,0,none⟩)) 1 1]).run Tryz.prog p=.ok (.slice c.a c.len c.cap) g)∧
 (f c (IntKind.i64.wrap (d + 1)) g)∧j c (IntKind.i64.wrap (d + 1)) g<j b d e) o)
 (K (.slice b.a b.len b.cap) e)
def sk70:Sk:=(.seq .leaf (.seq .leaf (.seq (.seq .leaf (.block (.loop [5,7] [.sl,(.int .i64)] [5,7,8,9,10,11,12,13,14] .leaf))) .leaf)))
theorem call70 (a:Int) (b:Value) (K:Value→World→Prop) (w:World) (h:B70 a b K w):Gets Tryz.prog 70 #[.int .i64 a,b] w K:=cq (sk:=sk70) Tryz.func70 (by kernel_rfl) (by kernel_rfl) (by kernel_rfl) h
def B71 (m:Int) (n:Value) (K:Value→World→Prop) (w:World):Prop:=
 ∃ (f:Sl→Int→World→Prop) (j:Sl→Int→World→Nat),(f ⟨none,0,0⟩ 0 w)∧∀ (q:Env) (b:Sl) (d:Int) (e:World),f b d e→
 Br (decide (d<m))
 (CalW Tryz.prog cl n [] e fun l o=>
 ∃ i:Nat,(l=.returned (.float .f64 i))∧
 New (.cells #[.float .f64 i] 91 (0,0)) (fun k p=>
 ∃ g:World,∃ c:Sl,((Builtin.append_ #[94,94] 94 #[.slice b.a b.len b.cap,.slice ((some ⟨k,0,none⟩)) 1 1]).run Tryz.prog p=.ok (.slice c.a c.len c.cap) g)∧
 (f c (IntKind.i64.wrap (d + 1)) g)∧j c (IntKind.i64.wrap (d + 1)) g<j b d e) o)
 (K (.slice b.a b.len b.cap) e)
def sk71:Sk:=(.seq .leaf (.seq .leaf (.seq (.seq .leaf (.block (.loop [5,7] [.sl,(.int .i64)] [5,7,8,9,10,11,12,13,14] .leaf))) .leaf)))
theorem call71 (a:Int) (b:Value) (K:Value→World→Prop) (w:World) (h:B71 a b K w):Gets Tryz.prog 71 #[.int .i64 a,b] w K:=cq (sk:=sk71) Tryz.func71 (by kernel_rfl) (by kernel_rfl) (by kernel_rfl) h
def B42 (D:Sl) (K:Value→World→Prop) (w:World):Prop:=
 New (.cells #[.int .i64 0,.string (ByteArray.mk #[]),.int .i64 0,.int .i64 0,.int .i64 0,.int .i64 0,.float .f64 0,.string (ByteArray.mk #[]),.int .i64 0,.slice none 0 0,.slice none 0 0] 96 (0,0)) (fun j e7=>
 Calls Tryz.prog 20 #[.slice D.a D.len D.cap] e7 fun d6 e8=>
 ∃ cw:Option Addr,(d6=.returned (.pointer cw))∧
 New (.cells #[.pointer none] 130 (0,0)) (fun c e9=>
 ∃ dr:World,((Instr.storeAt 130 (.pointer ((some ⟨c,0,none⟩))) (.agg #[.pointer cw])).run Tryz.prog e9=.ok () dr)∧
 ∃ (e:Option Addr→World→Prop),(Drw dr fun b dz=>
 ∃ E:Option Addr,(At b ⟨c,0,none⟩ [.pointer E])∧
 ∃ A:Option Addr,(At b ⟨c,0,none⟩ [.pointer A])∧
 ∃ g:Option Addr,(At b ⟨c,0,none⟩ [.pointer g])∧
 (Calls Tryz.prog 67 #[.agg #[.pointer E],.int .i64 9] dz fun d7 L=>
 ∃ i:Int,(d7=.returned (.int .i64 i))∧
 (b L)∧
 (Calls Tryz.prog 68 #[.agg #[.pointer A],.int .i64 16] L fun ei V=>
 ∃ k:ByteArray,(ei=.returned (.string k))∧
 (b V)∧
 (Calls Tryz.prog 66 #[.pointer ((some ⟨c,0,none⟩))] V fun et X=>
 ∃ y:Int,(et=.returned (.int .i64 y))∧
 (b X)∧
 (Calls Tryz.prog 66 #[.pointer ((some ⟨c,0,none⟩))] X fun e1 Y=>
 ∃ C:Int,(e1=.returned (.int .i64 C))∧
 (b Y)∧
 (Calls Tryz.prog 66 #[.pointer ((some ⟨c,0,none⟩))] Y fun e2 G=>
 ∃ F:Int,(e2=.returned (.int .i64 F))∧
 (b G)∧
 (Calls Tryz.prog 67 #[.agg #[.pointer g],.int .i64 1099511627776] G fun e3 cx=>
 ∃ a2:Int,(e3=.returned (.int .i64 a2))∧
 (b cx)∧
 New (.cells #[.int .i64 0,.string (ByteArray.mk #[]),.int .i64 0,.int .i64 0,.int .i64 0,.int .i64 0,.float .f64 0,.string (ByteArray.mk #[]),.int .i64 0,.slice none 0 0,.slice none 0 0] 96 (0,0)) (fun ae cy=>
 (b cy)∧
 ∃ cz:World,((Instr.storeAt 96 (.pointer ((some ⟨ae,0,none⟩))) (.agg #[.int .i64 i,.string k,.int .i64 y,.int .i64 C,.int .i64 F,.int .i64 a2,.float .f64 0,.string (ByteArray.mk #[]),.int .i64 0,.slice none 0 0,.slice none 0 0])).run Tryz.prog cy=.ok () cz)∧
 e ((some ⟨ae,0,none⟩)) cz) cx)∧
 New (.cells #[.int .i64 0,.string (ByteArray.mk #[]),.int .i64 0,.int .i64 0,.int .i64 0,.int .i64 0,.float .f64 0,.string (ByteArray.mk #[]),.int .i64 0,.slice none 0 0,.slice none 0 0] 96 (0,0)) (fun af c0=>
 (b c0)∧
 Calls Tryz.prog 67 #[.agg #[.pointer g],.int .i64 1099511627776] c0 fun e4 c1=>
 ∃ a3:Int,(e4=.returned (.int .i64 a3))∧
 (b c1)∧
 ∃ c2:World,((Instr.storeAt 96 (.pointer ((some ⟨af,0,none⟩))) (.agg #[.int .i64 i,.string k,.int .i64 y,.int .i64 C,.int .i64 F,.int .i64 a3,.float .f64 0,.string (ByteArray.mk #[]),.int .i64 0,.slice none 0 0,.slice none 0 0])).run Tryz.prog c1=.ok () c2)∧
 e ((some ⟨af,0,none⟩)) c2) G)∧
 New (.cells #[.int .i64 0,.string (ByteArray.mk #[]),.int .i64 0,.int .i64 0,.int .i64 0,.int .i64 0,.float .f64 0,.string (ByteArray.mk #[]),.int .i64 0,.slice none 0 0,.slice none 0 0] 96 (0,0)) (fun ag c3=>
 (b c3)∧
 Calls Tryz.prog 66 #[.pointer ((some ⟨c,0,none⟩))] c3 fun e5 c4=>
 ∃ ax:Int,(e5=.returned (.int .i64 ax))∧
 (b c4)∧
 Calls Tryz.prog 67 #[.agg #[.pointer g],.int .i64 1099511627776] c4 fun e6 c5=>
 ∃ a4:Int,(e6=.returned (.int .i64 a4))∧
 (b c5)∧
 ∃ c6:World,((Instr.storeAt 96 (.pointer ((some ⟨ag,0,none⟩))) (.agg #[.int .i64 i,.string k,.int .i64 y,.int .i64 C,.int .i64 ax,.int .i64 a4,.float .f64 0,.string (ByteArray.mk #[]),.int .i64 0,.slice none 0 0,.slice none 0 0])).run Tryz.prog c5=.ok () c6)∧
 e ((some ⟨ag,0,none⟩)) c6) Y)∧
 New (.cells #[.int .i64 0,.string (ByteArray.mk #[]),.int .i64 0,.int .i64 0,.int .i64 0,.int .i64 0,.float .f64 0,.string (ByteArray.mk #[]),.int .i64 0,.slice none 0 0,.slice none 0 0] 96 (0,0)) (fun ah c7=>
 (b c7)∧
 Calls Tryz.prog 66 #[.pointer ((some ⟨c,0,none⟩))] c7 fun d8 c8=>
 ∃ ar:Int,(d8=.returned (.int .i64 ar))∧
 (b c8)∧
 Calls Tryz.prog 66 #[.pointer ((some ⟨c,0,none⟩))] c8 fun d9 c9=>
 ∃ ay:Int,(d9=.returned (.int .i64 ay))∧
 (b c9)∧
 Calls Tryz.prog 67 #[.agg #[.pointer g],.int .i64 1099511627776] c9 fun ea da=>
 ∃ a5:Int,(ea=.returned (.int .i64 a5))∧
 (b da)∧
 ∃ db:World,((Instr.storeAt 96 (.pointer ((some ⟨ah,0,none⟩))) (.agg #[.int .i64 i,.string k,.int .i64 y,.int .i64 ar,.int .i64 ay,.int .i64 a5,.float .f64 0,.string (ByteArray.mk #[]),.int .i64 0,.slice none 0 0,.slice none 0 0])).run Tryz.prog da=.ok () db)∧
 e ((some ⟨ah,0,none⟩)) db) X)∧
 New (.cells #[.int .i64 0,.string (ByteArray.mk #[]),.int .i64 0,.int .i64 0,.int .i64 0,.int .i64 0,.float .f64 0,.string (ByteArray.mk #[]),.int .i64 0,.slice none 0 0,.slice none 0 0] 96 (0,0)) (fun ai dc=>
 (b dc)∧
 Calls Tryz.prog 66 #[.pointer ((some ⟨c,0,none⟩))] dc fun eb dd=>
 ∃ ao:Int,(eb=.returned (.int .i64 ao))∧
 (b dd)∧
 Calls Tryz.prog 66 #[.pointer ((some ⟨c,0,none⟩))] dd fun ec de=>
 ∃ au:Int,(ec=.returned (.int .i64 au))∧
 (b de)∧
 Calls Tryz.prog 66 #[.pointer ((some ⟨c,0,none⟩))] de fun ed df=>
 ∃ az:Int,(ed=.returned (.int .i64 az))∧
 (b df)∧
 Calls Tryz.prog 67 #[.agg #[.pointer g],.int .i64 1099511627776] df fun ee dg=>
 ∃ a6:Int,(ee=.returned (.int .i64 a6))∧
 (b dg)∧
 ∃ dh:World,((Instr.storeAt 96 (.pointer ((some ⟨ai,0,none⟩))) (.agg #[.int .i64 i,.string k,.int .i64 ao,.int .i64 au,.int .i64 az,.int .i64 a6,.float .f64 0,.string (ByteArray.mk #[]),.int .i64 0,.slice none 0 0,.slice none 0 0])).run Tryz.prog dg=.ok () dh)∧
 e ((some ⟨ai,0,none⟩)) dh) V)∧
 New (.cells #[.int .i64 0,.string (ByteArray.mk #[]),.int .i64 0,.int .i64 0,.int .i64 0,.int .i64 0,.float .f64 0,.string (ByteArray.mk #[]),.int .i64 0,.slice none 0 0,.slice none 0 0] 96 (0,0)) (fun aj di=>
 (b di)∧
 Calls Tryz.prog 68 #[.agg #[.pointer A],.int .i64 16] di fun ef dj=>
 ∃ am:ByteArray,(ef=.returned (.string am))∧
 (b dj)∧
 Calls Tryz.prog 66 #[.pointer ((some ⟨c,0,none⟩))] dj fun eg dk=>
 ∃ ap:Int,(eg=.returned (.int .i64 ap))∧
 (b dk)∧
 Calls Tryz.prog 66 #[.pointer ((some ⟨c,0,none⟩))] dk fun eh dl=>
 ∃ av:Int,(eh=.returned (.int .i64 av))∧
 (b dl)∧
 Calls Tryz.prog 66 #[.pointer ((some ⟨c,0,none⟩))] dl fun ej dm=>
 ∃ a0:Int,(ej=.returned (.int .i64 a0))∧
 (b dm)∧
 Calls Tryz.prog 67 #[.agg #[.pointer g],.int .i64 1099511627776] dm fun ek dn=>
 ∃ a7:Int,(ek=.returned (.int .i64 a7))∧
 (b dn)∧
 ∃ dp:World,((Instr.storeAt 96 (.pointer ((some ⟨aj,0,none⟩))) (.agg #[.int .i64 i,.string am,.int .i64 ap,.int .i64 av,.int .i64 a0,.int .i64 a7,.float .f64 0,.string (ByteArray.mk #[]),.int .i64 0,.slice none 0 0,.slice none 0 0])).run Tryz.prog dn=.ok () dp)∧
 e ((some ⟨aj,0,none⟩)) dp) L)∧
 New (.cells #[.int .i64 0,.string (ByteArray.mk #[]),.int .i64 0,.int .i64 0,.int .i64 0,.int .i64 0,.float .f64 0,.string (ByteArray.mk #[]),.int .i64 0,.slice none 0 0,.slice none 0 0] 96 (0,0)) (fun ak dq=>
 (b dq)∧
 Calls Tryz.prog 67 #[.agg #[.pointer E],.int .i64 9] dq fun el ds=>
 ∃ al:Int,(el=.returned (.int .i64 al))∧
 (b ds)∧
 Calls Tryz.prog 68 #[.agg #[.pointer A],.int .i64 16] ds fun em dt=>
 ∃ an:ByteArray,(em=.returned (.string an))∧
 (b dt)∧
 Calls Tryz.prog 66 #[.pointer ((some ⟨c,0,none⟩))] dt fun en du=>
 ∃ aq:Int,(en=.returned (.int .i64 aq))∧
 (b du)∧
 Calls Tryz.prog 66 #[.pointer ((some ⟨c,0,none⟩))] du fun eo dv=>
 ∃ aw:Int,(eo=.returned (.int .i64 aw))∧
 (b dv)∧
 Calls Tryz.prog 66 #[.pointer ((some ⟨c,0,none⟩))] dv fun ep dw=>
 ∃ a1:Int,(ep=.returned (.int .i64 a1))∧
 (b dw)∧
 Calls Tryz.prog 67 #[.agg #[.pointer g],.int .i64 1099511627776] dw fun eq dx=>
 ∃ a8:Int,(eq=.returned (.int .i64 a8))∧
 (b dx)∧
 ∃ dy:World,((Instr.storeAt 96 (.pointer ((some ⟨ak,0,none⟩))) (.agg #[.int .i64 al,.string an,.int .i64 aq,.int .i64 aw,.int .i64 a1,.int .i64 a8,.float .f64 0,.string (ByteArray.mk #[]),.int .i64 0,.slice none 0 0,.slice none 0 0])).run Tryz.prog dx=.ok () dy)∧
 e ((some ⟨ak,0,none⟩)) dy) dz)∧
 ∀ (fg:Env) (f:Option Addr) (H:World),e f H→
 ∃ a9:Option Addr,(At (fun d=>d=H) ⟨c,0,none⟩ [.pointer a9])∧
 Calls Tryz.prog 69 #[.agg #[.pointer a9]] H fun er fa=>
 ∃ ba:Nat,(er=.returned (.float .f64 ba))∧
 NilP f fun Z=>
 ∃ I:World,((Instr.storeAt 91 (.pointer ((some ⟨Z.block,Z.off + 6,none⟩))) (.float .f64 ba)).run Tryz.prog fa=.ok () I)∧
 ∃ bb:Option Addr,(At (fun d=>d=I) ⟨c,0,none⟩ [.pointer bb])∧
 Calls Tryz.prog 68 #[.agg #[.pointer bb],.int .i64 16] I fun es fb=>
 ∃ bc:ByteArray,(es=.returned (.string bc))∧
 NilP f fun aa=>
 ∃ d0:World,((Instr.storeAt 9 (.pointer ((some ⟨aa.block,aa.off + 7,none⟩))) (.string bc)).run Tryz.prog fb=.ok () d0)∧
 Calls Tryz.prog 66 #[.pointer ((some ⟨c,0,none⟩))] d0 fun eu fc=>
 ∃ be:Int,(eu=.returned (.int .i64 be))∧
 NilP f fun ab=>
 ∃ J:World,((Instr.storeAt 3 (.pointer ((some ⟨ab.block,ab.off + 8,none⟩))) (.int .i64 be)).run Tryz.prog fc=.ok () J)∧
 ∃ bf:Option Addr,(At (fun d=>d=J) ⟨c,0,none⟩ [.pointer bf])∧
 Calls Tryz.prog 67 #[.agg #[.pointer bf],.int .i64 16] J fun ev fd=>
 ∃ bg:Int,(ev=.returned (.int .i64 bg))∧
 Calls Tryz.prog 70 #[.int .i64 bg,.func (.func 66) #[] #[.pointer ((some ⟨c,0,none⟩))]] fd fun ew fe=>
 ∃ l:Sl,(ew=.returned (.slice l.a l.len l.cap))∧
 NilP f fun ac=>
 ∃ d1:World,((Instr.storeAt 68 (.pointer ((some ⟨ac.block,ac.off + 8 + 1,none⟩))) (.slice l.a l.len l.cap)).run Tryz.prog fe=.ok () d1)∧
 Drw d1 fun z ff=>
 ∃ b8:Option Addr,(At z ⟨c,0,none⟩ [.pointer b8])∧
 ∃ ca:Option Addr,(At z ⟨c,0,none⟩ [.pointer ca])∧
 Calls Tryz.prog 67 #[.agg #[.pointer b8],.int .i64 16] ff fun ex d2=>
 ∃ b9:Int,(ex=.returned (.int .i64 b9))∧
 (z d2)∧
 Calls Tryz.prog 71 #[.int .i64 b9,.func (.func 69) #[.agg #[.pointer ca]] #[]] d2 fun ey d3=>
 ∃ s:Sl,(ey=.returned (.slice s.a s.len s.cap))∧
 (z d3)∧
 NilP f fun ad=>
 ∃ M:World,((Instr.storeAt 94 (.pointer ((some ⟨ad.block,ad.off + 10,none⟩))) (.slice s.a s.len s.cap)).run Tryz.prog d3=.ok () M)∧
 ∃ cb:Option Addr,(At (fun d=>d=M) ⟨c,0,none⟩ [.pointer cb])∧
 Calls Tryz.prog 23 #[.pointer cb] M fun ez N=>
 ∃ cc:Bool,(ez=.returned (.bool cc))∧
 Br (!cc)
 (∃ O:World,((Instr.storeAt 96 (.pointer ((some ⟨j,0,none⟩))) (.agg #[.int .i64 0,.string (ByteArray.mk #[]),.int .i64 0,.int .i64 0,.int .i64 0,.int .i64 0,.float .f64 0,.string (ByteArray.mk #[]),.int .i64 0,.slice none 0 0,.slice none 0 0])).run Tryz.prog N=.ok () O)∧
 ∃ bd:Int,∃ bh:ByteArray,∃ br:Int,∃ b1:Int,∃ b3:Int,∃ b4:Int,∃ b5:Nat,∃ b6:ByteArray,∃ b7:Int,∃ r:Sl,∃ m:Sl,(At (fun d=>d=O) ⟨j,0,none⟩ [.int .i64 bd,.string bh,.int .i64 br,.int .i64 b1,.int .i64 b3,.int .i64 b4,.float .f64 b5,.string b6,.int .i64 b7,.slice r.a r.len r.cap,.slice m.a m.len m.cap])∧
 K (.tuple #[.agg #[.int .i64 bd,.string bh,.int .i64 br,.int .i64 b1,.int .i64 b3,.int .i64 b4,.float .f64 b5,.string b6,.int .i64 b7,.slice r.a r.len r.cap,.slice m.a m.len m.cap],.int .i64 6]) O)
 (NilP f fun d4=>
 ∃ cd:Int,∃ ce:ByteArray,∃ cf:Int,∃ cg:Int,∃ ch:Int,∃ ci:Int,∃ cj:Nat,∃ ck:ByteArray,∃ cl:Int,∃ u:Sl,∃ t:Sl,(At (fun d=>d=N) d4 [.int .i64 cd,.string ce,.int .i64 cf,.int .i64 cg,.int .i64 ch,.int .i64 ci,.float .f64 cj,.string ck,.int .i64 cl,.slice u.a u.len u.cap,.slice t.a t.len t.cap])∧
 Calls Tryz.prog 46 #[.agg #[.int .i64 cd,.string ce,.int .i64 cf,.int .i64 cg,.int .i64 ch,.int .i64 ci,.float .f64 cj,.string ck,.int .i64 cl,.slice u.a u.len u.cap,.slice t.a t.len t.cap]] N fun e0 Q=>
 ∃ cm:Bool,(e0=.returned (.bool cm))∧
 Br (!cm)
 (∃ T:World,((Instr.storeAt 96 (.pointer ((some ⟨j,0,none⟩))) (.agg #[.int .i64 0,.string (ByteArray.mk #[]),.int .i64 0,.int .i64 0,.int .i64 0,.int .i64 0,.float .f64 0,.string (ByteArray.mk #[]),.int .i64 0,.slice none 0 0,.slice none 0 0])).run Tryz.prog Q=.ok () T)∧
 ∃ bi:Int,∃ bj:ByteArray,∃ bk:Int,∃ bl:Int,∃ bm:Int,∃ bn:Int,∃ bo:Nat,∃ bp:ByteArray,∃ bq:Int,∃ n:Sl,∃ o:Sl,(At (fun d=>d=T) ⟨j,0,none⟩ [.int .i64 bi,.string bj,.int .i64 bk,.int .i64 bl,.int .i64 bm,.int .i64 bn,.float .f64 bo,.string bp,.int .i64 bq,.slice n.a n.len n.cap,.slice o.a o.len o.cap])∧
 K (.tuple #[.agg #[.int .i64 bi,.string bj,.int .i64 bk,.int .i64 bl,.int .i64 bm,.int .i64 bn,.float .f64 bo,.string bp,.int .i64 bq,.slice n.a n.len n.cap,.slice o.a o.len o.cap],.int .i64 6]) T)
 (NilP f fun d5=>
 ∃ cn:Int,∃ co:ByteArray,∃ cp:Int,∃ cq:Int,∃ cr:Int,∃ cs:Int,∃ ct:Nat,∃ cu:ByteArray,∃ cv:Int,∃ x:Sl,∃ v:Sl,(At (fun d=>d=Q) d5 [.int .i64 cn,.string co,.int .i64 cp,.int .i64 cq,.int .i64 cr,.int .i64 cs,.float .f64 ct,.string cu,.int .i64 cv,.slice x.a x.len x.cap,.slice v.a v.len v.cap])∧
 ∃ U:World,((Instr.storeAt 96 (.pointer ((some ⟨j,0,none⟩))) (.agg #[.int .i64 cn,.string co,.int .i64 cp,.int .i64 cq,.int .i64 cr,.int .i64 cs,.float .f64 ct,.string cu,.int .i64 cv,.slice x.a x.len x.cap,.slice v.a v.len v.cap])).run Tryz.prog Q=.ok () U)∧
 ∃ bs:Int,∃ bt:ByteArray,∃ bu:Int,∃ bv:Int,∃ bw:Int,∃ bx:Int,∃ bz:Nat,∃ b0:ByteArray,∃ b2:Int,∃ p:Sl,∃ q:Sl,(At (fun d=>d=U) ⟨j,0,none⟩ [.int .i64 bs,.string bt,.int .i64 bu,.int .i64 bv,.int .i64 bw,.int .i64 bx,.float .f64 bz,.string b0,.int .i64 b2,.slice p.a p.len p.cap,.slice q.a q.len q.cap])∧
 K (.tuple #[.agg #[.int .i64 bs,.string bt,.int .i64 bu,.int .i64 bv,.int .i64 bw,.int .i64 bx,.float .f64 bz,.string b0,.int .i64 b2,.slice p.a p.len p.cap,.slice q.a q.len q.cap],.int .i64 0]) U))) e8) w
def sk42:Sk:=(.seq .leaf (.seq .leaf (.seq .leaf (.cut [6] [.ptr] [6,11,12,13,14,15,16,17,18,19,20,21,22,23] .leaf .leaf))))
theorem call42 (b:Sl) (K:Value→World→Prop) (w:World) (h:B42 b K w):Gets Tryz.prog 42 #[.slice b.a b.len b.cap] w K:=cq (sk:=sk42) Tryz.func42 (by kernel_rfl) (by kernel_rfl) (by kernel_rfl) h
def B66 (d:Option Addr) (K:Value→World→Prop) (w:World):Prop:=
 NilP d fun c=>
 ∃ a:Option Addr,(At (fun f=>f=w) c [.pointer a])∧
 Calls Tryz.prog 67 #[.agg #[.pointer a],.int .i64 9999] w fun e g=>
 ∃ b:Int,(e=.returned (.int .i64 b))∧
 K (.int .i64 b) g
theorem call66 (a:Option Addr) (K:Value→World→Prop) (w:World) (h:B66 a K w):Gets Tryz.prog 66 #[.pointer a] w K:=cq (sk:=.leaf) Tryz.func66 (by kernel_rfl) (by kernel_rfl) (by kernel_rfl) h
def B43 (Z:Int) (aa:ByteArray) (ab:Int) (ac:Int) (ad:Int) (ae:Int) (af:Int) (p:Sl) (q:Sl) (K:Value→World→Prop) (w:World):Prop:=
 New (.cells #[.int .i64 Z,.string aa,.int .i64 ab,.int .i64 ac,.int .i64 ad,.int .i64 ae,.int .i64 af,.slice p.a p.len p.cap,.slice q.a q.len q.cap] 102 (0,0)) (fun c ag=>
 New (.cells #[.slice none 0 0] 113 (0,0)) (fun d E=>
 ∃ r:Int,(At (fun b=>b=E) ⟨c,0,none⟩ [.int .i64 r])∧
 New (.cells #[.int .i64 r] 3 (0,0)) (fun M ai=>
 Calls Tryz.prog 56 #[.pointer ((some ⟨d,0,none⟩)),.slice ((some ⟨M,0,none⟩)) 1 1] ai fun Q F=>
 (Q=.returned (.tuple #[]))∧
 ∃ s:ByteArray,(At (fun b=>b=F) ⟨c,0 + 1,none⟩ [.string s])∧
 ∃ G:World,∃ f:Sl,((convert 9 22 (.string s)).run Tryz.prog F=.ok (.slice f.a f.len f.cap) G)∧
 Calls Tryz.prog 58 #[.pointer ((some ⟨d,0,none⟩)),.slice f.a f.len f.cap] G fun T m=>
 (T=.returned (.tuple #[]))∧
 ∃ t:Int,(At (fun b=>b=m) ⟨c,0 + 2,none⟩ [.int .i64 t])∧
 ∃ u:Int,(At (fun b=>b=m) ⟨c,0 + 3,none⟩ [.int .i64 u])∧
 ∃ v:Int,(At (fun b=>b=m) ⟨c,0 + 4,none⟩ [.int .i64 v])∧
 ∃ x:Int,(At (fun b=>b=m) ⟨c,0 + 5,none⟩ [.int .i64 x])∧
 ∃ y:Int,(At (fun b=>b=m) ⟨c,0 + 6,none⟩ [.int .i64 y])∧
 New (.cells #[.int .i64 t,.int .i64 u,.int .i64 v,.int .i64 x,.int .i64 y] 3 (0,0)) (fun N aj=>
 Calls Tryz.prog 56 #[.pointer ((some ⟨d,0,none⟩)),.slice ((some ⟨N,0,none⟩)) 5 5] aj fun U H=>
 (U=.returned (.tuple #[]))∧
 ∃ g:Sl,(At (fun b=>b=H) ⟨c,0 + 7,none⟩ [.slice g.a g.len g.cap])∧
 Calls Tryz.prog 72 #[.pointer ((some ⟨d,0,none⟩)),.slice g.a g.len g.cap] H fun V I=>
 (V=.returned (.tuple #[]))∧
 ∃ n:Sl,(At (fun b=>b=I) ⟨c,0 + 8,none⟩ [.slice n.a n.len n.cap])∧
 New (.cells #[.int .i64 ((↑n.len:Int))] 3 (0,0)) (fun O ah=>
 Calls Tryz.prog 56 #[.pointer ((some ⟨d,0,none⟩)),.slice ((some ⟨O,0,none⟩)) 1 1] ah fun X A=>
 (X=.returned (.tuple #[]))∧
 ∃ i:Sl,(At (fun b=>b=A) ⟨c,0 + 8,none⟩ [.slice i.a i.len i.cap])∧
 ∃ (o:Int→World→Prop) (J:Int→World→Nat),(o 0 A)∧∀ (ak:Env) (e:Int) (l:World),o e l→
 Br (decide (e<(↑i.len:Int)))
 (Rng e i.len (NilP i.a fun L=>
 ∃ z:ByteArray,(At (fun b=>b=l) (Addr.add L e.toNat) [.string z])∧
 ∃ C:World,∃ j:Sl,((convert 9 22 (.string z)).run Tryz.prog l=.ok (.slice j.a j.len j.cap) C)∧
 Calls Tryz.prog 58 #[.pointer ((some ⟨d,0,none⟩)),.slice j.a j.len j.cap] C fun Y D=>
 (Y=.returned (.tuple #[]))∧
 (o (IntKind.i64.wrap (e + 1)) D)∧J (IntKind.i64.wrap (e + 1)) D<J e l))
 (∃ k:Sl,(At (fun b=>b=l) ⟨d,0,none⟩ [.slice k.a k.len k.cap])∧
 K (.slice k.a k.len k.cap) l)) I) m) E) ag) w
def sk43:Sk:=(.seq .leaf (.seq .leaf (.seq .leaf (.seq .leaf (.seq .leaf (.seq .leaf (.seq .leaf (.seq (.seq .leaf (.block (.loop [44] [(.int .i64)] [5,44,45,46,47,48,49,50,51,52] .leaf))) .leaf))))))))
theorem call43 (d:Int) (e:ByteArray) (f:Int) (g:Int) (i:Int) (j:Int) (k:Int) (b:Sl) (c:Sl) (K:Value→World→Prop) (w:World) (h:B43 d e f g i j k b c K w):Gets Tryz.prog 43 #[.agg #[.int .i64 d,.string e,.int .i64 f,.int .i64 g,.int .i64 i,.int .i64 j,.int .i64 k,.slice b.a b.len b.cap,.slice c.a c.len c.cap]] w K:=cq (sk:=sk43) Tryz.func43 (by kernel_rfl) (by kernel_rfl) (by kernel_rfl) h
def B52 (s:Option Addr) (t:ByteArray) (c:List PanicEntry→World→Prop) (K:Value→World→Prop) (w:World):Prop:=
 Calls Tryz.prog 88 #[.string t] w fun i q=>
 (∃ l:Int,∃ m:Int,(i=.returned (.tuple #[.int .i64 l,.int .i64 m]))∧
 Calls Tryz.prog 75 #[.int .i64 m] q fun j b=>
 ((j=.returned (.tuple #[]))∧
 NilP s fun d=>
 ∃ n:Option Nat,(At (fun a=>a=b) ⟨d.block,d.off + 3,none⟩ [.map n])∧
 ∃ o:Option Addr,∃ p:Bool,(∀ a,(fun a=>a=b) a→((Instr.lookup 88 (.map n) (.int .i64 l) true)).run Tryz.prog a=.ok (.tuple #[.pointer o,.bool p]) a)∧
 Calls Tryz.prog 45 #[.bool p,.int .i64 2] b fun k r=>
 ((k=.returned (.tuple #[]))∧
 K (.pointer o) r)∨
 (∃ g:List PanicEntry,(k=.panicked g)∧c g r))∨
 (∃ f:List PanicEntry,(j=.panicked f)∧c f b))∨
 (∃ e:List PanicEntry,(i=.panicked e)∧c e q)
theorem call52 (b:Option Addr) (c:ByteArray) (a:List PanicEntry→World→Prop) (K:Value→World→Prop) (w:World) (h:B52 b c a K w):GetsX Tryz.prog 52 #[.pointer b,.string c] w a K:=cqx (sk:=.leaf) Tryz.func52 (by kernel_rfl) (by kernel_rfl) (by kernel_rfl) h
def B78 (u:Option Addr) (v:Int) (t:List PanicEntry→World→Prop) (K:Value→World→Prop) (w:World):Prop:=
 New (.cells #[.pointer none,.pointer none] 119 (0,0)) (fun g b=>
 NilP u fun e=>
 ∃ k:Option Nat,(At (fun a=>a=b) ⟨e.block,e.off + 2,none⟩ [.map k])∧
 ∃ l:Option Addr,∃ m:Option Addr,∃ n:Bool,(∀ a,(fun a=>a=b) a→((Instr.lookup 87 (.map k) (.int .i64 v) true)).run Tryz.prog a=.ok (.tuple #[.agg #[.pointer l,.pointer m],.bool n]) a)∧
 New (.cells #[.pointer none,.pointer none] 119 (0,0)) (fun f x=>
 ∃ s:World,((Instr.storeAt 119 (.pointer ((some ⟨f,0,none⟩))) (.agg #[.pointer l,.pointer m])).run Tryz.prog x=.ok () s)∧
 Calls Tryz.prog 45 #[.bool n,.int .i64 2] s fun j c=>
 ((j=.returned (.tuple #[]))∧
 ∃ o:Option Addr,∃ p:Option Addr,(At (fun a=>a=c) ⟨f,0,none⟩ [.pointer o,.pointer p])∧
 ∃ d:World,((Instr.storeAt 119 (.pointer ((some ⟨g,0,none⟩))) (.agg #[.pointer o,.pointer p])).run Tryz.prog c=.ok () d)∧
 ∃ q:Option Addr,∃ r:Option Addr,(At (fun a=>a=d) ⟨g,0,none⟩ [.pointer q,.pointer r])∧
 K (.agg #[.pointer q,.pointer r]) d)∨
 (∃ i:List PanicEntry,(j=.panicked i)∧t i c)) b) w
theorem call78 (b:Option Addr) (c:Int) (a:List PanicEntry→World→Prop) (K:Value→World→Prop) (w:World) (h:B78 b c a K w):GetsX Tryz.prog 78 #[.pointer b,.int .i64 c] w a K:=cqx (sk:=.leaf) Tryz.func78 (by kernel_rfl) (by kernel_rfl) (by kernel_rfl) h
def B81 (E:Option Addr) (b2:Int) (K:Value→World→Prop) (w:World):Prop:=
 NilP E fun D=>
 ∃ J:Option Nat,(At (fun b=>b=w) ⟨D.block,D.off + 2,none⟩ [.map J])∧
 ∃ L:Option Addr,∃ M:Option Addr,(∀ b,(fun b=>b=w) b→((Instr.lookup 87 (.map J) (.int .i64 b2) false)).run Tryz.prog b=.ok (.agg #[.pointer L,.pointer M]) b)∧
 New (.cells #[.pointer none,.pointer none] 119 (0,0)) (fun f b5=>
 ∃ bd:World,((Instr.storeAt 119 (.pointer ((some ⟨f,0,none⟩))) (.agg #[.pointer L,.pointer M])).run Tryz.prog b5=.ok () bd)∧
 ∃ (l:Option Addr→Bool→World→Prop),(Drw bd fun c bh=>
 ∃ o:Option Addr,(At c ⟨f,0 + 1,none⟩ [.pointer o])∧
 ∃ s:Option Addr,(At c ⟨f,0,none⟩ [.pointer s])∧
 (Calls Tryz.prog 77 #[.pointer s] bh fun bs x=>
 ∃ d:Sl,(bs=.returned (.slice d.a d.len d.cap))∧
 (c x)∧
 (Calls Tryz.prog 111 #[.pointer o,.slice d.a d.len d.cap] x fun bt bi=>
 ∃ N:Int,∃ O:Int,∃ ab:Int,∃ ac:Int,∃ ad:Nat,∃ ae:Bool,(bt=.returned (.tuple #[.agg #[.int .i64 N,.int .i64 O,.int .i64 ab,.int .i64 ac,.float .f64 ad],.bool ae]))∧
 (c bi)∧
 New (.cells #[.int .i64 0,.int .i64 0,.int .i64 0,.int .i64 0,.float .f64 0] 147 (0,0)) (fun F bj=>
 (c bj)∧
 ∃ bk:World,((Instr.storeAt 147 (.pointer ((some ⟨F,0,none⟩))) (.agg #[.int .i64 N,.int .i64 O,.int .i64 ab,.int .i64 ac,.float .f64 ad])).run Tryz.prog bj=.ok () bk)∧
 l ((some ⟨F,0,none⟩)) ae bk) bi)∧
 New (.cells #[.int .i64 0,.int .i64 0,.int .i64 0,.int .i64 0,.float .f64 0] 147 (0,0)) (fun G bl=>
 (c bl)∧
 Calls Tryz.prog 111 #[.pointer o,.slice d.a d.len d.cap] bl fun bu bm=>
 ∃ af:Int,∃ ag:Int,∃ ah:Int,∃ ai:Int,∃ Q:Nat,∃ T:Bool,(bu=.returned (.tuple #[.agg #[.int .i64 af,.int .i64 ag,.int .i64 ah,.int .i64 ai,.float .f64 Q],.bool T]))∧
 (c bm)∧
 ∃ a7:World,((Instr.storeAt 147 (.pointer ((some ⟨G,0,none⟩))) (.agg #[.int .i64 af,.int .i64 ag,.int .i64 ah,.int .i64 ai,.float .f64 Q])).run Tryz.prog bm=.ok () a7)∧
 l ((some ⟨G,0,none⟩)) T a7) x)∧
 New (.cells #[.int .i64 0,.int .i64 0,.int .i64 0,.int .i64 0,.float .f64 0] 147 (0,0)) (fun H a8=>
 (c a8)∧
 Calls Tryz.prog 77 #[.pointer s] a8 fun bv a9=>
 ∃ g:Sl,(bv=.returned (.slice g.a g.len g.cap))∧
 (c a9)∧
 Calls Tryz.prog 111 #[.pointer o,.slice g.a g.len g.cap] a9 fun bw ba=>
 ∃ U:Int,∃ V:Int,∃ X:Int,∃ Y:Int,∃ Z:Nat,∃ aa:Bool,(bw=.returned (.tuple #[.agg #[.int .i64 U,.int .i64 V,.int .i64 X,.int .i64 Y,.float .f64 Z],.bool aa]))∧
 (c ba)∧
 ∃ bb:World,((Instr.storeAt 147 (.pointer ((some ⟨H,0,none⟩))) (.agg #[.int .i64 U,.int .i64 V,.int .i64 X,.int .i64 Y,.float .f64 Z])).run Tryz.prog ba=.ok () bb)∧
 l ((some ⟨H,0,none⟩)) aa bb) bh)∧
 ∀ (ca:Env) (a6:Option Addr) (I:Bool) (bc:World),l a6 I bc→
 ∃ (p:Option Addr→Bool→World→Prop) (bn:Option Addr→Bool→World→Nat),(p a6 I bc)∧∀ (cb:Env) (e:Option Addr) (r:Bool) (j:World),p e r j→
 Br r
 (∃ aq:Option Addr,(At (fun b=>b=j) ⟨f,0 + 1,none⟩ [.pointer aq])∧
 NilP e fun bo=>
 ∃ ar:Int,(At (fun b=>b=j) (Addr.add bo 0) [.int .i64 ar])∧
 Calls Tryz.prog 85 #[.pointer aq,.int .i64 ar] j fun bx k=>
 ∃ b3:Int,(bx=.returned (.int .i64 b3))∧
 ∃ au:Option Addr,(At (fun b=>b=k) ⟨f,0,none⟩ [.pointer au])∧
 NilP e fun bp=>
 ∃ av:Int,(At (fun b=>b=k) (Addr.add bp 0) [.int .i64 av])∧
 NilP e fun y=>
 ∃ aw:Int,(At (fun b=>b=k) ⟨y.block,y.off + 1,none⟩ [.int .i64 aw])∧
 NilP e fun z=>
 ∃ ax:Int,(At (fun b=>b=k) ⟨z.block,z.off + 2,none⟩ [.int .i64 ax])∧
 Calls Tryz.prog 79 #[.pointer au,.int .i64 av,.int .i64 aw,.int .i64 ax] k fun bz b6=>
 ∃ b4:Int,(bz=.returned (.int .i64 b4))∧
 Drw b6 fun q b7=>
 NilP E fun A=>
 ∃ ay:Option Nat,(At q ⟨A.block,A.off + 3,none⟩ [.map ay])∧
 NilP e fun bq=>
 ∃ az:Int,(At q (Addr.add bq 0) [.int .i64 az])∧
 ∃ a0:Option Addr,(∀ b,q b→((Instr.lookup 88 (.map ay) (.int .i64 az) false)).run Tryz.prog b=.ok (.pointer a0) b)∧
 NilP a0 fun C=>
 ∃ u:World,((Instr.storeAt 3 (.pointer ((some ⟨C.block,C.off + 4,none⟩))) (.int .i64 2)).run Tryz.prog b7=.ok () u)∧
 NilP e fun br=>
 ∃ a1:Int,∃ a2:Int,∃ a3:Int,∃ a4:Int,∃ a5:Nat,(At (fun b=>b=u) br [.int .i64 a1,.int .i64 a2,.int .i64 a3,.int .i64 a4,.float .f64 a5])∧
 New (.cells #[.int .i64 0,.int .i64 0,.int .i64 0,.int .i64 0,.float .f64 0] 147 (0,0)) (fun n b8=>
 ∃ be:World,((Instr.storeAt 147 (.pointer ((some ⟨n,0,none⟩))) (.agg #[.int .i64 a1,.int .i64 a2,.int .i64 a3,.int .i64 a4,.float .f64 a5])).run Tryz.prog b8=.ok () be)∧
 Drw be fun m b9=>
 ∃ aj:Option Addr,(At m ⟨f,0 + 1,none⟩ [.pointer aj])∧
 ∃ ak:Option Addr,(At m ⟨f,0,none⟩ [.pointer ak])∧
 Calls Tryz.prog 77 #[.pointer ak] b9 fun b0 bf=>
 ∃ i:Sl,(b0=.returned (.slice i.a i.len i.cap))∧
 (m bf)∧
 Calls Tryz.prog 111 #[.pointer aj,.slice i.a i.len i.cap] bf fun b1 bg=>
 ∃ al:Int,∃ am:Int,∃ an:Int,∃ ao:Int,∃ ap:Nat,∃ t:Bool,(b1=.returned (.tuple #[.agg #[.int .i64 al,.int .i64 am,.int .i64 an,.int .i64 ao,.float .f64 ap],.bool t]))∧
 (m bg)∧
 ∃ v:World,((Instr.storeAt 147 (.pointer ((some ⟨n,0,none⟩))) (.agg #[.int .i64 al,.int .i64 am,.int .i64 an,.int .i64 ao,.float .f64 ap])).run Tryz.prog bg=.ok () v)∧
 (p ((some ⟨n,0,none⟩)) t v)∧bn ((some ⟨n,0,none⟩)) t v<bn e r j) u)
 (K (.tuple #[]) j)) w
def sk81:Sk:=(.seq .leaf (.cut [5,6] [.ptr,.bool] [5,6,13,14,15,16,17,18,19,20,21] .leaf (.block (.loop [5,6] [.ptr,.bool] [5,6,22,23,24,25,26,27,28,29,30,31,32,33,34,35,36,37,38,39,40,41,42,43,44,45,46,47,48,49,50,51,52,53,54,55] .leaf))))
theorem call81 (a:Option Addr) (b:Int) (K:Value→World→Prop) (w:World) (h:B81 a b K w):Gets Tryz.prog 81 #[.pointer a,.int .i64 b] w K:=cq (sk:=sk81) Tryz.func81 (by kernel_rfl) (by kernel_rfl) (by kernel_rfl) h
def B82 (ac:Option Addr) (c:Option Addr) (K:Value→World→Prop) (w:World):Prop:=
 New (.cells #[.int .i64 0,.string (ByteArray.mk #[]),.int .i64 0,.int .i64 0,.int .i64 0,.int .i64 0,.int .i64 0,.slice none 0 0,.slice none 0 0] 102 (0,0)) (fun u ah=>
 Drw ah fun j ai=>
 NilP ac fun t=>
 ∃ v:Option Nat,(At j ⟨t.block,t.off + 2,none⟩ [.map v])∧
 NilP c fun n=>
 ∃ x:Int,(At j ⟨n.block,n.off + 1,none⟩ [.int .i64 x])∧
 ∃ y:Option Addr,∃ z:Option Addr,(∀ d,j d→((Instr.lookup 87 (.map v) (.int .i64 x) false)).run Tryz.prog d=.ok (.agg #[.pointer y,.pointer z]) d)∧
 New (.cells #[.pointer none,.pointer none] 119 (0,0)) (fun k X=>
 (j X)∧
 ∃ l:World,((Instr.storeAt 119 (.pointer ((some ⟨k,0,none⟩))) (.agg #[.pointer y,.pointer z])).run Tryz.prog X=.ok () l)∧
 NilP c fun aa=>
 ∃ A:Int,(At (fun d=>d=l) (Addr.add aa 0) [.int .i64 A])∧
 Calls Tryz.prog 112 #[.int .i64 A] l fun ad aj=>
 ∃ C:ByteArray,∃ ag:Int,(ad=.returned (.tuple #[.string C,.int .i64 ag]))∧
 Drw aj fun b ak=>
 NilP c fun o=>
 ∃ D:Int,(At b ⟨o.block,o.off + 4,none⟩ [.int .i64 D])∧
 NilP c fun p=>
 ∃ E:Int,(At b ⟨p.block,p.off + 1,none⟩ [.int .i64 E])∧
 NilP c fun q=>
 ∃ F:Int,(At b ⟨q.block,q.off + 2,none⟩ [.int .i64 F])∧
 NilP c fun r=>
 ∃ G:Int,(At b ⟨r.block,r.off + 3,none⟩ [.int .i64 G])∧
 NilP c fun s=>
 ∃ H:Int,(At b ⟨s.block,s.off + 5,none⟩ [.int .i64 H])∧
 ∃ I:Option Addr,(At b ⟨k,0,none⟩ [.pointer I])∧
 ∃ J:Option Addr,(At b ⟨k,0,none⟩ [.pointer J])∧
 NilP c fun ab=>
 ∃ L:Int,(At b (Addr.add ab 0) [.int .i64 L])∧
 Calls Tryz.prog 77 #[.pointer I] ak fun ae Y=>
 ∃ e:Sl,(ae=.returned (.slice e.a e.len e.cap))∧
 (b Y)∧
 Calls Tryz.prog 113 #[.pointer J,.int .i64 L] Y fun af Z=>
 ∃ f:Sl,(af=.returned (.slice f.a f.len f.cap))∧
 (b Z)∧
 ∃ m:World,((Instr.storeAt 102 (.pointer ((some ⟨u,0,none⟩))) (.agg #[.int .i64 0,.string C,.int .i64 D,.int .i64 E,.int .i64 F,.int .i64 G,.int .i64 H,.slice e.a e.len e.cap,.slice f.a f.len f.cap])).run Tryz.prog Z=.ok () m)∧
 ∃ M:Int,∃ N:ByteArray,∃ O:Int,∃ Q:Int,∃ T:Int,∃ U:Int,∃ V:Int,∃ g:Sl,∃ i:Sl,(At (fun d=>d=m) ⟨u,0,none⟩ [.int .i64 M,.string N,.int .i64 O,.int .i64 Q,.int .i64 T,.int .i64 U,.int .i64 V,.slice g.a g.len g.cap,.slice i.a i.len i.cap])∧
 K (.agg #[.int .i64 M,.string N,.int .i64 O,.int .i64 Q,.int .i64 T,.int .i64 U,.int .i64 V,.slice g.a g.len g.cap,.slice i.a i.len i.cap]) m) ai) w
theorem call82 (a:Option Addr) (b:Option Addr) (K:Value→World→Prop) (w:World) (h:B82 a b K w):Gets Tryz.prog 82 #[.pointer a,.pointer b] w K:=cq (sk:=.leaf) Tryz.func82 (by kernel_rfl) (by kernel_rfl) (by kernel_rfl) h
def B47 (o:Option Addr) (aw:Int) (ax:ByteArray) (ay:Int) (az:Int) (a0:Int) (a1:Int) (a2:Nat) (a3:ByteArray) (a4:Int) (q:Sl) (p:Sl) (c:List PanicEntry→World→Prop) (K:Value→World→Prop) (w:World):Prop:=
 New (.cells #[.int .i64 aw,.string ax,.int .i64 ay,.int .i64 az,.int .i64 a0,.int .i64 a1,.float .f64 a2,.string a3,.int .i64 a4,.slice q.a q.len q.cap,.slice p.a p.len p.cap] 96 (0,0)) (fun d a5=>
 New (.cells #[.int .i64 0,.string (ByteArray.mk #[]),.int .i64 0,.int .i64 0,.int .i64 0,.int .i64 0,.int .i64 0,.slice none 0 0,.slice none 0 0] 102 (0,0)) (fun A a8=>
 Drw a8 fun l a9=>
 NilP o fun x=>
 ∃ Q:Option Nat,(At l ⟨x.block,x.off + 2,none⟩ [.map Q])∧
 ∃ T:Int,(At l ⟨d,0 + 2,none⟩ [.int .i64 T])∧
 ∃ U:Option Addr,∃ V:Option Addr,∃ X:Bool,(∀ b,l b→((Instr.lookup 87 (.map Q) (.int .i64 T) true)).run Tryz.prog b=.ok (.tuple #[.agg #[.pointer U,.pointer V],.bool X]) b)∧
 New (.cells #[.pointer none,.pointer none] 119 (0,0)) (fun av ap=>
 (l ap)∧
 ∃ aq:World,((Instr.storeAt 119 (.pointer ((some ⟨av,0,none⟩))) (.agg #[.pointer U,.pointer V])).run Tryz.prog ap=.ok () aq)∧
 Calls Tryz.prog 45 #[.bool (!X),.int .i64 7] aq fun I m=>
 ((I=.returned (.tuple #[]))∧
 NilP o fun y=>
 ∃ Y:Option Nat,(At (fun b=>b=m) ⟨y.block,y.off + 2,none⟩ [.map Y])∧
 ∃ Z:Int,(∀ b,(fun b=>b=m) b→((Builtin.len_ #[87] 3 #[.map Y])).run Tryz.prog b=.ok (.int .i64 Z) b)∧
 Calls Tryz.prog 45 #[.bool (decide (Z<8)),.int .i64 3] m fun J k=>
 ((J=.returned (.tuple #[]))∧
 ∃ aa:Int,(At (fun b=>b=k) ⟨d,0 + 2,none⟩ [.int .i64 aa])∧
 ∃ ab:Int,∃ e:Sl,(At (fun b=>b=k) ⟨d,0 + 8,none⟩ [.int .i64 ab,.slice e.a e.len e.cap])∧
 ∃ f:Sl,(At (fun b=>b=k) ⟨d,0 + 10,none⟩ [.slice f.a f.len f.cap])∧
 Calls Tryz.prog 74 #[.int .i64 aa,.agg #[.int .i64 ab,.slice e.a e.len e.cap],.slice f.a f.len f.cap] k fun L ar=>
 (∃ r:Option Addr,∃ ac:Int,(L=.returned (.tuple #[.pointer r,.int .i64 ac]))∧
 Calls Tryz.prog 75 #[.int .i64 ac] ar fun M au=>
 ((M=.returned (.tuple #[]))∧
 Drw au fun n a6=>
 NilP o fun z=>
 ∃ ad:Option Nat,(At n ⟨z.block,z.off + 2,none⟩ [.map ad])∧
 ∃ ae:Int,(At n ⟨d,0 + 2,none⟩ [.int .i64 ae])∧
 Calls Tryz.prog 76 #[] a6 fun N s=>
 (∃ af:Option Addr,(N=.returned (.pointer af))∧
 (n s)∧
 ∃ ao:World,((Instr.mapUpdate 87 (.map ad) (.int .i64 ae) (.agg #[.pointer r,.pointer af])).run Tryz.prog s=.ok () ao)∧
 Drw ao fun v a7=>
 ∃ ag:Int,(At v ⟨d,0 + 2,none⟩ [.int .i64 ag])∧
 Calls Tryz.prog 77 #[.pointer r] a7 fun O t=>
 (∃ g:Sl,(O=.returned (.slice g.a g.len g.cap))∧
 (v t)∧
 ∃ u:World,((Instr.storeAt 102 (.pointer ((some ⟨A,0,none⟩))) (.agg #[.int .i64 0,.string (ByteArray.mk #[]),.int .i64 0,.int .i64 ag,.int .i64 0,.int .i64 0,.int .i64 0,.slice g.a g.len g.cap,.slice none 0 0])).run Tryz.prog t=.ok () u)∧
 ∃ ah:Int,∃ ai:ByteArray,∃ aj:Int,∃ ak:Int,∃ al:Int,∃ am:Int,∃ an:Int,∃ i:Sl,∃ j:Sl,(At (fun b=>b=u) ⟨A,0,none⟩ [.int .i64 ah,.string ai,.int .i64 aj,.int .i64 ak,.int .i64 al,.int .i64 am,.int .i64 an,.slice i.a i.len i.cap,.slice j.a j.len j.cap])∧
 K (.agg #[.int .i64 ah,.string ai,.int .i64 aj,.int .i64 ak,.int .i64 al,.int .i64 am,.int .i64 an,.slice i.a i.len i.cap,.slice j.a j.len j.cap]) u)∨
 (∃ H:List PanicEntry,(O=.panicked H)∧c H t))∨
 (∃ G:List PanicEntry,(N=.panicked G)∧c G s))∨
 (∃ F:List PanicEntry,(M=.panicked F)∧c F au))∨
 (∃ E:List PanicEntry,(L=.panicked E)∧c E ar))∨
 (∃ D:List PanicEntry,(J=.panicked D)∧c D k))∨
 (∃ C:List PanicEntry,(I=.panicked C)∧c C m)) a9) a5) w
theorem call47 (e:Option Addr) (f:Int) (g:ByteArray) (i:Int) (j:Int) (k:Int) (l:Int) (m:Nat) (n:ByteArray) (o:Int) (c:Sl) (b:Sl) (d:List PanicEntry→World→Prop) (K:Value→World→Prop) (w:World) (h:B47 e f g i j k l m n o c b d K w):GetsX Tryz.prog 47 #[.pointer e,.agg #[.int .i64 f,.string g,.int .i64 i,.int .i64 j,.int .i64 k,.int .i64 l,.float .f64 m,.string n,.int .i64 o,.slice c.a c.len c.cap,.slice b.a b.len b.cap]] w d K:=cqx (sk:=.leaf) Tryz.func47 (by kernel_rfl) (by kernel_rfl) (by kernel_rfl) h
def B48 (d:Option Addr) (da:Int) (db:ByteArray) (dc:Int) (dd:Int) (de:Int) (df:Int) (dg:Nat) (dh:ByteArray) (di:Int) (H:Sl) (G:Sl) (c:List PanicEntry→World→Prop) (K:Value→World→Prop) (w:World):Prop:=
 New (.cells #[.int .i64 da,.string db,.int .i64 dc,.int .i64 dd,.int .i64 de,.int .i64 df,.float .f64 dg,.string dh,.int .i64 di,.slice H.a H.len H.cap,.slice G.a G.len G.cap] 96 (0,0)) (fun e dj=>
 New (.cells #[.int .i64 0,.string (ByteArray.mk #[]),.int .i64 0,.int .i64 0,.int .i64 0,.int .i64 0,.int .i64 0,.slice none 0 0,.slice none 0 0] 102 (0,0)) (fun x c0=>
 ∃ cf:Int,(At (fun b=>b=c0) ⟨e,0 + 2,none⟩ [.int .i64 cf])∧
 Calls Tryz.prog 78 #[.pointer d,.int .i64 cf] c0 fun aq c4=>
 (∃ a5:Option Addr,∃ ba:Option Addr,(aq=.returned (.agg #[.pointer a5,.pointer ba]))∧
 New (.cells #[.pointer none,.pointer none] 119 (0,0)) (fun v dp=>
 ∃ c7:World,((Instr.storeAt 119 (.pointer ((some ⟨v,0,none⟩))) (.agg #[.pointer a5,.pointer ba])).run Tryz.prog dp=.ok () c7)∧
 Drw c7 fun i dq=>
 NilP d fun Z=>
 ∃ bt:Int,(At i ⟨Z.block,Z.off + 1,none⟩ [.int .i64 bt])∧
 ∃ bu:Int,(At i ⟨e,0 + 2,none⟩ [.int .i64 bu])∧
 ∃ bv:Int,(At i ⟨e,0 + 3,none⟩ [.int .i64 bv])∧
 ∃ bw:Int,(At i ⟨e,0 + 4,none⟩ [.int .i64 bw])∧
 ∃ bx:Int,(At i ⟨e,0 + 5,none⟩ [.int .i64 bx])∧
 New (.cells #[.int .i64 bt,.int .i64 bu,.int .i64 bv,.int .i64 bw,.int .i64 1,.int .i64 bx] 123 (0,0)) (fun f A=>
 (i A)∧
 ∃ (C:World→Prop),(∃ bz:Int,(At (fun b=>b=A) ⟨e,0,none⟩ [.int .i64 bz])∧
 Br (bz==2)
 (Drw A fun F dr=>
 ∃ b0:Int,(At F ⟨e,0 + 5,none⟩ [.int .i64 b0])∧
 NilP d fun c8=>
 ∃ b1:Int,(At F (Addr.add c8 0) [.int .i64 b1])∧
 Calls Tryz.prog 45 #[.bool (decide (b0>b1)),.int .i64 1] dr fun ar U=>
 ((ar=.returned (.tuple #[]))∧
 (F U)∧
 C  U)∨
 (∃ ae:List PanicEntry,(ar=.panicked ae)∧c ae U))
 (Drw A fun u dk=>
 ∃ b2:Int,(At u ⟨e,0 + 3,none⟩ [.int .i64 b2])∧
 ∃ b3:Option Addr,(At u ⟨v,0,none⟩ [.pointer b3])∧
 Calls Tryz.prog 77 #[.pointer b3] dk fun ax I=>
 (∃ y:Sl,(ax=.returned (.slice y.a y.len y.cap))∧
 (u I)∧
 Calls Tryz.prog 45 #[.bool (decide (b2<(↑y.len:Int))),.int .i64 1] I fun ay J=>
 ((ay=.returned (.tuple #[]))∧
 (u J)∧
 ∃ cw:World,((Instr.storeAt 3 (.pointer ((some ⟨f,0 + 4,none⟩))) (.int .i64 3)).run Tryz.prog J=.ok () cw)∧
 ∃ cx:World,((Instr.storeAt 3 (.pointer ((some ⟨f,0 + 5,none⟩))) (.int .i64 0)).run Tryz.prog cw=.ok () cx)∧
 C  cx)∨
 (∃ aj:List PanicEntry,(ay=.panicked aj)∧c aj J))∨
 (∃ ai:List PanicEntry,(ax=.panicked ai)∧c ai I)))∧
 ∀ (ds:Env)  (r:World),C  r→
 ∃ (D:World→Prop),(NilP d fun ab=>
 ∃ b4:Option Nat,(At (fun b=>b=r) ⟨ab.block,ab.off + 3,none⟩ [.map b4])∧
 ∃ b5:Int,(∀ b,(fun b=>b=r) b→((Builtin.len_ #[88] 3 #[.map b4])).run Tryz.prog b=.ok (.int .i64 b5) b)∧
 Br (decide (b5<300))
 (NilP d fun ac=>
 ∃ b6:Int,(At (fun b=>b=r) ⟨ac.block,ac.off + 1,none⟩ [.int .i64 b6])∧
 Calls Tryz.prog 45 #[.bool (decide (b6<28629151)),.int .i64 3] r fun az cy=>
 ((az=.returned (.tuple #[]))∧
 D  cy)∨
 (∃ ak:List PanicEntry,(az=.panicked ak)∧c ak cy))
 (Calls Tryz.prog 45 #[.bool false,.int .i64 3] r fun a0 cz=>
 ((a0=.returned (.tuple #[]))∧
 D  cz)∨
 (∃ al:List PanicEntry,(a0=.panicked al)∧c al cz)))∧
 ∀ (dt:Env)  (z:World),D  z→
 ∃ (E:World→Prop),(∃ b7:Int,(At (fun b=>b=z) ⟨e,0,none⟩ [.int .i64 b7])∧
 Br (b7==2)
 (Drw z fun s dl=>
 ∃ b8:Option Addr,(At s ⟨v,0,none⟩ [.pointer b8])∧
 ∃ b9:Int,(At s ⟨f,0,none⟩ [.int .i64 b9])∧
 ∃ ca:Int,(At s ⟨f,0 + 2,none⟩ [.int .i64 ca])∧
 ∃ cb:Int,(At s ⟨f,0 + 3,none⟩ [.int .i64 cb])∧
 Calls Tryz.prog 79 #[.pointer b8,.int .i64 b9,.int .i64 ca,.int .i64 cb] dl fun a1 c1=>
 (∃ cc:Int,(a1=.returned (.int .i64 cc))∧
 Calls Tryz.prog 75 #[.int .i64 cc] c1 fun a2 L=>
 ((a2=.returned (.tuple #[]))∧
 (s L)∧
 E  L)∨
 (∃ an:List PanicEntry,(a2=.panicked an)∧c an L))∨
 (∃ am:List PanicEntry,(a1=.panicked am)∧c am c1))
 (Drw z fun g dm=>
 ∃ cd:Option Addr,(At g ⟨v,0 + 1,none⟩ [.pointer cd])∧
 ∃ ce:Int,(At g ⟨f,0,none⟩ [.int .i64 ce])∧
 ∃ cg:Int,(At g ⟨f,0 + 2,none⟩ [.int .i64 cg])∧
 ∃ ch:Int,(At g ⟨f,0 + 3,none⟩ [.int .i64 ch])∧
 NilP d fun c9=>
 ∃ a6:Int,(At g (Addr.add c9 0) [.int .i64 a6])∧
 ∃ a7:Nat,(At g ⟨e,0 + 6,none⟩ [.float .f64 a7])∧
 Calls Tryz.prog 80 #[.pointer cd,.agg #[.int .i64 ce,.int .i64 cg,.int .i64 ch,.int .i64 a6,.float .f64 a7]] dm fun a3 M=>
 (∃ a8:Int,(a3=.returned (.int .i64 a8))∧
 (g M)∧
 Calls Tryz.prog 75 #[.int .i64 a8] M fun a4 N=>
 ((a4=.returned (.tuple #[]))∧
 (g N)∧
 E  N)∨
 (∃ ap:List PanicEntry,(a4=.panicked ap)∧c ap N))∨
 (∃ ao:List PanicEntry,(a3=.panicked ao)∧c ao M)))∧
 ∀ (du:Env)  (c2:World),E  c2→
 Drw c2 fun V dn=>
 NilP d fun X=>
 ∃ a9:Option Nat,(At V ⟨X.block,X.off + 3,none⟩ [.map a9])∧
 ∃ bb:Int,(At V ⟨f,0,none⟩ [.int .i64 bb])∧
 ∃ O:World,((Instr.mapUpdate 88 (.map a9) (.int .i64 bb) (.pointer ((some ⟨f,0,none⟩)))).run Tryz.prog dn=.ok () O)∧
 NilP d fun Y=>
 ∃ bc:Int,(At (fun b=>b=O) ⟨Y.block,Y.off + 1,none⟩ [.int .i64 bc])∧
 NilP d fun aa=>
 ∃ t:World,((Instr.storeAt 3 (.pointer ((some ⟨aa.block,aa.off + 1,none⟩))) (.int .i64 (IntKind.i64.wrap (bc + 1)))).run Tryz.prog O=.ok () t)∧
 ∃ bd:Int,(At (fun b=>b=t) ⟨e,0,none⟩ [.int .i64 bd])∧
 Br (bd==7)
 (∃ be:Int,(At (fun b=>b=t) ⟨e,0 + 2,none⟩ [.int .i64 be])∧
 Calls Tryz.prog 81 #[.pointer d,.int .i64 be] t fun au c3=>
 ((au=.returned (.tuple #[]))∧
 Calls Tryz.prog 82 #[.pointer d,.pointer ((some ⟨f,0,none⟩))] c3 fun av c5=>
 (∃ bf:Int,∃ bg:ByteArray,∃ bn:Int,∃ bo:Int,∃ bp:Int,∃ bq:Int,∃ br:Int,∃ l:Sl,∃ m:Sl,(av=.returned (.agg #[.int .i64 bf,.string bg,.int .i64 bn,.int .i64 bo,.int .i64 bp,.int .i64 bq,.int .i64 br,.slice l.a l.len l.cap,.slice m.a m.len m.cap]))∧
 ∃ Q:World,((Instr.storeAt 102 (.pointer ((some ⟨x,0,none⟩))) (.agg #[.int .i64 bf,.string bg,.int .i64 bn,.int .i64 bo,.int .i64 bp,.int .i64 bq,.int .i64 br,.slice l.a l.len l.cap,.slice m.a m.len m.cap])).run Tryz.prog c5=.ok () Q)∧
 ∃ ci:Int,∃ cj:ByteArray,∃ cq:Int,∃ cr:Int,∃ cs:Int,∃ ct:Int,∃ cu:Int,∃ p:Sl,∃ q:Sl,(At (fun b=>b=Q) ⟨x,0,none⟩ [.int .i64 ci,.string cj,.int .i64 cq,.int .i64 cr,.int .i64 cs,.int .i64 ct,.int .i64 cu,.slice p.a p.len p.cap,.slice q.a q.len q.cap])∧
 K (.agg #[.int .i64 ci,.string cj,.int .i64 cq,.int .i64 cr,.int .i64 cs,.int .i64 ct,.int .i64 cu,.slice p.a p.len p.cap,.slice q.a q.len q.cap]) Q)∨
 (∃ ag:List PanicEntry,(av=.panicked ag)∧c ag c5))∨
 (∃ af:List PanicEntry,(au=.panicked af)∧c af c3))
 (Calls Tryz.prog 82 #[.pointer d,.pointer ((some ⟨f,0,none⟩))] t fun aw c6=>
 (∃ bs:Int,∃ bh:ByteArray,∃ bi:Int,∃ bj:Int,∃ bk:Int,∃ bl:Int,∃ bm:Int,∃ j:Sl,∃ k:Sl,(aw=.returned (.agg #[.int .i64 bs,.string bh,.int .i64 bi,.int .i64 bj,.int .i64 bk,.int .i64 bl,.int .i64 bm,.slice j.a j.len j.cap,.slice k.a k.len k.cap]))∧
 ∃ T:World,((Instr.storeAt 102 (.pointer ((some ⟨x,0,none⟩))) (.agg #[.int .i64 bs,.string bh,.int .i64 bi,.int .i64 bj,.int .i64 bk,.int .i64 bl,.int .i64 bm,.slice j.a j.len j.cap,.slice k.a k.len k.cap])).run Tryz.prog c6=.ok () T)∧
 ∃ cv:Int,∃ ck:ByteArray,∃ cl:Int,∃ cm:Int,∃ cn:Int,∃ co:Int,∃ cp:Int,∃ n:Sl,∃ o:Sl,(At (fun b=>b=T) ⟨x,0,none⟩ [.int .i64 cv,.string ck,.int .i64 cl,.int .i64 cm,.int .i64 cn,.int .i64 co,.int .i64 cp,.slice n.a n.len n.cap,.slice o.a o.len o.cap])∧
 K (.agg #[.int .i64 cv,.string ck,.int .i64 cl,.int .i64 cm,.int .i64 cn,.int .i64 co,.int .i64 cp,.slice n.a n.len n.cap,.slice o.a o.len o.cap]) T)∨
 (∃ ah:List PanicEntry,(aw=.panicked ah)∧c ah c6))) dq) c4)∨
 (∃ ad:List PanicEntry,(aq=.panicked ad)∧c ad c4)) dj) w
def sk48:Sk:=(.seq .leaf (.seq .leaf (.seq .leaf (.cut [] [] [25,26,27,28,29,30,31,32,33,34,35,36,37,38,39,40,41,42,43,44,45,46,47,48,49] .leaf (.cut [] [] [50,51,52,53,54,55,56,57,58,59,60,61,62,63] .leaf (.cut [] [] [64,65,66,67,68,69,70,71,72,73,74,75,76,77,78,79,80,81,82,83,84,85,86,87,88,89,90,91,92,93,94,95,96,97,98,99,100,101,102,103,104,105] .leaf .leaf))))))
theorem call48 (e:Option Addr) (f:Int) (g:ByteArray) (i:Int) (j:Int) (k:Int) (l:Int) (m:Nat) (n:ByteArray) (o:Int) (c:Sl) (b:Sl) (d:List PanicEntry→World→Prop) (K:Value→World→Prop) (w:World) (h:B48 e f g i j k l m n o c b d K w):GetsX Tryz.prog 48 #[.pointer e,.agg #[.int .i64 f,.string g,.int .i64 i,.int .i64 j,.int .i64 k,.int .i64 l,.float .f64 m,.string n,.int .i64 o,.slice c.a c.len c.cap,.slice b.a b.len b.cap]] w d K:=cqx (sk:=sk48) Tryz.func48 (by kernel_rfl) (by kernel_rfl) (by kernel_rfl) h
def B49 (c:Option Addr) (bn:Int) (bo:ByteArray) (bp:Int) (bq:Int) (br:Int) (bs:Int) (bt:Nat) (bu:ByteArray) (bv:Int) (C:Sl) (A:Sl) (f:List PanicEntry→World→Prop) (K:Value→World→Prop) (w:World):Prop:=
 New (.cells #[.int .i64 bn,.string bo,.int .i64 bp,.int .i64 bq,.int .i64 br,.int .i64 bs,.float .f64 bt,.string bu,.int .i64 bv,.slice C.a C.len C.cap,.slice A.a A.len A.cap] 96 (0,0)) (fun T bz=>
 New (.cells #[.int .i64 0,.string (ByteArray.mk #[]),.int .i64 0,.int .i64 0,.int .i64 0,.int .i64 0,.int .i64 0,.slice none 0 0,.slice none 0 0] 102 (0,0)) (fun U b1=>
 Drw b1 fun y b2=>
 ∃ ak:Int,(At y ⟨T,0 + 5,none⟩ [.int .i64 ak])∧
 NilP c fun bh=>
 ∃ al:Int,(At y (Addr.add bh 0) [.int .i64 al])∧
 Calls Tryz.prog 45 #[.bool (decide (ak ≥ al)),.int .i64 7] b2 fun ad t=>
 ((ad=.returned (.tuple #[]))∧
 (y t)∧
 ∃ am:Int,(At (fun b=>b=t) ⟨T,0 + 5,none⟩ [.int .i64 am])∧
 NilP c fun bi=>
 ∃ G:World,((Instr.storeAt 3 (.pointer ((some (Addr.add bi 0)))) (.int .i64 am)).run Tryz.prog t=.ok () G)∧
 NilP c fun H=>
 ∃ an:Option Nat,(At (fun b=>b=G) ⟨H.block,H.off + 3,none⟩ [.map an])∧
 Calls Tryz.prog 61 #[.map an] G fun ae bd=>
 (∃ ao:Value,(ae=.returned (ao))∧
 Calls Tryz.prog 30 #[ao] bd fun af be=>
 (∃ i:Sl,(af=.returned (.slice i.a i.len i.cap))∧
 ∃ (n:Int→World→Prop) (u:Int→World→Nat),(n 0 be)∧∀ (b3:Env) (d:Int) (e:World),n d e→
 Br (decide (d<(↑i.len:Int)))
 (Rng d i.len (NilP i.a fun bj=>
 ∃ p:Int,(At (fun b=>b=e) (Addr.add bj d.toNat) [.int .i64 p])∧
 NilP c fun I=>
 ∃ ap:Option Nat,(At (fun b=>b=e) ⟨I.block,I.off + 3,none⟩ [.map ap])∧
 ∃ q:Option Addr,(∀ b,(fun b=>b=e) b→((Instr.lookup 88 (.map ap) (.int .i64 p) false)).run Tryz.prog b=.ok (.pointer q) b)∧
 ∃ (x:Bool→World→Prop),(Drw e fun z bf=>
 NilP q fun J=>
 ∃ aq:Int,(At z ⟨J.block,J.off + 4,none⟩ [.int .i64 aq])∧
 Br (aq==1)
 (NilP q fun L=>
 ∃ ar:Int,(At z ⟨L.block,L.off + 5,none⟩ [.int .i64 ar])∧
 NilP c fun bk=>
 ∃ au:Int,(At z (Addr.add bk 0) [.int .i64 au])∧
 x (decide (ar≤au)) bf)
 (x false bf))∧
 ∀ (b4:Env) (av:Bool) (r:World),x av r→
 Br av
 (Drw r fun o b0=>
 NilP c fun M=>
 ∃ aw:Option Nat,(At o ⟨M.block,M.off + 2,none⟩ [.map aw])∧
 NilP q fun N=>
 ∃ ax:Int,(At o ⟨N.block,N.off + 1,none⟩ [.int .i64 ax])∧
 ∃ ay:Option Addr,∃ bw:Option Addr,(∀ b,o b→((Instr.lookup 87 (.map aw) (.int .i64 ax) false)).run Tryz.prog b=.ok (.agg #[.pointer ay,.pointer bw]) b)∧
 Calls Tryz.prog 83 #[.pointer ay,.int .i64 p] b0 fun ag s=>
 (∃ bx:Int,(ag=.returned (.int .i64 bx))∧
 (o s)∧
 NilP c fun O=>
 ∃ az:Option Nat,(At (fun b=>b=s) ⟨O.block,O.off + 3,none⟩ [.map az])∧
 ∃ D:World,((Builtin.delete_ #[88,3] 0 #[.map az,.int .i64 p]).run Tryz.prog s=.ok (.tuple #[]) D)∧
 (n (IntKind.i64.wrap (d + 1)) D)∧u (IntKind.i64.wrap (d + 1)) D<u d e)∨
 (∃ Z:List PanicEntry,(ag=.panicked Z)∧f Z s))
 ((n (IntKind.i64.wrap (d + 1)) r)∧u (IntKind.i64.wrap (d + 1)) r<u d e)))
 (NilP c fun Q=>
 ∃ a0:Option Nat,(At (fun b=>b=e) ⟨Q.block,Q.off + 2,none⟩ [.map a0])∧
 Calls Tryz.prog 57 #[.map a0] e fun ah bb=>
 (∃ a1:Value,(ah=.returned (a1))∧
 Calls Tryz.prog 30 #[a1] bb fun ai bc=>
 (∃ j:Sl,(ai=.returned (.slice j.a j.len j.cap))∧
 ∃ (v:Int→World→Prop) (bg:Int→World→Nat),(v 0 bc)∧∀ (b5:Env) (g:Int) (m:World),v g m→
 Br (decide (g<(↑j.len:Int)))
 (Rng g j.len (NilP j.a fun bl=>
 ∃ a2:Int,(At (fun b=>b=m) (Addr.add bl g.toNat) [.int .i64 a2])∧
 Calls Tryz.prog 81 #[.pointer c,.int .i64 a2] m fun aj E=>
 ((aj=.returned (.tuple #[]))∧
 (v (IntKind.i64.wrap (g + 1)) E)∧bg (IntKind.i64.wrap (g + 1)) E<bg g m)∨
 (∃ ac:List PanicEntry,(aj=.panicked ac)∧f ac E)))
 (NilP c fun bm=>
 ∃ a3:Int,(At (fun b=>b=m) (Addr.add bm 0) [.int .i64 a3])∧
 ∃ F:World,((Instr.storeAt 102 (.pointer ((some ⟨U,0,none⟩))) (.agg #[.int .i64 0,.string (ByteArray.mk #[]),.int .i64 0,.int .i64 0,.int .i64 0,.int .i64 0,.int .i64 a3,.slice none 0 0,.slice none 0 0])).run Tryz.prog m=.ok () F)∧
 ∃ a4:Int,∃ a5:ByteArray,∃ a6:Int,∃ a7:Int,∃ a8:Int,∃ a9:Int,∃ ba:Int,∃ k:Sl,∃ l:Sl,(At (fun b=>b=F) ⟨U,0,none⟩ [.int .i64 a4,.string a5,.int .i64 a6,.int .i64 a7,.int .i64 a8,.int .i64 a9,.int .i64 ba,.slice k.a k.len k.cap,.slice l.a l.len l.cap])∧
 K (.agg #[.int .i64 a4,.string a5,.int .i64 a6,.int .i64 a7,.int .i64 a8,.int .i64 a9,.int .i64 ba,.slice k.a k.len k.cap,.slice l.a l.len l.cap]) F))∨
 (∃ ab:List PanicEntry,(ai=.panicked ab)∧f ab bc))∨
 (∃ aa:List PanicEntry,(ah=.panicked aa)∧f aa bb)))∨
 (∃ Y:List PanicEntry,(af=.panicked Y)∧f Y be))∨
 (∃ X:List PanicEntry,(ae=.panicked X)∧f X bd))∨
 (∃ V:List PanicEntry,(ad=.panicked V)∧f V t)) bz) w
def sk49:Sk:=(.seq .leaf (.seq .leaf (.seq .leaf (.seq (.seq .leaf (.block (.loop [30] [(.int .i64)] [6,7,30,31,32,33,34,35,36,37,38,39,40,41,42,43,44,45,46,47,48,49,50,51,52,53,54,55,56,57,58,59,60,61,62,63,64,65,66,67,68,69,70,71,72,73] (.seq .leaf (.seq .leaf (.seq (.block (.seq .leaf (.seq .leaf (.cut [55] [.bool] [40,41,42,43,44,45,46,47,48,49,50,51,52,53,54,55] .leaf .leaf)))) .leaf)))))) (.seq (.seq .leaf (.block (.loop [81] [(.int .i64)] [9,81,82,83,84,85,86,87,88] .leaf))) .leaf)))))
theorem call49 (e:Option Addr) (f:Int) (g:ByteArray) (i:Int) (j:Int) (k:Int) (l:Int) (m:Nat) (n:ByteArray) (o:Int) (c:Sl) (b:Sl) (d:List PanicEntry→World→Prop) (K:Value→World→Prop) (w:World) (h:B49 e f g i j k l m n o c b d K w):GetsX Tryz.prog 49 #[.pointer e,.agg #[.int .i64 f,.string g,.int .i64 i,.int .i64 j,.int .i64 k,.int .i64 l,.float .f64 m,.string n,.int .i64 o,.slice c.a c.len c.cap,.slice b.a b.len b.cap]] w d K:=cqx (sk:=sk49) Tryz.func49 (by kernel_rfl) (by kernel_rfl) (by kernel_rfl) h
def B51 (g:Option Addr) (c:Option Addr) (ed:Int) (ee:ByteArray) (ef:Int) (eg:Int) (eh:Int) (ei:Int) (ej:Nat) (ek:ByteArray) (el:Int) (L:Sl) (J:Sl) (d:List PanicEntry→World→Prop) (K:Value→World→Prop) (w:World):Prop:=
 New (.cells #[.int .i64 ed,.string ee,.int .i64 ef,.int .i64 eg,.int .i64 eh,.int .i64 ei,.float .f64 ej,.string ek,.int .i64 el,.slice L.a L.len L.cap,.slice J.a J.len J.cap] 96 (0,0)) (fun I eo=>
 New (.cells #[.int .i64 0,.string (ByteArray.mk #[]),.int .i64 0,.int .i64 0,.int .i64 0,.int .i64 0,.int .i64 0,.slice none 0 0,.slice none 0 0] 102 (0,0)) (fun e es=>
 Drw es fun E ev=>
 NilP g fun ad=>
 ∃ ca:Option Nat,(At E ⟨ad.block,ad.off + 2,none⟩ [.map ca])∧
 NilP c fun ae=>
 ∃ cb:Int,(At E ⟨ae.block,ae.off + 1,none⟩ [.int .i64 cb])∧
 ∃ cc:Option Addr,∃ cd:Option Addr,(∀ b,E b→((Instr.lookup 87 (.map ca) (.int .i64 cb) false)).run Tryz.prog b=.ok (.agg #[.pointer cc,.pointer cd]) b)∧
 New (.cells #[.pointer none,.pointer none] 119 (0,0)) (fun C d3=>
 (E d3)∧
 ∃ f:World,((Instr.storeAt 119 (.pointer ((some ⟨C,0,none⟩))) (.agg #[.pointer cc,.pointer cd])).run Tryz.prog d3=.ok () f)∧
 NilP c fun af=>
 ∃ G:Int,(At (fun b=>b=f) ⟨af.block,af.off + 4,none⟩ [.int .i64 G])∧
 ∃ D:Int,(At (fun b=>b=f) ⟨I,0,none⟩ [.int .i64 D])∧
 Br (D==3)
 (NilP c fun ag=>
 ∃ ce:Int,(At (fun b=>b=f) ⟨ag.block,ag.off + 4,none⟩ [.int .i64 ce])∧
 Calls Tryz.prog 45 #[.bool (ce==1),.int .i64 7] f fun a1 d4=>
 ((a1=.returned (.tuple #[]))∧
 NilP c fun ah=>
 ∃ d5:World,((Instr.storeAt 3 (.pointer ((some ⟨ah.block,ah.off + 4,none⟩))) (.int .i64 2)).run Tryz.prog d4=.ok () d5)∧
 NilP c fun ai=>
 ∃ d6:World,((Instr.storeAt 3 (.pointer ((some ⟨ai.block,ai.off + 5,none⟩))) (.int .i64 0)).run Tryz.prog d5=.ok () d6)∧
 Calls Tryz.prog 82 #[.pointer g,.pointer c] d6 fun a2 d7=>
 (∃ bh:Int,∃ bi:ByteArray,∃ br:Int,∃ b1:Int,∃ b6:Int,∃ b7:Int,∃ b8:Int,∃ o:Sl,∃ p:Sl,(a2=.returned (.agg #[.int .i64 bh,.string bi,.int .i64 br,.int .i64 b1,.int .i64 b6,.int .i64 b7,.int .i64 b8,.slice o.a o.len o.cap,.slice p.a p.len p.cap]))∧
 ∃ N:World,((Instr.storeAt 102 (.pointer ((some ⟨e,0,none⟩))) (.agg #[.int .i64 bh,.string bi,.int .i64 br,.int .i64 b1,.int .i64 b6,.int .i64 b7,.int .i64 b8,.slice o.a o.len o.cap,.slice p.a p.len p.cap])).run Tryz.prog d7=.ok () N)∧
 ∃ cs:Int,∃ ct:ByteArray,∃ c2:Int,∃ db:Int,∃ dk:Int,∃ dp:Int,∃ dq:Int,∃ z:Sl,∃ A:Sl,(At (fun b=>b=N) ⟨e,0,none⟩ [.int .i64 cs,.string ct,.int .i64 c2,.int .i64 db,.int .i64 dk,.int .i64 dp,.int .i64 dq,.slice z.a z.len z.cap,.slice A.a A.len A.cap])∧
 K (.agg #[.int .i64 cs,.string ct,.int .i64 c2,.int .i64 db,.int .i64 dk,.int .i64 dp,.int .i64 dq,.slice z.a z.len z.cap,.slice A.a A.len A.cap]) N)∨
 (∃ am:List PanicEntry,(a2=.panicked am)∧d am d7))∨
 (∃ al:List PanicEntry,(a1=.panicked al)∧d al d4))
 (Br (D==4)
 (∃ (H:World→Prop),(Br (G==3)
 (Drw f fun Z ep=>
 ∃ cf:Option Addr,(At Z ⟨C,0 + 1,none⟩ [.pointer cf])∧
 NilP c fun d8=>
 ∃ cg:Int,(At Z (Addr.add d8 0) [.int .i64 cg])∧
 Calls Tryz.prog 85 #[.pointer cf,.int .i64 cg] ep fun a7 ds=>
 (∃ em:Int,(a7=.returned (.int .i64 em))∧
 H  ds)∨
 (∃ ar:List PanicEntry,(a7=.panicked ar)∧d ar ds))
 (Drw f fun aa eq=>
 ∃ ch:Option Addr,(At aa ⟨C,0,none⟩ [.pointer ch])∧
 NilP c fun d9=>
 ∃ ci:Int,(At aa (Addr.add d9 0) [.int .i64 ci])∧
 Calls Tryz.prog 83 #[.pointer ch,.int .i64 ci] eq fun a8 dt=>
 (∃ en:Int,(a8=.returned (.int .i64 en))∧
 H  dt)∨
 (∃ au:List PanicEntry,(a8=.panicked au)∧d au dt)))∧
 ∀ (ew:Env)  (du:World),H  du→
 Drw du fun ab er=>
 NilP g fun aj=>
 ∃ cj:Option Nat,(At ab ⟨aj.block,aj.off + 3,none⟩ [.map cj])∧
 NilP c fun ea=>
 ∃ ck:Int,(At ab (Addr.add ea 0) [.int .i64 ck])∧
 ∃ O:World,((Builtin.delete_ #[88,3] 0 #[.map cj,.int .i64 ck]).run Tryz.prog er=.ok (.tuple #[]) O)∧
 NilP c fun ak=>
 ∃ cl:Int,(At (fun b=>b=O) ⟨ak.block,ak.off + 1,none⟩ [.int .i64 cl])∧
 Calls Tryz.prog 81 #[.pointer g,.int .i64 cl] O fun a9 Q=>
 ((a9=.returned (.tuple #[]))∧
 ∃ cm:ByteArray,(At (fun b=>b=Q) ⟨I,0 + 1,none⟩ [.string cm])∧
 ∃ T:World,((Instr.storeAt 102 (.pointer ((some ⟨e,0,none⟩))) (.agg #[.int .i64 0,.string cm,.int .i64 0,.int .i64 0,.int .i64 0,.int .i64 0,.int .i64 0,.slice none 0 0,.slice none 0 0])).run Tryz.prog Q=.ok () T)∧
 ∃ dr:Int,∃ cu:ByteArray,∃ cv:Int,∃ cw:Int,∃ cx:Int,∃ cy:Int,∃ cz:Int,∃ q:Sl,∃ r:Sl,(At (fun b=>b=T) ⟨e,0,none⟩ [.int .i64 dr,.string cu,.int .i64 cv,.int .i64 cw,.int .i64 cx,.int .i64 cy,.int .i64 cz,.slice q.a q.len q.cap,.slice r.a r.len r.cap])∧
 K (.agg #[.int .i64 dr,.string cu,.int .i64 cv,.int .i64 cw,.int .i64 cx,.int .i64 cy,.int .i64 cz,.slice q.a q.len q.cap,.slice r.a r.len r.cap]) T)∨
 (∃ av:List PanicEntry,(a9=.panicked av)∧d av Q))
 (Br (D==5)
 (Calls Tryz.prog 45 #[.bool (!G==3),.int .i64 7] f fun ba dv=>
 ((ba=.returned (.tuple #[]))∧
 Drw dv fun F et=>
 ∃ cn:Option Addr,(At F ⟨C,0,none⟩ [.pointer cn])∧
 NilP c fun eb=>
 ∃ co:Int,(At F (Addr.add eb 0) [.int .i64 co])∧
 ∃ cp:ByteArray,(At F ⟨I,0 + 7,none⟩ [.string cp])∧
 Calls Tryz.prog 86 #[.pointer cn,.int .i64 co,.string cp] et fun bb dw=>
 (∃ cq:Int,(bb=.returned (.int .i64 cq))∧
 Calls Tryz.prog 75 #[.int .i64 cq] dw fun bc U=>
 ((bc=.returned (.tuple #[]))∧
 (F U)∧
 Calls Tryz.prog 82 #[.pointer g,.pointer c] U fun bd dx=>
 (∃ b9:Int,∃ bj:ByteArray,∃ bk:Int,∃ bl:Int,∃ bm:Int,∃ bn:Int,∃ bo:Int,∃ i:Sl,∃ j:Sl,(bd=.returned (.agg #[.int .i64 b9,.string bj,.int .i64 bk,.int .i64 bl,.int .i64 bm,.int .i64 bn,.int .i64 bo,.slice i.a i.len i.cap,.slice j.a j.len j.cap]))∧
 ∃ V:World,((Instr.storeAt 102 (.pointer ((some ⟨e,0,none⟩))) (.agg #[.int .i64 b9,.string bj,.int .i64 bk,.int .i64 bl,.int .i64 bm,.int .i64 bn,.int .i64 bo,.slice i.a i.len i.cap,.slice j.a j.len j.cap])).run Tryz.prog dx=.ok () V)∧
 ∃ c0:Int,∃ c1:ByteArray,∃ c3:Int,∃ c4:Int,∃ c5:Int,∃ c6:Int,∃ c7:Int,∃ s:Sl,∃ t:Sl,(At (fun b=>b=V) ⟨e,0,none⟩ [.int .i64 c0,.string c1,.int .i64 c3,.int .i64 c4,.int .i64 c5,.int .i64 c6,.int .i64 c7,.slice s.a s.len s.cap,.slice t.a t.len t.cap])∧
 K (.agg #[.int .i64 c0,.string c1,.int .i64 c3,.int .i64 c4,.int .i64 c5,.int .i64 c6,.int .i64 c7,.slice s.a s.len s.cap,.slice t.a t.len t.cap]) V)∨
 (∃ az:List PanicEntry,(bd=.panicked az)∧d az dx))∨
 (∃ ay:List PanicEntry,(bc=.panicked ay)∧d ay U))∨
 (∃ ax:List PanicEntry,(bb=.panicked ax)∧d ax dw))∨
 (∃ aw:List PanicEntry,(ba=.panicked aw)∧d aw dv))
 (Br (D==6)
 (Calls Tryz.prog 45 #[.bool (!G==3),.int .i64 7] f fun be dy=>
 ((be=.returned (.tuple #[]))∧
 Drw dy fun ac eu=>
 ∃ cr:Option Addr,(At ac ⟨C,0,none⟩ [.pointer cr])∧
 NilP c fun ec=>
 ∃ bf:Int,(At ac (Addr.add ec 0) [.int .i64 bf])∧
 Calls Tryz.prog 87 #[.pointer cr,.int .i64 bf] eu fun a3 dz=>
 (∃ M:Sl,∃ bg:Int,(a3=.returned (.tuple #[.slice M.a M.len M.cap,.int .i64 bg]))∧
 Calls Tryz.prog 75 #[.int .i64 bg] dz fun a4 d0=>
 ((a4=.returned (.tuple #[]))∧
 Calls Tryz.prog 82 #[.pointer g,.pointer c] d0 fun a5 d1=>
 (∃ bp:Int,∃ bq:ByteArray,∃ bs:Int,∃ bt:Int,∃ bu:Int,∃ bv:Int,∃ bw:Int,∃ k:Sl,∃ l:Sl,(a5=.returned (.agg #[.int .i64 bp,.string bq,.int .i64 bs,.int .i64 bt,.int .i64 bu,.int .i64 bv,.int .i64 bw,.slice k.a k.len k.cap,.slice l.a l.len l.cap]))∧
 ∃ X:World,((Instr.storeAt 102 (.pointer ((some ⟨e,0,none⟩))) (.agg #[.int .i64 bp,.string bq,.int .i64 bs,.int .i64 bt,.int .i64 bu,.int .i64 bv,.int .i64 bw,.slice k.a k.len k.cap,.slice l.a l.len l.cap])).run Tryz.prog d1=.ok () X)∧
 ∃ c8:Int,∃ c9:ByteArray,∃ da:Int,∃ dc:Int,∃ dd:Int,∃ de:Int,∃ df:Int,∃ u:Sl,∃ v:Sl,(At (fun b=>b=X) ⟨e,0,none⟩ [.int .i64 c8,.string c9,.int .i64 da,.int .i64 dc,.int .i64 dd,.int .i64 de,.int .i64 df,.slice u.a u.len u.cap,.slice v.a v.len v.cap])∧
 K (.agg #[.int .i64 c8,.string c9,.int .i64 da,.int .i64 dc,.int .i64 dd,.int .i64 de,.int .i64 df,.slice u.a u.len u.cap,.slice v.a v.len v.cap]) X)∨
 (∃ ap:List PanicEntry,(a5=.panicked ap)∧d ap d1))∨
 (∃ ao:List PanicEntry,(a4=.panicked ao)∧d ao d0))∨
 (∃ an:List PanicEntry,(a3=.panicked an)∧d an dz))∨
 (∃ a0:List PanicEntry,(be=.panicked a0)∧d a0 dy))
 (Calls Tryz.prog 82 #[.pointer g,.pointer c] f fun a6 d2=>
 (∃ bx:Int,∃ bz:ByteArray,∃ b0:Int,∃ b2:Int,∃ b3:Int,∃ b4:Int,∃ b5:Int,∃ m:Sl,∃ n:Sl,(a6=.returned (.agg #[.int .i64 bx,.string bz,.int .i64 b0,.int .i64 b2,.int .i64 b3,.int .i64 b4,.int .i64 b5,.slice m.a m.len m.cap,.slice n.a n.len n.cap]))∧
 ∃ Y:World,((Instr.storeAt 102 (.pointer ((some ⟨e,0,none⟩))) (.agg #[.int .i64 bx,.string bz,.int .i64 b0,.int .i64 b2,.int .i64 b3,.int .i64 b4,.int .i64 b5,.slice m.a m.len m.cap,.slice n.a n.len n.cap])).run Tryz.prog d2=.ok () Y)∧
 ∃ dg:Int,∃ dh:ByteArray,∃ di:Int,∃ dj:Int,∃ dl:Int,∃ dm:Int,∃ dn:Int,∃ x:Sl,∃ y:Sl,(At (fun b=>b=Y) ⟨e,0,none⟩ [.int .i64 dg,.string dh,.int .i64 di,.int .i64 dj,.int .i64 dl,.int .i64 dm,.int .i64 dn,.slice x.a x.len x.cap,.slice y.a y.len y.cap])∧
 K (.agg #[.int .i64 dg,.string dh,.int .i64 di,.int .i64 dj,.int .i64 dl,.int .i64 dm,.int .i64 dn,.slice x.a x.len x.cap,.slice y.a y.len y.cap]) Y)∨
 (∃ aq:List PanicEntry,(a6=.panicked aq)∧d aq d2)))))) ev) eo) w
def sk51:Sk:=(.seq .leaf (.seq .leaf (.seq .leaf (.seq (.seq .leaf (.block (.seq .leaf (.cond .leaf (.seq .leaf (.cond (.cut [] [] [43,44,45,46,47,48,49,50,51,52,53,54,55,56,57] .leaf .leaf) .leaf)))))) .leaf))))
theorem call51 (e:Option Addr) (p:Option Addr) (f:Int) (g:ByteArray) (i:Int) (j:Int) (k:Int) (l:Int) (m:Nat) (n:ByteArray) (o:Int) (c:Sl) (b:Sl) (d:List PanicEntry→World→Prop) (K:Value→World→Prop) (w:World) (h:B51 e p f g i j k l m n o c b d K w):GetsX Tryz.prog 51 #[.pointer e,.pointer p,.agg #[.int .i64 f,.string g,.int .i64 i,.int .i64 j,.int .i64 k,.int .i64 l,.float .f64 m,.string n,.int .i64 o,.slice c.a c.len c.cap,.slice b.a b.len b.cap]] w d K:=cqx (sk:=sk51) Tryz.func51 (by kernel_rfl) (by kernel_rfl) (by kernel_rfl) h
def B28 (g:Option Addr) (g4:Int) (g5:ByteArray) (g6:Int) (g7:Int) (g8:Int) (g9:Int) (ha:Nat) (hb:ByteArray) (hc:Int) (ap:Sl) (ao:Sl) (K:Value→World→Prop) (w:World):Prop:=
 New (.cells #[.int .i64 g4,.string g5,.int .i64 g6,.int .i64 g7,.int .i64 g8,.int .i64 g9,.float .f64 ha,.string hb,.int .i64 hc,.slice ap.a ap.len ap.cap,.slice ao.a ao.len ao.cap] 96 (0,0)) (fun d hd=>
 New (.cells #[.int .i64 0,.string (ByteArray.mk #[]),.int .i64 0,.int .i64 0,.int .i64 0,.int .i64 0,.int .i64 0,.slice none 0 0,.slice none 0 0] 102 (0,0)) (fun c gq=>
 ∃ dm:Int,∃ dn:ByteArray,∃ dp:Int,∃ dq:Int,∃ dr:Int,∃ ds:Int,∃ dt:Nat,∃ du:ByteArray,∃ dv:Int,∃ F:Sl,∃ E:Sl,(At (fun b=>b=gq) ⟨d,0,none⟩ [.int .i64 dm,.string dn,.int .i64 dp,.int .i64 dq,.int .i64 dr,.int .i64 ds,.float .f64 dt,.string du,.int .i64 dv,.slice F.a F.len F.cap,.slice E.a E.len E.cap])∧
 Calls Tryz.prog 46 #[.agg #[.int .i64 dm,.string dn,.int .i64 dp,.int .i64 dq,.int .i64 dr,.int .i64 ds,.float .f64 dt,.string du,.int .i64 dv,.slice F.a F.len F.cap,.slice E.a E.len E.cap]] gq fun a2 gy=>
 (∃ dw:Bool,(a2=.returned (.bool dw))∧
 Calls Tryz.prog 45 #[.bool dw,.int .i64 1] gy fun a3 al=>
 ((a3=.returned (.tuple #[]))∧
 ∃ f:Int,(At (fun b=>b=al) ⟨d,0,none⟩ [.int .i64 f])∧
 Br (f==1)
 (∃ ba:Int,∃ bb:ByteArray,∃ bc:Int,∃ bd:Int,∃ be:Int,∃ bf:Int,∃ bg:Nat,∃ bh:ByteArray,∃ bi:Int,∃ j:Sl,∃ i:Sl,(At (fun b=>b=al) ⟨d,0,none⟩ [.int .i64 ba,.string bb,.int .i64 bc,.int .i64 bd,.int .i64 be,.int .i64 bf,.float .f64 bg,.string bh,.int .i64 bi,.slice j.a j.len j.cap,.slice i.a i.len i.cap])∧
 Calls Tryz.prog 47 #[.pointer g,.agg #[.int .i64 ba,.string bb,.int .i64 bc,.int .i64 bd,.int .i64 be,.int .i64 bf,.float .f64 bg,.string bh,.int .i64 bi,.slice j.a j.len j.cap,.slice i.a i.len i.cap]] al fun a4 g0=>
 (∃ bj:Int,∃ bk:ByteArray,∃ bl:Int,∃ bm:Int,∃ bn:Int,∃ bo:Int,∃ bp:Int,∃ k:Sl,∃ l:Sl,(a4=.returned (.agg #[.int .i64 bj,.string bk,.int .i64 bl,.int .i64 bm,.int .i64 bn,.int .i64 bo,.int .i64 bp,.slice k.a k.len k.cap,.slice l.a l.len l.cap]))∧
 ∃ g1:World,((Instr.storeAt 102 (.pointer ((some ⟨c,0,none⟩))) (.agg #[.int .i64 bj,.string bk,.int .i64 bl,.int .i64 bm,.int .i64 bn,.int .i64 bo,.int .i64 bp,.slice k.a k.len k.cap,.slice l.a l.len l.cap])).run Tryz.prog g0=.ok () g1)∧
 LeaveF Tryz.prog 44 [.pointer ((some ⟨c,0,none⟩))] .returning (fun g2=>∃ dx:Int,∃ dy:ByteArray,∃ ek:Int,∃ et:Int,∃ e2:Int,∃ fb:Int,∃ fk:Int,∃ ab:Sl,∃ af:Sl,(At (fun b=>b=g2) ⟨c,0,none⟩ [.int .i64 dx,.string dy,.int .i64 ek,.int .i64 et,.int .i64 e2,.int .i64 fb,.int .i64 fk,.slice ab.a ab.len ab.cap,.slice af.a af.len af.cap])∧
 K (.agg #[.int .i64 dx,.string dy,.int .i64 ek,.int .i64 et,.int .i64 e2,.int .i64 fb,.int .i64 fk,.slice ab.a ab.len ab.cap,.slice af.a af.len af.cap]) g2) g1)∨
 (∃ aw:List PanicEntry,(a4=.panicked aw)∧LeaveF Tryz.prog 44 [.pointer ((some ⟨c,0,none⟩))] (.panicking aw) (fun g3=>∃ f7:Int,∃ dz:ByteArray,∃ d8:Int,∃ ee:Int,∃ ef:Int,∃ eg:Int,∃ eh:Int,∃ L:Sl,∃ M:Sl,(At (fun b=>b=g3) ⟨c,0,none⟩ [.int .i64 f7,.string dz,.int .i64 d8,.int .i64 ee,.int .i64 ef,.int .i64 eg,.int .i64 eh,.slice L.a L.len L.cap,.slice M.a M.len M.cap])∧
 K (.agg #[.int .i64 f7,.string dz,.int .i64 d8,.int .i64 ee,.int .i64 ef,.int .i64 eg,.int .i64 eh,.slice L.a L.len L.cap,.slice M.a M.len M.cap]) g3) g0))
 (∃ (an:Bool→World→Prop),(Br (f==2)
 (an (f==2) al)
 (an (f==7) al))∧
 ∀ (hf:Env) (bq:Bool) (e:World),an bq e→
 Br bq
 (∃ br:Int,∃ bs:ByteArray,∃ bt:Int,∃ bu:Int,∃ bv:Int,∃ bw:Int,∃ bx:Nat,∃ bz:ByteArray,∃ b0:Int,∃ n:Sl,∃ m:Sl,(At (fun b=>b=e) ⟨d,0,none⟩ [.int .i64 br,.string bs,.int .i64 bt,.int .i64 bu,.int .i64 bv,.int .i64 bw,.float .f64 bx,.string bz,.int .i64 b0,.slice n.a n.len n.cap,.slice m.a m.len m.cap])∧
 Calls Tryz.prog 48 #[.pointer g,.agg #[.int .i64 br,.string bs,.int .i64 bt,.int .i64 bu,.int .i64 bv,.int .i64 bw,.float .f64 bx,.string bz,.int .i64 b0,.slice n.a n.len n.cap,.slice m.a m.len m.cap]] e fun a5 gg=>
 (∃ b1:Int,∃ b2:ByteArray,∃ b3:Int,∃ b4:Int,∃ b5:Int,∃ b6:Int,∃ b7:Int,∃ o:Sl,∃ p:Sl,(a5=.returned (.agg #[.int .i64 b1,.string b2,.int .i64 b3,.int .i64 b4,.int .i64 b5,.int .i64 b6,.int .i64 b7,.slice o.a o.len o.cap,.slice p.a p.len p.cap]))∧
 ∃ gh:World,((Instr.storeAt 102 (.pointer ((some ⟨c,0,none⟩))) (.agg #[.int .i64 b1,.string b2,.int .i64 b3,.int .i64 b4,.int .i64 b5,.int .i64 b6,.int .i64 b7,.slice o.a o.len o.cap,.slice p.a p.len p.cap])).run Tryz.prog gg=.ok () gh)∧
 LeaveF Tryz.prog 44 [.pointer ((some ⟨c,0,none⟩))] .returning (fun gi=>∃ ei:Int,∃ ej:ByteArray,∃ el:Int,∃ em:Int,∃ en:Int,∃ eo:Int,∃ ep:Int,∃ N:Sl,∃ O:Sl,(At (fun b=>b=gi) ⟨c,0,none⟩ [.int .i64 ei,.string ej,.int .i64 el,.int .i64 em,.int .i64 en,.int .i64 eo,.int .i64 ep,.slice N.a N.len N.cap,.slice O.a O.len O.cap])∧
 K (.agg #[.int .i64 ei,.string ej,.int .i64 el,.int .i64 em,.int .i64 en,.int .i64 eo,.int .i64 ep,.slice N.a N.len N.cap,.slice O.a O.len O.cap]) gi) gh)∨
 (∃ ax:List PanicEntry,(a5=.panicked ax)∧LeaveF Tryz.prog 44 [.pointer ((some ⟨c,0,none⟩))] (.panicking ax) (fun gj=>∃ eq:Int,∃ er:ByteArray,∃ es:Int,∃ eu:Int,∃ ev:Int,∃ ew:Int,∃ ex:Int,∃ Q:Sl,∃ T:Sl,(At (fun b=>b=gj) ⟨c,0,none⟩ [.int .i64 eq,.string er,.int .i64 es,.int .i64 eu,.int .i64 ev,.int .i64 ew,.int .i64 ex,.slice Q.a Q.len Q.cap,.slice T.a T.len T.cap])∧
 K (.agg #[.int .i64 eq,.string er,.int .i64 es,.int .i64 eu,.int .i64 ev,.int .i64 ew,.int .i64 ex,.slice Q.a Q.len Q.cap,.slice T.a T.len T.cap]) gj) gg))
 (Br (f==8)
 (∃ b8:Int,∃ b9:ByteArray,∃ ca:Int,∃ cb:Int,∃ cc:Int,∃ cd:Int,∃ ce:Nat,∃ cf:ByteArray,∃ cg:Int,∃ r:Sl,∃ q:Sl,(At (fun b=>b=e) ⟨d,0,none⟩ [.int .i64 b8,.string b9,.int .i64 ca,.int .i64 cb,.int .i64 cc,.int .i64 cd,.float .f64 ce,.string cf,.int .i64 cg,.slice r.a r.len r.cap,.slice q.a q.len q.cap])∧
 Calls Tryz.prog 49 #[.pointer g,.agg #[.int .i64 b8,.string b9,.int .i64 ca,.int .i64 cb,.int .i64 cc,.int .i64 cd,.float .f64 ce,.string cf,.int .i64 cg,.slice r.a r.len r.cap,.slice q.a q.len q.cap]] e fun a6 gk=>
 (∃ ch:Int,∃ ci:ByteArray,∃ cj:Int,∃ ck:Int,∃ cl:Int,∃ cm:Int,∃ cn:Int,∃ s:Sl,∃ t:Sl,(a6=.returned (.agg #[.int .i64 ch,.string ci,.int .i64 cj,.int .i64 ck,.int .i64 cl,.int .i64 cm,.int .i64 cn,.slice s.a s.len s.cap,.slice t.a t.len t.cap]))∧
 ∃ gl:World,((Instr.storeAt 102 (.pointer ((some ⟨c,0,none⟩))) (.agg #[.int .i64 ch,.string ci,.int .i64 cj,.int .i64 ck,.int .i64 cl,.int .i64 cm,.int .i64 cn,.slice s.a s.len s.cap,.slice t.a t.len t.cap])).run Tryz.prog gk=.ok () gl)∧
 LeaveF Tryz.prog 44 [.pointer ((some ⟨c,0,none⟩))] .returning (fun gm=>∃ ey:Int,∃ ez:ByteArray,∃ e0:Int,∃ e1:Int,∃ e3:Int,∃ e4:Int,∃ e5:Int,∃ U:Sl,∃ V:Sl,(At (fun b=>b=gm) ⟨c,0,none⟩ [.int .i64 ey,.string ez,.int .i64 e0,.int .i64 e1,.int .i64 e3,.int .i64 e4,.int .i64 e5,.slice U.a U.len U.cap,.slice V.a V.len V.cap])∧
 K (.agg #[.int .i64 ey,.string ez,.int .i64 e0,.int .i64 e1,.int .i64 e3,.int .i64 e4,.int .i64 e5,.slice U.a U.len U.cap,.slice V.a V.len V.cap]) gm) gl)∨
 (∃ ay:List PanicEntry,(a6=.panicked ay)∧LeaveF Tryz.prog 44 [.pointer ((some ⟨c,0,none⟩))] (.panicking ay) (fun gn=>∃ e6:Int,∃ e7:ByteArray,∃ e8:Int,∃ e9:Int,∃ fa:Int,∃ fc:Int,∃ fd:Int,∃ X:Sl,∃ Y:Sl,(At (fun b=>b=gn) ⟨c,0,none⟩ [.int .i64 e6,.string e7,.int .i64 e8,.int .i64 e9,.int .i64 fa,.int .i64 fc,.int .i64 fd,.slice X.a X.len X.cap,.slice Y.a Y.len Y.cap])∧
 K (.agg #[.int .i64 e6,.string e7,.int .i64 e8,.int .i64 e9,.int .i64 fa,.int .i64 fc,.int .i64 fd,.slice X.a X.len X.cap,.slice Y.a Y.len Y.cap]) gn) gk))
 (Br (f==9)
 (∃ co:Int,∃ cp:ByteArray,∃ cq:Int,∃ cr:Int,∃ cs:Int,∃ ct:Int,∃ cu:Nat,∃ cv:ByteArray,∃ cw:Int,∃ v:Sl,∃ u:Sl,(At (fun b=>b=e) ⟨d,0,none⟩ [.int .i64 co,.string cp,.int .i64 cq,.int .i64 cr,.int .i64 cs,.int .i64 ct,.float .f64 cu,.string cv,.int .i64 cw,.slice v.a v.len v.cap,.slice u.a u.len u.cap])∧
 Calls Tryz.prog 50 #[.pointer g,.agg #[.int .i64 co,.string cp,.int .i64 cq,.int .i64 cr,.int .i64 cs,.int .i64 ct,.float .f64 cu,.string cv,.int .i64 cw,.slice v.a v.len v.cap,.slice u.a u.len u.cap]] e fun a7 go=>
 (∃ cx:Int,∃ cy:ByteArray,∃ cz:Int,∃ c0:Int,∃ c1:Int,∃ c2:Int,∃ c3:Int,∃ x:Sl,∃ y:Sl,(a7=.returned (.agg #[.int .i64 cx,.string cy,.int .i64 cz,.int .i64 c0,.int .i64 c1,.int .i64 c2,.int .i64 c3,.slice x.a x.len x.cap,.slice y.a y.len y.cap]))∧
 ∃ gp:World,((Instr.storeAt 102 (.pointer ((some ⟨c,0,none⟩))) (.agg #[.int .i64 cx,.string cy,.int .i64 cz,.int .i64 c0,.int .i64 c1,.int .i64 c2,.int .i64 c3,.slice x.a x.len x.cap,.slice y.a y.len y.cap])).run Tryz.prog go=.ok () gp)∧
 LeaveF Tryz.prog 44 [.pointer ((some ⟨c,0,none⟩))] .returning (fun gr=>∃ fe:Int,∃ ff:ByteArray,∃ fg:Int,∃ fh:Int,∃ fi:Int,∃ fj:Int,∃ fl:Int,∃ Z:Sl,∃ aa:Sl,(At (fun b=>b=gr) ⟨c,0,none⟩ [.int .i64 fe,.string ff,.int .i64 fg,.int .i64 fh,.int .i64 fi,.int .i64 fj,.int .i64 fl,.slice Z.a Z.len Z.cap,.slice aa.a aa.len aa.cap])∧
 K (.agg #[.int .i64 fe,.string ff,.int .i64 fg,.int .i64 fh,.int .i64 fi,.int .i64 fj,.int .i64 fl,.slice Z.a Z.len Z.cap,.slice aa.a aa.len aa.cap]) gr) gp)∨
 (∃ az:List PanicEntry,(a7=.panicked az)∧LeaveF Tryz.prog 44 [.pointer ((some ⟨c,0,none⟩))] (.panicking az) (fun gs=>∃ fm:Int,∃ fn:ByteArray,∃ fo:Int,∃ fp:Int,∃ fq:Int,∃ fr:Int,∃ fs:Int,∃ ac:Sl,∃ ad:Sl,(At (fun b=>b=gs) ⟨c,0,none⟩ [.int .i64 fm,.string fn,.int .i64 fo,.int .i64 fp,.int .i64 fq,.int .i64 fr,.int .i64 fs,.slice ac.a ac.len ac.cap,.slice ad.a ad.len ad.cap])∧
 K (.agg #[.int .i64 fm,.string fn,.int .i64 fo,.int .i64 fp,.int .i64 fq,.int .i64 fr,.int .i64 fs,.slice ac.a ac.len ac.cap,.slice ad.a ad.len ad.cap]) gs) go))
 (Drw e fun am he=>
 ∃ c4:ByteArray,(At am ⟨d,0 + 1,none⟩ [.string c4])∧
 ∃ c6:Int,∃ c7:ByteArray,∃ c8:Int,∃ c9:Int,∃ da:Int,∃ db:Int,∃ dc:Nat,∃ dd:ByteArray,∃ de:Int,∃ A:Sl,∃ z:Sl,(At am ⟨d,0,none⟩ [.int .i64 c6,.string c7,.int .i64 c8,.int .i64 c9,.int .i64 da,.int .i64 db,.float .f64 dc,.string dd,.int .i64 de,.slice A.a A.len A.cap,.slice z.a z.len z.cap])∧
 Calls Tryz.prog 52 #[.pointer g,.string c4] he fun a8 aq=>
 (∃ c5:Option Addr,(a8=.returned (.pointer c5))∧
 (am aq)∧
 Calls Tryz.prog 51 #[.pointer g,.pointer c5,.agg #[.int .i64 c6,.string c7,.int .i64 c8,.int .i64 c9,.int .i64 da,.int .i64 db,.float .f64 dc,.string dd,.int .i64 de,.slice A.a A.len A.cap,.slice z.a z.len z.cap]] aq fun a9 ar=>
 (∃ df:Int,∃ dg:ByteArray,∃ dh:Int,∃ di:Int,∃ dj:Int,∃ dk:Int,∃ dl:Int,∃ C:Sl,∃ D:Sl,(a9=.returned (.agg #[.int .i64 df,.string dg,.int .i64 dh,.int .i64 di,.int .i64 dj,.int .i64 dk,.int .i64 dl,.slice C.a C.len C.cap,.slice D.a D.len D.cap]))∧
 (am ar)∧
 ∃ gt:World,((Instr.storeAt 102 (.pointer ((some ⟨c,0,none⟩))) (.agg #[.int .i64 df,.string dg,.int .i64 dh,.int .i64 di,.int .i64 dj,.int .i64 dk,.int .i64 dl,.slice C.a C.len C.cap,.slice D.a D.len D.cap])).run Tryz.prog ar=.ok () gt)∧
 LeaveF Tryz.prog 44 [.pointer ((some ⟨c,0,none⟩))] .returning (fun gu=>∃ ft:Int,∃ fu:ByteArray,∃ fv:Int,∃ fw:Int,∃ fx:Int,∃ fy:Int,∃ fz:Int,∃ ae:Sl,∃ ag:Sl,(At (fun b=>b=gu) ⟨c,0,none⟩ [.int .i64 ft,.string fu,.int .i64 fv,.int .i64 fw,.int .i64 fx,.int .i64 fy,.int .i64 fz,.slice ae.a ae.len ae.cap,.slice ag.a ag.len ag.cap])∧
 K (.agg #[.int .i64 ft,.string fu,.int .i64 fv,.int .i64 fw,.int .i64 fx,.int .i64 fy,.int .i64 fz,.slice ae.a ae.len ae.cap,.slice ag.a ag.len ag.cap]) gu) gt)∨
 (∃ a1:List PanicEntry,(a9=.panicked a1)∧LeaveF Tryz.prog 44 [.pointer ((some ⟨c,0,none⟩))] (.panicking a1) (fun gv=>∃ f0:Int,∃ f1:ByteArray,∃ f2:Int,∃ f3:Int,∃ f4:Int,∃ f5:Int,∃ f6:Int,∃ ah:Sl,∃ ai:Sl,(At (fun b=>b=gv) ⟨c,0,none⟩ [.int .i64 f0,.string f1,.int .i64 f2,.int .i64 f3,.int .i64 f4,.int .i64 f5,.int .i64 f6,.slice ah.a ah.len ah.cap,.slice ai.a ai.len ai.cap])∧
 K (.agg #[.int .i64 f0,.string f1,.int .i64 f2,.int .i64 f3,.int .i64 f4,.int .i64 f5,.int .i64 f6,.slice ah.a ah.len ah.cap,.slice ai.a ai.len ai.cap]) gv) ar))∨
 (∃ a0:List PanicEntry,(a8=.panicked a0)∧LeaveF Tryz.prog 44 [.pointer ((some ⟨c,0,none⟩))] (.panicking a0) (fun gw=>∃ f8:Int,∃ f9:ByteArray,∃ ga:Int,∃ gb:Int,∃ gc:Int,∃ gd:Int,∃ ge:Int,∃ aj:Sl,∃ ak:Sl,(At (fun b=>b=gw) ⟨c,0,none⟩ [.int .i64 f8,.string f9,.int .i64 ga,.int .i64 gb,.int .i64 gc,.int .i64 gd,.int .i64 ge,.slice aj.a aj.len aj.cap,.slice ak.a ak.len ak.cap])∧
 K (.agg #[.int .i64 f8,.string f9,.int .i64 ga,.int .i64 gb,.int .i64 gc,.int .i64 gd,.int .i64 ge,.slice aj.a aj.len aj.cap,.slice ak.a ak.len ak.cap]) gw) aq))))))∨
 (∃ av:List PanicEntry,(a3=.panicked av)∧LeaveF Tryz.prog 44 [.pointer ((some ⟨c,0,none⟩))] (.panicking av) (fun gx=>∃ gf:Int,∃ d0:ByteArray,∃ d1:Int,∃ d2:Int,∃ d3:Int,∃ d4:Int,∃ d5:Int,∃ G:Sl,∃ H:Sl,(At (fun b=>b=gx) ⟨c,0,none⟩ [.int .i64 gf,.string d0,.int .i64 d1,.int .i64 d2,.int .i64 d3,.int .i64 d4,.int .i64 d5,.slice G.a G.len G.cap,.slice H.a H.len H.cap])∧
 K (.agg #[.int .i64 gf,.string d0,.int .i64 d1,.int .i64 d2,.int .i64 d3,.int .i64 d4,.int .i64 d5,.slice G.a G.len G.cap,.slice H.a H.len H.cap]) gx) al))∨
 (∃ au:List PanicEntry,(a2=.panicked au)∧LeaveF Tryz.prog 44 [.pointer ((some ⟨c,0,none⟩))] (.panicking au) (fun gz=>∃ d6:Int,∃ d7:ByteArray,∃ d9:Int,∃ ea:Int,∃ eb:Int,∃ ec:Int,∃ ed:Int,∃ I:Sl,∃ J:Sl,(At (fun b=>b=gz) ⟨c,0,none⟩ [.int .i64 d6,.string d7,.int .i64 d9,.int .i64 ea,.int .i64 eb,.int .i64 ec,.int .i64 ed,.slice I.a I.len I.cap,.slice J.a J.len J.cap])∧
 K (.agg #[.int .i64 d6,.string d7,.int .i64 d9,.int .i64 ea,.int .i64 eb,.int .i64 ec,.int .i64 ed,.slice I.a I.len I.cap,.slice J.a J.len J.cap]) gz) gy)) hd) w
def sk28:Sk:=(.seq .leaf (.seq (.seq .leaf (.block (.seq .leaf (.cond .leaf (.cut [15] [.bool] [15,16,17] .leaf .leaf))))) .leaf))
theorem call28 (d:Option Addr) (e:Int) (f:ByteArray) (g:Int) (i:Int) (j:Int) (k:Int) (l:Nat) (m:ByteArray) (n:Int) (c:Sl) (b:Sl) (K:Value→World→Prop) (w:World) (h:B28 d e f g i j k l m n c b K w):Gets Tryz.prog 28 #[.pointer d,.agg #[.int .i64 e,.string f,.int .i64 g,.int .i64 i,.int .i64 j,.int .i64 k,.float .f64 l,.string m,.int .i64 n,.slice c.a c.len c.cap,.slice b.a b.len b.cap]] w K:=cqd (sk:=sk28) Tryz.func28 (by kernel_rfl) (by kernel_rfl) (by kernel_rfl) h
def B50 (M:Option Addr) (dy:Int) (dz:ByteArray) (d0:Int) (d1:Int) (d2:Int) (d3:Int) (d4:Nat) (d5:ByteArray) (d6:Int) (Q:Sl) (O:Sl) (K:Value→World→Prop) (w:World):Prop:=
 New (.cells #[.int .i64 dy,.string dz,.int .i64 d0,.int .i64 d1,.int .i64 d2,.int .i64 d3,.float .f64 d4,.string d5,.int .i64 d6,.slice Q.a Q.len Q.cap,.slice O.a O.len O.cap] 96 (0,0)) (fun d d7=>
 New (.cells #[.int .i64 0,.string (ByteArray.mk #[]),.int .i64 0,.int .i64 0,.int .i64 0,.int .i64 0,.int .i64 0,.slice none 0 0,.slice none 0 0] 102 (0,0)) (fun c dm=>
 ∃ (L:World→Prop),(∃ bq:Int,∃ br:ByteArray,∃ bs:Int,∃ bt:Int,∃ bu:Int,∃ bv:Int,∃ bw:Nat,∃ bx:ByteArray,∃ bz:Int,∃ p:Sl,∃ o:Sl,(At (fun b=>b=dm) ⟨d,0,none⟩ [.int .i64 bq,.string br,.int .i64 bs,.int .i64 bt,.int .i64 bu,.int .i64 bv,.float .f64 bw,.string bx,.int .i64 bz,.slice p.a p.len p.cap,.slice o.a o.len o.cap])∧
 Calls Tryz.prog 46 #[.agg #[.int .i64 bq,.string br,.int .i64 bs,.int .i64 bt,.int .i64 bu,.int .i64 bv,.float .f64 bw,.string bx,.int .i64 bz,.slice p.a p.len p.cap,.slice o.a o.len o.cap]] dm fun ae J=>
 (∃ b0:Bool,(ae=.returned (.bool b0))∧
 Br b0
 (∃ am:Int,(At (fun b=>b=J) ⟨d,0,none⟩ [.int .i64 am])∧
 Calls Tryz.prog 45 #[.bool (am==9),.int .i64 1] J fun af dt=>
 ((af=.returned (.tuple #[]))∧
 L  dt)∨
 (∃ X:List PanicEntry,(af=.panicked X)∧LeaveF Tryz.prog 44 [.pointer ((some ⟨c,0,none⟩))] (.panicking X) (fun du=>∃ an:Int,∃ ao:ByteArray,∃ az:Int,∃ a5:Int,∃ a6:Int,∃ a7:Int,∃ a8:Int,∃ j:Sl,∃ k:Sl,(At (fun b=>b=du) ⟨c,0,none⟩ [.int .i64 an,.string ao,.int .i64 az,.int .i64 a5,.int .i64 a6,.int .i64 a7,.int .i64 a8,.slice j.a j.len j.cap,.slice k.a k.len k.cap])∧
 K (.agg #[.int .i64 an,.string ao,.int .i64 az,.int .i64 a5,.int .i64 a6,.int .i64 a7,.int .i64 a8,.slice j.a j.len j.cap,.slice k.a k.len k.cap]) du) dt))
 (Calls Tryz.prog 45 #[.bool false,.int .i64 1] J fun ag dv=>
 ((ag=.returned (.tuple #[]))∧
 L  dv)∨
 (∃ Y:List PanicEntry,(ag=.panicked Y)∧LeaveF Tryz.prog 44 [.pointer ((some ⟨c,0,none⟩))] (.panicking Y) (fun dw=>∃ a9:Int,∃ ap:ByteArray,∃ aq:Int,∃ ar:Int,∃ au:Int,∃ av:Int,∃ aw:Int,∃ e:Sl,∃ f:Sl,(At (fun b=>b=dw) ⟨c,0,none⟩ [.int .i64 a9,.string ap,.int .i64 aq,.int .i64 ar,.int .i64 au,.int .i64 av,.int .i64 aw,.slice e.a e.len e.cap,.slice f.a f.len f.cap])∧
 K (.agg #[.int .i64 a9,.string ap,.int .i64 aq,.int .i64 ar,.int .i64 au,.int .i64 av,.int .i64 aw,.slice e.a e.len e.cap,.slice f.a f.len f.cap]) dw) dv)))∨
 (∃ V:List PanicEntry,(ae=.panicked V)∧LeaveF Tryz.prog 44 [.pointer ((some ⟨c,0,none⟩))] (.panicking V) (fun dx=>∃ ax:Int,∃ ay:ByteArray,∃ a0:Int,∃ a1:Int,∃ a2:Int,∃ a3:Int,∃ a4:Int,∃ g:Sl,∃ i:Sl,(At (fun b=>b=dx) ⟨c,0,none⟩ [.int .i64 ax,.string ay,.int .i64 a0,.int .i64 a1,.int .i64 a2,.int .i64 a3,.int .i64 a4,.slice g.a g.len g.cap,.slice i.a i.len i.cap])∧
 K (.agg #[.int .i64 ax,.string ay,.int .i64 a0,.int .i64 a1,.int .i64 a2,.int .i64 a3,.int .i64 a4,.slice g.a g.len g.cap,.slice i.a i.len i.cap]) dx) J))∧
 ∀ (ea:Env)  (G:World),L  G→
 ∃ ba:ByteArray,(At (fun b=>b=G) ⟨d,0 + 1,none⟩ [.string ba])∧
 Br (!ba.toList==(ByteArray.mk #[]).toList)
 (∃ bb:ByteArray,(At (fun b=>b=G) ⟨d,0 + 1,none⟩ [.string bb])∧
 Calls Tryz.prog 52 #[.pointer M,.string bb] G fun ah de=>
 (∃ bc:Option Addr,(ah=.returned (.pointer bc))∧
 Calls Tryz.prog 82 #[.pointer M,.pointer bc] de fun ai df=>
 (∃ bd:Int,∃ be:ByteArray,∃ bf:Int,∃ bg:Int,∃ bh:Int,∃ bi:Int,∃ bj:Int,∃ l:Sl,∃ m:Sl,(ai=.returned (.agg #[.int .i64 bd,.string be,.int .i64 bf,.int .i64 bg,.int .i64 bh,.int .i64 bi,.int .i64 bj,.slice l.a l.len l.cap,.slice m.a m.len m.cap]))∧
 ∃ dg:World,((Instr.storeAt 102 (.pointer ((some ⟨c,0,none⟩))) (.agg #[.int .i64 bd,.string be,.int .i64 bf,.int .i64 bg,.int .i64 bh,.int .i64 bi,.int .i64 bj,.slice l.a l.len l.cap,.slice m.a m.len m.cap])).run Tryz.prog df=.ok () dg)∧
 LeaveF Tryz.prog 44 [.pointer ((some ⟨c,0,none⟩))] .returning (fun dh=>∃ b1:Int,∃ b2:ByteArray,∃ cb:Int,∃ ck:Int,∃ ct:Int,∃ c2:Int,∃ db:Int,∃ E:Sl,∃ F:Sl,(At (fun b=>b=dh) ⟨c,0,none⟩ [.int .i64 b1,.string b2,.int .i64 cb,.int .i64 ck,.int .i64 ct,.int .i64 c2,.int .i64 db,.slice E.a E.len E.cap,.slice F.a F.len F.cap])∧
 K (.agg #[.int .i64 b1,.string b2,.int .i64 cb,.int .i64 ck,.int .i64 ct,.int .i64 c2,.int .i64 db,.slice E.a E.len E.cap,.slice F.a F.len F.cap]) dh) dg)∨
 (∃ aa:List PanicEntry,(ai=.panicked aa)∧LeaveF Tryz.prog 44 [.pointer ((some ⟨c,0,none⟩))] (.panicking aa) (fun di=>∃ dd:Int,∃ b3:ByteArray,∃ b4:Int,∃ b5:Int,∃ b6:Int,∃ b7:Int,∃ b8:Int,∃ q:Sl,∃ r:Sl,(At (fun b=>b=di) ⟨c,0,none⟩ [.int .i64 dd,.string b3,.int .i64 b4,.int .i64 b5,.int .i64 b6,.int .i64 b7,.int .i64 b8,.slice q.a q.len q.cap,.slice r.a r.len r.cap])∧
 K (.agg #[.int .i64 dd,.string b3,.int .i64 b4,.int .i64 b5,.int .i64 b6,.int .i64 b7,.int .i64 b8,.slice q.a q.len q.cap,.slice r.a r.len r.cap]) di) df))∨
 (∃ Z:List PanicEntry,(ah=.panicked Z)∧LeaveF Tryz.prog 44 [.pointer ((some ⟨c,0,none⟩))] (.panicking Z) (fun dj=>∃ b9:Int,∃ ca:ByteArray,∃ cc:Int,∃ cd:Int,∃ ce:Int,∃ cf:Int,∃ cg:Int,∃ s:Sl,∃ t:Sl,(At (fun b=>b=dj) ⟨c,0,none⟩ [.int .i64 b9,.string ca,.int .i64 cc,.int .i64 cd,.int .i64 ce,.int .i64 cf,.int .i64 cg,.slice s.a s.len s.cap,.slice t.a t.len t.cap])∧
 K (.agg #[.int .i64 b9,.string ca,.int .i64 cc,.int .i64 cd,.int .i64 ce,.int .i64 cf,.int .i64 cg,.slice s.a s.len s.cap,.slice t.a t.len t.cap]) dj) de))
 (∃ bk:Int,(At (fun b=>b=G) ⟨d,0 + 2,none⟩ [.int .i64 bk])∧
 Calls Tryz.prog 78 #[.pointer M,.int .i64 bk] G fun aj dk=>
 (∃ bl:Option Addr,∃ bm:Option Addr,(aj=.returned (.agg #[.pointer bl,.pointer bm]))∧
 New (.cells #[.pointer none,.pointer none] 119 (0,0)) (fun N d8=>
 ∃ dl:World,((Instr.storeAt 119 (.pointer ((some ⟨N,0,none⟩))) (.agg #[.pointer bl,.pointer bm])).run Tryz.prog d8=.ok () dl)∧
 Drw dl fun H d9=>
 ∃ bn:Int,(At H ⟨d,0 + 2,none⟩ [.int .i64 bn])∧
 ∃ bo:Option Addr,(At H ⟨N,0,none⟩ [.pointer bo])∧
 ∃ bp:Option Addr,(At H ⟨N,0 + 1,none⟩ [.pointer bp])∧
 Calls Tryz.prog 77 #[.pointer bo] d9 fun ak T=>
 (∃ n:Sl,(ak=.returned (.slice n.a n.len n.cap))∧
 (H T)∧
 Calls Tryz.prog 84 #[.pointer bp] T fun al U=>
 (∃ I:Sl,(al=.returned (.slice I.a I.len I.cap))∧
 (H U)∧
 ∃ dn:World,((Instr.storeAt 102 (.pointer ((some ⟨c,0,none⟩))) (.agg #[.int .i64 0,.string (ByteArray.mk #[]),.int .i64 0,.int .i64 bn,.int .i64 0,.int .i64 ((↑I.len:Int)),.int .i64 0,.slice n.a n.len n.cap,.slice none 0 0])).run Tryz.prog U=.ok () dn)∧
 LeaveF Tryz.prog 44 [.pointer ((some ⟨c,0,none⟩))] .returning (fun dp=>∃ ch:Int,∃ ci:ByteArray,∃ cj:Int,∃ cl:Int,∃ cm:Int,∃ cn:Int,∃ co:Int,∃ u:Sl,∃ v:Sl,(At (fun b=>b=dp) ⟨c,0,none⟩ [.int .i64 ch,.string ci,.int .i64 cj,.int .i64 cl,.int .i64 cm,.int .i64 cn,.int .i64 co,.slice u.a u.len u.cap,.slice v.a v.len v.cap])∧
 K (.agg #[.int .i64 ch,.string ci,.int .i64 cj,.int .i64 cl,.int .i64 cm,.int .i64 cn,.int .i64 co,.slice u.a u.len u.cap,.slice v.a v.len v.cap]) dp) dn)∨
 (∃ ad:List PanicEntry,(al=.panicked ad)∧LeaveF Tryz.prog 44 [.pointer ((some ⟨c,0,none⟩))] (.panicking ad) (fun dq=>∃ cp:Int,∃ cq:ByteArray,∃ cr:Int,∃ cs:Int,∃ cu:Int,∃ cv:Int,∃ cw:Int,∃ x:Sl,∃ y:Sl,(At (fun b=>b=dq) ⟨c,0,none⟩ [.int .i64 cp,.string cq,.int .i64 cr,.int .i64 cs,.int .i64 cu,.int .i64 cv,.int .i64 cw,.slice x.a x.len x.cap,.slice y.a y.len y.cap])∧
 K (.agg #[.int .i64 cp,.string cq,.int .i64 cr,.int .i64 cs,.int .i64 cu,.int .i64 cv,.int .i64 cw,.slice x.a x.len x.cap,.slice y.a y.len y.cap]) dq) U))∨
 (∃ ac:List PanicEntry,(ak=.panicked ac)∧LeaveF Tryz.prog 44 [.pointer ((some ⟨c,0,none⟩))] (.panicking ac) (fun dr=>∃ cx:Int,∃ cy:ByteArray,∃ cz:Int,∃ c0:Int,∃ c1:Int,∃ c3:Int,∃ c4:Int,∃ z:Sl,∃ A:Sl,(At (fun b=>b=dr) ⟨c,0,none⟩ [.int .i64 cx,.string cy,.int .i64 cz,.int .i64 c0,.int .i64 c1,.int .i64 c3,.int .i64 c4,.slice z.a z.len z.cap,.slice A.a A.len A.cap])∧
 K (.agg #[.int .i64 cx,.string cy,.int .i64 cz,.int .i64 c0,.int .i64 c1,.int .i64 c3,.int .i64 c4,.slice z.a z.len z.cap,.slice A.a A.len A.cap]) dr) T)) dk)∨
 (∃ ab:List PanicEntry,(aj=.panicked ab)∧LeaveF Tryz.prog 44 [.pointer ((some ⟨c,0,none⟩))] (.panicking ab) (fun ds=>∃ c5:Int,∃ c6:ByteArray,∃ c7:Int,∃ c8:Int,∃ c9:Int,∃ da:Int,∃ dc:Int,∃ C:Sl,∃ D:Sl,(At (fun b=>b=ds) ⟨c,0,none⟩ [.int .i64 c5,.string c6,.int .i64 c7,.int .i64 c8,.int .i64 c9,.int .i64 da,.int .i64 dc,.slice C.a C.len C.cap,.slice D.a D.len D.cap])∧
 K (.agg #[.int .i64 c5,.string c6,.int .i64 c7,.int .i64 c8,.int .i64 c9,.int .i64 da,.int .i64 dc,.slice C.a C.len C.cap,.slice D.a D.len D.cap]) ds) dk))) d7) w
def sk50:Sk:=(.cut [] [] [6,7,8,9,10,11,12,13] .leaf .leaf)
theorem call50 (d:Option Addr) (e:Int) (f:ByteArray) (g:Int) (i:Int) (j:Int) (k:Int) (l:Nat) (m:ByteArray) (n:Int) (c:Sl) (b:Sl) (K:Value→World→Prop) (w:World) (h:B50 d e f g i j k l m n c b K w):Gets Tryz.prog 50 #[.pointer d,.agg #[.int .i64 e,.string f,.int .i64 g,.int .i64 i,.int .i64 j,.int .i64 k,.float .f64 l,.string m,.int .i64 n,.slice c.a c.len c.cap,.slice b.a b.len b.cap]] w K:=cqd (sk:=sk50) Tryz.func50 (by kernel_rfl) (by kernel_rfl) (by kernel_rfl) h
end Go.Proofs.YtflgboncpbmikaaGreatDoor

/- Words of 64 bits: the highest bit. No condition. -/
namespace Go.VC
set_option linter.unusedVariables false
set_option linter.unusedSimpArgs false
theorem and_top {x:Nat} (h:x<18446744073709551616):x &&& 9223372036854775808=if x<9223372036854775808 then 0 else 9223372036854775808:=by
 have e:(9223372036854775808:Nat)=2 ^ 63:=by decide
 apply Nat.eq_of_testBit_eq
 intro i
 rw [Nat.testBit_and]
 by_cases hi:63=i
 ·subst hi
  have h1:x.testBit 63=decide (¬ x<9223372036854775808):=by
   rw [Nat.testBit_eq_decide_div_mod_eq,←e]
   exact decide_eq_decide.2 (by omega)
  have h2:Nat.testBit 9223372036854775808 63=true:=by rw [e,Nat.testBit_two_pow];simp
  rw [h1,h2]
  split
  ·rw [decide_eq_false (by omega)];simp
  ·rw [decide_eq_true (by assumption)];simp [h2]
 ·have h2:Nat.testBit 9223372036854775808 i=false:=by rw [e,Nat.testBit_two_pow];simp [hi]
  rw [h2]
  split<;>simp [h2]
theorem not_u64 {x:Nat} (h:x<18446744073709551616):IntKind.u64.wrap ((BitVec.ofInt IntKind.u64.bits (if IntKind.u64.signed=true then -1 else IntKind.u64.max) ^^^ BitVec.ofInt IntKind.u64.bits (x:Int)).toNat:Int)=((18446744073709551615 - x:Nat):Int):=by
 have e1:BitVec.ofInt IntKind.u64.bits (if IntKind.u64.signed=true then -1 else IntKind.u64.max)=BitVec.allOnes 64:=by
  show BitVec.ofInt 64 18446744073709551615=BitVec.allOnes 64
  decide
 have e2:(BitVec.ofInt 64 (x:Int)).toNat=x:=bv_toNat 64 x (by simpa using h)
 rw [e1]
 show IntKind.u64.wrap (((BitVec.allOnes 64 ^^^ BitVec.ofInt 64 (x:Int)).toNat:Nat):Int)=_
 rw [BitVec.xor_comm,BitVec.xor_allOnes,BitVec.toNat_not,e2]
 have e3:(2:Nat) ^ 64 - 1 - x=18446744073709551615 - x:=by
  have:(2:Nat) ^ 64=18446744073709551616:=by decide
  rw [this]
 rw [e3]
 exact wrapU64 (by omega) (by omega)
theorem andnot_top {k:Nat} (h:k<18446744073709551616) (h1:9223372036854775808≤k):bitI .andNot .u64 (k:Int) 9223372036854775808=((k - 9223372036854775808:Nat):Int):=by
 have e1:(BitVec.ofInt 64 (k:Int)).toNat=k:=bv_toNat 64 k (by simpa using h)
 have e2:(BitVec.ofInt 64 9223372036854775808).toNat=9223372036854775808:=by decide
 have e3:(BitVec.ofInt 64 (k:Int) &&& ~~~ BitVec.ofInt 64 9223372036854775808).toNat=k - 9223372036854775808:=by
  rw [BitVec.toNat_and,BitVec.toNat_not,e1,e2]
  have e4:(2:Nat) ^ 64 - 1 - 9223372036854775808=2 ^ 63 - 1:=by decide
  rw [e4,Nat.and_two_pow_sub_one_eq_mod]
  have e5:(2:Nat) ^ 63=9223372036854775808:=by decide
  rw [e5]
  omega
 show IntKind.u64.wrap (((BitVec.ofInt 64 (k:Int) &&& ~~~ BitVec.ofInt 64 9223372036854775808).toNat:Nat):Int)=_
 rw [e3]
 exact wrapU64 (by omega) (by omega)
end Go.VC
/- Packages fare, cmp: floats in order, their places. Condition: words. -/
namespace Go.Proofs.YtflgboncpbmikaaGreatDoor
set_option linter.unusedVariables false
set_option linter.unusedSimpArgs false
open Go Go.VC Ieee
variable {R:Cx} {Hs Rest:List HP} {w:World}
theorem ff_name : (Tryz.f135.name == "runtime.NumGoroutine") = false := by kernel_rfl
theorem ff_body:Tryz.f135.body.isNone=true:=by kernel_rfl
theorem ff_next:Extern.findNext Tryz.f135=none:=by kernel_rfl
theorem ff_find:Extern.find Tryz.f135=some Extern.MathFloatBits.float64frombits:=by kernel_rfl
theorem from_run (n:Nat) (w:World):(callFunc 135 #[.int .u64 n]).run Tryz.prog w=.ok (.value (.float .f64 n)) w:=by
 rw [run_callFunc_extern Tryz.func135 ff_name ff_body ff_next ff_find]
 rfl
theorem of_spec {k:Nat} (hk:k<18446744073709551616) (hw:Sat R Hs w):Gets Tryz.prog 98 #[.int .u64 k] w fun v w'=>v=.float .f64 (ofF k)∧Sat R Hs w':=by
 apply call98
 have e1:bitI BinOp.and IntKind.u64 (k:Int) 9223372036854775808=((k &&& 9223372036854775808:Nat):Int):=andU64 (y:=9223372036854775808) hk (by decide)
 unfold B98
 rw [e1,and_top hk]
 refine Br.mk (fun h=>?_) (fun h=>?_)
 ·rw [not_u64 hk]
  refine ⟨_,w,from_run _ w,_,rfl,?_,hw⟩
  unfold ofF
  split at h
  ·rename_i h1;rw [if_neg (by omega)]
  ·simp at h
 ·have h1:¬ k<9223372036854775808:=by
   intro h1
   rw [if_pos h1] at h
   simp at h
  have e2:=andnot_top hk (by omega)
  rw [e2]
  refine ⟨_,w,from_run _ w,_,rfl,?_,hw⟩
  unfold ofF
  rw [if_pos (by omega)]
theorem cmpF_lt (t1 t2:Operand) (T:TypeId) (x y:Nat) (w:World):((do eqGuard BinOp.lss T t1 t2 (.float .f64 x) (.float .f64 y);binOp BinOp.lss T (.float .f64 x) (.float .f64 y):Sem Value)).run Tryz.prog w=.ok (.bool (double.order x y==some .lt)) w:=by
 simp [eqGuard,binOp,Op.floatCmp,FloatKind.format]
theorem nan_spec {x:Nat} (hw:Sat R Hs w):Gets Tryz.prog 179 #[.float .f64 x] w fun v w'=>v=.bool (nanF x)∧Sat R Hs w':=by
 apply call179
 refine ⟨_,fun w' _=>cmp_ne _ _ _ _ _ w',?_,hw⟩
 have h:=ord_self x
 rw [bne,h,Bool.not_not]
theorem compareF_spec {x y:Nat} (hw:Sat R Hs w):Gets Tryz.prog 168 #[.float .f64 x,.float .f64 y] w fun v w'=>v=.int .i64 (rankF x y)∧Sat R Hs w':=by
 apply call168
 refine (nan_spec hw).use ?_
 clear hw
 rintro _ w ⟨rfl,hw⟩
 refine ⟨_,rfl,?_⟩
 refine (nan_spec hw).use ?_
 clear hw
 rintro _ w ⟨rfl,hw⟩
 refine ⟨_,rfl,?_⟩
 unfold rankF
 refine Br.mk (fun hx=>?_) (fun hx=>?_)
 ·refine Br.mk (fun hy=>⟨?_,hw⟩) (fun hy=>⟨?_,hw⟩)
  ·rw [kv_nan hx,kv_nan hy,if_neg (by omega),if_pos rfl]
  ·have:=kv_bd hy
   rw [kv_nan hx,if_pos (by omega)]
 ·refine Br.mk (fun hy=>⟨?_,hw⟩) (fun hy=>?_)
  ·have:=kv_bd hx
   rw [kv_nan hy,if_neg (by omega),if_neg (by omega)]
  ·obtain ⟨o1,o2,o3⟩:=ord_lt hx hy
   refine ⟨_,fun w' _=>cmpF_lt _ _ _ _ _ w',?_⟩
   rw [o1]
   refine Br.d (fun h=>⟨by rw [if_pos h],hw⟩) (fun h=>?_)
   refine ⟨_,fun w' _=>cmp_gt _ _ _ _ _ w',?_⟩
   rw [o3]
   refine Br.d (fun h2=>⟨by rw [if_neg h,if_neg (by omega)],hw⟩) (fun h2=>⟨by rw [if_neg h,if_pos (by omega)],hw⟩)
theorem rank_spec {x y:Nat} (hw:Sat R Hs w):Gets Tryz.prog 147 #[.float .f64 x,.float .f64 y] w fun v w'=>v=.int .i64 (rankF x y)∧Sat R Hs w':=by
 apply call147
 refine (compareF_spec hw).use ?_
 rintro _ w ⟨rfl,hw⟩
 exact ⟨_,rfl,rfl,hw⟩
def cmpI (x y:Int):Int:=if x<y then -1 else if y<x then 1 else 0
theorem compareI_spec {x y:Int} (hw:Sat R Hs w):Gets Tryz.prog 148 #[.int .i64 x,.int .i64 y] w fun v w'=>v=.int .i64 (cmpI x y)∧Sat R Hs w':=by
 apply call148
 have nan:∀ {z:Int} {w:World},Sat R Hs w→Gets Tryz.prog 165 #[.int .i64 z] w fun v w'=>v=.bool false∧Sat R Hs w':=fun {z w} hw=>by
  apply call165
  exact ⟨by simp,hw⟩
 refine (nan hw).use ?_
 clear hw
 rintro _ w ⟨rfl,hw⟩
 refine ⟨_,rfl,?_⟩
 refine (nan hw).use ?_
 clear hw
 rintro _ w ⟨rfl,hw⟩
 refine ⟨_,rfl,Br.f rfl (Br.f rfl ?_)⟩
 unfold cmpI
 refine Br.d (fun h=>⟨by rw [if_pos h],hw⟩) (fun h=>Br.d (fun h2=>⟨by rw [if_neg h,if_pos (by omega)],hw⟩) (fun h2=>⟨by rw [if_neg h,if_neg (by omega)],hw⟩))
end Go.Proofs.YtflgboncpbmikaaGreatDoor
/- Package booking: a writer. Condition: bounds on lengths. -/
namespace Go.Proofs.YtflgboncpbmikaaGreatDoor
set_option linter.unusedVariables false
set_option linter.unusedSimpArgs false
open Go Go.VC
variable {R:Cx} {Hs Rest:List HP} {w:World}
abbrev wrp (p:Nat) (s:Sl):HP:=pts p (.cells [.slice s.a s.len s.cap].toArray 113 (0,0))
def WrB (p:Nat) (bs:List Int):HP:=exs fun s:Sl=>Star [wrp p s,Own s 5 (b8 bs)]
theorem Sat.wrB {p:Nat} {bs:List Int}:Sat R (WrB p bs::Hs) w↔∃ s:Sl,Sat R (wrp p s::Own s 5 (b8 bs)::Hs) w:=by
 unfold WrB
 rw [Sat.exs]
 exact ⟨fun ⟨s,h⟩=>⟨s,Sat.star.1 h⟩,fun ⟨s,h⟩=>⟨s,Sat.star.2 h⟩⟩
theorem nn_bd {n:Int} (h:n<9223372036854775808):0≤nn n∧nn n<9223372036854775808:=by unfold nn;omega
theorem nn_if (n:Int):(if 0>n then 0 else n)=nn n:=by unfold nn;split<;>omega
theorem wnums_spec {p:Nat} {s:Sl} {xs bs:List Int} (hxs:∀ x∈xs,x<9223372036854775808) (hl:bs.length + 9 * xs.length≤1099511627776) (hs:RoI R s xs) (hw:Sat R (WrB p bs::Hs) w):
  Gets Tryz.prog 56 #[.pointer (some ⟨p,0,none⟩),.slice s.a s.len s.cap] w fun v w'=>v=.tuple #[]∧Sat R (WrB p (bs++numsB (xs.map nn))::Hs) w':=by
 have hlen:=hs.len
 apply call56
 refine ⟨fun i w=>∃ k:Nat,i=k∧k≤xs.length∧Sat R (WrB p (bs++numsB ((xs.take k).map nn))::Hs) w,fun i _=>xs.length - i.toNat,⟨0,rfl,by omega,by simpa [numsB] using hw⟩,?_⟩
 clear hw
 rintro _ _ w ⟨k,rfl,hk,hw⟩
 refine Br.d (fun h=>?_) (fun h=>?_)
 ·have hkx:k<xs.length:=by omega
  have hx:=nn_bd (hxs xs[k] (List.getElem_mem _))
  have hxt:∀ x∈(xs.take k).map nn,0≤x∧x<18446744073709551616:=fun x hx=>by
   obtain ⟨y,hy,rfl⟩:=List.mem_map.1 hx
   have:=nn_bd (hxs y (List.mem_of_mem_take hy));omega
  have hnl:=numsB_len hxt
  rw [List.length_map,List.length_take] at hnl
  refine Ro.ix hs (eqS hw) k rfl hkx ?_
  obtain ⟨s0,hw⟩:=Sat.wrB.1 hw
  refine drw_ruleT hw fun w hw=>?_
  refine NilP.mk rfl ⟨s0,At.own selfS (by exact ⟨rfl,trivial⟩),?_⟩
  rw [nn_if]
  obtain ⟨n,hn⟩:=Int.eq_ofNat_of_zero_le hx.1
  rw [hn,wrapU64 (by omega) (by omega)]
  refine (number_spec (by omega) hw).use ?_
  rintro _ w ⟨t,rfl,hw⟩
  refine ⟨t,rfl,hw.absorb,?_⟩
  have hw:Sat R (Own s0 5 (b8 (bs++numsB ((xs.take k).map nn)))::Own t 5 (b8 (numB n))::wrp p s0::VC.tru::Hs) w:=hw.arr
  have hnb:=numB_len (n:=n) (by omega)
  refine appendOO elB8 (s:=s0) (n:=1099511627790) Tryz.underlying22 hw (by rw [List.length_append];omega) (by omega) (by omega) fun s2 w hw=>?_
  have hw:Sat R (wrp p s0::Own s2 5 (b8 (bs++numsB ((xs.take k).map nn)++numB n))::Hs) w:=by
   have h:Sat R (Own t 5 (b8 (numB n))::VC.tru::wrp p s0::Own s2 5 (b8 (bs++numsB ((xs.take k).map nn)++numB n))::Hs) w:=hw.arr
   exact h.drop.drop
  refine NilP.mk rfl ?_
  refine store_rule hw (by kernel_rfl) rfl (by simp [Value.cells]) fun w hw=>?_
  have hw:=hw.re (wrp p s2)
  rw [wrap64 (by omega) (by omega)]
  refine ⟨⟨k + 1,by omega,by omega,Sat.wrB.2 ⟨s2,?_⟩⟩,by dsimp only;omega⟩
  have e:(xs.take (k + 1)).map nn=(xs.take k).map nn++[nn xs[k]]:=by rw [List.take_add_one,List.getElem?_eq_getElem hkx,List.map_append];rfl
  rw [e,numsB_app,show numsB [nn xs[k]]=numB (nn xs[k]).toNat by simp [numsB],hn,Int.toNat_natCast,←List.append_assoc]
  exact hw
 ·have:k=xs.length:=by omega
  subst this
  rw [List.take_length] at hw
  exact ⟨rfl,hw⟩
theorem wtext_spec {p:Nat} {s:Sl} {d bs:List Int} (hl:bs.length + d.length≤1099511627776) (hd:d.length≤1099511627776) (hs:Ro R s (b8 d)) (hw:Sat R (WrB p bs::Hs) w):
  Gets Tryz.prog 58 #[.pointer (some ⟨p,0,none⟩),.slice s.a s.len s.cap] w fun v w'=>v=.tuple #[]∧Sat R (WrB p (bs++textB d)::Hs) w':=by
 apply call58
 obtain ⟨s0,hw⟩:=Sat.wrB.1 hw
 refine drw_ruleT hw fun w hw=>?_
 refine NilP.mk rfl ⟨s0,At.own selfS (by exact ⟨rfl,trivial⟩),?_⟩
 refine (ftext_spec hs hd hw).use ?_
 rintro _ w ⟨t,rfl,hw⟩
 refine ⟨t,rfl,hw.absorb,?_⟩
 have hw:Sat R (Own s0 5 (b8 bs)::Own t 5 (b8 (textB d))::wrp p s0::VC.tru::Hs) w:=hw.arr
 have hnb:=numB_len (n:=d.length) (by omega)
 have htl:(textB d).length≤d.length + 9:=by unfold textB;rw [List.length_append];omega
 refine appendOO elB8 (s:=s0) (n:=1099511627800) Tryz.underlying22 hw (by omega) (by omega) (by omega) fun s2 w hw=>?_
 have hw:Sat R (wrp p s0::Own s2 5 (b8 (bs++textB d))::Hs) w:=by
  have h:Sat R (Own t 5 (b8 (textB d))::VC.tru::wrp p s0::Own s2 5 (b8 (bs++textB d))::Hs) w:=hw.arr
  exact h.drop.drop
 refine NilP.mk rfl ?_
 refine store_rule hw (by kernel_rfl) rfl (by simp [Value.cells]) fun w hw=>?_
 have hw:=hw.re (wrp p s2)
 exact ⟨rfl,Sat.wrB.2 ⟨s2,hw⟩⟩
end Go.Proofs.YtflgboncpbmikaaGreatDoor
/- Package booking: whether a command may be. Condition: bounds on lengths. -/
namespace Go.Proofs.YtflgboncpbmikaaGreatDoor
set_option linter.unusedVariables false
set_option linter.unusedSimpArgs false
open Go Go.VC
open Classical
variable {R:Cx} {Hs Rest:List HP} {w:World}
abbrev cmV (c:Cm) (sg sp:Sl):List Value:=[.int .i64 c.kind,.string c.pnr,.int .i64 c.flt,.int .i64 c.cls,.int .i64 c.many,.int .i64 c.time,.float .f64 c.sc,.string c.lab,.int .i64 c.rows,.slice sg.a sg.len sg.cap,.slice sp.a sp.len sp.cap]
abbrev cmC (b:Nat) (c:Cm) (sg sp:Sl):HP:=pts b (.cells (cmV c sg sp).toArray 96 (0,0))
theorem right_iff {c:Cm}:RightC c↔(∀ n∈[c.flt,c.cls,c.many,c.rows]++c.grps,numOk n)∧(c.pnr.size≤16∧c.lab.size≤16)∧(c.grps.length≤16∧c.parts.length≤16)∧1≤c.kind∧c.kind≤9∧0≤c.time∧c.time≤1099511627776:=by
 constructor
 ·intro h
  refine ⟨fun n hn=>?_,⟨h.pnr,h.lab⟩,⟨h.gl,h.pl⟩,h.kind.1,h.kind.2,h.time.1,h.time.2⟩
  simp only [List.cons_append,List.nil_append,List.mem_cons] at hn
  rcases hn with rfl|rfl|rfl|rfl|hn
  ·exact h.flt
  ·exact h.cls
  ·exact h.many
  ·exact h.rows
  ·exact h.grps n hn
 ·rintro ⟨h1,⟨h2,h3⟩,⟨h4,h5⟩,h6,h7,h8,h9⟩
  exact ⟨h1 _ (by simp),h1 _ (by simp),h1 _ (by simp),h1 _ (by simp),fun n hn=>h1 n (by simp [hn]),h2,h3,h4,h5,⟨h6,h7⟩,h8,h9⟩
theorem bodd_spec {n:Int}:Gets Tryz.prog 73 #[.int .i64 n] w fun v w'=>v=.bool (decide (n<0∨n>9999))∧w'=w:=by
 apply call73
 refine Br.d (fun h=>⟨by rw [decide_eq_true (by omega)],rfl⟩) (fun h=>⟨?_,rfl⟩)
 congr 1
 exact decide_eq_decide.2 (by omega)
set_option maxHeartbeats 400000 in
theorem bright_spec {c:Cm} {sg sp:Sl} (hg:RoI R sg c.grps) (hgl:c.grps.length≤17592186043904) (hp:sp.len=c.parts.length) (hw:Sat R Hs w):
  Gets Tryz.prog 46 #[.agg #[.int .i64 c.kind,.string c.pnr,.int .i64 c.flt,.int .i64 c.cls,.int .i64 c.many,.int .i64 c.time,.float .f64 c.sc,.string c.lab,.int .i64 c.rows,.slice sg.a sg.len sg.cap,.slice sp.a sp.len sp.cap]] w fun v w'=>v=.bool (decide (RightC c))∧Sat R Hs w':=by
 have hglen:=hg.len
 apply call46
 refine new_rule hw fun b w hw=>?_
 have hw:Sat R (cmC b c sg sp::Hs) w:=hw
 repeat (first|refine NilP.mk rfl ?_|refine ⟨_,At.own selfS (by exact ⟨rfl,trivial⟩),?_⟩|refine ⟨_,At.own (eqS hw) (by exact ⟨rfl,trivial⟩),?_⟩|refine ⟨_,(by rw [add_off];exact At.own selfS (by exact ⟨rfl,trivial⟩)),?_⟩|refine ⟨_,(by rw [add_off];exact At.own (eqS hw) (by exact ⟨rfl,trivial⟩)),?_⟩)
 refine new_rule hw fun b2 w hw=>?_
 have hw:Sat R (Own ⟨some ⟨b2,0,none⟩,4,4⟩ 3 (intsI [c.flt,c.cls,c.many,c.rows])::cmC b c sg sp::Hs) w:=own_lit hw
 refine ⟨sg,At.own (eqS hw) (by exact ⟨rfl,trivial⟩),?_⟩
 refine appendRI (n:=17592186044416) (s:=⟨some ⟨b2,0,none⟩,4,4⟩) (ty:=68) elI8 Tryz.underlying68 hw hg (by simp;omega) (by omega) (by omega) fun t w hw=>?_
 obtain ⟨L,hL⟩:∃ L,L=[c.flt,c.cls,c.many,c.rows]++c.grps:=⟨_,rfl⟩
 have hLl:L.length=4 + c.grps.length:=by rw [hL];simp;omega
 rw [←hL] at hw
 have htl:t.len=L.length:=by have:=Own.len hw;simpa using this
 refine ⟨fun i w=>∃ k:Nat,i=k∧k≤L.length∧(∀ n∈L.take k,numOk n)∧Sat R (Own t 3 (intsI L)::cmC b c sg sp::Hs) w,fun i _=>L.length - i.toNat,⟨0,rfl,by omega,by simp,hw⟩,?_⟩
 clear hw
 rintro _ _ w ⟨k,rfl,hk,hok,hw⟩
 have no:¬ RightC c→∀ {w},Sat R (Own t 3 (intsI L)::cmC b c sg sp::Hs) w→(Value.bool false=.bool (decide (RightC c))∧Sat R Hs w):=fun h w hw=>⟨by rw [decide_eq_false h],hw.drop.drop⟩
 refine Br.d (fun h=>?_) (fun h=>?_)
 ·have hkx:k<L.length:=by omega
  refine Own.ix hw (eqS hw) k rfl hkx ?_
  refine bodd_spec.use ?_
  rintro _ w2 ⟨rfl,rfl⟩
  refine ⟨_,rfl,Br.mk (fun h2=>no (fun hr=>?_) hw) (fun h2=>?_)⟩
  ·have h3:=(right_iff.1 hr).1 L[k] (by rw [←hL];exact List.getElem_mem hkx)
   have h4:=of_decide_eq_true h2
   unfold numOk at h3
   omega
  ·rw [wrap64 (by omega) (by omega)]
   refine ⟨⟨k + 1,by omega,by omega,fun n hn=>?_,hw⟩,by dsimp only;omega⟩
   rw [List.take_add_one,List.getElem?_eq_getElem hkx] at hn
   rcases List.mem_append.1 hn with hn|hn
   ·exact hok n hn
   ·rw [show n=L[k] by simpa using hn]
    have h4:=of_decide_eq_false h2
    unfold numOk
    omega
 ·have hall:∀ n∈L,numOk n:=by rw [List.take_of_length_le (by omega)] at hok;exact hok
  refine ⟨fun t6 w=>t6=decide (c.pnr.size≤16∧c.lab.size≤16)∧Sat R (Own t 3 (intsI L)::cmC b c sg sp::Hs) w,⟨c.pnr,At.own (eqS hw) (by exact ⟨rfl,trivial⟩),Br.d (fun h=>?_) (fun h=>?_)⟩,?_⟩
  ·refine ⟨c.lab,At.own (eqS hw) (by exact ⟨rfl,trivial⟩),?_,hw⟩
   exact decide_eq_decide.2 (by omega)
  ·exact ⟨by rw [decide_eq_false (by omega)],hw⟩
  clear hw
  rintro _ _ w ⟨rfl,hw⟩
  refine ⟨fun t7 w=>t7=decide (c.grps.length≤16∧c.parts.length≤16)∧Sat R (Own t 3 (intsI L)::cmC b c sg sp::Hs) w,⟨sg,At.own (eqS hw) (by exact ⟨rfl,trivial⟩),Br.d (fun h=>?_) (fun h=>?_)⟩,?_⟩
  ·refine ⟨sp,At.own (eqS hw) (by exact ⟨rfl,trivial⟩),?_,hw⟩
   exact decide_eq_decide.2 (by omega)
  ·exact ⟨by rw [decide_eq_false (by omega)],hw⟩
  clear hw
  rintro _ _ w ⟨rfl,hw⟩
  have no2:¬ RightC c→(Value.bool false=.bool (decide (RightC c))∧Sat R Hs w):=fun h=>no h hw
  refine Br.d (fun h1=>?_) (fun h1=>no2 fun hr=>h1 (right_iff.1 hr).2.1)
  refine Br.d (fun h2=>?_) (fun h2=>no2 fun hr=>h2 (right_iff.1 hr).2.2.1)
  refine ⟨c.kind,At.own (eqS hw) (by exact ⟨rfl,trivial⟩),Br.d (fun h3=>?_) (fun h3=>no2 fun hr=>h3 (right_iff.1 hr).2.2.2.1)⟩
  refine ⟨c.kind,At.own (eqS hw) (by exact ⟨rfl,trivial⟩),Br.d (fun h4=>?_) (fun h4=>no2 fun hr=>h4 (right_iff.1 hr).2.2.2.2.1)⟩
  refine ⟨c.time,At.own (eqS hw) (by exact ⟨rfl,trivial⟩),Br.d (fun h5=>?_) (fun h5=>no2 fun hr=>h5 (right_iff.1 hr).2.2.2.2.2.1)⟩
  refine ⟨c.time,At.own (eqS hw) (by exact ⟨rfl,trivial⟩),?_,hw.drop.drop⟩
  congr 1
  refine decide_eq_decide.2 ?_
  rw [right_iff,←hL]
  exact ⟨fun h6=>⟨hall,h1,h2,h3,h4,h5,h6⟩,fun h6=>h6.2.2.2.2.2.2⟩
end Go.Proofs.YtflgboncpbmikaaGreatDoor
/- Package booking: a writer's steps, as Encode and Answer take them. Condition: bounds on lengths. -/
namespace Go.Proofs.YtflgboncpbmikaaGreatDoor
set_option linter.unusedVariables false
set_option linter.unusedSimpArgs false
open Go Go.VC
variable {R:Cx} {Hs Rest:List HP} {w:World}
theorem wlit_spec {p b n:Nat} {xs bs:List Int} (hn:n=xs.length) (hxs:∀ x∈xs,x<9223372036854775808) (hl:bs.length + 9 * xs.length≤1099511627776) (hw:Sat R (pts b (.cells (intsI xs).toArray 3 (0,0))::WrB p bs::Hs) w):
  Gets Tryz.prog 56 #[.pointer (some ⟨p,0,none⟩),.slice (some ⟨b,0,none⟩) n n] w fun v w'=>v=.tuple #[]∧Sat R (WrB p (bs++numsB (xs.map nn))::Hs) w':=by
 have hw:Sat R (Own ⟨some ⟨b,0,none⟩,n,n⟩ 3 (intsI xs)::WrB p bs::Hs) w:=own_lit hw (by rw [List.length_map];exact hn)
 obtain ⟨R',hr,_,hw,back⟩:=Own.lendI hw (by omega)
 refine (wnums_spec hxs hl hr hw).use ?_
 rintro _ w ⟨rfl,hw⟩
 exact ⟨_,rfl,rfl,(back hw).drop⟩
theorem wstr_rule {p:Nat} {s:ByteArray} {bs:List Int} {K:World→Prop} (hl:bs.length + s.size≤1099511627776) (hw:Sat R (WrB p bs::Hs) w) (k:∀ w',Sat R (WrB p (bs++strB s)::Hs) w'→K w'):
  ∃ w_1:World,∃ t:Sl,((convert 9 22 (.string s)).run Tryz.prog w=.ok (.slice t.a t.len t.cap) w_1)∧
   Calls Tryz.prog 58 #[.pointer (some ⟨p,0,none⟩),.slice t.a t.len t.cap] w_1 fun e w_2=>(e=.returned (.tuple #[]))∧K w_2:=by
 refine convB_rule Tryz.underlying9 Tryz.underlying22 Tryz.underlying5 hw fun t w hw=>?_
 have hsz:=bytesL_len s
 obtain ⟨R',hr,_,hw,back⟩:=Own.lend hw (by rw [List.length_map];omega)
 refine (wtext_spec (by omega) (by omega) hr hw).use ?_
 rintro _ w ⟨rfl,hw⟩
 exact ⟨rfl,k _ (back hw).drop⟩
end Go.Proofs.YtflgboncpbmikaaGreatDoor
/- Package booking: Encode. Condition: bounds on lengths; words. -/
namespace Go.Proofs.YtflgboncpbmikaaGreatDoor
set_option linter.unusedVariables false
set_option linter.unusedSimpArgs false
open Go Go.VC
open Classical
variable {R:Cx} {Hs Rest:List HP} {w:World}
theorem strB_len {s:ByteArray} (h:s.size≤100000):(strB s).length≤s.size + 9:=by
 have:=textB_len (d:=bytesL s) (by rw [bytesL_len];omega)
 rw [bytesL_len] at this
 exact this
theorem numsB_sp (a:Int) (l:List Int):numsB (a::l)=numsB [a]++numsB l:=numsB_one a l
theorem nn1 {a:Int} (h:0≤a):numsB ([a].map nn)=numsB [a]:=by
 show numsB [nn a]=_
 rw [nn_id h]
theorem wlist_spec {p:Nat} {s:Sl} {xs bs:List Int} (hxs:∀ x∈xs,x<9223372036854775808) (hx:xs.length≤100000) (hl:bs.length≤1000000) (hs:RoI R s xs) (hw:Sat R (WrB p bs::Hs) w):
  Gets Tryz.prog 72 #[.pointer (some ⟨p,0,none⟩),.slice s.a s.len s.cap] w fun v w'=>v=.tuple #[]∧Sat R (WrB p (bs++numsB [(xs.length:Int)]++numsB (xs.map nn))::Hs) w':=by
 have hlen:=hs.len
 have l1:=nums1_len (x:=(xs.length:Int)) (by omega)
 apply call72
 refine new_rule hw fun b w hw=>?_
 refine (wlit_spec (xs:=[(s.len:Int)]) rfl (by simp;omega) (by simp only [List.length_cons,List.length_nil];omega) hw).use ?_
 clear hw
 rintro _ w ⟨rfl,hw⟩
 refine ⟨rfl,?_⟩
 rw [nn1 (by omega),show ((s.len:Nat):Int)=(xs.length:Int) by omega] at hw
 refine (wnums_spec hxs (by simp only [List.length_append];omega) hs hw).use ?_
 rintro _ w ⟨rfl,hw⟩
 exact ⟨rfl,rfl,hw⟩
end Go.Proofs.YtflgboncpbmikaaGreatDoor
