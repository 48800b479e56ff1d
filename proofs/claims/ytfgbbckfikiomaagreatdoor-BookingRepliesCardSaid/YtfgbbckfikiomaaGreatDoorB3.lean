/- Package field: bytes with their length; a reader's Text. Condition: bounds on lengths. -/
import Derived.Test.YtfgbbckfikiomaaGreatDoorB2
import Derived.Test.YtfgbbckfikiomaaGreatDoorB1
import Derived.ProofKit
import Derived.OpenShut
import Derived.ShutString
import Derived.ChangeOld
import Derived.Below
import Derived.Lib.SmallJoins
namespace Go.Proofs.YtfgbbckfikiomaaGreatDoor
set_option linter.unusedVariables false
open Go Go.VC
variable {R:Cx} {Hs Rest:List HP} {w:World}
theorem ftext_spec {s:Sl} {bs:List Int} (hs:Ro R s (b8 bs)) (hl:bs.length≤1099511627776) (hw:Sat R Hs w):
  Gets Tryz.prog 124 #[.slice s.a s.len s.cap] w fun v w'=>∃ t:Sl,v=.slice t.a t.len t.cap∧Sat R (Own t 5 (b8 (textB bs))::Hs) w':=by
 have hlen:s.len=bs.length:=by have:=hs.len;simpa using this
 apply call124
 unfold B124
 rw [wrapU64 (by omega) (by omega),hlen]
 refine (number_spec (by omega) hw).use ?_
 rintro _ w ⟨t,rfl,hw⟩
 refine ⟨t,rfl,?_⟩
 rw [←hlen]
 have hn:=numB_len (n:=bs.length) (by omega)
 have hsrc:Src Tryz.prog 1 42 (.slice s.a s.len s.cap) bs.length (b8 bs) w:=by
  have:=srcRo Tryz.underlying42 hw hs (one_b8 _)
  simpa using this
 refine append_rule elB8 (s:=t) hw hsrc (one_b8 _) (by rw [List.length_map];omega) (by rw [List.length_map];omega) fun s2 w hw=>?_
 exact ⟨s2,rfl,by simpa [b8,textB] using hw⟩
theorem text1_spec {h:Heap} {l bm bo:Nat} {s:Sl} {bs:List Int} {most:Int} (hm:most<9223372036854775808) (hl:bs.length≤1099511627776) (hb:∀ x∈bs,0≤x∧x<256) (hsub:∀ b o,h b=some o→R.m b=some o) (hr:SlR h s (b8 bs))
  (hw:Sat R (lp l s::lp bo ⟨none,0,0⟩::pts bm (.cells [.int .i64 most].toArray 3 (0,0))::Hs) w):
  GetsX Tryz.prog 165 #[.pointer (some ⟨l,0,none⟩),.pointer (some ⟨bm,0,none⟩),.pointer (some ⟨bo,0,none⟩)] w
   (fun ch w'=>ch=amissP∧(∀ n k,parse bs=some (n,false,k)→¬ (0≤most∧n≤most∧n≤(bs.length:Int) - k))∧∃ s',Sat R (lp l s'::lp bo ⟨none,0,0⟩::pts bm (.cells [.int .i64 most].toArray 3 (0,0))::Hs) w')
   (fun v w'=>v=.tuple #[]∧∃ n k s' t,parse bs=some (n,false,k)∧(0≤most∧n≤most∧n≤(bs.length:Int) - k)∧SlR h s' (b8 (bs.drop (k + n.toNat)))∧
    Sat R (lp l s'::lp bo t::Own t 5 (b8 ((bs.drop k).take n.toNat))::pts bm (.cells [.int .i64 most].toArray 3 (0,0))::Hs) w'):=by
 apply call165
 refine (fsize_spec hb hsub hr hw).use ?_ ?_
 rotate_left
 ·rintro _ w ⟨hp,rfl,s',hw⟩
  refine .inr ⟨_,rfl,rfl,?_,s',hw⟩
  intro n k h;rw [hp] at h;cases h
 rintro _ w ⟨n,neg,k,s',hp,rfl,hs',hw⟩
 obtain ⟨n0,n1,k0,k1,k2⟩:=parse_bd hb hp
 have no:(∀ n' k',parse bs=some (n',false,k')→¬ (0≤most∧n'≤most∧n'≤(bs.length:Int) - k'))→∀ {A:Prop} {e:Ending},(e=.panicked amissP)→(e=.returned (.tuple #[])∧A)∨∃ ch,e=.panicked ch∧ch=amissP∧(∀ n k,parse bs=some (n,false,k)→¬ (0≤most∧n≤most∧n≤(bs.length:Int) - k))∧∃ s',Sat R (lp l s'::lp bo ⟨none,0,0⟩::pts bm (.cells [.int .i64 most].toArray 3 (0,0))::Hs) w:=fun h A e he=>
  .inr ⟨_,he,rfl,h,s',hw⟩
 have same:∀ n' k',parse bs=some (n',false,k')→neg=false∧n'=n∧k'=k:=fun n' k' h=>by
  rw [hp] at h
  simp only [Option.some.injEq,Prod.mk.injEq] at h
  exact ⟨h.2.1,h.1.symm,h.2.2.symm⟩
 refine .inl ⟨n,neg,rfl,Br.nb (fun h=>?_) (fun h=>?_)⟩
 rotate_left
 ·refine must_c (fun h=>by cases h) (fun _=>no (fun n' k' h'=>?_) rfl)
  rw [(same n' k' h').1] at h;cases h
 subst h
 have hw2:Sat R (pts bm (.cells [.int .i64 most].toArray 3 (0,0))::lp l s'::lp bo ⟨none,0,0⟩::Hs) w:=hw.arr
 refine NilP.mk rfl ⟨most,At.own (eqS hw2) (by exact ⟨rfl,trivial⟩),Br.d (fun h1=>?_) (fun h1=>?_)⟩
 rotate_left
 ·refine must_c (fun h=>by cases h) (fun _=>no (fun n' k' h' h2=>by omega) rfl)
 refine NilP.mk rfl ⟨most,At.own (eqS hw2) (by exact ⟨rfl,trivial⟩),?_⟩
 rw [wrapU64 (by omega) (by omega)]
 refine Br.d (fun h2=>?_) (fun h2=>?_)
 rotate_left
 ·refine must_c (fun h=>by cases h) (fun _=>no (fun n' k' h' h3=>by have:=(same n' k' h').2.1;omega) rfl)
 have hsl:s'.len=bs.length - k:=by have:=hs'.len;simpa using this
 refine NilP.mk rfl ⟨s',At.own (eqS hw) (by exact ⟨rfl,trivial⟩),?_⟩
 rw [wrapU64 (by omega) (by omega),hsl]
 refine must_c (fun h3=>.inl ⟨rfl,?_⟩) (fun h3=>?_)
 rotate_left
 ·have h3:=of_decide_eq_false h3
  refine no (fun n' k' h' h4=>?_) rfl
  have:=same n' k' h'
  omega
 have h3:=of_decide_eq_true h3
 rw [wrap64 (by omega) (by omega)]
 obtain ⟨m,rfl⟩:=Int.eq_ofNat_of_zero_le n0
 have hm':SlR R.m s' (b8 (bs.drop k)):=hs'.mono hsub
 refine (take_spec (k:=m) hm' hw).use ?_ ?_
 rotate_left
 ·rintro _ w ⟨h4,_⟩
  simp at h4;omega
 rintro _ w ⟨_,rfl,hw⟩
 refine .inl ⟨⟨s'.a,m,s'.cap⟩,rfl,?_⟩
 have ht:SlR R.m ⟨s'.a,m,s'.cap⟩ (b8 ((bs.drop k).take m)):=by
  have:=hm'.take (k:=m) (by simp;omega)
  rwa [←List.map_take] at this
 refine (clone_spec (s:=⟨s'.a,m,s'.cap⟩) (ht.ro (by simp;omega)) (by simp;omega) hw).use ?_
 rintro _ w ⟨t,rfl,hw⟩
 refine .inl ⟨t,rfl,?_⟩
 have hw:Sat R (lp bo ⟨none,0,0⟩::Own t 5 (b8 ((bs.drop k).take m))::lp l (sdrop s' m)::pts bm (.cells [.int .i64 most].toArray 3 (0,0))::Hs) w:=hw.arr
 refine store_rule hw (by kernel_rfl) rfl (by simp [Value.cells]) fun w hw=>?_
 have hw:=hw.re (lp bo t)
 refine ⟨rfl,m,k,sdrop s' m,t,hp,⟨by omega,h2,by omega⟩,?_,?_⟩
 ·have:=hs'.drop (k:=m) (by simp;omega)
  rw [←List.map_drop,List.drop_drop] at this
  exact this
 ·rw [Int.toNat_natCast];exact hw.arr
theorem rtext_spec {r:Nat} {rd:Rd} {most:Int} (hm:most<9223372036854775808) (hl:rd.bs.length≤1099511627776) (hb:∀ x∈rd.bs,0≤x∧x<256) (hw:Sat R (RdAt r rd::Hs) w):
  Gets Tryz.prog 102 #[.pointer (some ⟨r,0,none⟩),.int .i64 most] w fun v w'=>∃ t:Sl,v=.slice t.a t.len t.cap∧Sat R (Own t 5 (b8 (rdText most rd).1)::RdAt r (rdText most rd).2::Hs) w':=by
 apply call102
 refine new_rule hw fun bm w hw=>new_rule hw fun bo w hw=>?_
 have hw:Sat R (RdAt r rd::lp bo ⟨none,0,0⟩::pts bm (.cells [.int .i64 most].toArray 3 (0,0))::Hs) w:=by
  have hw:Sat R (lp bo ⟨none,0,0⟩::pts bm (.cells [.int .i64 most].toArray 3 (0,0))::RdAt r rd::Hs) w:=hw
  exact hw.arr
 refine (reading_spec (α:=(Int × Nat) × Sl) (f:=fun y=>rd.bs.drop (y.1.2 + y.1.1.toNat)) (G:=fun y=>parse rd.bs=some (y.1.1,false,y.1.2)∧(0≤most∧y.1.1≤most∧y.1.1≤(rd.bs.length:Int) - y.1.2)) (N:=∀ n k,parse rd.bs=some (n,false,k)→¬ (0≤most∧n≤most∧n≤(rd.bs.length:Int) - k))
  (Hs1:=fun y=>lp bo y.2::Own y.2 5 (b8 ((rd.bs.drop y.1.2).take y.1.1.toNat))::pts bm (.cells [.int .i64 most].toArray 3 (0,0))::Hs)
  (Hs2:=lp bo ⟨none,0,0⟩::pts bm (.cells [.int .i64 most].toArray 3 (0,0))::Hs) hw ?_).use ?_
 ·intro _ x l s A B w hsub hs hw
  refine CalW.mk (by kernel_rfl) ?_
  have hw2:Sat (R.add x) (lp l s::lp bo ⟨none,0,0⟩::pts bm (.cells [.int .i64 most].toArray 3 (0,0))::A::B::Hs) w:=hw.arr
  refine (text1_spec (h:=x) hm hl hb hsub hs hw2).use ?_ ?_
  ·rintro _ w ⟨rfl,n,k,s',t,hp,hn,hs',hw⟩
   exact .inl ⟨rfl,((n,k),t),s',⟨hp,hn⟩,hs',hw.arr⟩
  ·rintro _ w ⟨rfl,hn,s',hw⟩
   exact .inr ⟨rfl,hn,s',hw.arr⟩
 ·rintro _ w ⟨rfl,h⟩
  refine ⟨rfl,?_⟩
  rcases h with ⟨hbad,hw⟩|⟨hbad,⟨⟨n,k⟩,t⟩,⟨hp,hn⟩,hw⟩|⟨hbad,hno,hw⟩
  ·have hw:Sat R (lp bo ⟨none,0,0⟩::RdAt r rd::pts bm (.cells [.int .i64 most].toArray 3 (0,0))::Hs) w:=hw.swap
   refine ⟨⟨none,0,0⟩,At.own (eqS hw) (by exact ⟨rfl,trivial⟩),?_⟩
   unfold rdText
   rw [if_pos hbad]
   exact ⟨_,rfl,Own.nil (hw.drop.cons fun _ h=>h.drop)⟩
  ·have hw:Sat R (lp bo t::Own t 5 (b8 ((rd.bs.drop k).take n.toNat))::RdAt r ⟨rd.bs.drop (k + n.toNat),false⟩::pts bm (.cells [.int .i64 most].toArray 3 (0,0))::Hs) w:=hw.arr
   refine ⟨t,At.own (eqS hw) (by exact ⟨rfl,trivial⟩),?_⟩
   unfold rdText
   rw [if_neg (by rw [hbad];simp),hp]
   simp only
   rw [if_pos ⟨trivial,hn⟩]
   exact ⟨_,rfl,hw.drop.cons fun _ h=>h.cons fun _ h=>h.drop⟩
  ·have hw:Sat R (lp bo ⟨none,0,0⟩::RdAt r ⟨rd.bs,true⟩::pts bm (.cells [.int .i64 most].toArray 3 (0,0))::Hs) w:=hw.swap
   refine ⟨⟨none,0,0⟩,At.own (eqS hw) (by exact ⟨rfl,trivial⟩),?_⟩
   have e:rdText most rd=([],⟨rd.bs,true⟩):=by
    unfold rdText
    rw [if_neg (by rw [hbad];simp)]
    cases hp:parse rd.bs with
    |none=>rfl
    |some p=>
     obtain ⟨n,neg,k⟩:=p
     simp only
     rw [if_neg]
     rintro ⟨rfl,h⟩
     exact hno n k hp h
   rw [e]
   exact ⟨_,rfl,Own.nil (hw.drop.cons fun _ h=>h.drop)⟩
theorem rdText_bd {most:Int} {rd:Rd} (hb:∀ x∈rd.bs,0≤x∧x<256):(∀ x∈(rdText most rd).1,0≤x∧x<256)∧(∀ x∈(rdText most rd).2.bs,0≤x∧x<256):=by
 unfold rdText
 split
 ·exact ⟨by simp,hb⟩
 ·split
  ·split
   ·exact ⟨fun x hx=>hb x (List.mem_of_mem_drop (List.mem_of_mem_take hx)),fun x hx=>hb x (List.mem_of_mem_drop hx)⟩
   ·exact ⟨by simp,hb⟩
  ·exact ⟨by simp,hb⟩
theorem rdText_len {most:Int} {rd:Rd}:(rdText most rd).1.length≤rd.bs.length∧(rdText most rd).2.bs.length≤rd.bs.length:=by
 unfold rdText
 split
 ·simp
 ·split
  ·split
   ·simp;omega
   ·simp
  ·simp
theorem rdNum_len {most:Int} {rd:Rd}:(rdNum most rd).2.bs.length≤rd.bs.length:=by
 unfold rdNum
 split
 ·simp
 ·split
  ·split
   ·simp
   ·simp
  ·simp
end Go.Proofs.YtfgbbckfikiomaaGreatDoor
/- Floats, plain, part 4: how any two stand to each other, by one integer each. No program. No condition. -/
namespace Go.VC
set_option linter.unusedVariables false
open Ieee
def bigF:Int:=2 ^ 2200
def valD:Datum→Option Int
 | .nan ..=>none
 | .infinity s=>some (if s then -bigF else bigF)
 | .number s m i=>some (signed s m (i + 1074).toNat)
def kvF (x:Nat):Int:=match valD (double.read x) with|none=>-bigF - 1|some v=>v
end Go.VC
/- Who waits, plainly: their order, putting in, taking out, the first that fits. No condition. -/
namespace Go.VC
set_option linter.unusedVariables false
def ofF (k:Nat):Nat:=if 9223372036854775808≤k then k - 9223372036854775808 else 18446744073709551615 - k
theorem of_lt {k:Nat} (h:k<18446744073709551616):ofF k<18446744073709551616:=by
 unfold ofF
 split<;>omega
structure Wt where
 id:Int
 cls:Int
 many:Int
 time:Int
 sc:Nat
deriving DecidableEq
def Wt.Ok (w:Wt):Prop:=(1≤w.id∧w.id≤28629151)∧(0≤w.cls∧w.cls≤7)∧(1≤w.many∧w.many≤600)∧(0≤w.time∧w.time≤1099511627776)
instance (w:Wt):Decidable w.Ok:=by unfold Wt.Ok;infer_instance
def Wt.ahead (a b:Wt):Bool:=if kvF a.sc=kvF b.sc then (if a.time=b.time then decide (a.id<b.id) else decide (a.time<b.time)) else decide (kvF b.sc<kvF a.sc)
theorem ahead_iff {a b:Wt}:a.ahead b=true↔kvF b.sc<kvF a.sc∨kvF a.sc=kvF b.sc∧(a.time<b.time∨a.time=b.time∧a.id<b.id):=by
 unfold Wt.ahead
 split
 ·split
  ·simp;omega
  ·simp;omega
 ·simp;omega
theorem ahead_trans {a b c:Wt} (h1:a.ahead b=true) (h2:b.ahead c=true):a.ahead c=true:=by
 rw [ahead_iff] at *;omega
theorem ahead_tot {a b:Wt} (h:a.id≠b.id) (h1:a.ahead b=false):b.ahead a=true:=by
 rw [ahead_iff]
 have:¬ a.ahead b=true:=by rw [h1];simp
 rw [ahead_iff] at this
 omega
def QSt (q:List Wt):Prop:=q.Pairwise fun a b=>a.ahead b=true
def QIds (q:List Wt):Prop:=q.Pairwise fun a b=>a.id≠b.id
structure QOk (q:List Wt):Prop where
 st:QSt q
 ids:QIds q
 ok:∀ w∈q,w.Ok
 fl:∀ w∈q,w.sc<18446744073709551616
 len:q.length≤200
theorem QOk.nil:QOk []:=⟨List.Pairwise.nil,List.Pairwise.nil,fun _ h=>(by cases h),fun _ h=>(by cases h),by simp⟩
def insQ (w:Wt) (q:List Wt):List Wt:=q.takeWhile (fun a=>a.ahead w)++w::q.dropWhile (fun a=>a.ahead w)
theorem insQ_cons (w a:Wt) (q:List Wt):insQ w (a::q)=if a.ahead w then a::insQ w q else w::a::q:=by
 unfold insQ
 rw [List.takeWhile_cons,List.dropWhile_cons]
 split<;>rfl
theorem insQ_mem {w x:Wt}:∀ {q:List Wt},x∈insQ w q↔x=w∨x∈q
 |[]=>by simp [insQ]
 |a::q=>by
  rw [insQ_cons]
  split
  ·rw [List.mem_cons,insQ_mem,List.mem_cons]
   constructor
   ·rintro (h|h|h)<;>simp [h]
   ·rintro (h|h|h)<;>simp [h]
  ·rw [List.mem_cons]
theorem insQ_len {w:Wt}:∀ {q:List Wt},(insQ w q).length=q.length + 1
 |[]=>rfl
 |a::q=>by
  rw [insQ_cons]
  split
  ·rw [List.length_cons,insQ_len,List.length_cons]
  ·rfl
theorem insQ_st {w:Wt}:∀ {q:List Wt},QSt q→(∀ x∈q,x.id≠w.id)→QSt (insQ w q)
 |[],_,_=>List.Pairwise.cons (fun _ h=>(by cases h)) List.Pairwise.nil
 |a::q,h,hid=>by
  have h1:=List.pairwise_cons.1 h
  rw [insQ_cons]
  split
  ·rename_i ha
   refine List.Pairwise.cons (fun x hx=>?_) (insQ_st h1.2 fun x hx=>hid x (by simp [hx]))
   rcases insQ_mem.1 hx with rfl|hx
   ·exact ha
   ·exact h1.1 x hx
  ·rename_i ha
   have hwa:w.ahead a=true:=ahead_tot (hid a (by simp)) (by simpa using ha)
   refine List.Pairwise.cons (fun x hx=>?_) h
   rcases List.mem_cons.1 hx with rfl|hx
   ·exact hwa
   ·exact ahead_trans hwa (h1.1 x hx)
theorem insQ_ids {w:Wt}:∀ {q:List Wt},QIds q→(∀ x∈q,x.id≠w.id)→QIds (insQ w q)
 |[],_,_=>List.Pairwise.cons (fun _ h=>(by cases h)) List.Pairwise.nil
 |a::q,h,hid=>by
  have h1:=List.pairwise_cons.1 h
  rw [insQ_cons]
  split
  ·refine List.Pairwise.cons (fun x hx=>?_) (insQ_ids h1.2 fun x hx=>hid x (by simp [hx]))
   rcases insQ_mem.1 hx with rfl|hx
   ·exact hid a (by simp)
   ·exact h1.1 x hx
  ·refine List.Pairwise.cons (fun x hx=>?_) h
   exact fun e=>hid x hx e.symm
def hasQ (id:Int) (q:List Wt):Bool:=q.any fun w=>decide (w.id=id)
def qadd (q:List Wt) (w:Wt):List Wt × Int:=
 if ¬ w.Ok then (q,1) else if hasQ w.id q then (q,7) else if 200≤q.length then (q,3) else (insQ w q,0)
def delQ (id:Int):List Wt→List Wt
 |[]=>[]
 |w::q=>if w.id=id then q else w::delQ id q
def qrem (q:List Wt) (id:Int):List Wt × Int:=if hasQ id q then (delQ id q,0) else (q,2)
theorem hasQ_no {id:Int} {q:List Wt}:hasQ id q=false↔∀ w∈q,w.id≠id:=by
 unfold hasQ
 simp
theorem delQ_sub {id:Int}:∀ {q:List Wt},(delQ id q).Sublist q
 |[]=>List.Sublist.refl _
 |w::q=>by
  show (if w.id=id then q else w::delQ id q).Sublist _
  split
  ·exact List.sublist_cons_self _ _
  ·exact delQ_sub.cons_cons _
theorem QOk.del {q:List Wt} (h:QOk q) (id:Int):QOk (delQ id q):=
 ⟨h.st.sublist delQ_sub,h.ids.sublist delQ_sub,fun w hw=>h.ok w (delQ_sub.subset hw),fun w hw=>h.fl w (delQ_sub.subset hw),Nat.le_trans delQ_sub.length_le h.len⟩
theorem QOk.rem {q:List Wt} (h:QOk q) (id:Int):QOk (qrem q id).1:=by
 unfold qrem
 split
 ·exact h.del id
 ·exact h
theorem QOk.ins {q:List Wt} (h:QOk q) {w:Wt} (hw:w.Ok) (hf:w.sc<18446744073709551616) (hn:hasQ w.id q=false) (hl:q.length<200):QOk (insQ w q):=by
 have hn':=hasQ_no.1 hn
 refine ⟨insQ_st h.st hn',insQ_ids h.ids hn',fun x hx=>?_,fun x hx=>?_,by rw [insQ_len];omega⟩
 ·rcases insQ_mem.1 hx with rfl|hx
  ·exact hw
  ·exact h.ok x hx
 ·rcases insQ_mem.1 hx with rfl|hx
  ·exact hf
  ·exact h.fl x hx
theorem QOk.add {q:List Wt} (h:QOk q) {w:Wt} (hf:w.sc<18446744073709551616):QOk (qadd q w).1:=by
 unfold qadd
 split
 ·exact h
 ·rename_i h1
  split
  ·exact h
  ·rename_i h2
   split
   ·exact h
   ·rename_i h3
    exact h.ins (by simpa using h1) hf (by simpa using h2) (by omega)
def fitsQ (left:List Int) (w:Wt):Bool:=decide (w.cls<left.length) && decide (w.many≤left.getD w.cls.toNat 0)
def qfirst (q:List Wt) (left:List Int):Option Wt:=q.find? (fitsQ left)
end Go.VC

/- Commands and replies as bytes, plainly: there and back. No condition. -/
namespace Go.Proofs.YtfgbbckfikiomaaGreatDoor
set_option linter.unusedVariables false
open Go Go.VC
def rdEach {α:Type} (one:Rd→α × Rd):Nat→Rd→List α × Rd
 |0,r=>([],r)
 |n + 1,r=>((one r).1::(rdEach one n (one r).2).1,(rdEach one n (one r).2).2)
theorem rdEach_succ {α:Type} (one:Rd→α × Rd) (n:Nat) (r:Rd):rdEach one (n + 1) r=((one r).1::(rdEach one n (one r).2).1,(rdEach one n (one r).2).2):=rfl
theorem rdEach_len {α:Type} (one:Rd→α × Rd):∀ (n:Nat) (r:Rd),(rdEach one n r).1.length=n
 |0,_=>rfl
 |n + 1,r=>by rw [rdEach_succ,List.length_cons,rdEach_len one n]
theorem rdEach_snoc {α:Type} (one:Rd→α × Rd):∀ (k:Nat) (r:Rd),rdEach one (k + 1) r=((rdEach one k r).1++[(one (rdEach one k r).2).1],(one (rdEach one k r).2).2)
 |0,_=>rfl
 |k + 1,r=>by
  rw [rdEach_succ,rdEach_snoc one k (one r).2]
  rfl
theorem rdEach_inv {α:Type} {one:Rd→α × Rd} {P:Rd→Prop} {Q:α→Prop} (h:∀ r,P r→Q (one r).1∧P (one r).2):∀ (n:Nat) {r:Rd},P r→(∀ x∈(rdEach one n r).1,Q x)∧P (rdEach one n r).2
 |0,_,hr=>⟨fun _ hx=>(by cases hx),hr⟩
 |n + 1,r,hr=>by
  have h1:=h r hr
  have h2:=rdEach_inv h n h1.2
  refine ⟨fun x hx=>?_,h2.2⟩
  rcases List.mem_cons.1 hx with rfl|hx
  ·exact h1.1
  ·exact h2.1 x hx
def Bytes (l:List Int):Prop:=∀ x∈l,0≤x∧x<256
def strRd (most:Int) (r:Rd):ByteArray × Rd:=(VC.strOf (rdText most r).1,(rdText most r).2)
def fltRd (r:Rd):Nat × Rd:=(ofF (rdNum 18446744073709551615 r).1.toNat,(rdNum 18446744073709551615 r).2)
def strB (s:ByteArray):List Int:=textB (bytesL s)
theorem strRd_bd {most:Int} {rd:Rd} (hb:Bytes rd.bs):Bytes (strRd most rd).2.bs:=(rdText_bd hb).2
theorem fltRd_bd {rd:Rd} (hb:Bytes rd.bs):Bytes (fltRd rd).2.bs:=rdNum_bd hb
theorem fltRd_lt {rd:Rd} (hb:Bytes rd.bs):(fltRd rd).1<18446744073709551616:=by
 have:=rdNum_val (most:=18446744073709551615) hb (by omega)
 exact of_lt (by omega)
structure Cm where
 kind:Int
 pnr:ByteArray
 flt:Int
 cls:Int
 many:Int
 time:Int
 sc:Nat
 lab:ByteArray
 rows:Int
 grps:List Int
 parts:List Nat
def numOk (n:Int):Prop:=0≤n∧n≤9999
structure RightC (c:Cm):Prop where
 flt:numOk c.flt
 cls:numOk c.cls
 many:numOk c.many
 rows:numOk c.rows
 grps:∀ n∈c.grps,numOk n
 pnr:c.pnr.size≤16
 lab:c.lab.size≤16
 gl:c.grps.length≤16
 pl:c.parts.length≤16
 kind:1≤c.kind∧c.kind≤9
 time:0≤c.time∧c.time≤1099511627776
structure FltC (c:Cm):Prop where
 sc:c.sc<18446744073709551616
 parts:∀ x∈c.parts,x<18446744073709551616
structure Rp where
 code:Int
 pnr:ByteArray
 state:Int
 flt:Int
 cls:Int
 many:Int
 time:Int
 left:List Int
 labs:List ByteArray
def nn (n:Int):Int:=max n 0
def rpB (r:Rp):List Int:=
 numsB [nn r.code]++(strB r.pnr++(numsB [nn r.state]++(numsB [nn r.flt]++(numsB [nn r.cls]++(numsB [nn r.many]++(numsB [nn r.time]++(numsB [(r.left.length:Int)]++(numsB (r.left.map nn)++(numsB [(r.labs.length:Int)]++(r.labs.map strB).flatten)))))))))
def rpRd (r:Rd):Rp × Rd:=
 let k:=rdNum 1099511627776 r
 let p:=strRd 16 k.2
 let s:=rdNum 1099511627776 p.2
 let f:=rdNum 1099511627776 s.2
 let c:=rdNum 1099511627776 f.2
 let m:=rdNum 1099511627776 c.2
 let t:=rdNum 1099511627776 m.2
 let n:=rdNum 8 t.2
 let g:=rdEach (rdNum 1099511627776) n.1.toNat n.2
 let q:=rdNum 600 g.2
 let x:=rdEach (strRd 16) q.1.toNat q.2
 (⟨k.1,p.1,s.1,f.1,c.1,m.1,t.1,g.1,x.1⟩,x.2)
structure RpIn (r:Rp):Prop where
 code:0≤r.code∧r.code≤1099511627776
 pnr:r.pnr.size≤16
 state:0≤r.state∧r.state≤1099511627776
 flt:0≤r.flt∧r.flt≤1099511627776
 cls:0≤r.cls∧r.cls≤1099511627776
 many:0≤r.many∧r.many≤1099511627776
 time:0≤r.time∧r.time≤1099511627776
 ll:r.left.length≤8
 left:∀ n∈r.left,0≤n∧n≤1099511627776
 bl:r.labs.length≤600
 labs:∀ s∈r.labs,s.size≤16
theorem nn_id {n:Int} (h:0≤n):nn n=n:=by unfold nn;omega
end Go.Proofs.YtfgbbckfikiomaaGreatDoor
/- Lists by keys. No condition. -/
namespace Go.VC
set_option linter.unusedVariables false
section
variable {α:Type} {k:α→Int}
def KRise (k:α→Int) (l:List α):Prop:=l.Pairwise fun a b=>k a<k b
def kget (k:α→Int) (n:Int) (l:List α):Option α:=l.find? fun x=>decide (k x=n)
def kset (k:α→Int) (n:Int) (f:α→α) (l:List α):List α:=l.map fun x=>if k x=n then f x else x
def kins (k:α→Int) (x:α) (l:List α):List α:=l.takeWhile (fun y=>decide (k y<k x))++x::l.dropWhile (fun y=>decide (k y<k x))
theorem kget_none {n:Int} {l:List α}:kget k n l=none↔∀ x∈l,k x≠n:=by
 unfold kget
 rw [List.find?_eq_none]
 simp
theorem mem_kset {n:Int} {f:α→α} {l:List α} {y:α}:y∈kset k n f l↔∃ x∈l,y=if k x=n then f x else x:=by
 unfold kset
 rw [List.mem_map]
 exact ⟨fun ⟨x,h1,h2⟩=>⟨x,h1,h2.symm⟩,fun ⟨x,h1,h2⟩=>⟨x,h1,h2.symm⟩⟩
theorem kset_len {n:Int} {f:α→α} {l:List α}:(kset k n f l).length=l.length:=List.length_map _
theorem kset_rise {n:Int} {f:α→α} {l:List α} (h:KRise k l) (hf:∀ x∈l,k x=n→k (f x)=n):KRise k (kset k n f l):=by
 unfold KRise kset
 rw [List.pairwise_map]
 refine List.Pairwise.imp_of_mem (fun {a b} ha hb hab=>?_) h
 have h1:k (if k a=n then f a else a)=k a:=by
  split
  ·rename_i e;rw [hf a ha e,e]
  ·rfl
 have h2:k (if k b=n then f b else b)=k b:=by
  split
  ·rename_i e;rw [hf b hb e,e]
  ·rfl
 rw [h1,h2]
 exact hab
theorem kins_cons (x a:α) (l:List α):kins k x (a::l)=if k a<k x then a::kins k x l else x::a::l:=by
 unfold kins
 rw [List.takeWhile_cons,List.dropWhile_cons]
 by_cases h:k a<k x
 ·rw [decide_eq_true h,if_pos h];rfl
 ·rw [decide_eq_false h,if_neg h];rfl
theorem kins_perm {x:α}:∀ {l:List α},(kins k x l).Perm (x::l)
 |[]=>List.Perm.refl _
 |a::l=>by
  rw [kins_cons]
  split
  ·exact (kins_perm.cons a).trans (List.Perm.swap x a l)
  ·exact List.Perm.refl _
theorem KRise.ne {l:List α} (h:KRise k l):l.Pairwise fun a b=>k a≠k b:=h.imp fun hab e=>by omega
end
end Go.VC

/- Who waits, as bytes: there and back; what Decode tells. No condition. -/
namespace Go.Proofs.YtfgbbckfikiomaaGreatDoor
set_option linter.unusedVariables false
open Go Go.VC
def wtRd (r:Rd):Wt × Rd:=
 let a:=rdNum 28629151 r
 let b:=rdNum 7 a.2
 let c:=rdNum 600 b.2
 let d:=rdNum 1099511627776 c.2
 let e:=fltRd d.2
 (⟨a.1,b.1,c.1,d.1,e.1⟩,e.2)
theorem wtRd_bd {r:Rd} (hb:Bytes r.bs):Bytes (wtRd r).2.bs:=fltRd_bd (rdNum_bd (rdNum_bd (rdNum_bd (rdNum_bd hb))))
theorem wtRd_fl {r:Rd} (hb:Bytes r.bs):(wtRd r).1.sc<18446744073709551616:=fltRd_lt (rdNum_bd (rdNum_bd (rdNum_bd (rdNum_bd hb))))
structure QRight (q:List Wt):Prop where
 st:QSt q
 ids:QIds q
 ok:∀ w∈q,w.Ok
theorem QRight.pre {a b:List Wt} (h:QRight (a++b)):QRight a:=
 ⟨(List.pairwise_append.1 h.st).1,(List.pairwise_append.1 h.ids).1,fun w hw=>h.ok w (by simp [hw])⟩
theorem QRight.nil:QRight []:=⟨List.Pairwise.nil,List.Pairwise.nil,fun _ h=>(by cases h)⟩
theorem QRight.snoc {q:List Wt} {w:Wt} (h:QRight q) (hw:w.Ok) (hi:∀ x∈q,x.id≠w.id) (ha:∀ x∈q,x.ahead w=true):QRight (q++[w]):=by
 refine ⟨List.pairwise_append.2 ⟨h.st,List.pairwise_singleton _ _,fun a ha' b hb=>?_⟩,List.pairwise_append.2 ⟨h.ids,List.pairwise_singleton _ _,fun a ha' b hb=>?_⟩,fun x hx=>?_⟩
 ·rw [List.mem_singleton.1 hb];exact ha a ha'
 ·rw [List.mem_singleton.1 hb];exact hi a ha'
 ·rcases List.mem_append.1 hx with hx|hx
  ·exact h.ok x hx
  ·rw [List.mem_singleton.1 hx];exact hw
theorem QRight.last {q:List Wt} {w:Wt} (h:QRight (q++[w])):w.Ok∧(∀ x∈q,x.id≠w.id)∧∀ x∈q,x.ahead w=true:=
 ⟨h.ok w (by simp),fun x hx=>(List.pairwise_append.1 h.ids).2.2 x hx w (by simp),fun x hx=>(List.pairwise_append.1 h.st).2.2 x hx w (by simp)⟩
def qRaw (bs:List Int):List Wt × Rd:=rdEach wtRd (rdNum 200 ⟨bs,false⟩).1.toNat (rdNum 200 ⟨bs,false⟩).2
def QDec (bs:List Int):Prop:=rdWhole (qRaw bs).2=true∧QRight (qRaw bs).1
theorem qRaw_bd {bs:List Int} (hb:Bytes bs):(∀ w∈(qRaw bs).1,w.sc<18446744073709551616)∧Bytes (qRaw bs).2.bs:=
 rdEach_inv (one:=wtRd) (P:=fun r=>Bytes r.bs) (Q:=fun w=>w.sc<18446744073709551616) (fun _ hr=>⟨wtRd_fl hr,wtRd_bd hr⟩) (rdNum 200 ⟨bs,false⟩).1.toNat (r:=(rdNum 200 ⟨bs,false⟩).2) (rdNum_bd (rd:=⟨bs,false⟩) hb)
theorem qRaw_len {bs:List Int} (hb:Bytes bs):(qRaw bs).1.length≤200:=by
 have:=rdNum_val (most:=200) (rd:=⟨bs,false⟩) hb (by omega)
 show (rdEach wtRd _ _).1.length≤200
 rw [rdEach_len]
 omega
theorem QDec.ok {bs:List Int} (hb:Bytes bs) (h:QDec bs):QOk (qRaw bs).1:=⟨h.2.st,h.2.ids,h.2.ok,(qRaw_bd hb).1,qRaw_len hb⟩
end Go.Proofs.YtfgbbckfikiomaaGreatDoor
/- Both flights side by side: fresh, awake, few, do, alike. Condition: bounds. -/
namespace Go.Proofs.YtfgbbckfikiomaaGreatDoor
set_option linter.unusedVariables false
open Go Go.VC
variable {R R':Cx} {Hs Rest:List HP} {w:World}
def PairAt (p q:Nat) (r:RF):HP:=exs fun f:PF=>Star [pur (Tie f r∧Good r),FlightAt p f,RFAt q r]
theorem Sat.pair {p q:Nat} {r:RF}:Sat R (PairAt p q r::Hs) w↔∃ f,(Tie f r∧Good r)∧Sat R (FlightAt p f::RFAt q r::Hs) w:=by
 unfold PairAt
 rw [Sat.exs]
 constructor
 ·rintro ⟨f,h⟩
  obtain ⟨h1,h2⟩:=Sat.pur.1 (Sat.star.1 h)
  exact ⟨f,h1,h2⟩
 ·rintro ⟨f,h1,h2⟩
  exact ⟨f,Sat.star.2 (Sat.pur.2 ⟨h1,h2⟩)⟩
theorem Good.hL {r:RF} (g:Good r):r.L.length≤1000000:=by have:=g.len.1;omega
structure StepL where
 d:Int
 owner:Int
 cls:Int
 many:Int
 label:ByteArray
end Go.Proofs.YtfgbbckfikiomaaGreatDoor
/- The program's flight alone, told by the document's; alike; how the laws begin. Condition: bounds. -/
namespace Go.Proofs.YtfgbbckfikiomaaGreatDoor
set_option linter.unusedVariables false
open Go Go.VC
variable {R R':Cx} {Hs Rest:List HP} {w:World}
def LoneAt (p:Nat) (r:RF):HP:=exs fun f:PF=>Star [pur (Tie f r∧Good r),FlightAt p f]
theorem Sat.lone {p:Nat} {r:RF}:Sat R (LoneAt p r::Hs) w↔∃ f,(Tie f r∧Good r)∧Sat R (FlightAt p f::Hs) w:=by
 unfold LoneAt
 rw [Sat.exs]
 constructor
 ·rintro ⟨f,h⟩
  obtain ⟨h1,h2⟩:=Sat.pur.1 (Sat.star.1 h)
  exact ⟨f,h1,h2⟩
 ·rintro ⟨f,h1,h2⟩
  exact ⟨f,Sat.star.2 (Sat.pur.2 ⟨h1,h2⟩)⟩
theorem PairAt.open {p q:Nat} {r:RF} (hw:Sat R (PairAt p q r::Hs) w):Good r∧Sat R (LoneAt p r::RFAt q r::Hs) w:=by
 obtain ⟨f,h,hw⟩:=Sat.pair.1 hw
 exact ⟨h.2,Sat.lone.2 ⟨f,h,hw⟩⟩
theorem PairAt.close {p q:Nat} {r:RF} (hw:Sat R (LoneAt p r::RFAt q r::Hs) w):Sat R (PairAt p q r::Hs) w:=by
 obtain ⟨f,h,hw⟩:=Sat.lone.1 hw
 exact Sat.pair.2 ⟨f,h,hw⟩
section
variable {p:Nat} {r:RF}
theorem lone_left (hw:Sat R (LoneAt p r::Hs) w):Gets Tryz.prog 58 #[.pointer (some ⟨p,0,none⟩)] w fun v w'=>∃ t:Sl,v=.slice t.a t.len t.cap∧Sat R (Own t 3 (intsI (rleftsF r))::LoneAt p r::Hs) w':=by
 obtain ⟨f,⟨t,g⟩,hw⟩:=Sat.lone.1 hw
 have b:=t.bounds g
 refine (left_fspec (by omega) (by omega) hw).use ?_
 rintro _ w ⟨s,rfl,hw⟩
 rw [tie_left t] at hw
 exact ⟨_,rfl,s,rfl,hw.cons fun _ h=>Sat.lone.2 ⟨_,⟨t,g⟩,h⟩⟩
end
end Go.Proofs.YtfgbbckfikiomaaGreatDoor



/- The book, plainly: what each command does. No condition. -/
namespace Go.Proofs.YtfgbbckfikiomaaGreatDoor
set_option linter.unusedVariables false
open Go Go.VC
open Classical
noncomputable section
structure Pl where
 r:RF
 q:List Wt
abbrev Pl.n (p:Pl):Int:=p.r.num
structure Bk where
 id:Int
 flt:Int
 cls:Int
 many:Int
 state:Int
 till:Int
structure Book where
 now:Int
 next:Int
 fl:List Pl
 L:List Bk
def Book.at (b:Book) (n:Int):Option Pl:=kget Pl.n n b.fl
def Book.bk (b:Book) (id:Int):Option Bk:=kget Bk.id id b.L
def Book.put (b:Book) (n:Int) (f:Pl→Pl) (L:List Bk):Book:={ b with fl:=kset Pl.n n f b.fl,L:=L }
def newBook:Book:=⟨0,1,[],[]⟩
def emS:ByteArray:=ByteArray.empty
def errR (e:Int):Rp:=⟨e,emS,0,0,0,0,0,[],[]⟩
def openB (b:Book) (c:Cm):Book × Rp:=
 if (b.at c.flt).isSome then (b,errR 7) else if 8≤b.fl.length then (b,errR 3)
 else if ¬ newOk c.flt c.rows c.grps c.parts then (b,errR 1)
 else ({ b with fl:=kins Pl.n ⟨rnewF c.flt c.rows c.grps (limitsT (layN c.rows c.grps) c.parts).1,[]⟩ b.fl },
  ⟨0,emS,0,c.flt,0,0,0,rleftsF (rnewF c.flt c.rows c.grps (limitsT (layN c.rows c.grps) c.parts).1),[]⟩)
def takeP (id cls many:Int) (p:Pl):Pl:={ p with r:=(rtakeF p.r id cls many).1 }
def HasP (p:Pl) (x:Bk):Prop:=
 if x.state=3 then (∃ w∈p.q,w.id=x.id∧w.cls=x.cls∧w.many=x.many)∧x.cls<p.r.lims.length
 else ∃ h∈p.r.L,h.owner=x.id∧h.cls=x.cls∧h.many=x.many
structure BkOk (next:Int) (x:Bk):Prop where
 id:1≤x.id∧x.id<next
 flt:0≤x.flt∧x.flt≤9999
 cls:0≤x.cls∧x.cls≤9999
 many:0≤x.many∧x.many≤9999
 state:1≤x.state∧x.state≤3
 till:0≤x.till∧x.till≤1099511627776
 free:x.state≠1→x.till=0
structure LocP (L:List Bk) (p:Pl):Prop where
 has:∀ x∈L,x.flt=p.n→HasP p x
 backQ:∀ w∈p.q,∃ x∈L,x.id=w.id∧x.flt=p.n∧x.state=3
 backH:∀ h∈p.r.L,∃ x∈L,x.id=h.owner∧x.flt=p.n∧x.state≠3
structure Core (b:Book):Prop where
 now:0≤b.now∧b.now≤1099511627776
 next:1≤b.next∧b.next≤28629151
 good:∀ p∈b.fl,Good p.r
 qok:∀ p∈b.fl,QOk p.q
 nums:KRise Pl.n b.fl
 few:b.fl.length≤8
 ids:KRise Bk.id b.L
 each:∀ x∈b.L,BkOk b.next x
 many:b.L.length≤300
 there:∀ x∈b.L,∃ p∈b.fl,p.n=x.flt
 loc:∀ p∈b.fl,LocP b.L p
def Timely (b:Book):Prop:=∀ x∈b.L,x.state=1→b.now<x.till
def NoFit (p:Pl):Prop:=qfirst p.q (rleftsF p.r)=none
structure BookOk (b:Book):Prop where
 core:Core b
 time:Timely b
 nofit:∀ p∈b.fl,NoFit p
theorem Core.swap {b:Book} (c:Core b) {n:Int} {f:Pl→Pl} {L:List Bk} {next:Int} (hn:b.next≤next∧next≤28629151)
  (hf:∀ p∈b.fl,p.n=n→(f p).n=n∧Good (f p).r∧QOk (f p).q∧LocP L (f p))
  (ids:KRise Bk.id L) (each:∀ x∈L,BkOk next x) (many:L.length≤300)
  (out:∀ x,x.flt≠n→(x∈L↔x∈b.L)) (here:∀ x∈L,x.flt=n→∃ p∈b.fl,p.n=n):Core { b.put n f L with next:=next }:=by
 have hmem:∀ {p},p∈kset Pl.n n f b.fl→∃ q∈b.fl,q.n=p.n∧((q.n=n∧p=f q)∨(q.n≠n∧p=q)):=fun {p} hp=>by
  obtain ⟨q,hq,e⟩:=mem_kset.1 hp
  by_cases h:q.n=n
  ·rw [if_pos h] at e
   exact ⟨q,hq,by rw [e,(hf q hq h).1,h],.inl ⟨h,e⟩⟩
  ·rw [if_neg h] at e
   exact ⟨q,hq,by rw [e],.inr ⟨h,e⟩⟩
 have hput:∀ {q},q∈b.fl→∃ p∈kset Pl.n n f b.fl,p.n=q.n:=fun {q} hq=>by
  by_cases h:q.n=n
  ·exact ⟨f q,mem_kset.2 ⟨q,hq,by rw [if_pos h]⟩,by rw [(hf q hq h).1,h]⟩
  ·exact ⟨q,mem_kset.2 ⟨q,hq,by rw [if_neg h]⟩,rfl⟩
 refine ⟨c.now,⟨Int.le_trans c.next.1 hn.1,hn.2⟩,fun p hp=>?_,fun p hp=>?_,kset_rise c.nums fun p hp e=>(hf p hp e).1,by show (kset Pl.n n f b.fl).length≤8;rw [kset_len];exact c.few,ids,each,many,fun x hx=>?_,fun p hp=>?_⟩
 ·obtain ⟨q,hq,_,⟨h,rfl⟩|⟨h,rfl⟩⟩:=hmem hp
  ·exact (hf q hq h).2.1
  ·exact c.good p hq
 ·obtain ⟨q,hq,_,⟨h,rfl⟩|⟨h,rfl⟩⟩:=hmem hp
  ·exact (hf q hq h).2.2.1
  ·exact c.qok p hq
 ·by_cases h:x.flt=n
  ·obtain ⟨p,hp,e⟩:=here x hx h
   obtain ⟨p',hp',e'⟩:=hput hp
   exact ⟨p',hp',by rw [e',e,h]⟩
  ·obtain ⟨p,hp,e⟩:=c.there x ((out x h).1 hx)
   obtain ⟨p',hp',e'⟩:=hput hp
   exact ⟨p',hp',by rw [e',e]⟩
 ·obtain ⟨q,hq,_,⟨h,rfl⟩|⟨h,rfl⟩⟩:=hmem hp
  ·exact (hf q hq h).2.2.2
  ·have hl:=c.loc p hq
   refine ⟨fun x hx e=>hl.has x ((out x (by rw [e];exact h)).1 hx) e,fun w hw=>?_,fun o ho=>?_⟩
   ·obtain ⟨x,hx,a1,a2,a3⟩:=hl.backQ w hw
    exact ⟨x,(out x (by rw [a2];exact h)).2 hx,a1,a2,a3⟩
   ·obtain ⟨x,hx,a1,a2,a3⟩:=hl.backH o ho
    exact ⟨x,(out x (by rw [a2];exact h)).2 hx,a1,a2,a3⟩
theorem BkOk.le {n m:Int} {x:Bk} (h:BkOk n x) (hl:n≤m):BkOk m x:=⟨⟨h.id.1,Int.lt_of_lt_of_le h.id.2 hl⟩,h.flt,h.cls,h.many,h.state,h.till,h.free⟩
end
end Go.Proofs.YtfgbbckfikiomaaGreatDoor
/- What a flight's steps do to what is left, and to who has what. No condition. -/
namespace Go.Proofs.YtfgbbckfikiomaaGreatDoor
set_option linter.unusedVariables false
open Go Go.VC
variable {r:RF} {o c m:Int}
structure Seatly (r r':RF):Prop where
 num:r'.num=r.num
 lims:r'.lims=r.lims
 rows:r'.rows=r.rows
 grps:r'.grps=r.grps
 each:∃ A hd hd' C,r.L=A++hd::C∧r'.L=A++hd'::C∧hd'.owner=hd.owner∧hd'.cls=hd.cls∧hd'.many=hd.many
theorem Seatly.sold {r':RF} (h:Seatly r r'):r'.sold=r.sold:=by
 obtain ⟨A,hd,hd',C,e1,e2,_,e4,e5⟩:=h.each
 unfold RF.sold soldL
 rw [h.lims]
 apply List.map_congr_left
 intro k _
 rw [e1,e2,cntL_app,cntL_app,cntL_cons,cntL_cons,e4,e5]
theorem Seatly.mem {r':RF} (h:Seatly r r') {x:Hold} (hx:x∈r.L):∃ y∈r'.L,y.owner=x.owner∧y.cls=x.cls∧y.many=x.many:=by
 obtain ⟨A,hd,hd',C,e1,e2,e3,e4,e5⟩:=h.each
 rw [e1,List.mem_append,List.mem_cons] at hx
 rw [e2]
 rcases hx with hx|rfl|hx
 ·exact ⟨x,by simp [hx],rfl,rfl,rfl⟩
 ·exact ⟨hd',by simp,e3,e4,e5⟩
 ·exact ⟨x,by simp [hx],rfl,rfl,rfl⟩
theorem Seatly.symm {r':RF} (h:Seatly r r'):Seatly r' r:=by
 obtain ⟨A,hd,hd',C,e1,e2,e3,e4,e5⟩:=h.each
 exact ⟨h.num.symm,h.lims.symm,h.rows.symm,h.grps.symm,A,hd',hd,C,e2,e1,e3.symm,e4.symm,e5.symm⟩
end Go.Proofs.YtfgbbckfikiomaaGreatDoor
/- The book, plainly: what holds of it, behind each step. No condition. -/
namespace Go.Proofs.YtfgbbckfikiomaaGreatDoor
set_option linter.unusedVariables false
open Go Go.VC
variable {b:Book} {n:Int} {p:Pl} {w:Wt} {x:Bk}
structure Kept (n:Int) (b b':Book):Prop where
 now:b'.now=b.now
 next:b'.next=b.next
 keys:b'.fl.map Pl.n=b.fl.map Pl.n
 others:∀ q∈b'.fl,q.n=n∨q∈b.fl
 ids:b'.L.map Bk.id=b.L.map Bk.id
 bk:∀ y∈b'.L,∃ x∈b.L,y.id=x.id∧y.flt=x.flt∧y.cls=x.cls∧y.many=x.many∧y.till=x.till
theorem Kept.refl (n:Int) (b:Book):Kept n b b:=⟨rfl,rfl,rfl,fun _ h=>.inr h,rfl,fun y hy=>⟨y,hy,rfl,rfl,rfl,rfl,rfl⟩⟩
theorem Kept.trans {b1 b2 b3:Book} (h1:Kept n b1 b2) (h2:Kept n b2 b3):Kept n b1 b3:=
 ⟨h2.now.trans h1.now,h2.next.trans h1.next,h2.keys.trans h1.keys,fun q hq=>by
  rcases h2.others q hq with h|h
  ·exact .inl h
  ·exact h1.others q h,h2.ids.trans h1.ids,fun y hy=>by
  obtain ⟨x,hx,a1,a2,a3,a4,a5⟩:=h2.bk y hy
  obtain ⟨z,hz,c1,c2,c3,c4,c5⟩:=h1.bk x hx
  exact ⟨z,hz,by omega,by omega,by omega,by omega,by omega⟩⟩
end Go.Proofs.YtfgbbckfikiomaaGreatDoor



/- The book, plainly: its bytes, and what is loaded of them. No condition. -/
namespace Go.Proofs.YtfgbbckfikiomaaGreatDoor
set_option linter.unusedVariables false
open Go Go.VC
open Classical
noncomputable section
variable {b:Book} {n:Int} {p:Pl} {w:Wt} {x:Bk} {r:RF}
def things (l:List Pl):Nat:=(l.map fun p=>p.r.L.length + p.q.length).sum
structure BkMay (b:Book) (x:Bk):Prop where
 id:1≤x.id∧x.id<b.next
 state:1≤x.state
 held:x.state=1→b.now<x.till
 free:x.state≠1→x.till=0
 has:∃ p,b.at x.flt=some p∧HasP p x
structure MayB (b:Book):Prop where
 next:1≤b.next
 nums:KRise Pl.n b.fl
 ids:KRise Bk.id b.L
 each:∀ x∈b.L,BkMay b x
 things:things b.fl=b.L.length
theorem nums1_len {x:Int} (h:0≤x∧x<18446744073709551616):(numsB [x]).length≤9:=by
 have:=numsB_len (l:=[x]) fun y hy=>by rw [List.mem_singleton.1 hy];exact h
 simpa using this
theorem flat_len {α:Type} {code:α→List Int} {m:Nat}:∀ {l:List α},(∀ x∈l,(code x).length≤m)→((l.map code).flatten).length≤m * l.length
 |[],_=>by simp
 |a::l,h=>by
  have h1:=h a (by simp)
  have h2:=flat_len (l:=l) fun x hx=>h x (by simp [hx])
  rw [List.map_cons,List.flatten_cons,List.length_append,List.length_cons,Nat.mul_succ]
  omega
theorem textB_len {d:List Int} (h:d.length<1000000):(textB d).length≤d.length + 9:=by
 have:=numB_len (n:=d.length) (by omega)
 unfold textB
 rw [List.length_append]
 omega
end
end Go.Proofs.YtfgbbckfikiomaaGreatDoor
/- The formulas of functions of this seat's translation, printed by a program of mine off the translation; each is proved equal to 'fnF' of the function's body, so it is enough for the call. No condition. -/
namespace Go.Proofs.YtfgbbckfikiomaaGreatDoor
open Go Go.VC
set_option linter.unusedVariables false
set_option maxRecDepth 10000
def B111  (K:Value→World→Prop) (w:World):Prop:=
 New (.cells #[.slice none 0 0] 179 (0,0)) (fun a b=>
 K (.pointer ((some ⟨a,0,none⟩))) b) w
theorem call111  (K:Value→World→Prop) (w:World) (h:B111  K w):Gets Tryz.prog 111 #[] w K:=cq (sk:=.leaf) Tryz.func111 (by kernel_rfl) (by kernel_rfl) (by kernel_rfl) h
end Go.Proofs.YtfgbbckfikiomaaGreatDoor
/- The formulas of functions of this seat's translation, printed by a program of mine off the translation; each is proved equal to 'fnF' of the function's body, so it is enough for the call. No condition. -/
namespace Go.Proofs.YtfgbbckfikiomaaGreatDoor
open Go Go.VC
set_option linter.unusedVariables false
set_option maxRecDepth 10000
def B40 (c:Bool) (b:Int) (a:List PanicEntry→World→Prop) (K:Value→World→Prop) (w:World):Prop:=
 Br (!c)
 (a [⟨.iface 27 (.int .i64 b),false,false⟩] w)
 (K (.tuple #[]) w)
theorem call40 (c:Bool) (b:Int) (a:List PanicEntry→World→Prop) (K:Value→World→Prop) (w:World) (h:B40 c b a K w):GetsX Tryz.prog 40 #[.bool c,.int .i64 b] w a K:=cqx (sk:=.leaf) Tryz.func40 (by kernel_rfl) (by kernel_rfl) (by kernel_rfl) h
def B110 (a:Int) (b:List PanicEntry→World→Prop) (K:Value→World→Prop) (w:World):Prop:=
 Br (a !=0)
 (b [⟨.iface 27 (.int .i64 a),false,false⟩] w)
 (K (.tuple #[]) w)
theorem call110 (b:Int) (a:List PanicEntry→World→Prop) (K:Value→World→Prop) (w:World) (h:B110 b a K w):GetsX Tryz.prog 110 #[.int .i64 b] w a K:=cqx (sk:=.leaf) Tryz.func110 (by kernel_rfl) (by kernel_rfl) (by kernel_rfl) h
def B39 (g:Option Addr) (b:Value) (K:World→Prop) (w:World):Prop:=
 ∃ c:Bool,(∀ a,(fun a=>a=w) a→((do eqGuard BinOp.neq 20 (Operand.tmp 4) (Operand.const Value.nilIface) b .nilIface;binOp BinOp.neq 20 b .nilIface:Sem Value)).run Tryz.prog a=.ok (.bool c) a)∧
 Br c
 (∃ d:Int,(∀ a,(fun a=>a=w) a→((Instr.typeAssert b 20 27 false)).run Tryz.prog a=.ok (.int .i64 d) a)∧
 NilP g fun f=>
 ∃ e:World,((Instr.storeAt 31 (.pointer ((some (f)))) (.agg #[.int .i64 d,.string (ByteArray.mk #[]),.int .i64 0,.int .i64 0,.int .i64 0,.int .i64 0,.int .i64 0,.slice none 0 0,.slice none 0 0])).run Tryz.prog w=.ok () e)∧
 K e)
 (K w)
theorem callP39 (b:Option Addr) (a:Value) (K:World→Prop) (w:World) (h:B39 b a K w):CallsD Tryz.prog 39 #[.pointer b] (.panicking [⟨a,false,false⟩]) w fun c d e=>(∃ f,c=.returned f)∧d=.panicking [⟨a,true,false⟩]∧K e:=
 rec_panic (sk:=.leaf) cl_ok mixed Tryz.func39 (by kernel_rfl) (Nat.le_of_ble_eq_true (by kernel_rfl)) (cast (by kernel_rfl) h)
theorem callR39 (a:Option Addr) (K:World→Prop) (w:World) (h:B39 a .nilIface K w):CallsD Tryz.prog 39 #[.pointer a] .returning w fun b c d=>(∃ e,b=.returned e)∧c=.returning∧K d:=
 rec_return (sk:=.leaf) cl_ok mixed Tryz.func39 (by kernel_rfl) (Nat.le_of_ble_eq_true (by kernel_rfl)) (cast (by kernel_rfl) h)
def B41 (Q:Int) (T:ByteArray) (U:Int) (V:Int) (X:Int) (Y:Int) (Z:Nat) (aa:ByteArray) (ab:Int) (r:Sl) (q:Sl) (K:Value→World→Prop) (w:World):Prop:=
 New (.cells #[.int .i64 Q,.string T,.int .i64 U,.int .i64 V,.int .i64 X,.int .i64 Y,.float .f64 Z,.string aa,.int .i64 ab,.slice r.a r.len r.cap,.slice q.a q.len q.cap] 38 (0,0)) (fun c j=>
 ∃ H:Int,(At (fun b=>b=j) ⟨c,0 + 2,none⟩ [.int .i64 H])∧
 ∃ u:Int,(At (fun b=>b=j) ⟨c,0 + 3,none⟩ [.int .i64 u])∧
 ∃ v:Int,(At (fun b=>b=j) ⟨c,0 + 4,none⟩ [.int .i64 v])∧
 ∃ x:Int,(At (fun b=>b=j) ⟨c,0 + 8,none⟩ [.int .i64 x])∧
 New (.cells #[.int .i64 H,.int .i64 u,.int .i64 v,.int .i64 x] 3 (0,0)) (fun O J=>
 ∃ g:Sl,(At (fun b=>b=J) ⟨c,0 + 8 + 1,none⟩ [.slice g.a g.len g.cap])∧
 ∃ L:World,∃ i:Sl,((Builtin.append_ #[28,28] 28 #[.slice ((some ⟨O,0,none⟩)) 4 4,.slice g.a g.len g.cap]).run Tryz.prog J=.ok (.slice i.a i.len i.cap) L)∧
 ∃ (n:Int→World→Prop) (M:Int→World→Nat),(n 0 L)∧∀ (ad:Env) (f:Int) (e:World),n f e→
 Br (decide (f<(↑i.len:Int)))
 (Rng f i.len (NilP i.a fun N=>
 ∃ y:Int,(At (fun b=>b=e) (Addr.add N f.toNat) [.int .i64 y])∧
 Calls Tryz.prog 108 #[.int .i64 y] e fun ac s=>
 ∃ z:Bool,(ac=.returned (.bool z))∧
 Br z
 (K (.bool false) s)
 ((n (IntKind.i64.wrap (f + 1)) s)∧M (IntKind.i64.wrap (f + 1)) s<M f e)))
 (∃ (o:Bool→World→Prop),(∃ A:ByteArray,(At (fun b=>b=e) ⟨c,0 + 1,none⟩ [.string A])∧
 Br (decide ((↑A.size:Int)≤16))
 (∃ C:ByteArray,(At (fun b=>b=e) ⟨c,0 + 7,none⟩ [.string C])∧
 o (decide ((↑C.size:Int)≤16)) e)
 (o false e))∧
 ∀ (ae:Env) (I:Bool) (k:World),o I k→
 ∃ (p:Bool→World→Prop),(∃ l:Sl,(At (fun b=>b=k) ⟨c,0 + 8 + 1,none⟩ [.slice l.a l.len l.cap])∧
 Br (decide ((↑l.len:Int)≤16))
 (∃ m:Sl,(At (fun b=>b=k) ⟨c,0 + 10,none⟩ [.slice m.a m.len m.cap])∧
 p (decide ((↑m.len:Int)≤16)) k)
 (p false k))∧
 ∀ (af:Env) (t:Bool) (d:World),p t d→
 Br I
 (Br t
 (∃ D:Int,(At (fun b=>b=d) ⟨c,0,none⟩ [.int .i64 D])∧
 Br (decide (D ≥ 1))
 (∃ E:Int,(At (fun b=>b=d) ⟨c,0,none⟩ [.int .i64 E])∧
 Br (decide (E≤9))
 (∃ F:Int,(At (fun b=>b=d) ⟨c,0 + 5,none⟩ [.int .i64 F])∧
 Br (decide (F ≥ 0))
 (∃ G:Int,(At (fun b=>b=d) ⟨c,0 + 5,none⟩ [.int .i64 G])∧
 K (.bool (decide (G≤1099511627776))) d)
 (K (.bool false) d))
 (K (.bool false) d))
 (K (.bool false) d))
 (K (.bool false) d))
 (K (.bool false) d))) j) w
def sk41:Sk:=(.seq .leaf (.seq .leaf (.seq (.seq .leaf (.block (.loop [23] [(.int .i64)] [2,5,23,24,25,26,27,28,29,30] .leaf))) (.cut [6] [.bool] [6,31,32,33,34,35,36,37,38,39,40] .leaf (.cut [7] [.bool] [7,41,42,43,44,45,46,47,48,49,50,51] .leaf .leaf)))))
theorem call41 (d:Int) (e:ByteArray) (f:Int) (g:Int) (i:Int) (j:Int) (k:Nat) (l:ByteArray) (m:Int) (c:Sl) (b:Sl) (K:Value→World→Prop) (w:World) (h:B41 d e f g i j k l m c b K w):Gets Tryz.prog 41 #[.agg #[.int .i64 d,.string e,.int .i64 f,.int .i64 g,.int .i64 i,.int .i64 j,.float .f64 k,.string l,.int .i64 m,.slice c.a c.len c.cap,.slice b.a b.len b.cap]] w K:=cq (sk:=sk41) Tryz.func41 (by kernel_rfl) (by kernel_rfl) (by kernel_rfl) h
def B108 (a:Int) (K:Value→World→Prop) (w:World):Prop:=
 Br (decide (a<0))
 (K (.bool true) w)
 (K (.bool (decide (a>9999))) w)
theorem call108 (a:Int) (K:Value→World→Prop) (w:World) (h:B108 a K w):Gets Tryz.prog 108 #[.int .i64 a] w K:=cq (sk:=.leaf) Tryz.func108 (by kernel_rfl) (by kernel_rfl) (by kernel_rfl) h
def B14  (K:Value→World→Prop) (w:World):Prop:=
 New (.map #[] 0) (fun a d=>
 New (.map #[] 0) (fun b e=>
 New (.cells #[.int .i64 0,.int .i64 1,.map ((some a)),.map ((some b))] 80 (0,0)) (fun c f=>
 K (.pointer ((some ⟨c,0,none⟩))) f) e) d) w
theorem call14  (K:Value→World→Prop) (w:World) (h:B14  K w):Gets Tryz.prog 14 #[] w K:=cq (sk:=.leaf) Tryz.func14 (by kernel_rfl) (by kernel_rfl) (by kernel_rfl) h
def B49 (m:Option Addr) (i:Sl) (K:Value→World→Prop) (w:World):Prop:=
 ∃ (g:Int→World→Prop) (p:Int→World→Nat),(g 0 w)∧∀ (x:Env) (b:Int) (f:World),g b f→
 Br (decide (b<(↑i.len:Int)))
 (Rng b i.len (NilP i.a fun q=>
 ∃ j:Int,(At (fun u=>u=f) (Addr.add q b.toNat) [.int .i64 j])∧
 Drw f fun l v=>
 NilP m fun r=>
 ∃ c:Sl,(At l (Addr.add r 0) [.slice c.a c.len c.cap])∧
 Calls Tryz.prog 120 #[.int .u64 (IntKind.u64.wrap (if 0>j then 0 else j))] v fun t n=>
 ∃ d:Sl,(t=.returned (.slice d.a d.len d.cap))∧
 (l n)∧
 ∃ o:World,∃ e:Sl,((Builtin.append_ #[42,42] 42 #[.slice c.a c.len c.cap,.slice d.a d.len d.cap]).run Tryz.prog n=.ok (.slice e.a e.len e.cap) o)∧
 NilP m fun s=>
 ∃ k:World,((Instr.storeAt 42 (.pointer ((some (Addr.add s 0)))) (.slice e.a e.len e.cap)).run Tryz.prog o=.ok () k)∧
 (g (IntKind.i64.wrap (b + 1)) k)∧p (IntKind.i64.wrap (b + 1)) k<p b f))
 (K (.tuple #[]) f)
def sk49:Sk:=(.seq .leaf (.block (.loop [8] [(.int .i64)] [5,8,9,10,11,12,13,14,15,16,17,18,19,20,21,22,23,24] .leaf)))
theorem call49 (c:Option Addr) (b:Sl) (K:Value→World→Prop) (w:World) (h:B49 c b K w):Gets Tryz.prog 49 #[.pointer c,.slice b.a b.len b.cap] w K:=cq (sk:=sk49) Tryz.func49 (by kernel_rfl) (by kernel_rfl) (by kernel_rfl) h
def B75 (c:Option Addr) (b:Sl) (K:Value→World→Prop) (w:World):Prop:=
 New (.cells #[.int .i64 ((↑b.len:Int))] 3 (0,0)) (fun d g=>
 Calls Tryz.prog 49 #[.pointer c,.slice ((some ⟨d,0,none⟩)) 1 1] g fun e i=>
 (e=.returned (.tuple #[]))∧
 Calls Tryz.prog 49 #[.pointer c,.slice b.a b.len b.cap] i fun f j=>
 (f=.returned (.tuple #[]))∧
 K (.tuple #[]) j) w
theorem call75 (c:Option Addr) (b:Sl) (K:Value→World→Prop) (w:World) (h:B75 c b K w):Gets Tryz.prog 75 #[.pointer c,.slice b.a b.len b.cap] w K:=cq (sk:=.leaf) Tryz.func75 (by kernel_rfl) (by kernel_rfl) (by kernel_rfl) h
def B52 (g:Option Addr) (e:Sl) (K:Value→World→Prop) (w:World):Prop:=
 Drw w fun f o=>
 NilP g fun m=>
 ∃ d:Sl,(At f (Addr.add m 0) [.slice d.a d.len d.cap])∧
 Calls Tryz.prog 124 #[.slice e.a e.len e.cap] o fun n i=>
 ∃ b:Sl,(n=.returned (.slice b.a b.len b.cap))∧
 (f i)∧
 ∃ j:World,∃ c:Sl,((Builtin.append_ #[42,42] 42 #[.slice d.a d.len d.cap,.slice b.a b.len b.cap]).run Tryz.prog i=.ok (.slice c.a c.len c.cap) j)∧
 NilP g fun l=>
 ∃ k:World,((Instr.storeAt 42 (.pointer ((some (Addr.add l 0)))) (.slice c.a c.len c.cap)).run Tryz.prog j=.ok () k)∧
 K (.tuple #[]) k
theorem call52 (c:Option Addr) (b:Sl) (K:Value→World→Prop) (w:World) (h:B52 c b K w):Gets Tryz.prog 52 #[.pointer c,.slice b.a b.len b.cap] w K:=cq (sk:=.leaf) Tryz.func52 (by kernel_rfl) (by kernel_rfl) (by kernel_rfl) h
def B78 (g:Option Addr) (f:Int) (K:Value→World→Prop) (w:World):Prop:=
 New (.cells #[.pointer g] 126 (0,0)) (fun d c=>
 ∃ a:Option Addr,(At (fun i=>i=c) ⟨d,0,none⟩ [.pointer a])∧
 Calls Tryz.prog 147 #[.pointer a,.int .u64 (IntKind.u64.wrap f)] c fun e j=>
 ∃ b:Int,(e=.returned (.int .u64 b))∧
 K (.int .i64 (IntKind.i64.wrap b)) j) w
theorem call78 (b:Option Addr) (a:Int) (K:Value→World→Prop) (w:World) (h:B78 b a K w):Gets Tryz.prog 78 #[.agg #[.pointer b],.int .i64 a] w K:=cq (sk:=.leaf) Tryz.func78 (by kernel_rfl) (by kernel_rfl) (by kernel_rfl) h
def B79 (l:Option Addr) (k:Int) (K:Value→World→Prop) (w:World):Prop:=
 New (.cells #[.pointer l] 126 (0,0)) (fun i f=>
 ∃ d:Option Addr,(At (fun b=>b=f) ⟨i,0,none⟩ [.pointer d])∧
 Calls Tryz.prog 102 #[.pointer d,.int .i64 k] f fun j g=>
 ∃ c:Sl,(j=.returned (.slice c.a c.len c.cap))∧
 ∃ e:ByteArray,(∀ b,(fun b=>b=g) b→((convert 42 9 (.slice c.a c.len c.cap))).run Tryz.prog b=.ok (.string e) b)∧
 K (.string e) g) w
theorem call79 (b:Option Addr) (a:Int) (K:Value→World→Prop) (w:World) (h:B79 b a K w):Gets Tryz.prog 79 #[.agg #[.pointer b],.int .i64 a] w K:=cq (sk:=.leaf) Tryz.func79 (by kernel_rfl) (by kernel_rfl) (by kernel_rfl) h
def B80 (m:Int) (n:Value) (K:Value→World→Prop) (w:World):Prop:=
 ∃ (f:Sl→Int→World→Prop) (j:Sl→Int→World→Nat),(f ⟨none,0,0⟩ 0 w)∧∀ (q:Env) (b:Sl) (d:Int) (e:World),f b d e→
 Br (decide (d<m))
 (CalW Tryz.prog cl n [] e fun l o=>
 ∃ i:Int,(l=.returned (.int .i64 i))∧
 New (.cells #[.int .i64 i] 3 (0,0)) (fun k p=>
 ∃ g:World,∃ c:Sl,((Builtin.append_ #[28,28] 28 #[.slice b.a b.len b.cap,.slice ((some ⟨k,0,none⟩)) 1 1]).run Tryz.prog p=.ok (.slice c.a c.len c.cap) g)∧
 (f c (IntKind.i64.wrap (d + 1)) g)∧j c (IntKind.i64.wrap (d + 1)) g<j b d e) o)
 (K (.slice b.a b.len b.cap) e)
def sk80:Sk:=(.seq .leaf (.seq .leaf (.seq (.seq .leaf (.block (.loop [5,7] [.sl,(.int .i64)] [5,7,8,9,10,11,12,13,14] .leaf))) .leaf)))
theorem call80 (a:Int) (b:Value) (K:Value→World→Prop) (w:World) (h:B80 a b K w):Gets Tryz.prog 80 #[.int .i64 a,b] w K:=cq (sk:=sk80) Tryz.func80 (by kernel_rfl) (by kernel_rfl) (by kernel_rfl) h
def B81 (m:Int) (n:Value) (K:Value→World→Prop) (w:World):Prop:=
 ∃ (f:Sl→Int→World→Prop) (j:Sl→Int→World→Nat),(f ⟨none,0,0⟩ 0 w)∧∀ (q:Env) (b:Sl) (d:Int) (e:World),f b d e→
 Br (decide (d<m))
 (CalW Tryz.prog cl n [] e fun l o=>
 ∃ i:ByteArray,(l=.returned (.string i))∧
 New (.cells #[.string i] 9 (0,0)) (fun k p=>
 ∃ g:World,∃ c:Sl,((Builtin.append_ #[29,29] 29 #[.slice b.a b.len b.cap,.slice ((some ⟨k,0,none⟩)) 1 1]).run Tryz.prog p=.ok (.slice c.a c.len c.cap) g)∧
 (f c (IntKind.i64.wrap (d + 1)) g)∧j c (IntKind.i64.wrap (d + 1)) g<j b d e) o)
 (K (.slice b.a b.len b.cap) e)
def sk81:Sk:=(.seq .leaf (.seq .leaf (.seq (.seq .leaf (.block (.loop [5,7] [.sl,(.int .i64)] [5,7,8,9,10,11,12,13,14] .leaf))) .leaf)))
theorem call81 (a:Int) (b:Value) (K:Value→World→Prop) (w:World) (h:B81 a b K w):Gets Tryz.prog 81 #[.int .i64 a,b] w K:=cq (sk:=sk81) Tryz.func81 (by kernel_rfl) (by kernel_rfl) (by kernel_rfl) h
def B25 (Z:Int) (aa:ByteArray) (ab:Int) (ac:Int) (ad:Int) (ae:Int) (af:Int) (p:Sl) (q:Sl) (K:Value→World→Prop) (w:World):Prop:=
 New (.cells #[.int .i64 Z,.string aa,.int .i64 ab,.int .i64 ac,.int .i64 ad,.int .i64 ae,.int .i64 af,.slice p.a p.len p.cap,.slice q.a q.len q.cap] 31 (0,0)) (fun c ag=>
 New (.cells #[.slice none 0 0] 93 (0,0)) (fun d E=>
 ∃ r:Int,(At (fun b=>b=E) ⟨c,0,none⟩ [.int .i64 r])∧
 New (.cells #[.int .i64 r] 3 (0,0)) (fun M ai=>
 Calls Tryz.prog 49 #[.pointer ((some ⟨d,0,none⟩)),.slice ((some ⟨M,0,none⟩)) 1 1] ai fun Q F=>
 (Q=.returned (.tuple #[]))∧
 ∃ s:ByteArray,(At (fun b=>b=F) ⟨c,0 + 1,none⟩ [.string s])∧
 ∃ G:World,∃ f:Sl,((convert 9 42 (.string s)).run Tryz.prog F=.ok (.slice f.a f.len f.cap) G)∧
 Calls Tryz.prog 52 #[.pointer ((some ⟨d,0,none⟩)),.slice f.a f.len f.cap] G fun T m=>
 (T=.returned (.tuple #[]))∧
 ∃ t:Int,(At (fun b=>b=m) ⟨c,0 + 2,none⟩ [.int .i64 t])∧
 ∃ u:Int,(At (fun b=>b=m) ⟨c,0 + 3,none⟩ [.int .i64 u])∧
 ∃ v:Int,(At (fun b=>b=m) ⟨c,0 + 4,none⟩ [.int .i64 v])∧
 ∃ x:Int,(At (fun b=>b=m) ⟨c,0 + 5,none⟩ [.int .i64 x])∧
 ∃ y:Int,(At (fun b=>b=m) ⟨c,0 + 6,none⟩ [.int .i64 y])∧
 New (.cells #[.int .i64 t,.int .i64 u,.int .i64 v,.int .i64 x,.int .i64 y] 3 (0,0)) (fun N aj=>
 Calls Tryz.prog 49 #[.pointer ((some ⟨d,0,none⟩)),.slice ((some ⟨N,0,none⟩)) 5 5] aj fun U H=>
 (U=.returned (.tuple #[]))∧
 ∃ g:Sl,(At (fun b=>b=H) ⟨c,0 + 7,none⟩ [.slice g.a g.len g.cap])∧
 Calls Tryz.prog 75 #[.pointer ((some ⟨d,0,none⟩)),.slice g.a g.len g.cap] H fun V I=>
 (V=.returned (.tuple #[]))∧
 ∃ n:Sl,(At (fun b=>b=I) ⟨c,0 + 8,none⟩ [.slice n.a n.len n.cap])∧
 New (.cells #[.int .i64 ((↑n.len:Int))] 3 (0,0)) (fun O ah=>
 Calls Tryz.prog 49 #[.pointer ((some ⟨d,0,none⟩)),.slice ((some ⟨O,0,none⟩)) 1 1] ah fun X A=>
 (X=.returned (.tuple #[]))∧
 ∃ i:Sl,(At (fun b=>b=A) ⟨c,0 + 8,none⟩ [.slice i.a i.len i.cap])∧
 ∃ (o:Int→World→Prop) (J:Int→World→Nat),(o 0 A)∧∀ (ak:Env) (e:Int) (l:World),o e l→
 Br (decide (e<(↑i.len:Int)))
 (Rng e i.len (NilP i.a fun L=>
 ∃ z:ByteArray,(At (fun b=>b=l) (Addr.add L e.toNat) [.string z])∧
 ∃ C:World,∃ j:Sl,((convert 9 42 (.string z)).run Tryz.prog l=.ok (.slice j.a j.len j.cap) C)∧
 Calls Tryz.prog 52 #[.pointer ((some ⟨d,0,none⟩)),.slice j.a j.len j.cap] C fun Y D=>
 (Y=.returned (.tuple #[]))∧
 (o (IntKind.i64.wrap (e + 1)) D)∧J (IntKind.i64.wrap (e + 1)) D<J e l))
 (∃ k:Sl,(At (fun b=>b=l) ⟨d,0,none⟩ [.slice k.a k.len k.cap])∧
 K (.slice k.a k.len k.cap) l)) I) m) E) ag) w
def sk25:Sk:=(.seq .leaf (.seq .leaf (.seq .leaf (.seq .leaf (.seq .leaf (.seq .leaf (.seq .leaf (.seq (.seq .leaf (.block (.loop [44] [(.int .i64)] [5,44,45,46,47,48,49,50,51,52] .leaf))) .leaf))))))))
theorem call25 (d:Int) (e:ByteArray) (f:Int) (g:Int) (i:Int) (j:Int) (k:Int) (b:Sl) (c:Sl) (K:Value→World→Prop) (w:World) (h:B25 d e f g i j k b c K w):Gets Tryz.prog 25 #[.agg #[.int .i64 d,.string e,.int .i64 f,.int .i64 g,.int .i64 i,.int .i64 j,.int .i64 k,.slice b.a b.len b.cap,.slice c.a c.len c.cap]] w K:=cq (sk:=sk25) Tryz.func25 (by kernel_rfl) (by kernel_rfl) (by kernel_rfl) h
def B26 (x:Sl) (K:Value→World→Prop) (w:World):Prop:=
 New (.cells #[.int .i64 0,.string (ByteArray.mk #[]),.int .i64 0,.int .i64 0,.int .i64 0,.int .i64 0,.int .i64 0,.slice none 0 0,.slice none 0 0] 31 (0,0)) (fun s ef=>
 Calls Tryz.prog 76 #[.slice x.a x.len x.cap] ef fun c9 eg=>
 ∃ bw:Option Addr,(c9=.returned (.pointer bw))∧
 New (.cells #[.pointer none] 126 (0,0)) (fun c eh=>
 ∃ cq:World,((Instr.storeAt 126 (.pointer ((some ⟨c,0,none⟩))) (.agg #[.pointer bw])).run Tryz.prog eh=.ok () cq)∧
 ∃ (e:Option Addr→World→Prop),(Drw cq fun b c0=>
 ∃ t:Option Addr,(At b ⟨c,0,none⟩ [.pointer t])∧
 (Calls Tryz.prog 77 #[.pointer ((some ⟨c,0,none⟩))] c0 fun da D=>
 ∃ f:Int,(da=.returned (.int .i64 f))∧
 (b D)∧
 (Calls Tryz.prog 79 #[.agg #[.pointer t],.int .i64 16] D fun dl c7=>
 ∃ g:ByteArray,(dl=.returned (.string g))∧
 (Calls Tryz.prog 77 #[.pointer ((some ⟨c,0,none⟩))] c7 fun dx J=>
 ∃ i:Int,(dx=.returned (.int .i64 i))∧
 (b J)∧
 (Calls Tryz.prog 77 #[.pointer ((some ⟨c,0,none⟩))] J fun d8 L=>
 ∃ r:Int,(d8=.returned (.int .i64 r))∧
 (b L)∧
 (Calls Tryz.prog 77 #[.pointer ((some ⟨c,0,none⟩))] L fun ea z=>
 ∃ u:Int,(ea=.returned (.int .i64 u))∧
 (b z)∧
 (Calls Tryz.prog 77 #[.pointer ((some ⟨c,0,none⟩))] z fun eb A=>
 ∃ y:Int,(eb=.returned (.int .i64 y))∧
 (b A)∧
 (Calls Tryz.prog 77 #[.pointer ((some ⟨c,0,none⟩))] A fun ec bx=>
 ∃ ax:Int,(ec=.returned (.int .i64 ax))∧
 (b bx)∧
 New (.cells #[.int .i64 0,.string (ByteArray.mk #[]),.int .i64 0,.int .i64 0,.int .i64 0,.int .i64 0,.int .i64 0,.slice none 0 0,.slice none 0 0] 31 (0,0)) (fun O bz=>
 (b bz)∧
 ∃ b0:World,((Instr.storeAt 31 (.pointer ((some ⟨O,0,none⟩))) (.agg #[.int .i64 f,.string g,.int .i64 i,.int .i64 r,.int .i64 u,.int .i64 y,.int .i64 ax,.slice none 0 0,.slice none 0 0])).run Tryz.prog bz=.ok () b0)∧
 e ((some ⟨O,0,none⟩)) b0) bx)∧
 New (.cells #[.int .i64 0,.string (ByteArray.mk #[]),.int .i64 0,.int .i64 0,.int .i64 0,.int .i64 0,.int .i64 0,.slice none 0 0,.slice none 0 0] 31 (0,0)) (fun Q b1=>
 (b b1)∧
 Calls Tryz.prog 77 #[.pointer ((some ⟨c,0,none⟩))] b1 fun ed b2=>
 ∃ ay:Int,(ed=.returned (.int .i64 ay))∧
 (b b2)∧
 ∃ b3:World,((Instr.storeAt 31 (.pointer ((some ⟨Q,0,none⟩))) (.agg #[.int .i64 f,.string g,.int .i64 i,.int .i64 r,.int .i64 u,.int .i64 y,.int .i64 ay,.slice none 0 0,.slice none 0 0])).run Tryz.prog b2=.ok () b3)∧
 e ((some ⟨Q,0,none⟩)) b3) A)∧
 New (.cells #[.int .i64 0,.string (ByteArray.mk #[]),.int .i64 0,.int .i64 0,.int .i64 0,.int .i64 0,.int .i64 0,.slice none 0 0,.slice none 0 0] 31 (0,0)) (fun T b4=>
 (b b4)∧
 Calls Tryz.prog 77 #[.pointer ((some ⟨c,0,none⟩))] b4 fun ee b5=>
 ∃ ap:Int,(ee=.returned (.int .i64 ap))∧
 (b b5)∧
 Calls Tryz.prog 77 #[.pointer ((some ⟨c,0,none⟩))] b5 fun db b6=>
 ∃ az:Int,(db=.returned (.int .i64 az))∧
 (b b6)∧
 ∃ b7:World,((Instr.storeAt 31 (.pointer ((some ⟨T,0,none⟩))) (.agg #[.int .i64 f,.string g,.int .i64 i,.int .i64 r,.int .i64 u,.int .i64 ap,.int .i64 az,.slice none 0 0,.slice none 0 0])).run Tryz.prog b6=.ok () b7)∧
 e ((some ⟨T,0,none⟩)) b7) z)∧
 New (.cells #[.int .i64 0,.string (ByteArray.mk #[]),.int .i64 0,.int .i64 0,.int .i64 0,.int .i64 0,.int .i64 0,.slice none 0 0,.slice none 0 0] 31 (0,0)) (fun U b8=>
 (b b8)∧
 Calls Tryz.prog 77 #[.pointer ((some ⟨c,0,none⟩))] b8 fun dc b9=>
 ∃ ak:Int,(dc=.returned (.int .i64 ak))∧
 (b b9)∧
 Calls Tryz.prog 77 #[.pointer ((some ⟨c,0,none⟩))] b9 fun dd ca=>
 ∃ aq:Int,(dd=.returned (.int .i64 aq))∧
 (b ca)∧
 Calls Tryz.prog 77 #[.pointer ((some ⟨c,0,none⟩))] ca fun de cb=>
 ∃ a0:Int,(de=.returned (.int .i64 a0))∧
 (b cb)∧
 ∃ cc:World,((Instr.storeAt 31 (.pointer ((some ⟨U,0,none⟩))) (.agg #[.int .i64 f,.string g,.int .i64 i,.int .i64 r,.int .i64 ak,.int .i64 aq,.int .i64 a0,.slice none 0 0,.slice none 0 0])).run Tryz.prog cb=.ok () cc)∧
 e ((some ⟨U,0,none⟩)) cc) L)∧
 New (.cells #[.int .i64 0,.string (ByteArray.mk #[]),.int .i64 0,.int .i64 0,.int .i64 0,.int .i64 0,.int .i64 0,.slice none 0 0,.slice none 0 0] 31 (0,0)) (fun V cd=>
 (b cd)∧
 Calls Tryz.prog 77 #[.pointer ((some ⟨c,0,none⟩))] cd fun df ce=>
 ∃ ag:Int,(df=.returned (.int .i64 ag))∧
 (b ce)∧
 Calls Tryz.prog 77 #[.pointer ((some ⟨c,0,none⟩))] ce fun dg cf=>
 ∃ al:Int,(dg=.returned (.int .i64 al))∧
 (b cf)∧
 Calls Tryz.prog 77 #[.pointer ((some ⟨c,0,none⟩))] cf fun dh cg=>
 ∃ ar:Int,(dh=.returned (.int .i64 ar))∧
 (b cg)∧
 Calls Tryz.prog 77 #[.pointer ((some ⟨c,0,none⟩))] cg fun di ch=>
 ∃ a1:Int,(di=.returned (.int .i64 a1))∧
 (b ch)∧
 ∃ ci:World,((Instr.storeAt 31 (.pointer ((some ⟨V,0,none⟩))) (.agg #[.int .i64 f,.string g,.int .i64 i,.int .i64 ag,.int .i64 al,.int .i64 ar,.int .i64 a1,.slice none 0 0,.slice none 0 0])).run Tryz.prog ch=.ok () ci)∧
 e ((some ⟨V,0,none⟩)) ci) J)∧
 New (.cells #[.int .i64 0,.string (ByteArray.mk #[]),.int .i64 0,.int .i64 0,.int .i64 0,.int .i64 0,.int .i64 0,.slice none 0 0,.slice none 0 0] 31 (0,0)) (fun X cj=>
 (b cj)∧
 Calls Tryz.prog 77 #[.pointer ((some ⟨c,0,none⟩))] cj fun dj ck=>
 ∃ ad:Int,(dj=.returned (.int .i64 ad))∧
 (b ck)∧
 Calls Tryz.prog 77 #[.pointer ((some ⟨c,0,none⟩))] ck fun dk cl=>
 ∃ ah:Int,(dk=.returned (.int .i64 ah))∧
 (b cl)∧
 Calls Tryz.prog 77 #[.pointer ((some ⟨c,0,none⟩))] cl fun dm cm=>
 ∃ am:Int,(dm=.returned (.int .i64 am))∧
 (b cm)∧
 Calls Tryz.prog 77 #[.pointer ((some ⟨c,0,none⟩))] cm fun dn cn=>
 ∃ au:Int,(dn=.returned (.int .i64 au))∧
 (b cn)∧
 Calls Tryz.prog 77 #[.pointer ((some ⟨c,0,none⟩))] cn fun dp co=>
 ∃ a2:Int,(dp=.returned (.int .i64 a2))∧
 (b co)∧
 ∃ cp:World,((Instr.storeAt 31 (.pointer ((some ⟨X,0,none⟩))) (.agg #[.int .i64 f,.string g,.int .i64 ad,.int .i64 ah,.int .i64 am,.int .i64 au,.int .i64 a2,.slice none 0 0,.slice none 0 0])).run Tryz.prog co=.ok () cp)∧
 e ((some ⟨X,0,none⟩)) cp) c7)∧
 New (.cells #[.int .i64 0,.string (ByteArray.mk #[]),.int .i64 0,.int .i64 0,.int .i64 0,.int .i64 0,.int .i64 0,.slice none 0 0,.slice none 0 0] 31 (0,0)) (fun Y cr=>
 (b cr)∧
 Calls Tryz.prog 79 #[.agg #[.pointer t],.int .i64 16] cr fun dq ei=>
 ∃ ab:ByteArray,(dq=.returned (.string ab))∧
 Calls Tryz.prog 77 #[.pointer ((some ⟨c,0,none⟩))] ei fun dr cs=>
 ∃ ae:Int,(dr=.returned (.int .i64 ae))∧
 (b cs)∧
 Calls Tryz.prog 77 #[.pointer ((some ⟨c,0,none⟩))] cs fun ds ct=>
 ∃ ai:Int,(ds=.returned (.int .i64 ai))∧
 (b ct)∧
 Calls Tryz.prog 77 #[.pointer ((some ⟨c,0,none⟩))] ct fun dt cu=>
 ∃ an:Int,(dt=.returned (.int .i64 an))∧
 (b cu)∧
 Calls Tryz.prog 77 #[.pointer ((some ⟨c,0,none⟩))] cu fun du cv=>
 ∃ av:Int,(du=.returned (.int .i64 av))∧
 (b cv)∧
 Calls Tryz.prog 77 #[.pointer ((some ⟨c,0,none⟩))] cv fun dv cw=>
 ∃ a3:Int,(dv=.returned (.int .i64 a3))∧
 (b cw)∧
 ∃ cx:World,((Instr.storeAt 31 (.pointer ((some ⟨Y,0,none⟩))) (.agg #[.int .i64 f,.string ab,.int .i64 ae,.int .i64 ai,.int .i64 an,.int .i64 av,.int .i64 a3,.slice none 0 0,.slice none 0 0])).run Tryz.prog cw=.ok () cx)∧
 e ((some ⟨Y,0,none⟩)) cx) D)∧
 New (.cells #[.int .i64 0,.string (ByteArray.mk #[]),.int .i64 0,.int .i64 0,.int .i64 0,.int .i64 0,.int .i64 0,.slice none 0 0,.slice none 0 0] 31 (0,0)) (fun Z cy=>
 (b cy)∧
 Calls Tryz.prog 77 #[.pointer ((some ⟨c,0,none⟩))] cy fun dw cz=>
 ∃ aa:Int,(dw=.returned (.int .i64 aa))∧
 (b cz)∧
 Calls Tryz.prog 79 #[.agg #[.pointer t],.int .i64 16] cz fun dy ej=>
 ∃ ac:ByteArray,(dy=.returned (.string ac))∧
 Calls Tryz.prog 77 #[.pointer ((some ⟨c,0,none⟩))] ej fun dz c1=>
 ∃ af:Int,(dz=.returned (.int .i64 af))∧
 (b c1)∧
 Calls Tryz.prog 77 #[.pointer ((some ⟨c,0,none⟩))] c1 fun d0 c2=>
 ∃ aj:Int,(d0=.returned (.int .i64 aj))∧
 (b c2)∧
 Calls Tryz.prog 77 #[.pointer ((some ⟨c,0,none⟩))] c2 fun d1 c3=>
 ∃ ao:Int,(d1=.returned (.int .i64 ao))∧
 (b c3)∧
 Calls Tryz.prog 77 #[.pointer ((some ⟨c,0,none⟩))] c3 fun d2 c4=>
 ∃ aw:Int,(d2=.returned (.int .i64 aw))∧
 (b c4)∧
 Calls Tryz.prog 77 #[.pointer ((some ⟨c,0,none⟩))] c4 fun d3 c5=>
 ∃ a4:Int,(d3=.returned (.int .i64 a4))∧
 (b c5)∧
 ∃ c6:World,((Instr.storeAt 31 (.pointer ((some ⟨Z,0,none⟩))) (.agg #[.int .i64 aa,.string ac,.int .i64 af,.int .i64 aj,.int .i64 ao,.int .i64 aw,.int .i64 a4,.slice none 0 0,.slice none 0 0])).run Tryz.prog c5=.ok () c6)∧
 e ((some ⟨Z,0,none⟩)) c6) c0)∧
 ∀ (eo:Env) (v:Option Addr) (C:World),e v C→
 ∃ a5:Option Addr,(At (fun d=>d=C) ⟨c,0,none⟩ [.pointer a5])∧
 Calls Tryz.prog 78 #[.agg #[.pointer a5],.int .i64 8] C fun d4 ek=>
 ∃ a6:Int,(d4=.returned (.int .i64 a6))∧
 Calls Tryz.prog 80 #[.int .i64 a6,.func (.func 77) #[] #[.pointer ((some ⟨c,0,none⟩))]] ek fun d5 el=>
 ∃ j:Sl,(d5=.returned (.slice j.a j.len j.cap))∧
 NilP v fun M=>
 ∃ E:World,((Instr.storeAt 28 (.pointer ((some ⟨M.block,M.off + 7,none⟩))) (.slice j.a j.len j.cap)).run Tryz.prog el=.ok () E)∧
 ∃ a8:Option Addr,(At (fun d=>d=E) ⟨c,0,none⟩ [.pointer a8])∧
 Calls Tryz.prog 78 #[.agg #[.pointer a8],.int .i64 600] E fun d6 em=>
 ∃ a9:Int,(d6=.returned (.int .i64 a9))∧
 Calls Tryz.prog 81 #[.int .i64 a9,.func (.func 82) #[] #[.pointer ((some ⟨c,0,none⟩))]] em fun d7 en=>
 ∃ k:Sl,(d7=.returned (.slice k.a k.len k.cap))∧
 NilP v fun N=>
 ∃ F:World,((Instr.storeAt 29 (.pointer ((some ⟨N.block,N.off + 8,none⟩))) (.slice k.a k.len k.cap)).run Tryz.prog en=.ok () F)∧
 ∃ ba:Option Addr,(At (fun d=>d=F) ⟨c,0,none⟩ [.pointer ba])∧
 Calls Tryz.prog 83 #[.pointer ba] F fun d9 G=>
 ∃ bb:Bool,(d9=.returned (.bool bb))∧
 Br (!bb)
 (∃ H:World,((Instr.storeAt 31 (.pointer ((some ⟨s,0,none⟩))) (.agg #[.int .i64 0,.string (ByteArray.mk #[]),.int .i64 0,.int .i64 0,.int .i64 0,.int .i64 0,.int .i64 0,.slice none 0 0,.slice none 0 0])).run Tryz.prog G=.ok () H)∧
 ∃ a7:Int,∃ bc:ByteArray,∃ bj:Int,∃ bk:Int,∃ bl:Int,∃ bm:Int,∃ bn:Int,∃ n:Sl,∃ o:Sl,(At (fun d=>d=H) ⟨s,0,none⟩ [.int .i64 a7,.string bc,.int .i64 bj,.int .i64 bk,.int .i64 bl,.int .i64 bm,.int .i64 bn,.slice n.a n.len n.cap,.slice o.a o.len o.cap])∧
 K (.tuple #[.agg #[.int .i64 a7,.string bc,.int .i64 bj,.int .i64 bk,.int .i64 bl,.int .i64 bm,.int .i64 bn,.slice n.a n.len n.cap,.slice o.a o.len o.cap],.int .i64 6]) H)
 (NilP v fun c8=>
 ∃ bp:Int,∃ bq:ByteArray,∃ br:Int,∃ bs:Int,∃ bt:Int,∃ bu:Int,∃ bv:Int,∃ p:Sl,∃ q:Sl,(At (fun d=>d=G) c8 [.int .i64 bp,.string bq,.int .i64 br,.int .i64 bs,.int .i64 bt,.int .i64 bu,.int .i64 bv,.slice p.a p.len p.cap,.slice q.a q.len q.cap])∧
 ∃ I:World,((Instr.storeAt 31 (.pointer ((some ⟨s,0,none⟩))) (.agg #[.int .i64 bp,.string bq,.int .i64 br,.int .i64 bs,.int .i64 bt,.int .i64 bu,.int .i64 bv,.slice p.a p.len p.cap,.slice q.a q.len q.cap])).run Tryz.prog G=.ok () I)∧
 ∃ bo:Int,∃ bd:ByteArray,∃ be:Int,∃ bf:Int,∃ bg:Int,∃ bh:Int,∃ bi:Int,∃ l:Sl,∃ m:Sl,(At (fun d=>d=I) ⟨s,0,none⟩ [.int .i64 bo,.string bd,.int .i64 be,.int .i64 bf,.int .i64 bg,.int .i64 bh,.int .i64 bi,.slice l.a l.len l.cap,.slice m.a m.len m.cap])∧
 K (.tuple #[.agg #[.int .i64 bo,.string bd,.int .i64 be,.int .i64 bf,.int .i64 bg,.int .i64 bh,.int .i64 bi,.slice l.a l.len l.cap,.slice m.a m.len m.cap],.int .i64 0]) I)) eg) w
def sk26:Sk:=(.seq .leaf (.seq .leaf (.seq .leaf (.cut [6] [.ptr] [6,11,12,13,14,15,16,17,18,19,20,21,22,23,24,25] .leaf .leaf))))
theorem call26 (b:Sl) (K:Value→World→Prop) (w:World) (h:B26 b K w):Gets Tryz.prog 26 #[.slice b.a b.len b.cap] w K:=cq (sk:=sk26) Tryz.func26 (by kernel_rfl) (by kernel_rfl) (by kernel_rfl) h
def B77 (d:Option Addr) (K:Value→World→Prop) (w:World):Prop:=
 NilP d fun c=>
 ∃ a:Option Addr,(At (fun f=>f=w) c [.pointer a])∧
 Calls Tryz.prog 78 #[.agg #[.pointer a],.int .i64 1099511627776] w fun e g=>
 ∃ b:Int,(e=.returned (.int .i64 b))∧
 K (.int .i64 b) g
theorem call77 (a:Option Addr) (K:Value→World→Prop) (w:World) (h:B77 a K w):Gets Tryz.prog 77 #[.pointer a] w K:=cq (sk:=.leaf) Tryz.func77 (by kernel_rfl) (by kernel_rfl) (by kernel_rfl) h
def B82 (d:Option Addr) (K:Value→World→Prop) (w:World):Prop:=
 NilP d fun c=>
 ∃ a:Option Addr,(At (fun f=>f=w) c [.pointer a])∧
 Calls Tryz.prog 79 #[.agg #[.pointer a],.int .i64 16] w fun e g=>
 ∃ b:ByteArray,(e=.returned (.string b))∧
 K (.string b) g
theorem call82 (a:Option Addr) (K:Value→World→Prop) (w:World) (h:B82 a K w):Gets Tryz.prog 82 #[.pointer a] w K:=cq (sk:=.leaf) Tryz.func82 (by kernel_rfl) (by kernel_rfl) (by kernel_rfl) h
def B42 (o:Option Addr) (aw:Int) (ax:ByteArray) (ay:Int) (az:Int) (a0:Int) (a1:Int) (a2:Nat) (a3:ByteArray) (a4:Int) (q:Sl) (p:Sl) (c:List PanicEntry→World→Prop) (K:Value→World→Prop) (w:World):Prop:=
 New (.cells #[.int .i64 aw,.string ax,.int .i64 ay,.int .i64 az,.int .i64 a0,.int .i64 a1,.float .f64 a2,.string a3,.int .i64 a4,.slice q.a q.len q.cap,.slice p.a p.len p.cap] 38 (0,0)) (fun d a5=>
 New (.cells #[.int .i64 0,.string (ByteArray.mk #[]),.int .i64 0,.int .i64 0,.int .i64 0,.int .i64 0,.int .i64 0,.slice none 0 0,.slice none 0 0] 31 (0,0)) (fun A a8=>
 Drw a8 fun l a9=>
 NilP o fun x=>
 ∃ Q:Option Nat,(At l ⟨x.block,x.off + 2,none⟩ [.map Q])∧
 ∃ T:Int,(At l ⟨d,0 + 2,none⟩ [.int .i64 T])∧
 ∃ U:Option Addr,∃ V:Option Addr,∃ X:Bool,(∀ b,l b→((Instr.lookup 77 (.map Q) (.int .i64 T) true)).run Tryz.prog b=.ok (.tuple #[.agg #[.pointer U,.pointer V],.bool X]) b)∧
 New (.cells #[.pointer none,.pointer none] 102 (0,0)) (fun av ap=>
 (l ap)∧
 ∃ aq:World,((Instr.storeAt 102 (.pointer ((some ⟨av,0,none⟩))) (.agg #[.pointer U,.pointer V])).run Tryz.prog ap=.ok () aq)∧
 Calls Tryz.prog 40 #[.bool (!X),.int .i64 7] aq fun I m=>
 ((I=.returned (.tuple #[]))∧
 NilP o fun y=>
 ∃ Y:Option Nat,(At (fun b=>b=m) ⟨y.block,y.off + 2,none⟩ [.map Y])∧
 ∃ Z:Int,(∀ b,(fun b=>b=m) b→((Builtin.len_ #[77] 3 #[.map Y])).run Tryz.prog b=.ok (.int .i64 Z) b)∧
 Calls Tryz.prog 40 #[.bool (decide (Z<8)),.int .i64 3] m fun J k=>
 ((J=.returned (.tuple #[]))∧
 ∃ aa:Int,(At (fun b=>b=k) ⟨d,0 + 2,none⟩ [.int .i64 aa])∧
 ∃ ab:Int,∃ e:Sl,(At (fun b=>b=k) ⟨d,0 + 8,none⟩ [.int .i64 ab,.slice e.a e.len e.cap])∧
 ∃ f:Sl,(At (fun b=>b=k) ⟨d,0 + 10,none⟩ [.slice f.a f.len f.cap])∧
 Calls Tryz.prog 109 #[.int .i64 aa,.agg #[.int .i64 ab,.slice e.a e.len e.cap],.slice f.a f.len f.cap] k fun L ar=>
 (∃ r:Option Addr,∃ ac:Int,(L=.returned (.tuple #[.pointer r,.int .i64 ac]))∧
 Calls Tryz.prog 110 #[.int .i64 ac] ar fun M au=>
 ((M=.returned (.tuple #[]))∧
 Drw au fun n a6=>
 NilP o fun z=>
 ∃ ad:Option Nat,(At n ⟨z.block,z.off + 2,none⟩ [.map ad])∧
 ∃ ae:Int,(At n ⟨d,0 + 2,none⟩ [.int .i64 ae])∧
 Calls Tryz.prog 111 #[] a6 fun N s=>
 (∃ af:Option Addr,(N=.returned (.pointer af))∧
 (n s)∧
 ∃ ao:World,((Instr.mapUpdate 77 (.map ad) (.int .i64 ae) (.agg #[.pointer r,.pointer af])).run Tryz.prog s=.ok () ao)∧
 Drw ao fun v a7=>
 ∃ ag:Int,(At v ⟨d,0 + 2,none⟩ [.int .i64 ag])∧
 Calls Tryz.prog 58 #[.pointer r] a7 fun O t=>
 (∃ g:Sl,(O=.returned (.slice g.a g.len g.cap))∧
 (v t)∧
 ∃ u:World,((Instr.storeAt 31 (.pointer ((some ⟨A,0,none⟩))) (.agg #[.int .i64 0,.string (ByteArray.mk #[]),.int .i64 0,.int .i64 ag,.int .i64 0,.int .i64 0,.int .i64 0,.slice g.a g.len g.cap,.slice none 0 0])).run Tryz.prog t=.ok () u)∧
 ∃ ah:Int,∃ ai:ByteArray,∃ aj:Int,∃ ak:Int,∃ al:Int,∃ am:Int,∃ an:Int,∃ i:Sl,∃ j:Sl,(At (fun b=>b=u) ⟨A,0,none⟩ [.int .i64 ah,.string ai,.int .i64 aj,.int .i64 ak,.int .i64 al,.int .i64 am,.int .i64 an,.slice i.a i.len i.cap,.slice j.a j.len j.cap])∧
 K (.agg #[.int .i64 ah,.string ai,.int .i64 aj,.int .i64 ak,.int .i64 al,.int .i64 am,.int .i64 an,.slice i.a i.len i.cap,.slice j.a j.len j.cap]) u)∨
 (∃ H:List PanicEntry,(O=.panicked H)∧c H t))∨
 (∃ G:List PanicEntry,(N=.panicked G)∧c G s))∨
 (∃ F:List PanicEntry,(M=.panicked F)∧c F au))∨
 (∃ E:List PanicEntry,(L=.panicked E)∧c E ar))∨
 (∃ D:List PanicEntry,(J=.panicked D)∧c D k))∨
 (∃ C:List PanicEntry,(I=.panicked C)∧c C m)) a9) a5) w
theorem call42 (e:Option Addr) (f:Int) (g:ByteArray) (i:Int) (j:Int) (k:Int) (l:Int) (m:Nat) (n:ByteArray) (o:Int) (c:Sl) (b:Sl) (d:List PanicEntry→World→Prop) (K:Value→World→Prop) (w:World) (h:B42 e f g i j k l m n o c b d K w):GetsX Tryz.prog 42 #[.pointer e,.agg #[.int .i64 f,.string g,.int .i64 i,.int .i64 j,.int .i64 k,.int .i64 l,.float .f64 m,.string n,.int .i64 o,.slice c.a c.len c.cap,.slice b.a b.len b.cap]] w d K:=cqx (sk:=.leaf) Tryz.func42 (by kernel_rfl) (by kernel_rfl) (by kernel_rfl) h
def B15 (g:Option Addr) (g4:Int) (g5:ByteArray) (g6:Int) (g7:Int) (g8:Int) (g9:Int) (ha:Nat) (hb:ByteArray) (hc:Int) (ap:Sl) (ao:Sl) (K:Value→World→Prop) (w:World):Prop:=
 New (.cells #[.int .i64 g4,.string g5,.int .i64 g6,.int .i64 g7,.int .i64 g8,.int .i64 g9,.float .f64 ha,.string hb,.int .i64 hc,.slice ap.a ap.len ap.cap,.slice ao.a ao.len ao.cap] 38 (0,0)) (fun d hd=>
 New (.cells #[.int .i64 0,.string (ByteArray.mk #[]),.int .i64 0,.int .i64 0,.int .i64 0,.int .i64 0,.int .i64 0,.slice none 0 0,.slice none 0 0] 31 (0,0)) (fun c gq=>
 ∃ dm:Int,∃ dn:ByteArray,∃ dp:Int,∃ dq:Int,∃ dr:Int,∃ ds:Int,∃ dt:Nat,∃ du:ByteArray,∃ dv:Int,∃ F:Sl,∃ E:Sl,(At (fun b=>b=gq) ⟨d,0,none⟩ [.int .i64 dm,.string dn,.int .i64 dp,.int .i64 dq,.int .i64 dr,.int .i64 ds,.float .f64 dt,.string du,.int .i64 dv,.slice F.a F.len F.cap,.slice E.a E.len E.cap])∧
 Calls Tryz.prog 41 #[.agg #[.int .i64 dm,.string dn,.int .i64 dp,.int .i64 dq,.int .i64 dr,.int .i64 ds,.float .f64 dt,.string du,.int .i64 dv,.slice F.a F.len F.cap,.slice E.a E.len E.cap]] gq fun a2 gy=>
 (∃ dw:Bool,(a2=.returned (.bool dw))∧
 Calls Tryz.prog 40 #[.bool dw,.int .i64 1] gy fun a3 al=>
 ((a3=.returned (.tuple #[]))∧
 ∃ f:Int,(At (fun b=>b=al) ⟨d,0,none⟩ [.int .i64 f])∧
 Br (f==1)
 (∃ ba:Int,∃ bb:ByteArray,∃ bc:Int,∃ bd:Int,∃ be:Int,∃ bf:Int,∃ bg:Nat,∃ bh:ByteArray,∃ bi:Int,∃ j:Sl,∃ i:Sl,(At (fun b=>b=al) ⟨d,0,none⟩ [.int .i64 ba,.string bb,.int .i64 bc,.int .i64 bd,.int .i64 be,.int .i64 bf,.float .f64 bg,.string bh,.int .i64 bi,.slice j.a j.len j.cap,.slice i.a i.len i.cap])∧
 Calls Tryz.prog 42 #[.pointer g,.agg #[.int .i64 ba,.string bb,.int .i64 bc,.int .i64 bd,.int .i64 be,.int .i64 bf,.float .f64 bg,.string bh,.int .i64 bi,.slice j.a j.len j.cap,.slice i.a i.len i.cap]] al fun a4 g0=>
 (∃ bj:Int,∃ bk:ByteArray,∃ bl:Int,∃ bm:Int,∃ bn:Int,∃ bo:Int,∃ bp:Int,∃ k:Sl,∃ l:Sl,(a4=.returned (.agg #[.int .i64 bj,.string bk,.int .i64 bl,.int .i64 bm,.int .i64 bn,.int .i64 bo,.int .i64 bp,.slice k.a k.len k.cap,.slice l.a l.len l.cap]))∧
 ∃ g1:World,((Instr.storeAt 31 (.pointer ((some ⟨c,0,none⟩))) (.agg #[.int .i64 bj,.string bk,.int .i64 bl,.int .i64 bm,.int .i64 bn,.int .i64 bo,.int .i64 bp,.slice k.a k.len k.cap,.slice l.a l.len l.cap])).run Tryz.prog g0=.ok () g1)∧
 LeaveF Tryz.prog 39 [.pointer ((some ⟨c,0,none⟩))] .returning (fun g2=>∃ dx:Int,∃ dy:ByteArray,∃ ek:Int,∃ et:Int,∃ e2:Int,∃ fb:Int,∃ fk:Int,∃ ab:Sl,∃ af:Sl,(At (fun b=>b=g2) ⟨c,0,none⟩ [.int .i64 dx,.string dy,.int .i64 ek,.int .i64 et,.int .i64 e2,.int .i64 fb,.int .i64 fk,.slice ab.a ab.len ab.cap,.slice af.a af.len af.cap])∧
 K (.agg #[.int .i64 dx,.string dy,.int .i64 ek,.int .i64 et,.int .i64 e2,.int .i64 fb,.int .i64 fk,.slice ab.a ab.len ab.cap,.slice af.a af.len af.cap]) g2) g1)∨
 (∃ aw:List PanicEntry,(a4=.panicked aw)∧LeaveF Tryz.prog 39 [.pointer ((some ⟨c,0,none⟩))] (.panicking aw) (fun g3=>∃ f7:Int,∃ dz:ByteArray,∃ d8:Int,∃ ee:Int,∃ ef:Int,∃ eg:Int,∃ eh:Int,∃ L:Sl,∃ M:Sl,(At (fun b=>b=g3) ⟨c,0,none⟩ [.int .i64 f7,.string dz,.int .i64 d8,.int .i64 ee,.int .i64 ef,.int .i64 eg,.int .i64 eh,.slice L.a L.len L.cap,.slice M.a M.len M.cap])∧
 K (.agg #[.int .i64 f7,.string dz,.int .i64 d8,.int .i64 ee,.int .i64 ef,.int .i64 eg,.int .i64 eh,.slice L.a L.len L.cap,.slice M.a M.len M.cap]) g3) g0))
 (∃ (an:Bool→World→Prop),(Br (f==2)
 (an (f==2) al)
 (an (f==7) al))∧
 ∀ (hf:Env) (bq:Bool) (e:World),an bq e→
 Br bq
 (∃ br:Int,∃ bs:ByteArray,∃ bt:Int,∃ bu:Int,∃ bv:Int,∃ bw:Int,∃ bx:Nat,∃ bz:ByteArray,∃ b0:Int,∃ n:Sl,∃ m:Sl,(At (fun b=>b=e) ⟨d,0,none⟩ [.int .i64 br,.string bs,.int .i64 bt,.int .i64 bu,.int .i64 bv,.int .i64 bw,.float .f64 bx,.string bz,.int .i64 b0,.slice n.a n.len n.cap,.slice m.a m.len m.cap])∧
 Calls Tryz.prog 43 #[.pointer g,.agg #[.int .i64 br,.string bs,.int .i64 bt,.int .i64 bu,.int .i64 bv,.int .i64 bw,.float .f64 bx,.string bz,.int .i64 b0,.slice n.a n.len n.cap,.slice m.a m.len m.cap]] e fun a5 gg=>
 (∃ b1:Int,∃ b2:ByteArray,∃ b3:Int,∃ b4:Int,∃ b5:Int,∃ b6:Int,∃ b7:Int,∃ o:Sl,∃ p:Sl,(a5=.returned (.agg #[.int .i64 b1,.string b2,.int .i64 b3,.int .i64 b4,.int .i64 b5,.int .i64 b6,.int .i64 b7,.slice o.a o.len o.cap,.slice p.a p.len p.cap]))∧
 ∃ gh:World,((Instr.storeAt 31 (.pointer ((some ⟨c,0,none⟩))) (.agg #[.int .i64 b1,.string b2,.int .i64 b3,.int .i64 b4,.int .i64 b5,.int .i64 b6,.int .i64 b7,.slice o.a o.len o.cap,.slice p.a p.len p.cap])).run Tryz.prog gg=.ok () gh)∧
 LeaveF Tryz.prog 39 [.pointer ((some ⟨c,0,none⟩))] .returning (fun gi=>∃ ei:Int,∃ ej:ByteArray,∃ el:Int,∃ em:Int,∃ en:Int,∃ eo:Int,∃ ep:Int,∃ N:Sl,∃ O:Sl,(At (fun b=>b=gi) ⟨c,0,none⟩ [.int .i64 ei,.string ej,.int .i64 el,.int .i64 em,.int .i64 en,.int .i64 eo,.int .i64 ep,.slice N.a N.len N.cap,.slice O.a O.len O.cap])∧
 K (.agg #[.int .i64 ei,.string ej,.int .i64 el,.int .i64 em,.int .i64 en,.int .i64 eo,.int .i64 ep,.slice N.a N.len N.cap,.slice O.a O.len O.cap]) gi) gh)∨
 (∃ ax:List PanicEntry,(a5=.panicked ax)∧LeaveF Tryz.prog 39 [.pointer ((some ⟨c,0,none⟩))] (.panicking ax) (fun gj=>∃ eq:Int,∃ er:ByteArray,∃ es:Int,∃ eu:Int,∃ ev:Int,∃ ew:Int,∃ ex:Int,∃ Q:Sl,∃ T:Sl,(At (fun b=>b=gj) ⟨c,0,none⟩ [.int .i64 eq,.string er,.int .i64 es,.int .i64 eu,.int .i64 ev,.int .i64 ew,.int .i64 ex,.slice Q.a Q.len Q.cap,.slice T.a T.len T.cap])∧
 K (.agg #[.int .i64 eq,.string er,.int .i64 es,.int .i64 eu,.int .i64 ev,.int .i64 ew,.int .i64 ex,.slice Q.a Q.len Q.cap,.slice T.a T.len T.cap]) gj) gg))
 (Br (f==8)
 (∃ b8:Int,∃ b9:ByteArray,∃ ca:Int,∃ cb:Int,∃ cc:Int,∃ cd:Int,∃ ce:Nat,∃ cf:ByteArray,∃ cg:Int,∃ r:Sl,∃ q:Sl,(At (fun b=>b=e) ⟨d,0,none⟩ [.int .i64 b8,.string b9,.int .i64 ca,.int .i64 cb,.int .i64 cc,.int .i64 cd,.float .f64 ce,.string cf,.int .i64 cg,.slice r.a r.len r.cap,.slice q.a q.len q.cap])∧
 Calls Tryz.prog 44 #[.pointer g,.agg #[.int .i64 b8,.string b9,.int .i64 ca,.int .i64 cb,.int .i64 cc,.int .i64 cd,.float .f64 ce,.string cf,.int .i64 cg,.slice r.a r.len r.cap,.slice q.a q.len q.cap]] e fun a6 gk=>
 (∃ ch:Int,∃ ci:ByteArray,∃ cj:Int,∃ ck:Int,∃ cl:Int,∃ cm:Int,∃ cn:Int,∃ s:Sl,∃ t:Sl,(a6=.returned (.agg #[.int .i64 ch,.string ci,.int .i64 cj,.int .i64 ck,.int .i64 cl,.int .i64 cm,.int .i64 cn,.slice s.a s.len s.cap,.slice t.a t.len t.cap]))∧
 ∃ gl:World,((Instr.storeAt 31 (.pointer ((some ⟨c,0,none⟩))) (.agg #[.int .i64 ch,.string ci,.int .i64 cj,.int .i64 ck,.int .i64 cl,.int .i64 cm,.int .i64 cn,.slice s.a s.len s.cap,.slice t.a t.len t.cap])).run Tryz.prog gk=.ok () gl)∧
 LeaveF Tryz.prog 39 [.pointer ((some ⟨c,0,none⟩))] .returning (fun gm=>∃ ey:Int,∃ ez:ByteArray,∃ e0:Int,∃ e1:Int,∃ e3:Int,∃ e4:Int,∃ e5:Int,∃ U:Sl,∃ V:Sl,(At (fun b=>b=gm) ⟨c,0,none⟩ [.int .i64 ey,.string ez,.int .i64 e0,.int .i64 e1,.int .i64 e3,.int .i64 e4,.int .i64 e5,.slice U.a U.len U.cap,.slice V.a V.len V.cap])∧
 K (.agg #[.int .i64 ey,.string ez,.int .i64 e0,.int .i64 e1,.int .i64 e3,.int .i64 e4,.int .i64 e5,.slice U.a U.len U.cap,.slice V.a V.len V.cap]) gm) gl)∨
 (∃ ay:List PanicEntry,(a6=.panicked ay)∧LeaveF Tryz.prog 39 [.pointer ((some ⟨c,0,none⟩))] (.panicking ay) (fun gn=>∃ e6:Int,∃ e7:ByteArray,∃ e8:Int,∃ e9:Int,∃ fa:Int,∃ fc:Int,∃ fd:Int,∃ X:Sl,∃ Y:Sl,(At (fun b=>b=gn) ⟨c,0,none⟩ [.int .i64 e6,.string e7,.int .i64 e8,.int .i64 e9,.int .i64 fa,.int .i64 fc,.int .i64 fd,.slice X.a X.len X.cap,.slice Y.a Y.len Y.cap])∧
 K (.agg #[.int .i64 e6,.string e7,.int .i64 e8,.int .i64 e9,.int .i64 fa,.int .i64 fc,.int .i64 fd,.slice X.a X.len X.cap,.slice Y.a Y.len Y.cap]) gn) gk))
 (Br (f==9)
 (∃ co:Int,∃ cp:ByteArray,∃ cq:Int,∃ cr:Int,∃ cs:Int,∃ ct:Int,∃ cu:Nat,∃ cv:ByteArray,∃ cw:Int,∃ v:Sl,∃ u:Sl,(At (fun b=>b=e) ⟨d,0,none⟩ [.int .i64 co,.string cp,.int .i64 cq,.int .i64 cr,.int .i64 cs,.int .i64 ct,.float .f64 cu,.string cv,.int .i64 cw,.slice v.a v.len v.cap,.slice u.a u.len u.cap])∧
 Calls Tryz.prog 19 #[.pointer g,.agg #[.int .i64 co,.string cp,.int .i64 cq,.int .i64 cr,.int .i64 cs,.int .i64 ct,.float .f64 cu,.string cv,.int .i64 cw,.slice v.a v.len v.cap,.slice u.a u.len u.cap]] e fun a7 go=>
 (∃ cx:Int,∃ cy:ByteArray,∃ cz:Int,∃ c0:Int,∃ c1:Int,∃ c2:Int,∃ c3:Int,∃ x:Sl,∃ y:Sl,(a7=.returned (.agg #[.int .i64 cx,.string cy,.int .i64 cz,.int .i64 c0,.int .i64 c1,.int .i64 c2,.int .i64 c3,.slice x.a x.len x.cap,.slice y.a y.len y.cap]))∧
 ∃ gp:World,((Instr.storeAt 31 (.pointer ((some ⟨c,0,none⟩))) (.agg #[.int .i64 cx,.string cy,.int .i64 cz,.int .i64 c0,.int .i64 c1,.int .i64 c2,.int .i64 c3,.slice x.a x.len x.cap,.slice y.a y.len y.cap])).run Tryz.prog go=.ok () gp)∧
 LeaveF Tryz.prog 39 [.pointer ((some ⟨c,0,none⟩))] .returning (fun gr=>∃ fe:Int,∃ ff:ByteArray,∃ fg:Int,∃ fh:Int,∃ fi:Int,∃ fj:Int,∃ fl:Int,∃ Z:Sl,∃ aa:Sl,(At (fun b=>b=gr) ⟨c,0,none⟩ [.int .i64 fe,.string ff,.int .i64 fg,.int .i64 fh,.int .i64 fi,.int .i64 fj,.int .i64 fl,.slice Z.a Z.len Z.cap,.slice aa.a aa.len aa.cap])∧
 K (.agg #[.int .i64 fe,.string ff,.int .i64 fg,.int .i64 fh,.int .i64 fi,.int .i64 fj,.int .i64 fl,.slice Z.a Z.len Z.cap,.slice aa.a aa.len aa.cap]) gr) gp)∨
 (∃ az:List PanicEntry,(a7=.panicked az)∧LeaveF Tryz.prog 39 [.pointer ((some ⟨c,0,none⟩))] (.panicking az) (fun gs=>∃ fm:Int,∃ fn:ByteArray,∃ fo:Int,∃ fp:Int,∃ fq:Int,∃ fr:Int,∃ fs:Int,∃ ac:Sl,∃ ad:Sl,(At (fun b=>b=gs) ⟨c,0,none⟩ [.int .i64 fm,.string fn,.int .i64 fo,.int .i64 fp,.int .i64 fq,.int .i64 fr,.int .i64 fs,.slice ac.a ac.len ac.cap,.slice ad.a ad.len ad.cap])∧
 K (.agg #[.int .i64 fm,.string fn,.int .i64 fo,.int .i64 fp,.int .i64 fq,.int .i64 fr,.int .i64 fs,.slice ac.a ac.len ac.cap,.slice ad.a ad.len ad.cap]) gs) go))
 (Drw e fun am he=>
 ∃ c4:ByteArray,(At am ⟨d,0 + 1,none⟩ [.string c4])∧
 ∃ c6:Int,∃ c7:ByteArray,∃ c8:Int,∃ c9:Int,∃ da:Int,∃ db:Int,∃ dc:Nat,∃ dd:ByteArray,∃ de:Int,∃ A:Sl,∃ z:Sl,(At am ⟨d,0,none⟩ [.int .i64 c6,.string c7,.int .i64 c8,.int .i64 c9,.int .i64 da,.int .i64 db,.float .f64 dc,.string dd,.int .i64 de,.slice A.a A.len A.cap,.slice z.a z.len z.cap])∧
 Calls Tryz.prog 46 #[.pointer g,.string c4] he fun a8 aq=>
 (∃ c5:Option Addr,(a8=.returned (.pointer c5))∧
 (am aq)∧
 Calls Tryz.prog 45 #[.pointer g,.pointer c5,.agg #[.int .i64 c6,.string c7,.int .i64 c8,.int .i64 c9,.int .i64 da,.int .i64 db,.float .f64 dc,.string dd,.int .i64 de,.slice A.a A.len A.cap,.slice z.a z.len z.cap]] aq fun a9 ar=>
 (∃ df:Int,∃ dg:ByteArray,∃ dh:Int,∃ di:Int,∃ dj:Int,∃ dk:Int,∃ dl:Int,∃ C:Sl,∃ D:Sl,(a9=.returned (.agg #[.int .i64 df,.string dg,.int .i64 dh,.int .i64 di,.int .i64 dj,.int .i64 dk,.int .i64 dl,.slice C.a C.len C.cap,.slice D.a D.len D.cap]))∧
 (am ar)∧
 ∃ gt:World,((Instr.storeAt 31 (.pointer ((some ⟨c,0,none⟩))) (.agg #[.int .i64 df,.string dg,.int .i64 dh,.int .i64 di,.int .i64 dj,.int .i64 dk,.int .i64 dl,.slice C.a C.len C.cap,.slice D.a D.len D.cap])).run Tryz.prog ar=.ok () gt)∧
 LeaveF Tryz.prog 39 [.pointer ((some ⟨c,0,none⟩))] .returning (fun gu=>∃ ft:Int,∃ fu:ByteArray,∃ fv:Int,∃ fw:Int,∃ fx:Int,∃ fy:Int,∃ fz:Int,∃ ae:Sl,∃ ag:Sl,(At (fun b=>b=gu) ⟨c,0,none⟩ [.int .i64 ft,.string fu,.int .i64 fv,.int .i64 fw,.int .i64 fx,.int .i64 fy,.int .i64 fz,.slice ae.a ae.len ae.cap,.slice ag.a ag.len ag.cap])∧
 K (.agg #[.int .i64 ft,.string fu,.int .i64 fv,.int .i64 fw,.int .i64 fx,.int .i64 fy,.int .i64 fz,.slice ae.a ae.len ae.cap,.slice ag.a ag.len ag.cap]) gu) gt)∨
 (∃ a1:List PanicEntry,(a9=.panicked a1)∧LeaveF Tryz.prog 39 [.pointer ((some ⟨c,0,none⟩))] (.panicking a1) (fun gv=>∃ f0:Int,∃ f1:ByteArray,∃ f2:Int,∃ f3:Int,∃ f4:Int,∃ f5:Int,∃ f6:Int,∃ ah:Sl,∃ ai:Sl,(At (fun b=>b=gv) ⟨c,0,none⟩ [.int .i64 f0,.string f1,.int .i64 f2,.int .i64 f3,.int .i64 f4,.int .i64 f5,.int .i64 f6,.slice ah.a ah.len ah.cap,.slice ai.a ai.len ai.cap])∧
 K (.agg #[.int .i64 f0,.string f1,.int .i64 f2,.int .i64 f3,.int .i64 f4,.int .i64 f5,.int .i64 f6,.slice ah.a ah.len ah.cap,.slice ai.a ai.len ai.cap]) gv) ar))∨
 (∃ a0:List PanicEntry,(a8=.panicked a0)∧LeaveF Tryz.prog 39 [.pointer ((some ⟨c,0,none⟩))] (.panicking a0) (fun gw=>∃ f8:Int,∃ f9:ByteArray,∃ ga:Int,∃ gb:Int,∃ gc:Int,∃ gd:Int,∃ ge:Int,∃ aj:Sl,∃ ak:Sl,(At (fun b=>b=gw) ⟨c,0,none⟩ [.int .i64 f8,.string f9,.int .i64 ga,.int .i64 gb,.int .i64 gc,.int .i64 gd,.int .i64 ge,.slice aj.a aj.len aj.cap,.slice ak.a ak.len ak.cap])∧
 K (.agg #[.int .i64 f8,.string f9,.int .i64 ga,.int .i64 gb,.int .i64 gc,.int .i64 gd,.int .i64 ge,.slice aj.a aj.len aj.cap,.slice ak.a ak.len ak.cap]) gw) aq))))))∨
 (∃ av:List PanicEntry,(a3=.panicked av)∧LeaveF Tryz.prog 39 [.pointer ((some ⟨c,0,none⟩))] (.panicking av) (fun gx=>∃ gf:Int,∃ d0:ByteArray,∃ d1:Int,∃ d2:Int,∃ d3:Int,∃ d4:Int,∃ d5:Int,∃ G:Sl,∃ H:Sl,(At (fun b=>b=gx) ⟨c,0,none⟩ [.int .i64 gf,.string d0,.int .i64 d1,.int .i64 d2,.int .i64 d3,.int .i64 d4,.int .i64 d5,.slice G.a G.len G.cap,.slice H.a H.len H.cap])∧
 K (.agg #[.int .i64 gf,.string d0,.int .i64 d1,.int .i64 d2,.int .i64 d3,.int .i64 d4,.int .i64 d5,.slice G.a G.len G.cap,.slice H.a H.len H.cap]) gx) al))∨
 (∃ au:List PanicEntry,(a2=.panicked au)∧LeaveF Tryz.prog 39 [.pointer ((some ⟨c,0,none⟩))] (.panicking au) (fun gz=>∃ d6:Int,∃ d7:ByteArray,∃ d9:Int,∃ ea:Int,∃ eb:Int,∃ ec:Int,∃ ed:Int,∃ I:Sl,∃ J:Sl,(At (fun b=>b=gz) ⟨c,0,none⟩ [.int .i64 d6,.string d7,.int .i64 d9,.int .i64 ea,.int .i64 eb,.int .i64 ec,.int .i64 ed,.slice I.a I.len I.cap,.slice J.a J.len J.cap])∧
 K (.agg #[.int .i64 d6,.string d7,.int .i64 d9,.int .i64 ea,.int .i64 eb,.int .i64 ec,.int .i64 ed,.slice I.a I.len I.cap,.slice J.a J.len J.cap]) gz) gy)) hd) w
def sk15:Sk:=(.seq .leaf (.seq (.seq .leaf (.block (.seq .leaf (.cond .leaf (.cut [15] [.bool] [15,16,17] .leaf .leaf))))) .leaf))
theorem call15 (d:Option Addr) (e:Int) (f:ByteArray) (g:Int) (i:Int) (j:Int) (k:Int) (l:Nat) (m:ByteArray) (n:Int) (c:Sl) (b:Sl) (K:Value→World→Prop) (w:World) (h:B15 d e f g i j k l m n c b K w):Gets Tryz.prog 15 #[.pointer d,.agg #[.int .i64 e,.string f,.int .i64 g,.int .i64 i,.int .i64 j,.int .i64 k,.float .f64 l,.string m,.int .i64 n,.slice c.a c.len c.cap,.slice b.a b.len b.cap]] w K:=cqd (sk:=sk15) Tryz.func15 (by kernel_rfl) (by kernel_rfl) (by kernel_rfl) h
end Go.Proofs.YtfgbbckfikiomaaGreatDoor
/- The formulas of functions of this seat's translation, printed by a program of mine off the translation; each is proved equal to 'fnF' of the function's body, so it is enough for the call. No condition. -/
namespace Go.Proofs.YtfgbbckfikiomaaGreatDoor
open Go Go.VC
set_option linter.unusedVariables false
set_option maxRecDepth 10000
def B71 (i:Sl) (K:Value→World→Prop) (w:World):Prop:=
 ∃ (g:Sl→Int→World→Prop) (l:Sl→Int→World→Nat),(g ⟨none,0,0⟩ 0 w)∧∀ (q:Env) (b:Sl) (c:Int) (f:World),g b c f→
 Br (decide (c<(↑i.len:Int)))
 (Rng c i.len (NilP i.a fun m=>
 ∃ j:Int,(At (fun o=>o=f) (Addr.add m c.toNat) [.int .i64 j])∧
 Calls Tryz.prog 88 #[.int .u64 (IntKind.u64.wrap (if 0>j then 0 else j))] f fun n p=>
 ∃ d:Sl,(n=.returned (.slice d.a d.len d.cap))∧
 ∃ k:World,∃ e:Sl,((Builtin.append_ #[42,42] 42 #[.slice b.a b.len b.cap,.slice d.a d.len d.cap]).run Tryz.prog p=.ok (.slice e.a e.len e.cap) k)∧
 (g e (IntKind.i64.wrap (c + 1)) k)∧l e (IntKind.i64.wrap (c + 1)) k<l b c f))
 (K (.slice b.a b.len b.cap) f)
def sk71:Sk:=(.seq .leaf (.seq .leaf (.seq (.seq .leaf (.block (.loop [3,4] [.sl,(.int .i64)] [3,4,5,6,7,8,9,10,11,12,13,14,15,16,17,18,19] .leaf))) .leaf)))
theorem call71 (b:Sl) (K:Value→World→Prop) (w:World) (h:B71 b K w):Gets Tryz.prog 71 #[.slice b.a b.len b.cap] w K:=cq (sk:=sk71) Tryz.func71 (by kernel_rfl) (by kernel_rfl) (by kernel_rfl) h
def B28 (al:Int) (am:ByteArray) (an:Int) (ao:Int) (ap:Int) (aq:Int) (ar:Int) (D:Sl) (E:Sl) (K:Value→World→Prop) (w:World):Prop:=
 New (.cells #[.int .i64 al,.string am,.int .i64 an,.int .i64 ao,.int .i64 ap,.int .i64 aq,.int .i64 ar,.slice D.a D.len D.cap,.slice E.a E.len E.cap] 31 (0,0)) (fun c U=>
 ∃ T:Int,(At (fun b=>b=U) ⟨c,0,none⟩ [.int .i64 T])∧
 New (.cells #[.int .i64 T] 3 (0,0)) (fun ae ay=>
 Calls Tryz.prog 71 #[.slice ((some ⟨ae,0,none⟩)) 1 1] ay fun af Y=>
 ∃ t:Sl,(af=.returned (.slice t.a t.len t.cap))∧
 ∃ I:ByteArray,(At (fun b=>b=Y) ⟨c,0 + 1,none⟩ [.string I])∧
 ∃ Z:World,∃ i:Sl,((convert 9 42 (.string I)).run Tryz.prog Y=.ok (.slice i.a i.len i.cap) Z)∧
 Calls Tryz.prog 72 #[.slice i.a i.len i.cap] Z fun ag az=>
 ∃ j:Sl,(ag=.returned (.slice j.a j.len j.cap))∧
 ∃ e:World,∃ k:Sl,((Builtin.append_ #[42,42] 42 #[.slice t.a t.len t.cap,.slice j.a j.len j.cap]).run Tryz.prog az=.ok (.slice k.a k.len k.cap) e)∧
 ∃ J:Int,(At (fun b=>b=e) ⟨c,0 + 2,none⟩ [.int .i64 J])∧
 ∃ L:Int,(At (fun b=>b=e) ⟨c,0 + 3,none⟩ [.int .i64 L])∧
 ∃ M:Int,(At (fun b=>b=e) ⟨c,0 + 4,none⟩ [.int .i64 M])∧
 ∃ N:Int,(At (fun b=>b=e) ⟨c,0 + 5,none⟩ [.int .i64 N])∧
 ∃ O:Int,(At (fun b=>b=e) ⟨c,0 + 6,none⟩ [.int .i64 O])∧
 ∃ x:Sl,(At (fun b=>b=e) ⟨c,0 + 7,none⟩ [.slice x.a x.len x.cap])∧
 New (.cells #[.int .i64 J,.int .i64 L,.int .i64 M,.int .i64 N,.int .i64 O,.int .i64 ((↑x.len:Int))] 3 (0,0)) (fun ac a0=>
 Calls Tryz.prog 71 #[.slice ((some ⟨ac,0,none⟩)) 6 6] a0 fun ah a1=>
 ∃ l:Sl,(ah=.returned (.slice l.a l.len l.cap))∧
 ∃ H:World,∃ m:Sl,((Builtin.append_ #[42,42] 42 #[.slice k.a k.len k.cap,.slice l.a l.len l.cap]).run Tryz.prog a1=.ok (.slice m.a m.len m.cap) H)∧
 ∃ n:Sl,(At (fun b=>b=H) ⟨c,0 + 7,none⟩ [.slice n.a n.len n.cap])∧
 Calls Tryz.prog 71 #[.slice n.a n.len n.cap] H fun ai au=>
 ∃ o:Sl,(ai=.returned (.slice o.a o.len o.cap))∧
 ∃ F:World,∃ p:Sl,((Builtin.append_ #[42,42] 42 #[.slice m.a m.len m.cap,.slice o.a o.len o.cap]).run Tryz.prog au=.ok (.slice p.a p.len p.cap) F)∧
 ∃ y:Sl,(At (fun b=>b=F) ⟨c,0 + 8,none⟩ [.slice y.a y.len y.cap])∧
 New (.cells #[.int .i64 ((↑y.len:Int))] 3 (0,0)) (fun ad av=>
 Calls Tryz.prog 71 #[.slice ((some ⟨ad,0,none⟩)) 1 1] av fun aj aw=>
 ∃ q:Sl,(aj=.returned (.slice q.a q.len q.cap))∧
 ∃ V:World,∃ z:Sl,((Builtin.append_ #[42,42] 42 #[.slice p.a p.len p.cap,.slice q.a q.len q.cap]).run Tryz.prog aw=.ok (.slice z.a z.len z.cap) V)∧
 ∃ (C:Sl→Int→World→Prop) (aa:Sl→Int→World→Nat),(C z 0 V)∧∀ (a2:Env) (d:Sl) (f:Int) (g:World),C d f g→
 ∃ A:Sl,(At (fun b=>b=g) ⟨c,0 + 8,none⟩ [.slice A.a A.len A.cap])∧
 Br (decide (f<(↑A.len:Int)))
 (∃ u:Sl,(At (fun b=>b=g) ⟨c,0 + 8,none⟩ [.slice u.a u.len u.cap])∧
 Rng f u.len (NilP u.a fun ab=>
 ∃ Q:ByteArray,(At (fun b=>b=g) (Addr.add ab f.toNat) [.string Q])∧
 ∃ X:World,∃ r:Sl,((convert 9 42 (.string Q)).run Tryz.prog g=.ok (.slice r.a r.len r.cap) X)∧
 Calls Tryz.prog 72 #[.slice r.a r.len r.cap] X fun ak ax=>
 ∃ s:Sl,(ak=.returned (.slice s.a s.len s.cap))∧
 ∃ G:World,∃ v:Sl,((Builtin.append_ #[42,42] 42 #[.slice d.a d.len d.cap,.slice s.a s.len s.cap]).run Tryz.prog ax=.ok (.slice v.a v.len v.cap) G)∧
 (C v (IntKind.i64.wrap (f + 1)) G)∧aa v (IntKind.i64.wrap (f + 1)) G<aa d f g))
 (K (.slice d.a d.len d.cap) g)) F) e) U) w
def sk28:Sk:=(.seq .leaf (.seq .leaf (.seq .leaf (.seq .leaf (.seq .leaf (.seq .leaf (.seq (.seq .leaf (.block (.loop [3,4] [.sl,(.int .i64)] [3,4,44,45,46,47,48,49,50,51,52,53,54,55,56,57,58,59] .leaf))) .leaf)))))))
theorem call28 (d:Int) (e:ByteArray) (f:Int) (g:Int) (i:Int) (j:Int) (k:Int) (b:Sl) (c:Sl) (K:Value→World→Prop) (w:World) (h:B28 d e f g i j k b c K w):Gets Tryz.prog 28 #[.agg #[.int .i64 d,.string e,.int .i64 f,.int .i64 g,.int .i64 i,.int .i64 j,.int .i64 k,.slice b.a b.len b.cap,.slice c.a c.len c.cap]] w K:=cq (sk:=sk28) Tryz.func28 (by kernel_rfl) (by kernel_rfl) (by kernel_rfl) h
def B27 (C:Sl) (K:Value→World→Prop) (w:World):Prop:=
 New (.cells #[.int .i64 0,.string (ByteArray.mk #[]),.int .i64 0,.int .i64 0,.int .i64 0,.int .i64 0,.int .i64 0,.slice none 0 0,.slice none 0 0] 31 (0,0)) (fun u bp=>
 New (.cells #[.slice C.a C.len C.cap,.int .i64 0,.bool false] 133 (0,0)) (fun c bv=>
 Calls Tryz.prog 84 #[.pointer ((some ⟨c,0,none⟩)),.int .u64 1099511627776] bv fun bd bz=>
 ∃ L:Int,(bd=.returned (.int .u64 L))∧
 Calls Tryz.prog 85 #[.pointer ((some ⟨c,0,none⟩)),.int .i64 16] bz fun be a6=>
 ∃ e:Sl,(be=.returned (.slice e.a e.len e.cap))∧
 ∃ M:ByteArray,(∀ b,(fun b=>b=a6) b→((convert 42 9 (.slice e.a e.len e.cap))).run Tryz.prog b=.ok (.string M) b)∧
 New (.cells #[.int .i64 0,.string (ByteArray.mk #[]),.int .i64 0,.int .i64 0,.int .i64 0,.int .i64 0,.int .i64 0,.slice none 0 0,.slice none 0 0] 31 (0,0)) (fun d b0=>
 ∃ a7:World,((Instr.storeAt 31 (.pointer ((some ⟨d,0,none⟩))) (.agg #[.int .i64 (IntKind.i64.wrap L),.string M,.int .i64 0,.int .i64 0,.int .i64 0,.int .i64 0,.int .i64 0,.slice none 0 0,.slice none 0 0])).run Tryz.prog b0=.ok () a7)∧
 Calls Tryz.prog 84 #[.pointer ((some ⟨c,0,none⟩)),.int .u64 1099511627776] a7 fun bh b1=>
 ∃ N:Int,(bh=.returned (.int .u64 N))∧
 ∃ a8:World,((Instr.storeAt 3 (.pointer ((some ⟨d,0 + 2,none⟩))) (.int .i64 (IntKind.i64.wrap N))).run Tryz.prog b1=.ok () a8)∧
 Calls Tryz.prog 84 #[.pointer ((some ⟨c,0,none⟩)),.int .u64 1099511627776] a8 fun bi b2=>
 ∃ O:Int,(bi=.returned (.int .u64 O))∧
 ∃ ay:World,((Instr.storeAt 3 (.pointer ((some ⟨d,0 + 3,none⟩))) (.int .i64 (IntKind.i64.wrap O))).run Tryz.prog b2=.ok () ay)∧
 Calls Tryz.prog 84 #[.pointer ((some ⟨c,0,none⟩)),.int .u64 1099511627776] ay fun bj bq=>
 ∃ Q:Int,(bj=.returned (.int .u64 Q))∧
 ∃ az:World,((Instr.storeAt 3 (.pointer ((some ⟨d,0 + 4,none⟩))) (.int .i64 (IntKind.i64.wrap Q))).run Tryz.prog bq=.ok () az)∧
 Calls Tryz.prog 84 #[.pointer ((some ⟨c,0,none⟩)),.int .u64 1099511627776] az fun bk br=>
 ∃ U:Int,(bk=.returned (.int .u64 U))∧
 ∃ a0:World,((Instr.storeAt 3 (.pointer ((some ⟨d,0 + 5,none⟩))) (.int .i64 (IntKind.i64.wrap U))).run Tryz.prog br=.ok () a0)∧
 Calls Tryz.prog 84 #[.pointer ((some ⟨c,0,none⟩)),.int .u64 1099511627776] a0 fun bl bs=>
 ∃ V:Int,(bl=.returned (.int .u64 V))∧
 ∃ a1:World,((Instr.storeAt 3 (.pointer ((some ⟨d,0 + 6,none⟩))) (.int .i64 (IntKind.i64.wrap V))).run Tryz.prog bs=.ok () a1)∧
 Calls Tryz.prog 84 #[.pointer ((some ⟨c,0,none⟩)),.int .u64 8] a1 fun bm bt=>
 ∃ ak:Int,(bm=.returned (.int .u64 ak))∧
 ∃ (y:Int→World→Prop) (a9:Int→World→Nat),(y 0 bt)∧∀ (b3:Env) (r:Int) (v:World),y r v→
 Br (decide (r<ak))
 (Drw v fun A bu=>
 ∃ k:Sl,(At A ⟨d,0 + 7,none⟩ [.slice k.a k.len k.cap])∧
 Calls Tryz.prog 84 #[.pointer ((some ⟨c,0,none⟩)),.int .u64 1099511627776] bu fun bn a2=>
 ∃ al:Int,(bn=.returned (.int .u64 al))∧
 (A a2)∧
 New (.cells #[.int .i64 (IntKind.i64.wrap al)] 3 (0,0)) (fun bb a3=>
 (A a3)∧
 ∃ a4:World,∃ l:Sl,((Builtin.append_ #[28,28] 28 #[.slice k.a k.len k.cap,.slice ((some ⟨bb,0,none⟩)) 1 1]).run Tryz.prog a3=.ok (.slice l.a l.len l.cap) a4)∧
 ∃ D:World,((Instr.storeAt 28 (.pointer ((some ⟨d,0 + 7,none⟩))) (.slice l.a l.len l.cap)).run Tryz.prog a4=.ok () D)∧
 (y (IntKind.u64.wrap (r + 1)) D)∧a9 (IntKind.u64.wrap (r + 1)) D<a9 r v) a2)
 (Calls Tryz.prog 84 #[.pointer ((some ⟨c,0,none⟩)),.int .u64 600] v fun bo bw=>
 ∃ am:Int,(bo=.returned (.int .u64 am))∧
 ∃ (z:Int→World→Prop) (ba:Int→World→Nat),(z 0 bw)∧∀ (b4:Env) (s:Int) (x:World),z s x→
 Br (decide (s<am))
 (Drw x fun t bx=>
 ∃ m:Sl,(At t ⟨d,0 + 8,none⟩ [.slice m.a m.len m.cap])∧
 Calls Tryz.prog 85 #[.pointer ((some ⟨c,0,none⟩)),.int .i64 16] bx fun bf E=>
 ∃ n:Sl,(bf=.returned (.slice n.a n.len n.cap))∧
 (t E)∧
 ∃ an:ByteArray,(∀ b,(fun b=>b=E) b→((convert 42 9 (.slice n.a n.len n.cap))).run Tryz.prog b=.ok (.string an) b)∧
 New (.cells #[.string an] 9 (0,0)) (fun bc a5=>
 (t a5)∧
 ∃ F:World,∃ o:Sl,((Builtin.append_ #[29,29] 29 #[.slice m.a m.len m.cap,.slice ((some ⟨bc,0,none⟩)) 1 1]).run Tryz.prog a5=.ok (.slice o.a o.len o.cap) F)∧
 (t F)∧
 ∃ G:World,((Instr.storeAt 29 (.pointer ((some ⟨d,0 + 8,none⟩))) (.slice o.a o.len o.cap)).run Tryz.prog F=.ok () G)∧
 (z (IntKind.u64.wrap (s + 1)) G)∧ba (IntKind.u64.wrap (s + 1)) G<ba s x) E)
 (Calls Tryz.prog 86 #[.pointer ((some ⟨c,0,none⟩))] x fun bg H=>
 ∃ ao:Bool,(bg=.returned (.bool ao))∧
 Br (!ao)
 (∃ I:World,((Instr.storeAt 31 (.pointer ((some ⟨u,0,none⟩))) (.agg #[.int .i64 0,.string (ByteArray.mk #[]),.int .i64 0,.int .i64 0,.int .i64 0,.int .i64 0,.int .i64 0,.slice none 0 0,.slice none 0 0])).run Tryz.prog H=.ok () I)∧
 ∃ T:Int,∃ X:ByteArray,∃ ae:Int,∃ af:Int,∃ ag:Int,∃ ah:Int,∃ ai:Int,∃ i:Sl,∃ j:Sl,(At (fun b=>b=I) ⟨u,0,none⟩ [.int .i64 T,.string X,.int .i64 ae,.int .i64 af,.int .i64 ag,.int .i64 ah,.int .i64 ai,.slice i.a i.len i.cap,.slice j.a j.len j.cap])∧
 K (.tuple #[.agg #[.int .i64 T,.string X,.int .i64 ae,.int .i64 af,.int .i64 ag,.int .i64 ah,.int .i64 ai,.slice i.a i.len i.cap,.slice j.a j.len j.cap],.int .i64 6]) I)
 (∃ ap:Int,∃ aq:ByteArray,∃ ar:Int,∃ au:Int,∃ av:Int,∃ aw:Int,∃ ax:Int,∃ p:Sl,∃ q:Sl,(At (fun b=>b=H) ⟨d,0,none⟩ [.int .i64 ap,.string aq,.int .i64 ar,.int .i64 au,.int .i64 av,.int .i64 aw,.int .i64 ax,.slice p.a p.len p.cap,.slice q.a q.len q.cap])∧
 ∃ J:World,((Instr.storeAt 31 (.pointer ((some ⟨u,0,none⟩))) (.agg #[.int .i64 ap,.string aq,.int .i64 ar,.int .i64 au,.int .i64 av,.int .i64 aw,.int .i64 ax,.slice p.a p.len p.cap,.slice q.a q.len q.cap])).run Tryz.prog H=.ok () J)∧
 ∃ aj:Int,∃ Y:ByteArray,∃ Z:Int,∃ aa:Int,∃ ab:Int,∃ ac:Int,∃ ad:Int,∃ f:Sl,∃ g:Sl,(At (fun b=>b=J) ⟨u,0,none⟩ [.int .i64 aj,.string Y,.int .i64 Z,.int .i64 aa,.int .i64 ab,.int .i64 ac,.int .i64 ad,.slice f.a f.len f.cap,.slice g.a g.len g.cap])∧
 K (.tuple #[.agg #[.int .i64 aj,.string Y,.int .i64 Z,.int .i64 aa,.int .i64 ab,.int .i64 ac,.int .i64 ad,.slice f.a f.len f.cap,.slice g.a g.len g.cap],.int .i64 0]) J)))) a6) bp) w
def sk27:Sk:=(.seq .leaf (.seq .leaf (.seq .leaf (.seq .leaf (.seq .leaf (.seq .leaf (.seq .leaf (.seq .leaf (.seq .leaf (.seq (.seq .leaf (.block (.loop [7] [(.int .u64)] [7,42,43,44,45,46,47,48,49,50,51,52,53,54] (.seq .leaf (.seq (.block (.block .leaf)) .leaf))))) (.seq .leaf (.seq (.seq .leaf (.block (.loop [8] [(.int .u64)] [8,57,58,59,60,61,62,63,64,65,66,67,68,69] (.seq .leaf (.seq (.block (.block .leaf)) .leaf))))) .leaf))))))))))))
theorem call27 (b:Sl) (K:Value→World→Prop) (w:World) (h:B27 b K w):Gets Tryz.prog 27 #[.slice b.a b.len b.cap] w K:=cq (sk:=sk27) Tryz.func27 (by kernel_rfl) (by kernel_rfl) (by kernel_rfl) h
def B20 (I:Int) (J:ByteArray) (L:Int) (M:Int) (N:Int) (O:Int) (Q:Int) (k:Sl) (l:Sl) (T:Int) (U:ByteArray) (V:Int) (X:Int) (Y:Int) (Z:Int) (aa:Int) (m:Sl) (n:Sl) (K:Value→World→Prop) (w:World):Prop:=
 New (.cells #[.int .i64 I,.string J,.int .i64 L,.int .i64 M,.int .i64 N,.int .i64 O,.int .i64 Q,.slice k.a k.len k.cap,.slice l.a l.len l.cap] 31 (0,0)) (fun d ad=>
 New (.cells #[.int .i64 T,.string U,.int .i64 V,.int .i64 X,.int .i64 Y,.int .i64 Z,.int .i64 aa,.slice m.a m.len m.cap,.slice n.a n.len n.cap] 31 (0,0)) (fun e o=>
 ∃ j:Sl,(At (fun b=>b=o) ⟨d,0 + 7,none⟩ [.slice j.a j.len j.cap])∧
 ∃ f:Sl,(At (fun b=>b=o) ⟨e,0 + 7,none⟩ [.slice f.a f.len f.cap])∧
 Calls Tryz.prog 60 #[.slice j.a j.len j.cap,.slice f.a f.len f.cap] o fun ab p=>
 ∃ q:Bool,(ab=.returned (.bool q))∧
 ∃ g:Sl,(At (fun b=>b=p) ⟨d,0 + 8,none⟩ [.slice g.a g.len g.cap])∧
 ∃ i:Sl,(At (fun b=>b=p) ⟨e,0 + 8,none⟩ [.slice i.a i.len i.cap])∧
 Calls Tryz.prog 61 #[.slice g.a g.len g.cap,.slice i.a i.len i.cap] p fun ac c=>
 ∃ r:Bool,(ac=.returned (.bool r))∧
 ∃ s:Int,(At (fun b=>b=c) ⟨d,0,none⟩ [.int .i64 s])∧
 ∃ t:Int,(At (fun b=>b=c) ⟨e,0,none⟩ [.int .i64 t])∧
 Br (s==t)
 (∃ u:ByteArray,(At (fun b=>b=c) ⟨d,0 + 1,none⟩ [.string u])∧
 ∃ v:ByteArray,(At (fun b=>b=c) ⟨e,0 + 1,none⟩ [.string v])∧
 Br (u.toList==v.toList)
 (∃ x:Int,(At (fun b=>b=c) ⟨d,0 + 2,none⟩ [.int .i64 x])∧
 ∃ y:Int,(At (fun b=>b=c) ⟨e,0 + 2,none⟩ [.int .i64 y])∧
 Br (x==y)
 (∃ z:Int,(At (fun b=>b=c) ⟨d,0 + 3,none⟩ [.int .i64 z])∧
 ∃ A:Int,(At (fun b=>b=c) ⟨e,0 + 3,none⟩ [.int .i64 A])∧
 Br (z==A)
 (∃ C:Int,(At (fun b=>b=c) ⟨d,0 + 4,none⟩ [.int .i64 C])∧
 ∃ D:Int,(At (fun b=>b=c) ⟨e,0 + 4,none⟩ [.int .i64 D])∧
 Br (C==D)
 (∃ E:Int,(At (fun b=>b=c) ⟨d,0 + 5,none⟩ [.int .i64 E])∧
 ∃ F:Int,(At (fun b=>b=c) ⟨e,0 + 5,none⟩ [.int .i64 F])∧
 Br (E==F)
 (∃ G:Int,(At (fun b=>b=c) ⟨d,0 + 6,none⟩ [.int .i64 G])∧
 ∃ H:Int,(At (fun b=>b=c) ⟨e,0 + 6,none⟩ [.int .i64 H])∧
 Br (G==H)
 (Br q
 (K (.bool r) c)
 (K (.bool false) c))
 (K (.bool false) c))
 (K (.bool false) c))
 (K (.bool false) c))
 (K (.bool false) c))
 (K (.bool false) c))
 (K (.bool false) c))
 (K (.bool false) c)) ad) w
theorem call20 (f:Int) (g:ByteArray) (i:Int) (j:Int) (k:Int) (l:Int) (m:Int) (b:Sl) (c:Sl) (n:Int) (o:ByteArray) (p:Int) (q:Int) (r:Int) (s:Int) (t:Int) (d:Sl) (e:Sl) (K:Value→World→Prop) (w:World) (h:B20 f g i j k l m b c n o p q r s t d e K w):Gets Tryz.prog 20 #[.agg #[.int .i64 f,.string g,.int .i64 i,.int .i64 j,.int .i64 k,.int .i64 l,.int .i64 m,.slice b.a b.len b.cap,.slice c.a c.len c.cap],.agg #[.int .i64 n,.string o,.int .i64 p,.int .i64 q,.int .i64 r,.int .i64 s,.int .i64 t,.slice d.a d.len d.cap,.slice e.a e.len e.cap]] w K:=cq (sk:=.leaf) Tryz.func20 (by kernel_rfl) (by kernel_rfl) (by kernel_rfl) h
end Go.Proofs.YtfgbbckfikiomaaGreatDoor


/- Package booking: a writer. Condition: bounds on lengths. -/
namespace Go.Proofs.YtfgbbckfikiomaaGreatDoor
set_option linter.unusedVariables false
open Go Go.VC
variable {R:Cx} {Hs Rest:List HP} {w:World}
abbrev wrp (p:Nat) (s:Sl):HP:=pts p (.cells [.slice s.a s.len s.cap].toArray 93 (0,0))
def WrB (p:Nat) (bs:List Int):HP:=exs fun s:Sl=>Star [wrp p s,Own s 5 (b8 bs)]
theorem Sat.wrB {p:Nat} {bs:List Int}:Sat R (WrB p bs::Hs) w↔∃ s:Sl,Sat R (wrp p s::Own s 5 (b8 bs)::Hs) w:=by
 unfold WrB
 rw [Sat.exs]
 exact ⟨fun ⟨s,h⟩=>⟨s,Sat.star.1 h⟩,fun ⟨s,h⟩=>⟨s,Sat.star.2 h⟩⟩
theorem nn_bd {n:Int} (h:n<9223372036854775808):0≤nn n∧nn n<9223372036854775808:=by unfold nn;omega
theorem nn_if (n:Int):(if 0>n then 0 else n)=nn n:=by unfold nn;split<;>omega
theorem wnums_spec {p:Nat} {s:Sl} {xs bs:List Int} (hxs:∀ x∈xs,x<9223372036854775808) (hl:bs.length + 9 * xs.length≤1099511627776) (hs:RoI R s xs) (hw:Sat R (WrB p bs::Hs) w):
  Gets Tryz.prog 49 #[.pointer (some ⟨p,0,none⟩),.slice s.a s.len s.cap] w fun v w'=>v=.tuple #[]∧Sat R (WrB p (bs++numsB (xs.map nn))::Hs) w':=by
 have hlen:=hs.len
 apply call49
 refine ⟨fun i w=>∃ k:Nat,i=k∧k≤xs.length∧Sat R (WrB p (bs++numsB ((xs.take k).map nn))::Hs) w,fun i _=>xs.length - i.toNat,⟨0,rfl,by omega,by simpa [numsB] using hw⟩,?_⟩
 clear hw
 rintro _ _ w ⟨k,rfl,hk,hw⟩
 refine Br.d (fun h=>?_) (fun h=>?_)
 ·have hkx:k<xs.length:=by omega
  have hx:=nn_bd (hxs xs[k] (List.getElem_mem _))
  have hxt:∀ x∈(xs.take k).map nn,0≤x∧x<18446744073709551616:=fun x hx=>by
   obtain ⟨y,hy,rfl⟩:=List.mem_map.1 hx
   have:=nn_bd (hxs y (List.mem_of_mem_take hy));omega
  have hnl:=numsB_len hxt
  rw [List.length_map,List.length_take] at hnl
  refine Ro.ix hs (eqS hw) k rfl hkx ?_
  obtain ⟨s0,hw⟩:=Sat.wrB.1 hw
  refine drw_ruleT hw fun w hw=>?_
  refine NilP.mk rfl ⟨s0,At.own selfS (by exact ⟨rfl,trivial⟩),?_⟩
  rw [nn_if]
  obtain ⟨n,hn⟩:=Int.eq_ofNat_of_zero_le hx.1
  rw [hn,wrapU64 (by omega) (by omega)]
  refine (number_spec (by omega) hw).use ?_
  rintro _ w ⟨t,rfl,hw⟩
  refine ⟨t,rfl,hw.absorb,?_⟩
  have hw:Sat R (Own s0 5 (b8 (bs++numsB ((xs.take k).map nn)))::Own t 5 (b8 (numB n))::wrp p s0::VC.tru::Hs) w:=hw.arr
  have hnb:=numB_len (n:=n) (by omega)
  refine appendOO elB8 (s:=s0) (n:=1099511627790) Tryz.underlying42 hw (by rw [List.length_append];omega) (by omega) (by omega) fun s2 w hw=>?_
  have hw:Sat R (wrp p s0::Own s2 5 (b8 (bs++numsB ((xs.take k).map nn)++numB n))::Hs) w:=by
   have h:Sat R (Own t 5 (b8 (numB n))::VC.tru::wrp p s0::Own s2 5 (b8 (bs++numsB ((xs.take k).map nn)++numB n))::Hs) w:=hw.arr
   exact h.drop.drop
  refine NilP.mk rfl ?_
  refine store_rule hw (by kernel_rfl) rfl (by simp [Value.cells]) fun w hw=>?_
  have hw:=hw.re (wrp p s2)
  rw [wrap64 (by omega) (by omega)]
  refine ⟨⟨k + 1,by omega,by omega,Sat.wrB.2 ⟨s2,?_⟩⟩,by dsimp only;omega⟩
  have e:(xs.take (k + 1)).map nn=(xs.take k).map nn++[nn xs[k]]:=by rw [List.take_add_one,List.getElem?_eq_getElem hkx,List.map_append];rfl
  rw [e,numsB_app,show numsB [nn xs[k]]=numB (nn xs[k]).toNat by simp [numsB],hn,Int.toNat_natCast,←List.append_assoc]
  exact hw
 ·have:k=xs.length:=by omega
  subst this
  rw [List.take_length] at hw
  exact ⟨rfl,hw⟩
theorem wtext_spec {p:Nat} {s:Sl} {d bs:List Int} (hl:bs.length + d.length≤1099511627776) (hd:d.length≤1099511627776) (hs:Ro R s (b8 d)) (hw:Sat R (WrB p bs::Hs) w):
  Gets Tryz.prog 52 #[.pointer (some ⟨p,0,none⟩),.slice s.a s.len s.cap] w fun v w'=>v=.tuple #[]∧Sat R (WrB p (bs++textB d)::Hs) w':=by
 apply call52
 obtain ⟨s0,hw⟩:=Sat.wrB.1 hw
 refine drw_ruleT hw fun w hw=>?_
 refine NilP.mk rfl ⟨s0,At.own selfS (by exact ⟨rfl,trivial⟩),?_⟩
 refine (ftext_spec hs hd hw).use ?_
 rintro _ w ⟨t,rfl,hw⟩
 refine ⟨t,rfl,hw.absorb,?_⟩
 have hw:Sat R (Own s0 5 (b8 bs)::Own t 5 (b8 (textB d))::wrp p s0::VC.tru::Hs) w:=hw.arr
 have hnb:=numB_len (n:=d.length) (by omega)
 have htl:(textB d).length≤d.length + 9:=by unfold textB;rw [List.length_append];omega
 refine appendOO elB8 (s:=s0) (n:=1099511627800) Tryz.underlying42 hw (by omega) (by omega) (by omega) fun s2 w hw=>?_
 have hw:Sat R (wrp p s0::Own s2 5 (b8 (bs++textB d))::Hs) w:=by
  have h:Sat R (Own t 5 (b8 (textB d))::VC.tru::wrp p s0::Own s2 5 (b8 (bs++textB d))::Hs) w:=hw.arr
  exact h.drop.drop
 refine NilP.mk rfl ?_
 refine store_rule hw (by kernel_rfl) rfl (by simp [Value.cells]) fun w hw=>?_
 have hw:=hw.re (wrp p s2)
 exact ⟨rfl,Sat.wrB.2 ⟨s2,hw⟩⟩
end Go.Proofs.YtfgbbckfikiomaaGreatDoor
/- Package booking: whether a command may be. Condition: bounds on lengths. -/
namespace Go.Proofs.YtfgbbckfikiomaaGreatDoor
set_option linter.unusedVariables false
open Go Go.VC
open Classical
variable {R:Cx} {Hs Rest:List HP} {w:World}
abbrev cmV (c:Cm) (sg sp:Sl):List Value:=[.int .i64 c.kind,.string c.pnr,.int .i64 c.flt,.int .i64 c.cls,.int .i64 c.many,.int .i64 c.time,.float .f64 c.sc,.string c.lab,.int .i64 c.rows,.slice sg.a sg.len sg.cap,.slice sp.a sp.len sp.cap]
abbrev cmC (b:Nat) (c:Cm) (sg sp:Sl):HP:=pts b (.cells (cmV c sg sp).toArray 38 (0,0))
theorem right_iff {c:Cm}:RightC c↔(∀ n∈[c.flt,c.cls,c.many,c.rows]++c.grps,numOk n)∧(c.pnr.size≤16∧c.lab.size≤16)∧(c.grps.length≤16∧c.parts.length≤16)∧1≤c.kind∧c.kind≤9∧0≤c.time∧c.time≤1099511627776:=by
 constructor
 ·intro h
  refine ⟨fun n hn=>?_,⟨h.pnr,h.lab⟩,⟨h.gl,h.pl⟩,h.kind.1,h.kind.2,h.time.1,h.time.2⟩
  simp only [List.cons_append,List.nil_append,List.mem_cons] at hn
  rcases hn with rfl|rfl|rfl|rfl|hn
  ·exact h.flt
  ·exact h.cls
  ·exact h.many
  ·exact h.rows
  ·exact h.grps n hn
 ·rintro ⟨h1,⟨h2,h3⟩,⟨h4,h5⟩,h6,h7,h8,h9⟩
  exact ⟨h1 _ (by simp),h1 _ (by simp),h1 _ (by simp),h1 _ (by simp),fun n hn=>h1 n (by simp [hn]),h2,h3,h4,h5,⟨h6,h7⟩,h8,h9⟩
theorem bodd_spec {n:Int}:Gets Tryz.prog 108 #[.int .i64 n] w fun v w'=>v=.bool (decide (n<0∨n>9999))∧w'=w:=by
 apply call108
 refine Br.d (fun h=>⟨by rw [decide_eq_true (by omega)],rfl⟩) (fun h=>⟨?_,rfl⟩)
 congr 1
 exact decide_eq_decide.2 (by omega)
set_option maxHeartbeats 400000 in
theorem bright_spec {c:Cm} {sg sp:Sl} (hg:RoI R sg c.grps) (hgl:c.grps.length≤17592186043904) (hp:sp.len=c.parts.length) (hw:Sat R Hs w):
  Gets Tryz.prog 41 #[.agg #[.int .i64 c.kind,.string c.pnr,.int .i64 c.flt,.int .i64 c.cls,.int .i64 c.many,.int .i64 c.time,.float .f64 c.sc,.string c.lab,.int .i64 c.rows,.slice sg.a sg.len sg.cap,.slice sp.a sp.len sp.cap]] w fun v w'=>v=.bool (decide (RightC c))∧Sat R Hs w':=by
 have hglen:=hg.len
 apply call41
 refine new_rule hw fun b w hw=>?_
 have hw:Sat R (cmC b c sg sp::Hs) w:=hw
 repeat (first|refine NilP.mk rfl ?_|refine ⟨_,At.own selfS (by exact ⟨rfl,trivial⟩),?_⟩|refine ⟨_,At.own (eqS hw) (by exact ⟨rfl,trivial⟩),?_⟩|refine ⟨_,(by rw [add_off];exact At.own selfS (by exact ⟨rfl,trivial⟩)),?_⟩|refine ⟨_,(by rw [add_off];exact At.own (eqS hw) (by exact ⟨rfl,trivial⟩)),?_⟩)
 refine new_rule hw fun b2 w hw=>?_
 have hw:Sat R (Own ⟨some ⟨b2,0,none⟩,4,4⟩ 3 (intsI [c.flt,c.cls,c.many,c.rows])::cmC b c sg sp::Hs) w:=own_lit hw
 refine ⟨sg,At.own (eqS hw) (by exact ⟨rfl,trivial⟩),?_⟩
 refine appendRI (n:=17592186044416) (s:=⟨some ⟨b2,0,none⟩,4,4⟩) (ty:=28) elI8 Tryz.underlying28 hw hg (by simp;omega) (by omega) (by omega) fun t w hw=>?_
 obtain ⟨L,hL⟩:∃ L,L=[c.flt,c.cls,c.many,c.rows]++c.grps:=⟨_,rfl⟩
 have hLl:L.length=4 + c.grps.length:=by rw [hL];simp;omega
 rw [←hL] at hw
 have htl:t.len=L.length:=by have:=Own.len hw;simpa using this
 refine ⟨fun i w=>∃ k:Nat,i=k∧k≤L.length∧(∀ n∈L.take k,numOk n)∧Sat R (Own t 3 (intsI L)::cmC b c sg sp::Hs) w,fun i _=>L.length - i.toNat,⟨0,rfl,by omega,by simp,hw⟩,?_⟩
 clear hw
 rintro _ _ w ⟨k,rfl,hk,hok,hw⟩
 have no:¬ RightC c→∀ {w},Sat R (Own t 3 (intsI L)::cmC b c sg sp::Hs) w→(Value.bool false=.bool (decide (RightC c))∧Sat R Hs w):=fun h w hw=>⟨by rw [decide_eq_false h],hw.drop.drop⟩
 refine Br.d (fun h=>?_) (fun h=>?_)
 ·have hkx:k<L.length:=by omega
  refine Own.ix hw (eqS hw) k rfl hkx ?_
  refine bodd_spec.use ?_
  rintro _ w2 ⟨rfl,rfl⟩
  refine ⟨_,rfl,Br.mk (fun h2=>no (fun hr=>?_) hw) (fun h2=>?_)⟩
  ·have h3:=(right_iff.1 hr).1 L[k] (by rw [←hL];exact List.getElem_mem hkx)
   have h4:=of_decide_eq_true h2
   unfold numOk at h3
   omega
  ·rw [wrap64 (by omega) (by omega)]
   refine ⟨⟨k + 1,by omega,by omega,fun n hn=>?_,hw⟩,by dsimp only;omega⟩
   rw [List.take_add_one,List.getElem?_eq_getElem hkx] at hn
   rcases List.mem_append.1 hn with hn|hn
   ·exact hok n hn
   ·rw [show n=L[k] by simpa using hn]
    have h4:=of_decide_eq_false h2
    unfold numOk
    omega
 ·have hall:∀ n∈L,numOk n:=by rw [List.take_of_length_le (by omega)] at hok;exact hok
  refine ⟨fun t6 w=>t6=decide (c.pnr.size≤16∧c.lab.size≤16)∧Sat R (Own t 3 (intsI L)::cmC b c sg sp::Hs) w,⟨c.pnr,At.own (eqS hw) (by exact ⟨rfl,trivial⟩),Br.d (fun h=>?_) (fun h=>?_)⟩,?_⟩
  ·refine ⟨c.lab,At.own (eqS hw) (by exact ⟨rfl,trivial⟩),?_,hw⟩
   exact decide_eq_decide.2 (by omega)
  ·exact ⟨by rw [decide_eq_false (by omega)],hw⟩
  clear hw
  rintro _ _ w ⟨rfl,hw⟩
  refine ⟨fun t7 w=>t7=decide (c.grps.length≤16∧c.parts.length≤16)∧Sat R (Own t 3 (intsI L)::cmC b c sg sp::Hs) w,⟨sg,At.own (eqS hw) (by exact ⟨rfl,trivial⟩),Br.d (fun h=>?_) (fun h=>?_)⟩,?_⟩
  ·refine ⟨sp,At.own (eqS hw) (by exact ⟨rfl,trivial⟩),?_,hw⟩
   exact decide_eq_decide.2 (by omega)
  ·exact ⟨by rw [decide_eq_false (by omega)],hw⟩
  clear hw
  rintro _ _ w ⟨rfl,hw⟩
  have no2:¬ RightC c→(Value.bool false=.bool (decide (RightC c))∧Sat R Hs w):=fun h=>no h hw
  refine Br.d (fun h1=>?_) (fun h1=>no2 fun hr=>h1 (right_iff.1 hr).2.1)
  refine Br.d (fun h2=>?_) (fun h2=>no2 fun hr=>h2 (right_iff.1 hr).2.2.1)
  refine ⟨c.kind,At.own (eqS hw) (by exact ⟨rfl,trivial⟩),Br.d (fun h3=>?_) (fun h3=>no2 fun hr=>h3 (right_iff.1 hr).2.2.2.1)⟩
  refine ⟨c.kind,At.own (eqS hw) (by exact ⟨rfl,trivial⟩),Br.d (fun h4=>?_) (fun h4=>no2 fun hr=>h4 (right_iff.1 hr).2.2.2.2.1)⟩
  refine ⟨c.time,At.own (eqS hw) (by exact ⟨rfl,trivial⟩),Br.d (fun h5=>?_) (fun h5=>no2 fun hr=>h5 (right_iff.1 hr).2.2.2.2.2.1)⟩
  refine ⟨c.time,At.own (eqS hw) (by exact ⟨rfl,trivial⟩),?_,hw.drop.drop⟩
  congr 1
  refine decide_eq_decide.2 ?_
  rw [right_iff,←hL]
  exact ⟨fun h6=>⟨hall,h1,h2,h3,h4,h5,h6⟩,fun h6=>h6.2.2.2.2.2.2⟩
end Go.Proofs.YtfgbbckfikiomaaGreatDoor
/- Package booking: a writer's steps, as Encode and Answer take them. Condition: bounds on lengths. -/
namespace Go.Proofs.YtfgbbckfikiomaaGreatDoor
set_option linter.unusedVariables false
open Go Go.VC
variable {R:Cx} {Hs Rest:List HP} {w:World}
theorem wlit_spec {p b n:Nat} {xs bs:List Int} (hn:n=xs.length) (hxs:∀ x∈xs,x<9223372036854775808) (hl:bs.length + 9 * xs.length≤1099511627776) (hw:Sat R (pts b (.cells (intsI xs).toArray 3 (0,0))::WrB p bs::Hs) w):
  Gets Tryz.prog 49 #[.pointer (some ⟨p,0,none⟩),.slice (some ⟨b,0,none⟩) n n] w fun v w'=>v=.tuple #[]∧Sat R (WrB p (bs++numsB (xs.map nn))::Hs) w':=by
 have hw:Sat R (Own ⟨some ⟨b,0,none⟩,n,n⟩ 3 (intsI xs)::WrB p bs::Hs) w:=own_lit hw (by rw [List.length_map];exact hn)
 obtain ⟨R',hr,_,hw,back⟩:=Own.lendI hw (by omega)
 refine (wnums_spec hxs hl hr hw).use ?_
 rintro _ w ⟨rfl,hw⟩
 exact ⟨_,rfl,rfl,(back hw).drop⟩
theorem wstr_rule {p:Nat} {s:ByteArray} {bs:List Int} {K:World→Prop} (hl:bs.length + s.size≤1099511627776) (hw:Sat R (WrB p bs::Hs) w) (k:∀ w',Sat R (WrB p (bs++strB s)::Hs) w'→K w'):
  ∃ w_1:World,∃ t:Sl,((convert 9 42 (.string s)).run Tryz.prog w=.ok (.slice t.a t.len t.cap) w_1)∧
   Calls Tryz.prog 52 #[.pointer (some ⟨p,0,none⟩),.slice t.a t.len t.cap] w_1 fun e w_2=>(e=.returned (.tuple #[]))∧K w_2:=by
 refine convB_rule Tryz.underlying9 Tryz.underlying42 Tryz.underlying5 hw fun t w hw=>?_
 have hsz:=bytesL_len s
 obtain ⟨R',hr,_,hw,back⟩:=Own.lend hw (by rw [List.length_map];omega)
 refine (wtext_spec (by omega) (by omega) hr hw).use ?_
 rintro _ w ⟨rfl,hw⟩
 exact ⟨rfl,k _ (back hw).drop⟩
end Go.Proofs.YtfgbbckfikiomaaGreatDoor
/- Package booking: Encode. Condition: bounds on lengths; words. -/
namespace Go.Proofs.YtfgbbckfikiomaaGreatDoor
set_option linter.unusedVariables false
open Go Go.VC
open Classical
variable {R:Cx} {Hs Rest:List HP} {w:World}
theorem strB_len {s:ByteArray} (h:s.size≤100000):(strB s).length≤s.size + 9:=by
 have:=textB_len (d:=bytesL s) (by rw [bytesL_len];omega)
 rw [bytesL_len] at this
 exact this
theorem numsB_sp (a:Int) (l:List Int):numsB (a::l)=numsB [a]++numsB l:=numsB_one a l
theorem nn1 {a:Int} (h:0≤a):numsB ([a].map nn)=numsB [a]:=by
 show numsB [nn a]=_
 rw [nn_id h]
theorem wlist_spec {p:Nat} {s:Sl} {xs bs:List Int} (hxs:∀ x∈xs,x<9223372036854775808) (hx:xs.length≤100000) (hl:bs.length≤1000000) (hs:RoI R s xs) (hw:Sat R (WrB p bs::Hs) w):
  Gets Tryz.prog 75 #[.pointer (some ⟨p,0,none⟩),.slice s.a s.len s.cap] w fun v w'=>v=.tuple #[]∧Sat R (WrB p (bs++numsB [(xs.length:Int)]++numsB (xs.map nn))::Hs) w':=by
 have hlen:=hs.len
 have l1:=nums1_len (x:=(xs.length:Int)) (by omega)
 apply call75
 refine new_rule hw fun b w hw=>?_
 refine (wlit_spec (xs:=[(s.len:Int)]) rfl (by simp;omega) (by simp only [List.length_cons,List.length_nil];omega) hw).use ?_
 clear hw
 rintro _ w ⟨rfl,hw⟩
 refine ⟨rfl,?_⟩
 rw [nn1 (by omega),show ((s.len:Nat):Int)=(xs.length:Int) by omega] at hw
 refine (wnums_spec hxs (by simp only [List.length_append];omega) hs hw).use ?_
 rintro _ w ⟨rfl,hw⟩
 exact ⟨rfl,rfl,hw⟩
end Go.Proofs.YtfgbbckfikiomaaGreatDoor
/- Package booking: Answer. Condition: bounds on lengths. -/
namespace Go.Proofs.YtfgbbckfikiomaaGreatDoor
set_option linter.unusedVariables false
open Go Go.VC
variable {R:Cx} {Hs Rest:List HP} {w:World}
theorem _root_.Go.VC.Ro.ixStr {xs:List ByteArray} {s:Sl} {S:World→Prop} {i:Int} (hr:Ro R s (xs.map Value.string)) (hS:∀ w,S w→Sat R Hs w) (j:Nat) (hi:i=j) (hj:j<xs.length) {F:ByteArray→Prop} (h:F xs[j]):
  Rng i s.len (NilP s.a fun a=>∃ t:ByteArray,(At S (a.add i.toNat) [.string t])∧F t):=by
 subst hi
 obtain ⟨a,ha,hat⟩:=hr.addr (k:=j) (by rw [List.length_map];exact hj)
 have hl:=hr.len
 rw [List.length_map] at hl
 exact Rng.mk (by omega) (by omega) (NilP.mk ha ⟨_,by have:=hat hS;rw [List.getElem_map] at this;exact this,h⟩)
abbrev rpV (r:Rp) (sl sb:Sl):List Value:=[.int .i64 r.code,.string r.pnr,.int .i64 r.state,.int .i64 r.flt,.int .i64 r.cls,.int .i64 r.many,.int .i64 r.time,.slice sl.a sl.len sl.cap,.slice sb.a sb.len sb.cap]
abbrev rpC (b:Nat) (r:Rp) (sl sb:Sl):HP:=pts b (.cells (rpV r sl sb).toArray 31 (0,0))
structure RpW (r:Rp):Prop where
 ints:∀ x∈[r.code,r.state,r.flt,r.cls,r.many,r.time]++r.left,x<9223372036854775808
 pnr:r.pnr.size≤100000
 ll:r.left.length≤100000
 bl:r.labs.length≤100000
 labs:∀ s∈r.labs,s.size≤100000
theorem nn5 {a b c d e:Int}:numsB ([a,b,c,d,e].map nn)=numsB [nn a]++(numsB [nn b]++(numsB [nn c]++(numsB [nn d]++numsB [nn e]))):=by
 show numsB [nn a,nn b,nn c,nn d,nn e]=_
 rw [numsB_sp (nn a),numsB_sp (nn b),numsB_sp (nn c),numsB_sp (nn d)]
set_option maxHeartbeats 1000000 in
theorem banswer_spec {r:Rp} {sl sb:Sl} (hi:RpW r) (hg:RoI R sl r.left) (hp:SlR R.m sb (r.labs.map Value.string)) (hw:Sat R Hs w):
  Gets Tryz.prog 25 #[.agg #[.int .i64 r.code,.string r.pnr,.int .i64 r.state,.int .i64 r.flt,.int .i64 r.cls,.int .i64 r.many,.int .i64 r.time,.slice sl.a sl.len sl.cap,.slice sb.a sb.len sb.cap]] w fun v w'=>
   ∃ t:Sl,v=.slice t.a t.len t.cap∧Sat R (Own t 5 (b8 (rpB r))::Hs) w':=by
 have hplen:sb.len=r.labs.length:=by have:=hp.len;simpa using this
 have i1:=hi.ints
 have i2:=hi.pnr
 have i3:=hi.ll
 have i4:=hi.bl
 have q:∀ x∈[r.code,r.state,r.flt,r.cls,r.many,r.time]++r.left,0≤nn x∧nn x<18446744073709551616:=fun x hx=>by have:=nn_bd (i1 x hx);omega
 have l1:=nums1_len (q r.code (by simp))
 have l2:=strB_len (s:=r.pnr) i2
 have l3:=nums1_len (q r.state (by simp))
 have l4:=nums1_len (q r.flt (by simp))
 have l5:=nums1_len (q r.cls (by simp))
 have l6:=nums1_len (q r.many (by simp))
 have l7:=nums1_len (q r.time (by simp))
 have l10:=nums1_len (x:=(r.left.length:Int)) (by omega)
 have l11:=numsB_len (l:=r.left.map nn) fun y hy=>by obtain ⟨x,hx,rfl⟩:=List.mem_map.1 hy;exact q x (by simp [hx])
 rw [List.length_map] at l11
 have l12:=nums1_len (x:=(r.labs.length:Int)) (by omega)
 apply call25
 refine new_rule hw fun b w hw=>?_
 have hw:Sat R (rpC b r sl sb::Hs) w:=hw
 refine new_rule hw fun p w hw=>?_
 have hw:Sat R (WrB p []::rpC b r sl sb::Hs) w:=Sat.wrB.2 ⟨⟨none,0,0⟩,(Own.nil hw).swap⟩
 refine ⟨r.code,At.own (eqS hw) (by exact ⟨rfl,trivial⟩),?_⟩
 refine new_rule hw fun b15 w hw=>?_
 refine (wlit_spec (xs:=[r.code]) rfl (fun x hx=>i1 x (by rw [List.mem_singleton.1 hx];simp)) (by simp) hw).use ?_
 clear hw
 rintro _ w ⟨rfl,hw⟩
 refine ⟨rfl,?_⟩
 rw [show [r.code].map nn=[nn r.code] from rfl,List.nil_append] at hw
 refine ⟨r.pnr,At.own (eqS hw) (by exact ⟨rfl,trivial⟩),?_⟩
 refine wstr_rule (by omega) hw fun w hw=>?_
 refine ⟨r.state,At.own (eqS hw) (by exact ⟨rfl,trivial⟩),r.flt,At.own (eqS hw) (by exact ⟨rfl,trivial⟩),r.cls,At.own (eqS hw) (by exact ⟨rfl,trivial⟩),r.many,At.own (eqS hw) (by exact ⟨rfl,trivial⟩),r.time,At.own (eqS hw) (by exact ⟨rfl,trivial⟩),?_⟩
 refine new_rule hw fun b31 w hw=>?_
 refine (wlit_spec (xs:=[r.state,r.flt,r.cls,r.many,r.time]) rfl (fun x hx=>i1 x (by simp only [List.mem_cons,List.not_mem_nil,or_false] at hx;simp only [List.cons_append,List.mem_cons];rcases hx with h|h|h|h|h<;>simp [h])) (by simp only [List.length_append,List.length_cons,List.length_nil];omega) hw).use ?_
 clear hw
 rintro _ w ⟨rfl,hw⟩
 refine ⟨rfl,?_⟩
 rw [nn5] at hw
 refine ⟨sl,At.own (eqS hw) (by exact ⟨rfl,trivial⟩),?_⟩
 refine (wlist_spec (xs:=r.left) (fun y hy=>i1 y (by simp [hy])) i3 (by simp only [List.length_append];omega) hg hw).use ?_
 clear hw
 rintro _ w ⟨rfl,hw⟩
 refine ⟨rfl,?_⟩
 refine ⟨sb,At.own (eqS hw) (by exact ⟨rfl,trivial⟩),?_⟩
 refine new_rule hw fun b57 w hw=>?_
 refine (wlit_spec (xs:=[(sb.len:Int)]) rfl (by simp;omega) (by simp only [List.length_append,List.length_cons,List.length_nil];omega) hw).use ?_
 clear hw
 rintro _ w ⟨rfl,hw⟩
 refine ⟨rfl,?_⟩
 rw [nn1 (by omega),show ((sb.len:Nat):Int)=(r.labs.length:Int) by omega] at hw
 refine ⟨sb,At.own (eqS hw) (by exact ⟨rfl,trivial⟩),?_⟩
 obtain ⟨B,hBl,hB,hw⟩:∃ B:List Int,B.length≤2000000∧B++(r.labs.map strB).flatten=rpB r∧Sat R (WrB p B::rpC b r sl sb::Hs) w:=
  ⟨_,by simp only [List.length_append];omega,by unfold rpB;simp only [List.append_assoc],hw⟩
 refine ⟨fun i w=>∃ k:Nat,i=k∧k≤r.labs.length∧Sat R (WrB p (B++((r.labs.take k).map strB).flatten)::rpC b r sl sb::Hs) w,fun i _=>r.labs.length - i.toNat,⟨0,rfl,by omega,by simpa using hw⟩,?_⟩
 clear hw
 rintro _ _ w ⟨k,rfl,hk,hw⟩
 refine Br.d (fun h=>?_) (fun h=>?_)
 ·have hkx:k<r.labs.length:=by omega
  have hfl:=flat_len (l:=r.labs.take k) (code:=strB) (m:=100009) fun x hx=>by have:=hi.labs x (List.mem_of_mem_take hx);have:=strB_len this;omega
  rw [List.length_take] at hfl
  have hsk:=hi.labs _ (List.getElem_mem hkx)
  refine Ro.ixStr (hp.ro (by rw [List.length_map];omega)) (eqS hw) k rfl hkx ?_
  refine wstr_rule (by rw [List.length_append];omega) hw fun w hw=>?_
  rw [wrap64 (by omega) (by omega)]
  refine ⟨⟨k + 1,by omega,by omega,?_⟩,by dsimp only;omega⟩
  rw [List.take_add_one,List.getElem?_eq_getElem hkx,List.map_append,List.flatten_append,←List.append_assoc]
  simpa using hw
 ·rw [List.take_of_length_le (l:=r.labs) (by omega),hB] at hw
  obtain ⟨s,hw⟩:=Sat.wrB.1 hw
  refine ⟨s,At.own (eqS hw) (by exact ⟨rfl,trivial⟩),s,rfl,?_⟩
  exact (hw.drop.swap).drop
end Go.Proofs.YtfgbbckfikiomaaGreatDoor
/- Package booking: a reader. Condition: bounds on lengths. -/
namespace Go.Proofs.YtfgbbckfikiomaaGreatDoor
set_option linter.unusedVariables false
open Go Go.VC
variable {R:Cx} {Hs Rest:List HP} {w:World}
theorem bnum_spec {r:Nat} {rd:Rd} {most:Int} (hb:Bytes rd.bs) (h0:0≤most) (h1:most<9223372036854775808) (hw:Sat R (RdAt r rd::Hs) w):
  Gets Tryz.prog 78 #[.agg #[.pointer (some ⟨r,0,none⟩)],.int .i64 most] w fun v w'=>v=.int .i64 (rdNum most rd).1∧Sat R (RdAt r (rdNum most rd).2::Hs) w':=by
 have hv:=rdNum_val hb h0
 apply call78
 refine new_rule hw fun b w hw=>?_
 refine ⟨_,At.own (eqS hw) (by exact ⟨rfl,trivial⟩),?_⟩
 rw [wrapU64 (by omega) (by omega)]
 refine (rnum_spec hb hw.drop).use ?_
 rintro _ w ⟨rfl,hw⟩
 refine ⟨_,rfl,?_,hw⟩
 rw [wrap64 (by omega) (by omega)]
theorem bstr_spec {r:Nat} {rd:Rd} {most:Int} (hb:Bytes rd.bs) (hl:rd.bs.length≤1099511627776) (h1:most<9223372036854775808) (hw:Sat R (RdAt r rd::Hs) w):
  Gets Tryz.prog 79 #[.agg #[.pointer (some ⟨r,0,none⟩)],.int .i64 most] w fun v w'=>v=.string (strRd most rd).1∧Sat R (RdAt r (strRd most rd).2::Hs) w':=by
 apply call79
 refine new_rule hw fun b w hw=>?_
 refine ⟨_,At.own (eqS hw) (by exact ⟨rfl,trivial⟩),?_⟩
 refine (rtext_spec h1 hl hb hw.drop).use ?_
 rintro _ w ⟨t,rfl,hw⟩
 have hlen:=rdText_len (most:=most) (rd:=rd)
 obtain ⟨R',hr,_,hw2,back⟩:=Own.lend hw (by rw [List.length_map];omega)
 refine ⟨t,rfl,VC.strOf (rdText most rd).1,fun w' e=>?_,rfl,hw.drop⟩
 rw [show w'=w from e]
 exact convS_ro Tryz.underlying42 Tryz.underlying5 Tryz.underlying9 hw2 hr
end Go.Proofs.YtfgbbckfikiomaaGreatDoor
/- Package booking: so many things, one by one. Condition: bounds on lengths. -/
namespace Go.Proofs.YtfgbbckfikiomaaGreatDoor
set_option linter.unusedVariables false
open Go Go.VC
variable {R:Cx} {Hs Rest:List HP} {w:World}
theorem timesI_spec {r n:Nat} {rd:Rd} {f:Value} {one:Rd→Int × Rd} {I:Rd→Prop} (hI:∀ rd,I rd→I (one rd).2) (hn:n≤100000) (h0:I rd)
  (hone:∀ (T:HP) (rd:Rd) (w:World),I rd→Sat R (RdAt r rd::T::Hs) w→CalW Tryz.prog cl f [] w fun e w'=>e=.returned (.int .i64 (one rd).1)∧Sat R (RdAt r (one rd).2::T::Hs) w')
  (hw:Sat R (RdAt r rd::Hs) w):
  Gets Tryz.prog 80 #[.int .i64 n,f] w fun v w'=>∃ t:Sl,v=.slice t.a t.len t.cap∧Sat R (Own t 3 (intsI (rdEach one n rd).1)::RdAt r (rdEach one n rd).2::Hs) w':=by
 apply call80
 have inv:∀ k,I (rdEach one k rd).2:=fun k=>(rdEach_inv (one:=one) (P:=I) (Q:=fun _=>True) (fun r hr=>⟨trivial,hI r hr⟩) k h0).2
 refine ⟨fun out i w=>∃ k:Nat,i=k∧k≤n∧Sat R (Own out 3 (intsI (rdEach one k rd).1)::RdAt r (rdEach one k rd).2::Hs) w,fun _ i _=>n - i.toNat,⟨0,rfl,by omega,Own.nil hw⟩,?_⟩
 clear hw
 rintro _ out _ w ⟨k,rfl,hk,hw⟩
 refine Br.d (fun h=>?_) (fun h=>?_)
 ·refine (hone _ _ _ (inv k) hw.swap).mono ?_
  rintro _ w ⟨rfl,hw⟩
  refine ⟨_,rfl,?_⟩
  have hl:=rdEach_len one k rd
  refine pushI_rule elI8 hw.swap (by rw [hl];omega) fun out' w hw=>?_
  rw [wrap64 (by omega) (by omega)]
  refine ⟨⟨k + 1,by omega,by omega,?_⟩,by dsimp only;omega⟩
  rw [rdEach_snoc]
  exact hw
 ·have:k=n:=by omega
  subst this
  exact ⟨out,rfl,hw⟩
end Go.Proofs.YtfgbbckfikiomaaGreatDoor
/- Package booking: so many texts, so many floats, one by one. Condition: bounds on lengths. -/
namespace Go.Proofs.YtfgbbckfikiomaaGreatDoor
set_option linter.unusedVariables false
open Go Go.VC
variable {R:Cx} {Hs Rest:List HP} {w:World}
theorem timesS_spec {r n:Nat} {rd:Rd} {f:Value} {one:Rd→ByteArray × Rd} {I:Rd→Prop} (hI:∀ rd,I rd→I (one rd).2) (hn:n≤100000) (h0:I rd)
  (hone:∀ (T:HP) (rd:Rd) (w:World),I rd→Sat R (RdAt r rd::T::Hs) w→CalW Tryz.prog cl f [] w fun e w'=>e=.returned (.string (one rd).1)∧Sat R (RdAt r (one rd).2::T::Hs) w')
  (hw:Sat R (RdAt r rd::Hs) w):
  Gets Tryz.prog 81 #[.int .i64 n,f] w fun v w'=>∃ t:Sl,v=.slice t.a t.len t.cap∧Sat R (Own t 9 (strs (rdEach one n rd).1)::RdAt r (rdEach one n rd).2::Hs) w':=by
 apply call81
 have inv:∀ k,I (rdEach one k rd).2:=fun k=>(rdEach_inv (one:=one) (P:=I) (Q:=fun _=>True) (fun r hr=>⟨trivial,hI r hr⟩) k h0).2
 refine ⟨fun out i w=>∃ k:Nat,i=k∧k≤n∧Sat R (Own out 9 (strs (rdEach one k rd).1)::RdAt r (rdEach one k rd).2::Hs) w,fun _ i _=>n - i.toNat,⟨0,rfl,by omega,Own.nil hw⟩,?_⟩
 clear hw
 rintro _ out _ w ⟨k,rfl,hk,hw⟩
 refine Br.d (fun h=>?_) (fun h=>?_)
 ·refine (hone _ _ _ (inv k) hw.swap).mono ?_
  rintro _ w ⟨rfl,hw⟩
  refine ⟨_,rfl,?_⟩
  have hl:=rdEach_len one k rd
  refine push_rule elStr hw.swap (oneAll_str _) rfl (by rw [List.length_map,hl];omega) (by rw [List.length_map,hl];omega) fun out' w hw=>?_
  rw [wrap64 (by omega) (by omega)]
  refine ⟨⟨k + 1,by omega,by omega,?_⟩,by dsimp only;omega⟩
  rw [rdEach_snoc]
  simpa using hw
 ·have:k=n:=by omega
  subst this
  exact ⟨out,rfl,hw⟩
end Go.Proofs.YtfgbbckfikiomaaGreatDoor
/- Reference 18: numbers as bytes. Condition: bounds on lengths. -/
namespace Go.Proofs.YtfgbbckfikiomaaGreatDoor
set_option linter.unusedVariables false
open Go Go.VC
variable {R:Cx} {Hs Rest:List HP} {w:World}
theorem r18nums_spec {s:Sl} {xs:List Int} (hxs:∀ x∈xs,x<9223372036854775808) (hl:9 * xs.length≤1099511627776) (hs:RoI R s xs) (hw:Sat R Hs w):
  Gets Tryz.prog 71 #[.slice s.a s.len s.cap] w fun v w'=>∃ t:Sl,v=.slice t.a t.len t.cap∧Sat R (Own t 5 (b8 (numsB (xs.map nn)))::Hs) w':=by
 have hlen:=hs.len
 apply call71
 refine ⟨fun out i w=>∃ k:Nat,i=k∧k≤xs.length∧Sat R (Own out 5 (b8 (numsB ((xs.take k).map nn)))::Hs) w,fun _ i _=>xs.length - i.toNat,⟨0,rfl,by omega,Own.nil hw⟩,?_⟩
 clear hw
 rintro _ out _ w ⟨k,rfl,hk,hw⟩
 refine Br.d (fun h=>?_) (fun h=>?_)
 ·have hkx:k<xs.length:=by omega
  have hx:=nn_bd (hxs xs[k] (List.getElem_mem _))
  have hxt:∀ x∈(xs.take k).map nn,0≤x∧x<18446744073709551616:=fun x hx=>by
   obtain ⟨y,hy,rfl⟩:=List.mem_map.1 hx
   have:=nn_bd (hxs y (List.mem_of_mem_take hy));omega
  have hnl:=numsB_len hxt
  rw [List.length_map,List.length_take] at hnl
  refine Ro.ix hs (eqS hw) k rfl hkx ?_
  rw [nn_if]
  obtain ⟨n,hn⟩:=Int.eq_ofNat_of_zero_le hx.1
  rw [hn,wrapU64 (by omega) (by omega)]
  refine (rnumber_spec (by omega) hw).use ?_
  rintro _ w ⟨t,rfl,hw⟩
  refine ⟨t,rfl,?_⟩
  have hnb:=numB_len (n:=n) (by omega)
  refine appendOO elB8 (s:=out) (n:=1099511627790) Tryz.underlying42 hw.swap (by omega) (by omega) (by omega) fun s2 w hw=>?_
  rw [wrap64 (by omega) (by omega)]
  refine ⟨⟨k + 1,by omega,by omega,?_⟩,by dsimp only;omega⟩
  have e:(xs.take (k + 1)).map nn=(xs.take k).map nn++[nn xs[k]]:=by rw [List.take_add_one,List.getElem?_eq_getElem hkx,List.map_append];rfl
  rw [e,numsB_app,show numsB [nn xs[k]]=numB (nn xs[k]).toNat by simp [numsB],hn,Int.toNat_natCast]
  exact hw.swap.drop
 ·rw [List.take_of_length_le (l:=xs) (by omega)] at hw
  exact ⟨out,rfl,hw⟩
end Go.Proofs.YtfgbbckfikiomaaGreatDoor
/- Reference 02: a reader's text, at this seat. Condition: bounds on lengths. -/
namespace Go.Proofs.YtfgbbckfikiomaaGreatDoor
set_option linter.unusedVariables false
open Go Go.VC
variable {R:Cx} {Hs Rest:List HP} {w:World}
theorem _root_.Go.VC.SlR.b8take {h:Heap} {s:Sl} {xs:List Int} (a:SlR h s (b8 xs)) {k:Nat} (hk:k≤xs.length):SlR h ⟨s.a,k,s.cap⟩ (b8 (xs.take k)):=by
 have:=a.take (k:=k) (by simpa using hk)
 simpa using this
theorem _root_.Go.VC.SlR.b8drop {h:Heap} {s:Sl} {xs:List Int} (a:SlR h s (b8 xs)) {k:Nat} (hk:k≤xs.length):SlR h (sdrop s k) (b8 (xs.drop k)):=by
 have:=a.drop (k:=k) (by simpa using hk)
 simpa using this
theorem rrtext_spec {r:Nat} {s:Sl} {bs:List Int} {rd:Rd} {most:Int} (hm:most<9223372036854775808) (hl:bs.length≤1099511627776) (hb:∀ x∈bs,0≤x∧x<256) (hs:SlR R.m s (b8 bs)) (hw:Sat R (RRdAt r s bs rd::Hs) w):
  Gets Tryz.prog 85 #[.pointer (some ⟨r,0,none⟩),.int .i64 most] w fun v w'=>∃ t:Sl,v=.slice t.a t.len t.cap∧Sat R (Own t 5 (b8 (rdText most rd).1)::RRdAt r s bs (rdText most rd).2::Hs) w':=by
 have hsl:s.len=bs.length:=by have:=hs.len;simpa using this
 have hscap:=hs.cap
 obtain ⟨n,⟨hn,hd⟩,hw⟩:=Sat.rrd.1 hw
 have hlen:rd.bs.length=bs.length - n:=by rw [←hd,List.length_drop]
 have hb2:∀ x∈rd.bs,0≤x∧x<256:=fun x hx=>hb x (by rw [←hd] at hx;exact List.mem_of_mem_drop hx)
 apply call85
 refine (rnext_spec hl hb hs hn hw).use ?_
 rintro _ w ⟨rfl,hw⟩
 refine ⟨_,_,_,rfl,?_⟩
 rw [hd]
 have bad:rdText most rd=([],⟨rd.bs,true⟩)→∀ {w},Sat R (pts r (rrCells s n rd.bad)::Hs) w→NilP (some ⟨r,0,none⟩) fun a_t25=>
   ∃ w_2:World,((Instr.storeAt 4 (.pointer ((some ⟨a_t25.block,a_t25.off + 2,none⟩))) (.bool true)).run Tryz.prog w=.ok () w_2)∧
   (∃ t:Sl,Value.slice none 0 0=.slice t.a t.len t.cap∧Sat R (Own t 5 (b8 (rdText most rd).1)::RRdAt r s bs (rdText most rd).2::Hs) w_2):=fun e w hw=>by
  refine NilP.mk rfl ?_
  refine store_rule hw (by kernel_rfl) rfl (by simp [Value.cells]) fun w hw=>?_
  have hw:=hw.re (pts r (rrCells s n true))
  rw [e]
  exact ⟨⟨none,0,0⟩,rfl,Own.nil (Sat.rrd.2 ⟨n,⟨hn,hd⟩,hw⟩)⟩
 refine ⟨fun w=>(∃ x k,rd.bad=false∧parse rd.bs=some (x,false,k)∧0≤most∧x≤most∧x≤(rd.bs.length:Int) - k)∧Sat R (pts r (rrCells s n rd.bad)::Hs) w,drw_rule hw fun w hw=>?_,?_⟩
 ·by_cases hbd:rd.bad=true
  ·have e:nextR ⟨rd.bs,rd.bad⟩=(0,false,0):=by unfold nextR;rw [if_pos hbd]
   rw [e];dsimp only
   refine Br.mk (fun h=>bad ?_ hw) (fun h=>by simp at h)
   unfold rdText;rw [if_pos hbd];rw [show rd=⟨rd.bs,rd.bad⟩ from rfl,hbd]
  ·have hbd:rd.bad=false:=by simpa using hbd
   cases hp:parse rd.bs with
   |none=>
    have e:nextR ⟨rd.bs,rd.bad⟩=(0,false,0):=by unfold nextR;simp [hp]
    rw [e];dsimp only
    refine Br.mk (fun h=>bad ?_ hw) (fun h=>by simp at h)
    unfold rdText;rw [if_neg (by rw [hbd];simp),hp]
   |some p=>
    obtain ⟨x,neg,k⟩:=p
    have e:nextR ⟨rd.bs,rd.bad⟩=(x,neg,(k:Int)):=by unfold nextR;simp [hp,hbd]
    rw [e];dsimp only
    obtain ⟨x0,x1,k0,k1,k2⟩:=parse_bd hb2 hp
    have e2:rdText most rd=if neg=false∧0≤most∧x≤most∧x≤((rd.bs.length:Int) - k) then (((rd.bs.drop k).take x.toNat),⟨rd.bs.drop (k + x.toNat),false⟩) else ([],⟨rd.bs,true⟩):=by
     unfold rdText;rw [if_neg (by rw [hbd];simp),hp]
    refine Br.e (fun h=>by omega) (fun _=>Br.mk (fun h=>bad ?_ hw) (fun h=>Br.d (fun h2=>bad ?_ hw) (fun h2=>?_)))
    ·rw [e2,if_neg (by rintro ⟨h3,_⟩;rw [h3] at h;cases h)]
    ·rw [e2,if_neg (by rintro ⟨_,h3,_⟩;omega)]
    ·rw [wrapU64 (x:=most) (by omega) (by omega)]
     refine Br.d (fun h3=>bad ?_ hw) (fun h3=>?_)
     ·rw [e2,if_neg (by rintro ⟨_,_,h4,_⟩;omega)]
     ·refine NilP.mk rfl ⟨s,At.own selfS (by exact ⟨rfl,trivial⟩),NilP.mk rfl ⟨n,At.own selfS (by exact ⟨rfl,trivial⟩),?_⟩⟩
      have e3:IntKind.u64.wrap (IntKind.i64.wrap (IntKind.i64.wrap ((s.len:Int) - (n:Int)) - (k:Int)))=(rd.bs.length:Int) - k:=by
       rw [wrap64 (x:=(s.len:Int) - (n:Int)) (by omega) (by omega),wrap64 (by omega) (by omega),wrapU64 (by omega) (by omega)];omega
      rw [e3]
      refine Br.d (fun h4=>bad ?_ hw) (fun h4=>⟨⟨x,k,hbd,by rw [h],by omega,by omega,by omega⟩,hw⟩)
      rw [e2,if_neg (by rintro ⟨_,_,_,h5⟩;omega)]
 clear bad hw
 rintro _ w ⟨⟨x,k,hbd,hp,hm0,hxm,hxl⟩,hw⟩
 obtain ⟨x0,x1,k0,k1,k2⟩:=parse_bd hb2 hp
 have e:nextR ⟨rd.bs,rd.bad⟩=(x,false,(k:Int)):=by unfold nextR;simp [hp,hbd]
 have e2:rdText most rd=(((rd.bs.drop k).take x.toNat),⟨rd.bs.drop (k + x.toNat),false⟩):=by
  unfold rdText;rw [if_neg (by rw [hbd];simp),hp];dsimp only;rw [if_pos ⟨rfl,hm0,hxm,hxl⟩]
 rw [e,e2]
 dsimp only
 obtain ⟨m,rfl⟩:=Int.eq_ofNat_of_zero_le x0
 refine NilP.mk rfl ⟨n,At.own (eqS hw) (by exact ⟨rfl,trivial⟩),NilP.mk rfl ?_⟩
 have e3:IntKind.i64.wrap ((n:Int) + (k:Int))=((n + k:Nat):Int):=by rw [wrap64 (by omega) (by omega)];omega
 have e4:IntKind.i64.wrap (((n + k:Nat):Int) + IntKind.i64.wrap (m:Int))=((n + k + m:Nat):Int):=by rw [wrap64 (x:=(m:Int)) (by omega) (by omega),wrap64 (by omega) (by omega)];omega
 dsimp only
 rw [e3,e4]
 refine store_rule hw (by kernel_rfl) rfl (by simp [Value.cells]) fun w hw=>?_
 rw [hbd] at hw
 have hw:=hw.re (pts r (rrCells s (n + k + m) false))
 refine drw_ruleT hw fun w hw=>?_
 refine NilP.mk rfl ⟨s,At.own selfS (by exact ⟨rfl,trivial⟩),NilP.mk rfl ⟨((n + k + m:Nat):Int),At.own selfS (by exact ⟨rfl,trivial⟩),by omega,by omega,by omega,by omega,?_⟩⟩
 rw [Int.toNat_natCast,Int.toNat_natCast,Int.toNat_natCast]
 refine new_rule hw fun b w hw=>?_
 have e5:n + k + m - (n + k)=m:=by omega
 rw [e5]
 have hro:SlR R.m ⟨(sdrop s (n + k)).a,m,(sdrop s (n + k)).cap⟩ (b8 ((rd.bs.drop k).take m)):=by
  have:=(hs.b8drop (k:=n + k) (by omega)).b8take (k:=m) (by simp;omega)
  rw [←List.drop_drop,hd] at this
  exact this
 have hll:((rd.bs.drop k).take m).length≤1099511627776:=by simp;omega
 refine ⟨hw.absorb,?_⟩
 have hw:Sat R (Own ⟨some ⟨b,0,none⟩,0,0⟩ 5 (([]:List Int).map (Value.int .u8))::VC.tru::pts r (rrCells s (n + k + m) false)::Hs) w:=own_lit hw
 refine appendRI elB8 (s:=⟨some ⟨b,0,none⟩,0,0⟩) (t:=⟨(sdrop s (n + k)).a,m,(sdrop s (n + k)).cap⟩) (n:=1099511627776) Tryz.underlying42 hw (hro.ro (by simp;omega)) (by simp;omega) (by omega) (by omega) fun t w hw=>?_
 refine ⟨hw.absorb,t,rfl,?_⟩
 rw [List.nil_append] at hw
 refine hw.cons fun _ h=>Sat.rrd.2 ⟨n + k + m,⟨by omega,?_⟩,h.drop⟩
 show bs.drop (n + k + m)=rd.bs.drop (k + m)
 rw [←hd,List.drop_drop,Nat.add_assoc]
end Go.Proofs.YtfgbbckfikiomaaGreatDoor
/- Package booking: Decode. Condition: bounds on lengths. -/
namespace Go.Proofs.YtfgbbckfikiomaaGreatDoor
set_option linter.unusedVariables false
open Go Go.VC
open Classical
variable {R:Cx} {Hs Rest:List HP} {w:World}
abbrev brC (b r:Nat):HP:=pts b (.cells [.pointer (some ⟨r,0,none⟩)].toArray 126 (0,0))
abbrev nilSl:Sl:=⟨none,0,0⟩
abbrev cmHead (k:Int) (p:ByteArray) (f c m t:Int):Cm:=⟨k,p,f,c,m,t,0,ByteArray.mk #[],0,[],[]⟩
abbrev cmNew (b:Nat):HP:=cmC b (cmHead 0 (ByteArray.mk #[]) 0 0 0 0) nilSl nilSl
theorem tru2 {A B:HP} (hw:Sat R (A::B::Hs) w):Sat R [B,VC.tru] w:=hw.swap.restTru2
theorem tru3 {A B C:HP} (hw:Sat R (C::A::B::Hs) w):Sat R [B,VC.tru] w:=(hw.arr (Hs':=B::C::A::Hs)).restTru2
section
variable (S:World→Prop) (J:Option Addr→World→Prop) (b4 b:Nat) (r:Option Addr)
end
section
variable {J:Option Addr→World→Prop} {b4 b r:Nat} {rd:Rd} {k f c m t:Int} {p:ByteArray}
end
end Go.Proofs.YtfgbbckfikiomaaGreatDoor
/- Package booking: Decode, the whole. Condition: bounds on lengths. -/
namespace Go.Proofs.YtfgbbckfikiomaaGreatDoor
set_option linter.unusedVariables false
open Go Go.VC
open Classical
variable {R:Cx} {Hs Rest:List HP} {w:World}
theorem strRd_len {most:Int} {rd:Rd}:(strRd most rd).2.bs.length≤rd.bs.length:=rdText_len.2
end Go.Proofs.YtfgbbckfikiomaaGreatDoor
/- Package booking: Read. Condition: bounds on lengths. -/
namespace Go.Proofs.YtfgbbckfikiomaaGreatDoor
set_option linter.unusedVariables false
open Go Go.VC
open Classical
variable {R:Cx} {Hs Rest:List HP} {w:World}
abbrev rpHead (k:Int) (p:ByteArray) (s f c m t:Int):Rp:=⟨k,p,s,f,c,m,t,[],[]⟩
abbrev rpNew (b:Nat):HP:=rpC b (rpHead 0 (ByteArray.mk #[]) 0 0 0 0 0) nilSl nilSl
abbrev MI:Int:=1099511627776
theorem brn_spec {b r:Nat} {rd:Rd} (hb:Bytes rd.bs) (hw:Sat R (RdAt r rd::brC b r::Hs) w):
  Gets Tryz.prog 77 #[.pointer (some ⟨b,0,none⟩)] w fun v w'=>v=.int .i64 (rdNum MI rd).1∧Sat R (RdAt r (rdNum MI rd).2::brC b r::Hs) w':=by
 apply call77
 have hw2:Sat R (brC b r::RdAt r rd::Hs) w:=hw.swap
 refine NilP.mk rfl ⟨some ⟨r,0,none⟩,At.own (eqS hw2) (by exact ⟨rfl,trivial⟩),?_⟩
 refine (bnum_spec (most:=MI) hb (by decide) (by decide) hw).use ?_
 rintro _ w ⟨rfl,hw⟩
 exact ⟨_,rfl,rfl,hw⟩
theorem brs_spec {b r:Nat} {rd:Rd} (hb:Bytes rd.bs) (hl:rd.bs.length≤1099511627776) (hw:Sat R (RdAt r rd::brC b r::Hs) w):
  Gets Tryz.prog 82 #[.pointer (some ⟨b,0,none⟩)] w fun v w'=>v=.string (strRd 16 rd).1∧Sat R (RdAt r (strRd 16 rd).2::brC b r::Hs) w':=by
 apply call82
 have hw2:Sat R (brC b r::RdAt r rd::Hs) w:=hw.swap
 refine NilP.mk rfl ⟨some ⟨r,0,none⟩,At.own (eqS hw2) (by exact ⟨rfl,trivial⟩),?_⟩
 refine (bstr_spec (most:=16) hb hl (by omega) hw).use ?_
 rintro _ w ⟨rfl,hw⟩
 exact ⟨_,rfl,rfl,hw⟩
section
variable (S:World→Prop) (J:Option Addr→World→Prop) (b4 b:Nat) (r:Option Addr)
def rT7 (k:Int) (p:ByteArray) (s f c m t:Int) (w:World):Prop:=
 ∃ w':World,((Instr.storeAt 31 (.pointer (some ⟨b,0,none⟩)) (.agg #[.int .i64 k,.string p,.int .i64 s,.int .i64 f,.int .i64 c,.int .i64 m,.int .i64 t,.slice none 0 0,.slice none 0 0])).run Tryz.prog w=.ok () w')∧J (some ⟨b,0,none⟩) w'
def rT6 (k:Int) (p:ByteArray) (s f c m:Int) (w:World):Prop:=
 Calls Tryz.prog 77 #[.pointer (some ⟨b4,0,none⟩)] w fun e w'=>∃ x:Int,(e=.returned (.int .i64 x))∧S w'∧rT7 J b k p s f c m x w'
def rT5 (k:Int) (p:ByteArray) (s f c:Int) (w:World):Prop:=
 Calls Tryz.prog 77 #[.pointer (some ⟨b4,0,none⟩)] w fun e w'=>∃ x:Int,(e=.returned (.int .i64 x))∧S w'∧rT6 S J b4 b k p s f c x w'
def rT4 (k:Int) (p:ByteArray) (s f:Int) (w:World):Prop:=
 Calls Tryz.prog 77 #[.pointer (some ⟨b4,0,none⟩)] w fun e w'=>∃ x:Int,(e=.returned (.int .i64 x))∧S w'∧rT5 S J b4 b k p s f x w'
def rT3 (k:Int) (p:ByteArray) (s:Int) (w:World):Prop:=
 Calls Tryz.prog 77 #[.pointer (some ⟨b4,0,none⟩)] w fun e w'=>∃ x:Int,(e=.returned (.int .i64 x))∧S w'∧rT4 S J b4 b k p s x w'
def rT2 (k:Int) (p:ByteArray) (w:World):Prop:=
 Calls Tryz.prog 77 #[.pointer (some ⟨b4,0,none⟩)] w fun e w'=>∃ x:Int,(e=.returned (.int .i64 x))∧S w'∧rT3 S J b4 b k p x w'
def rT1 (k:Int) (w:World):Prop:=
 Calls Tryz.prog 79 #[.agg #[.pointer r],.int .i64 16] w fun e w'=>∃ t:ByteArray,(e=.returned (.string t))∧rT2 S J b4 b k t w'
def rT0 (w:World):Prop:=
 Calls Tryz.prog 77 #[.pointer (some ⟨b4,0,none⟩)] w fun e w'=>∃ t:Int,(e=.returned (.int .i64 t))∧S w'∧rT1 S J b4 b r t w'
end
section
variable {J:Option Addr→World→Prop} {b4 b r:Nat} {rd:Rd} {k s f c m t:Int} {p:ByteArray}
theorem rT7_ok (hJ:∀ {w},Sat R (rpC b (rpHead k p s f c m t) nilSl nilSl::RdAt r rd::brC b4 r::Hs) w→J (some ⟨b,0,none⟩) w) (hw:Sat R (RdAt r rd::brC b4 r::rpNew b::Hs) w):rT7 J b k p s f c m t w:=by
 have hw:Sat R (rpNew b::RdAt r rd::brC b4 r::Hs) w:=hw.arr
 refine store_rule hw (by kernel_rfl) rfl (by simp [Value.cells]) fun w hw=>?_
 exact hJ (hw.re (rpC b (rpHead k p s f c m t) nilSl nilSl))
theorem rT6_ok (hb:Bytes rd.bs) (hJ:∀ {w},Sat R (rpC b (rpHead k p s f c m (rdNum MI rd).1) nilSl nilSl::RdAt r (rdNum MI rd).2::brC b4 r::Hs) w→J (some ⟨b,0,none⟩) w)
  (hw:Sat R (RdAt r rd::brC b4 r::rpNew b::Hs) w):rT6 (Sat R [brC b4 r,VC.tru]) J b4 b k p s f c m w:=by
 refine (brn_spec hb hw).use ?_
 rintro _ w ⟨rfl,hw⟩
 exact ⟨_,rfl,tru2 hw,rT7_ok hJ hw⟩
theorem rT5_ok (hb:Bytes rd.bs) (hJ:∀ {w},Sat R (rpC b (rpHead k p s f c (rdNum MI rd).1 (rdNum MI (rdNum MI rd).2).1) nilSl nilSl::RdAt r (rdNum MI (rdNum MI rd).2).2::brC b4 r::Hs) w→J (some ⟨b,0,none⟩) w)
  (hw:Sat R (RdAt r rd::brC b4 r::rpNew b::Hs) w):rT5 (Sat R [brC b4 r,VC.tru]) J b4 b k p s f c w:=by
 refine (brn_spec hb hw).use ?_
 rintro _ w ⟨rfl,hw⟩
 exact ⟨_,rfl,tru2 hw,rT6_ok (rdNum_bd hb) hJ hw⟩
theorem rT4_ok (hb:Bytes rd.bs) (hJ:∀ {w},Sat R (rpC b (rpHead k p s f (rdNum MI rd).1 (rdNum MI (rdNum MI rd).2).1 (rdNum MI (rdNum MI (rdNum MI rd).2).2).1) nilSl nilSl::RdAt r (rdNum MI (rdNum MI (rdNum MI rd).2).2).2::brC b4 r::Hs) w→J (some ⟨b,0,none⟩) w)
  (hw:Sat R (RdAt r rd::brC b4 r::rpNew b::Hs) w):rT4 (Sat R [brC b4 r,VC.tru]) J b4 b k p s f w:=by
 refine (brn_spec hb hw).use ?_
 rintro _ w ⟨rfl,hw⟩
 exact ⟨_,rfl,tru2 hw,rT5_ok (rdNum_bd hb) hJ hw⟩
theorem rT3_ok (hb:Bytes rd.bs) (hJ:∀ {w},Sat R (rpC b (rpHead k p s (rdNum MI rd).1 (rdNum MI (rdNum MI rd).2).1 (rdNum MI (rdNum MI (rdNum MI rd).2).2).1 (rdNum MI (rdNum MI (rdNum MI (rdNum MI rd).2).2).2).1) nilSl nilSl::RdAt r (rdNum MI (rdNum MI (rdNum MI (rdNum MI rd).2).2).2).2::brC b4 r::Hs) w→J (some ⟨b,0,none⟩) w)
  (hw:Sat R (RdAt r rd::brC b4 r::rpNew b::Hs) w):rT3 (Sat R [brC b4 r,VC.tru]) J b4 b k p s w:=by
 refine (brn_spec hb hw).use ?_
 rintro _ w ⟨rfl,hw⟩
 exact ⟨_,rfl,tru2 hw,rT4_ok (rdNum_bd hb) hJ hw⟩
theorem rT2_ok (hb:Bytes rd.bs) (hJ:∀ {w},Sat R (rpC b (rpHead k p (rdNum MI rd).1 (rdNum MI (rdNum MI rd).2).1 (rdNum MI (rdNum MI (rdNum MI rd).2).2).1 (rdNum MI (rdNum MI (rdNum MI (rdNum MI rd).2).2).2).1 (rdNum MI (rdNum MI (rdNum MI (rdNum MI (rdNum MI rd).2).2).2).2).1) nilSl nilSl::RdAt r (rdNum MI (rdNum MI (rdNum MI (rdNum MI (rdNum MI rd).2).2).2).2).2::brC b4 r::Hs) w→J (some ⟨b,0,none⟩) w)
  (hw:Sat R (RdAt r rd::brC b4 r::rpNew b::Hs) w):rT2 (Sat R [brC b4 r,VC.tru]) J b4 b k p w:=by
 refine (brn_spec hb hw).use ?_
 rintro _ w ⟨rfl,hw⟩
 exact ⟨_,rfl,tru2 hw,rT3_ok (rdNum_bd hb) hJ hw⟩
def hd5 (rd:Rd):(Int × Int × Int × Int × Int) × Rd:=
 let s:=rdNum MI rd
 let f:=rdNum MI s.2
 let c:=rdNum MI f.2
 let m:=rdNum MI c.2
 let t:=rdNum MI m.2
 ((s.1,f.1,c.1,m.1,t.1),t.2)
abbrev JR (R:Cx) (Hs:List HP) (b4 r:Nat) (k:Int) (p:ByteArray) (x:(Int × Int × Int × Int × Int) × Rd) (c6:Option Addr) (w:World):Prop:=
 ∃ b,c6=some ⟨b,0,none⟩∧Sat R (rpC b (rpHead k p x.1.1 x.1.2.1 x.1.2.2.1 x.1.2.2.2.1 x.1.2.2.2.2) nilSl nilSl::RdAt r x.2::brC b4 r::Hs) w
abbrev rpH5 (k:Int) (p:ByteArray) (x:Int × Int × Int × Int × Int):Rp:=rpHead k p x.1 x.2.1 x.2.2.1 x.2.2.2.1 x.2.2.2.2
theorem rT1_ok (hb:Bytes rd.bs) (hl:rd.bs.length≤1099511627776) (hJ:∀ {w},Sat R (rpC b (rpH5 k (strRd 16 rd).1 (hd5 (strRd 16 rd).2).1) nilSl nilSl::RdAt r (hd5 (strRd 16 rd).2).2::brC b4 r::Hs) w→J (some ⟨b,0,none⟩) w)
  (hw:Sat R (RdAt r rd::brC b4 r::rpNew b::Hs) w):rT1 (Sat R [brC b4 r,VC.tru]) J b4 b (some ⟨r,0,none⟩) k w:=by
 refine (bstr_spec (most:=16) hb hl (by omega) hw).use ?_
 rintro _ w ⟨rfl,hw⟩
 exact ⟨_,rfl,rT2_ok (strRd_bd hb) hJ hw⟩
theorem rT0_ok (hb:Bytes rd.bs) (hl:rd.bs.length≤1099511627776) (hJ:∀ {w},Sat R (rpC b (rpH5 (rdNum MI rd).1 (strRd 16 (rdNum MI rd).2).1 (hd5 (strRd 16 (rdNum MI rd).2).2).1) nilSl nilSl::RdAt r (hd5 (strRd 16 (rdNum MI rd).2).2).2::brC b4 r::Hs) w→J (some ⟨b,0,none⟩) w)
  (hw:Sat R (RdAt r rd::brC b4 r::rpNew b::Hs) w):rT0 (Sat R [brC b4 r,VC.tru]) J b4 b (some ⟨r,0,none⟩) w:=by
 refine (brn_spec hb hw).use ?_
 rintro _ w ⟨rfl,hw⟩
 exact ⟨_,rfl,tru2 hw,rT1_ok (rdNum_bd hb) (by have:=rdNum_len (most:=MI) (rd:=rd);omega) hJ hw⟩
end
end Go.Proofs.YtfgbbckfikiomaaGreatDoor
/- Package booking: Read, the whole. Condition: bounds on lengths. -/
namespace Go.Proofs.YtfgbbckfikiomaaGreatDoor
set_option linter.unusedVariables false
open Go Go.VC
open Classical
variable {R:Cx} {Hs Rest:List HP} {w:World}
def zeroR:Rp:=rpHead 0 (ByteArray.mk #[]) 0 0 0 0 0
def rpDec (bs:List Int):Rp × Int:=if rdWhole (rpRd ⟨bs,false⟩).2=true then ((rpRd ⟨bs,false⟩).1,0) else (zeroR,6)
theorem hd5_bd {rd:Rd} (hb:Bytes rd.bs):Bytes (hd5 rd).2.bs:=rdNum_bd (rdNum_bd (rdNum_bd (rdNum_bd (rdNum_bd hb))))
theorem hd5_len {rd:Rd}:(hd5 rd).2.bs.length≤rd.bs.length:=Nat.le_trans rdNum_len (Nat.le_trans rdNum_len (Nat.le_trans rdNum_len (Nat.le_trans rdNum_len rdNum_len)))
theorem rpRd_hd (r:Rd):rpRd r=
 let k:=rdNum MI r
 let p:=strRd 16 k.2
 let h:=hd5 p.2
 let n:=rdNum 8 h.2
 let g:=rdEach (rdNum MI) n.1.toNat n.2
 let q:=rdNum 600 g.2
 let x:=rdEach (strRd 16) q.1.toNat q.2
 (⟨k.1,p.1,h.1.1,h.1.2.1,h.1.2.2.1,h.1.2.2.2.1,h.1.2.2.2.2,g.1,x.1⟩,x.2):=rfl
set_option maxHeartbeats 1000000 in
theorem bread_spec {s:Sl} {bs:List Int} (hb:Bytes bs) (hl:bs.length≤1099511627776) (hs:Ro R s (b8 bs)) (hw:Sat R Hs w):
  Gets Tryz.prog 26 #[.slice s.a s.len s.cap] w fun v w'=>∃ sl sb:Sl,v=.tuple #[.agg (rpV (rpDec bs).1 sl sb).toArray,.int .i64 (rpDec bs).2]∧Sat R (Own sl 3 (intsI (rpDec bs).1.left)::Own sb 9 (strs (rpDec bs).1.labs)::Hs) w':=by
 apply call26
 have b0:Bytes (⟨bs,false⟩:Rd).bs:=hb
 have l0:(⟨bs,false⟩:Rd).bs.length≤1099511627776:=hl
 have hcm:=rpRd_hd ⟨bs,false⟩
 obtain ⟨rd0,e0⟩:∃ rd:Rd,rd=⟨bs,false⟩:=⟨_,rfl⟩
 rw [←e0] at b0 l0 hcm
 have b1:=rdNum_bd (most:=MI) b0
 have l1:(rdNum MI rd0).2.bs.length≤1099511627776:=Nat.le_trans rdNum_len l0
 refine new_rule hw fun b2 w hw=>?_
 have hw:Sat R (rpNew b2::Hs) w:=hw
 refine (fnew_spec hs hl hw).use ?_
 clear hw
 rintro _ w ⟨r,rfl,hw⟩
 refine ⟨_,rfl,?_⟩
 rw [←e0] at hw
 refine new_rule hw fun b4 w hw=>?_
 refine store_rule hw (by kernel_rfl) rfl (by simp [Value.cells]) fun w hw=>?_
 have hw:Sat R (RdAt r rd0::brC b4 r::rpNew b2::Hs) w:=hw.re (brC b4 r)|>.swap
 refine ⟨JR R (rpNew b2::Hs) b4 r (rdNum MI rd0).1 (strRd 16 (rdNum MI rd0).2).1 (hd5 (strRd 16 (rdNum MI rd0).2).2),?_,?_⟩
 ·refine drw_rule' (Sat R [brC b4 r,VC.tru]) hw (fun w hw=>tru2 hw) fun w hw=>?_
  clear hcm
  refine ⟨_,At.own (fun _ h=>h) (by exact ⟨rfl,trivial⟩),?_⟩
  refine ⟨?_,new_rule hw fun b w hw=>⟨tru3 hw,rT0_ok b0 l0 (fun hw=>⟨b,rfl,hw⟩) (hw.arr (Hs':=RdAt r rd0::brC b4 r::rpNew b::rpNew b2::Hs))⟩⟩
  refine (brn_spec b0 hw).use ?_
  clear hw
  rintro _ w ⟨rfl,hw⟩
  refine ⟨_,rfl,tru2 hw,?_⟩
  generalize (rdNum MI rd0).1=k at *
  generalize (rdNum MI rd0).2=rd1 at *
  refine ⟨?_,new_rule hw fun b w hw=>⟨tru3 hw,rT1_ok b1 l1 (fun hw=>⟨b,rfl,hw⟩) (hw.arr (Hs':=RdAt r rd1::brC b4 r::rpNew b::rpNew b2::Hs))⟩⟩
  have c2:=strRd_bd (most:=16) b1
  refine (bstr_spec (most:=16) b1 l1 (by omega) hw).use ?_
  clear hw
  rintro _ w ⟨rfl,hw⟩
  refine ⟨_,rfl,?_⟩
  generalize (strRd 16 rd1).1=p at *
  generalize (strRd 16 rd1).2=rd2 at *
  refine ⟨?_,new_rule hw fun b w hw=>⟨tru3 hw,rT2_ok c2 (fun hw=>⟨b,rfl,hw⟩) (hw.arr (Hs':=RdAt r _::brC b4 r::rpNew b::rpNew b2::Hs))⟩⟩
  have c3:=rdNum_bd (most:=MI) c2
  refine (brn_spec c2 hw).use ?_
  clear hw
  rintro _ w ⟨rfl,hw⟩
  refine ⟨_,rfl,tru2 hw,?_⟩
  refine ⟨?_,new_rule hw fun b w hw=>⟨tru3 hw,rT3_ok c3 (fun hw=>⟨b,rfl,hw⟩) (hw.arr (Hs':=RdAt r _::brC b4 r::rpNew b::rpNew b2::Hs))⟩⟩
  have c4:=rdNum_bd (most:=MI) c3
  refine (brn_spec c3 hw).use ?_
  clear hw
  rintro _ w ⟨rfl,hw⟩
  refine ⟨_,rfl,tru2 hw,?_⟩
  refine ⟨?_,new_rule hw fun b w hw=>⟨tru3 hw,rT4_ok c4 (fun hw=>⟨b,rfl,hw⟩) (hw.arr (Hs':=RdAt r _::brC b4 r::rpNew b::rpNew b2::Hs))⟩⟩
  have c5:=rdNum_bd (most:=MI) c4
  refine (brn_spec c4 hw).use ?_
  clear hw
  rintro _ w ⟨rfl,hw⟩
  refine ⟨_,rfl,tru2 hw,?_⟩
  refine ⟨?_,new_rule hw fun b w hw=>⟨tru3 hw,rT5_ok c5 (fun hw=>⟨b,rfl,hw⟩) (hw.arr (Hs':=RdAt r _::brC b4 r::rpNew b::rpNew b2::Hs))⟩⟩
  have c6:=rdNum_bd (most:=MI) c5
  refine (brn_spec c5 hw).use ?_
  clear hw
  rintro _ w ⟨rfl,hw⟩
  refine ⟨_,rfl,tru2 hw,?_⟩
  refine ⟨?_,new_rule hw fun b w hw=>⟨tru3 hw,rT6_ok c6 (fun hw=>⟨b,rfl,hw⟩) (hw.arr (Hs':=RdAt r _::brC b4 r::rpNew b::rpNew b2::Hs))⟩⟩
  have c7:=rdNum_bd (most:=MI) c6
  refine (brn_spec c6 hw).use ?_
  clear hw
  rintro _ w ⟨rfl,hw⟩
  refine ⟨_,rfl,tru2 hw,?_⟩
  have hw:Sat R (RdAt r (hd5 rd2).2::brC b4 r::rpNew b2::Hs) w:=hw
  exact new_rule hw fun b w hw=>⟨tru3 hw,rT7_ok (fun hw=>⟨b,rfl,hw⟩) (hw.arr (Hs':=RdAt r _::brC b4 r::rpNew b::rpNew b2::Hs))⟩
 clear hw
 obtain ⟨k,rd1,e1⟩:∃ y rd,rdNum MI rd0=(y,rd):=⟨_,_,rfl⟩
 rw [e1] at b1 l1 ⊢
 dsimp only at b1 l1 ⊢
 have c2:=strRd_bd (most:=16) b1
 have l2:(strRd 16 rd1).2.bs.length≤1099511627776:=Nat.le_trans strRd_len l1
 obtain ⟨p,rd2,e2⟩:∃ y rd,strRd 16 rd1=(y,rd):=⟨_,_,rfl⟩
 rw [e2] at c2 l2 ⊢
 dsimp only at c2 l2 ⊢
 have b3:=hd5_bd c2
 have l3:(hd5 rd2).2.bs.length≤1099511627776:=Nat.le_trans hd5_len l2
 obtain ⟨⟨st,f,c,m,t⟩,rd3,e3⟩:∃ y rd,hd5 rd2=(y,rd):=⟨_,_,rfl⟩
 rw [e3] at b3 l3 ⊢
 dsimp only at b3 l3 ⊢
 rintro _ _ w ⟨b,rfl,hw⟩
 have hw:Sat R (RdAt r rd3::brC b4 r::rpC b (rpHead k p st f c m t) nilSl nilSl::rpNew b2::Hs) w:=hw.arr
 have b7:=rdNum_bd (most:=8) b3
 have v7:=rdNum_val (most:=8) b3 (by omega)
 have l7:(rdNum 8 rd3).2.bs.length≤1099511627776:=Nat.le_trans rdNum_len l3
 obtain ⟨n7,rd7,e7⟩:∃ y rd,rdNum 8 rd3=(y,rd):=⟨_,_,rfl⟩
 refine ⟨some ⟨r,0,none⟩,At.own (eqS hw) (by exact ⟨rfl,trivial⟩),?_⟩
 refine (bnum_spec (most:=8) b3 (by omega) (by omega) hw).use ?_
 clear hw
 rintro _ w ⟨rfl,hw⟩
 rw [e7] at b7 v7 l7 hw ⊢
 dsimp only at b7 v7 l7 hw ⊢
 refine ⟨_,rfl,?_⟩
 obtain ⟨n,rfl⟩:=Int.eq_ofNat_of_zero_le v7.1
 have b8':=(rdEach_inv (one:=rdNum MI) (P:=fun r=>Bytes r.bs∧r.bs.length≤1099511627776) (Q:=fun _=>True) (fun r hr=>⟨trivial,rdNum_bd hr.1,Nat.le_trans rdNum_len hr.2⟩) n ⟨b7,l7⟩).2
 refine (timesI_spec (one:=rdNum MI) (I:=fun rd=>Bytes rd.bs) (fun rd h=>rdNum_bd h) (by omega) b7 (fun T rd w hI hw=>CalW.mk (by kernel_rfl) ((brn_spec hI (hw.arr (Hs':=RdAt r rd::brC b4 r::T::rpC b (rpHead k p st f c m t) nilSl nilSl::rpNew b2::Hs))).use fun v w h=>⟨by rw [h.1],h.2.arr⟩)) hw).use ?_
 clear hw
 rintro _ w ⟨sg,rfl,hw⟩
 have gl:=rdEach_len (rdNum MI) n rd7
 obtain ⟨gs,rd8,e8⟩:∃ y rd,rdEach (rdNum MI) n rd7=(y,rd):=⟨_,_,rfl⟩
 rw [e8] at gl b8' hw
 dsimp only at gl b8' hw
 obtain ⟨b8'',l8⟩:=b8'
 refine ⟨sg,rfl,NilP.mk rfl ?_⟩
 refine store_rule hw (by kernel_rfl) rfl (by simp [Value.cells]) fun w hw=>?_
 have hw:Sat R (RdAt r rd8::brC b4 r::Own sg 3 (intsI gs)::rpC b { rpHead k p st f c m t with left:=gs } sg nilSl::rpNew b2::Hs) w:=(hw.re (rpC b { rpHead k p st f c m t with left:=gs } sg nilSl)).arr
 have b9:=rdNum_bd (most:=600) b8''
 have v9:=rdNum_val (most:=600) b8'' (by omega)
 have l9:(rdNum 600 rd8).2.bs.length≤1099511627776:=Nat.le_trans rdNum_len l8
 obtain ⟨n9,rd9,e9⟩:∃ y rd,rdNum 600 rd8=(y,rd):=⟨_,_,rfl⟩
 refine ⟨some ⟨r,0,none⟩,At.own (eqS hw) (by exact ⟨rfl,trivial⟩),?_⟩
 refine (bnum_spec (most:=600) b8'' (by omega) (by omega) hw).use ?_
 clear hw
 rintro _ w ⟨rfl,hw⟩
 rw [e9] at b9 v9 l9 hw ⊢
 dsimp only at b9 v9 l9 hw ⊢
 refine ⟨_,rfl,?_⟩
 obtain ⟨n',rfl⟩:=Int.eq_ofNat_of_zero_le v9.1
 refine (timesS_spec (one:=strRd 16) (I:=fun rd=>Bytes rd.bs∧rd.bs.length≤1099511627776) (fun rd h=>⟨strRd_bd h.1,Nat.le_trans strRd_len h.2⟩) (by omega) ⟨b9,l9⟩ (fun T rd w hI hw=>CalW.mk (by kernel_rfl) ((brs_spec hI.1 hI.2 (hw.arr (Hs':=RdAt r rd::brC b4 r::T::Own sg 3 (intsI gs)::rpC b { rpHead k p st f c m t with left:=gs } sg nilSl::rpNew b2::Hs))).use fun v w h=>⟨by rw [h.1],h.2.arr⟩)) hw).use ?_
 clear hw
 rintro _ w ⟨sp,rfl,hw⟩
 obtain ⟨ps,rd10,e10⟩:∃ y rd,rdEach (strRd 16) n' rd9=(y,rd):=⟨_,_,rfl⟩
 rw [e10] at hw
 dsimp only at hw
 have hC:rpRd rd0=({ rpHead k p st f c m t with left:=gs,labs:=ps },rd10):=by
  rw [hcm]
  simp only [e1,e2,e3,e7,e8,e9,e10,Int.toNat_natCast]
 clear hcm
 rw [e0] at hC
 have hdec:rpDec bs=if rdWhole rd10=true then ({ rpHead k p st f c m t with left:=gs,labs:=ps },0) else (zeroR,6):=by unfold rpDec;rw [hC]
 obtain ⟨C,eC⟩:∃ C:Rp,C={ rpHead k p st f c m t with left:=gs,labs:=ps }:=⟨_,rfl⟩
 refine ⟨sp,rfl,NilP.mk rfl ?_⟩
 refine store_rule hw (by kernel_rfl) rfl (by simp [Value.cells]) fun w hw=>?_
 have hw:=hw.re (rpC b { rpHead k p st f c m t with left:=gs,labs:=ps } sg sp)
 rw [←eC] at hdec hw
 have eg:C.left=gs:=by rw [eC]
 have ep:C.labs=ps:=by rw [eC]
 rw [←eg] at hw
 rw [←ep] at hw
 clear eC hC eg ep e1 e2 e3 e7 e8 e9 e10 b0 b1 c2 b3 b7 b8'' b9 l0 l1 l2 l3 l7 l8 l9
 have hw:Sat R (RdAt r rd10::brC b4 r::rpC b C sg sp::Own sp 9 (strs C.labs)::Own sg 3 (intsI C.left)::rpNew b2::Hs) w:=hw.arr
 refine ⟨some ⟨r,0,none⟩,At.own (eqS hw) (by exact ⟨rfl,trivial⟩),?_⟩
 refine (whole_spec hw).use ?_
 clear hw
 rintro _ w ⟨rfl,hw⟩
 refine ⟨_,rfl,Br.nb (fun h=>?_) (fun h=>?_)⟩
 ·have hw:Sat R (rpNew b2::Hs) w:=hw.drop.drop.drop.drop.drop
  refine store_rule hw (by kernel_rfl) rfl (by simp [Value.cells]) fun w hw=>?_
  have hw:=hw.re (rpNew b2)
  refine ⟨_,_,_,_,_,_,_,nilSl,nilSl,At.own (eqS hw) (by exact ⟨rfl,rfl,rfl,rfl,rfl,rfl,rfl,rfl,rfl,trivial⟩),?_⟩
  rw [hdec,if_neg (by rw [h];simp)]
  exact ⟨nilSl,nilSl,rfl,Own.nil (Own.nil hw.drop)⟩
 refine NilP.mk rfl ⟨C.code,C.pnr,C.state,C.flt,C.cls,C.many,C.time,sg,sp,At.own (eqS hw) (by exact ⟨rfl,rfl,rfl,rfl,rfl,rfl,rfl,rfl,rfl,trivial⟩),?_⟩
 have hw:Sat R (rpNew b2::RdAt r rd10::brC b4 r::rpC b C sg sp::Own sp 9 (strs C.labs)::Own sg 3 (intsI C.left)::Hs) w:=hw.arr
 refine store_rule hw (by kernel_rfl) rfl (by simp [Value.cells]) fun w hw=>?_
 have hw:=hw.re (rpC b2 C sg sp)
 refine ⟨C.code,C.pnr,C.state,C.flt,C.cls,C.many,C.time,sg,sp,At.own (eqS hw) (by exact ⟨rfl,rfl,rfl,rfl,rfl,rfl,rfl,rfl,rfl,trivial⟩),?_⟩
 rw [hdec,if_pos h]
 exact ⟨sg,sp,rfl,(hw.drop.arr (Hs':=Own sg 3 (intsI C.left)::Own sp 9 (strs C.labs)::RdAt r rd10::brC b4 r::rpC b C sg sp::Hs)).cons fun _ h=>h.cons fun _ h=>h.drop.drop.drop⟩
end Go.Proofs.YtfgbbckfikiomaaGreatDoor
/- Reference 18: whether a command may be; steps of its codes. Condition: bounds on lengths. -/
namespace Go.Proofs.YtfgbbckfikiomaaGreatDoor
set_option linter.unusedVariables false
open Go Go.VC
open Classical
variable {R:Cx} {Hs Rest:List HP} {w:World}
theorem app8 {s t:Sl} {a b:List Int} {K:Sl→World→Prop} (hl:a.length + b.length≤1099511627776) (hw:Sat R (Own t 5 (b8 b)::Own s 5 (b8 a)::Hs) w)
  (k:∀ s2 w',Sat R (Own s2 5 (b8 (a++b))::Hs) w'→K s2 w'):
  ∃ w_1:World,∃ t2:Sl,((Builtin.append_ #[ 42,42 ] 42 #[.slice s.a s.len s.cap,.slice t.a t.len t.cap]).run Tryz.prog w=.ok (.slice t2.a t2.len t2.cap) w_1)∧K t2 w_1:=
 appendOO elB8 (s:=s) (n:=1099511627776) Tryz.underlying42 hw.swap (by omega) (by omega) (by omega) fun s2 w hw=>k s2 w (hw.swap.drop)
theorem rlit_spec {b n:Nat} {xs:List Int} (hn:n=xs.length) (hxs:∀ x∈xs,x<9223372036854775808) (hl:9 * xs.length≤1099511627776) (hw:Sat R (pts b (.cells (intsI xs).toArray 3 (0,0))::Hs) w):
  Gets Tryz.prog 71 #[.slice (some ⟨b,0,none⟩) n n] w fun v w'=>∃ t:Sl,v=.slice t.a t.len t.cap∧Sat R (Own t 5 (b8 (numsB (xs.map nn)))::Hs) w':=by
 have hw:Sat R (Own ⟨some ⟨b,0,none⟩,n,n⟩ 3 (intsI xs)::Hs) w:=own_lit hw (by rw [List.length_map];exact hn)
 obtain ⟨R',hr,_,hw,back⟩:=Own.lendI hw (by omega)
 refine (r18nums_spec hxs hl hr hw).use ?_
 rintro _ w ⟨t,rfl,hw⟩
 exact ⟨_,rfl,t,rfl,(back hw).swap.cons fun _ h=>h.drop⟩
theorem rstr_rule {s:ByteArray} {K:Sl→World→Prop} (hl:s.size≤1099511627776) (hw:Sat R Hs w) (k:∀ t w',Sat R (Own t 5 (b8 (strB s))::Hs) w'→K t w'):
  ∃ w_1:World,∃ t:Sl,((convert 9 42 (.string s)).run Tryz.prog w=.ok (.slice t.a t.len t.cap) w_1)∧
   Calls Tryz.prog 72 #[.slice t.a t.len t.cap] w_1 fun e w_2=>∃ t2:Sl,(e=.returned (.slice t2.a t2.len t2.cap))∧K t2 w_2:=by
 refine convB_rule Tryz.underlying9 Tryz.underlying42 Tryz.underlying5 hw fun t w hw=>?_
 have hsz:=bytesL_len s
 obtain ⟨R',hr,_,hw,back⟩:=Own.lend hw (by rw [List.length_map];omega)
 refine (rtextB_spec hr (by omega) hw).use ?_
 rintro _ w ⟨t2,rfl,hw⟩
 exact ⟨t2,rfl,k _ _ ((back hw).swap.cons fun _ h=>h.drop)⟩
end Go.Proofs.YtfgbbckfikiomaaGreatDoor
/- Reference 18: Encode, Answer. Condition: bounds on lengths; words. -/
namespace Go.Proofs.YtfgbbckfikiomaaGreatDoor
set_option linter.unusedVariables false
open Go Go.VC
open Classical
variable {R:Cx} {Hs Rest:List HP} {w:World}
theorem nn6 {a b c d e f:Int} (hf:0≤f):numsB ([a,b,c,d,e,f].map nn)=numsB [nn a]++(numsB [nn b]++(numsB [nn c]++(numsB [nn d]++(numsB [nn e]++numsB [f])))):=by
 show numsB [nn a,nn b,nn c,nn d,nn e,nn f]=_
 rw [nn_id hf,numsB_sp (nn a),numsB_sp (nn b),numsB_sp (nn c),numsB_sp (nn d),numsB_sp (nn e)]
set_option maxHeartbeats 1000000 in
theorem r18answer_spec {r:Rp} {sl sb:Sl} (hi:RpW r) (hg:RoI R sl r.left) (hp:SlR R.m sb (r.labs.map Value.string)) (hw:Sat R Hs w):
  Gets Tryz.prog 28 #[.agg #[.int .i64 r.code,.string r.pnr,.int .i64 r.state,.int .i64 r.flt,.int .i64 r.cls,.int .i64 r.many,.int .i64 r.time,.slice sl.a sl.len sl.cap,.slice sb.a sb.len sb.cap]] w fun v w'=>
   ∃ t:Sl,v=.slice t.a t.len t.cap∧Sat R (Own t 5 (b8 (rpB r))::Hs) w':=by
 have hplen:sb.len=r.labs.length:=by have:=hp.len;simpa using this
 have hglen:=hg.len
 have i1:=hi.ints
 have i2:=hi.pnr
 have i3:=hi.ll
 have i4:=hi.bl
 have q:∀ x∈[r.code,r.state,r.flt,r.cls,r.many,r.time]++r.left,0≤nn x∧nn x<18446744073709551616:=fun x hx=>by have:=nn_bd (i1 x hx);omega
 have l1:=nums1_len (q r.code (by simp))
 have l2:=strB_len (s:=r.pnr) i2
 have l3:=nums1_len (q r.state (by simp))
 have l4:=nums1_len (q r.flt (by simp))
 have l5:=nums1_len (q r.cls (by simp))
 have l6:=nums1_len (q r.many (by simp))
 have l7:=nums1_len (q r.time (by simp))
 have l10:=nums1_len (x:=(r.left.length:Int)) (by omega)
 have l11:=numsB_len (l:=r.left.map nn) fun y hy=>by obtain ⟨x,hx,rfl⟩:=List.mem_map.1 hy;exact q x (by simp [hx])
 rw [List.length_map] at l11
 have l12:=nums1_len (x:=(r.labs.length:Int)) (by omega)
 apply call28
 refine new_rule hw fun b w hw=>?_
 have hw:Sat R (rpC b r sl sb::Hs) w:=hw
 refine ⟨r.code,At.own (eqS hw) (by exact ⟨rfl,trivial⟩),?_⟩
 refine new_rule hw fun b15 w hw=>?_
 refine (rlit_spec (xs:=[r.code]) rfl (fun x hx=>i1 x (by rw [List.mem_singleton.1 hx];simp)) (by simp) hw).use ?_
 clear hw
 rintro _ w ⟨t1,rfl,hw⟩
 refine ⟨t1,rfl,?_⟩
 rw [show [r.code].map nn=[nn r.code] from rfl] at hw
 refine ⟨r.pnr,At.own (eqS hw) (by exact ⟨rfl,trivial⟩),?_⟩
 refine rstr_rule (by omega) hw fun t2 w hw=>?_
 refine app8 (by omega) hw fun t1 w hw=>?_
 refine ⟨r.state,At.own (eqS hw) (by exact ⟨rfl,trivial⟩),r.flt,At.own (eqS hw) (by exact ⟨rfl,trivial⟩),r.cls,At.own (eqS hw) (by exact ⟨rfl,trivial⟩),r.many,At.own (eqS hw) (by exact ⟨rfl,trivial⟩),r.time,At.own (eqS hw) (by exact ⟨rfl,trivial⟩),sl,At.own (eqS hw) (by exact ⟨rfl,trivial⟩),?_⟩
 refine new_rule hw fun b31 w hw=>?_
 refine (rlit_spec (xs:=[r.state,r.flt,r.cls,r.many,r.time,(sl.len:Int)]) rfl (fun x hx=>by
  simp only [List.mem_cons,List.not_mem_nil,or_false] at hx
  rcases hx with h|h|h|h|h|h
  ·exact i1 x (by simp [h])
  ·exact i1 x (by simp [h])
  ·exact i1 x (by simp [h])
  ·exact i1 x (by simp [h])
  ·exact i1 x (by simp [h])
  ·omega) (by simp) hw).use ?_
 clear hw
 rintro _ w ⟨t2,rfl,hw⟩
 refine ⟨t2,rfl,?_⟩
 rw [nn6 (by omega),show ((sl.len:Nat):Int)=(r.left.length:Int) by omega] at hw
 refine app8 (by simp only [List.length_append];omega) hw fun t1 w hw=>?_
 refine ⟨sl,At.own (eqS hw) (by exact ⟨rfl,trivial⟩),?_⟩
 refine (r18nums_spec (xs:=r.left) (fun y hy=>i1 y (by simp [hy])) (by omega) hg hw).use ?_
 clear hw
 rintro _ w ⟨t2,rfl,hw⟩
 refine ⟨t2,rfl,?_⟩
 refine app8 (by simp only [List.length_append];omega) hw fun t1 w hw=>?_
 refine ⟨sb,At.own (eqS hw) (by exact ⟨rfl,trivial⟩),?_⟩
 refine new_rule hw fun b57 w hw=>?_
 refine (rlit_spec (xs:=[(sb.len:Int)]) rfl (by simp;omega) (by simp) hw).use ?_
 clear hw
 rintro _ w ⟨t2,rfl,hw⟩
 refine ⟨t2,rfl,?_⟩
 rw [nn1 (by omega),show ((sb.len:Nat):Int)=(r.labs.length:Int) by omega] at hw
 refine app8 (by simp only [List.length_append];omega) hw fun t1 w hw=>?_
 obtain ⟨B,hBl,hB,hw⟩:∃ B:List Int,B.length≤2000000∧B++(r.labs.map strB).flatten=rpB r∧Sat R (Own t1 5 (b8 B)::rpC b r sl sb::Hs) w:=
  ⟨_,by simp only [List.length_append];omega,by unfold rpB;simp only [List.append_assoc],hw⟩
 refine ⟨fun out i w=>∃ k:Nat,i=k∧k≤r.labs.length∧Sat R (Own out 5 (b8 (B++((r.labs.take k).map strB).flatten))::rpC b r sl sb::Hs) w,fun _ i _=>r.labs.length - i.toNat,⟨0,rfl,by omega,by simpa using hw⟩,?_⟩
 clear hw
 rintro _ out _ w ⟨k,rfl,hk,hw⟩
 refine ⟨sb,At.own (eqS hw) (by exact ⟨rfl,trivial⟩),?_⟩
 refine Br.d (fun h=>?_) (fun h=>?_)
 ·have hkx:k<r.labs.length:=by omega
  have hfl:=flat_len (l:=r.labs.take k) (code:=strB) (m:=100009) fun x hx=>by have:=hi.labs x (List.mem_of_mem_take hx);have:=strB_len this;omega
  rw [List.length_take] at hfl
  have hsk:=hi.labs _ (List.getElem_mem hkx)
  have hsl:=strB_len hsk
  refine ⟨sb,At.own (eqS hw) (by exact ⟨rfl,trivial⟩),?_⟩
  refine Ro.ixStr (hp.ro (by rw [List.length_map];omega)) (eqS hw) k rfl hkx ?_
  refine rstr_rule (by omega) hw fun t2 w hw=>?_
  refine app8 (by rw [List.length_append];omega) hw fun t1 w hw=>?_
  rw [wrap64 (by omega) (by omega)]
  refine ⟨⟨k + 1,by omega,by omega,?_⟩,by dsimp only;omega⟩
  rw [List.take_add_one,List.getElem?_eq_getElem hkx,List.map_append,List.flatten_append,←List.append_assoc]
  simpa using hw
 ·rw [List.take_of_length_le (l:=r.labs) (by omega),hB] at hw
  exact ⟨out,rfl,hw.cons fun _ h=>h.drop⟩
end Go.Proofs.YtfgbbckfikiomaaGreatDoor
/- Reference 18: Decode. Condition: bounds on lengths. -/
namespace Go.Proofs.YtfgbbckfikiomaaGreatDoor
set_option linter.unusedVariables false
open Go Go.VC
open Classical
variable {R:Cx} {Hs Rest:List HP} {w:World}
theorem pushS_rule {P:Program} {t1 t2 ty T T':TypeId} {bytes:Nat} (E:El P t1 t2 T bytes) {R:Cx} {Hs:List HP} {w:World} {s:Sl} {xs:List Value} {x:Value} {K:Sl→World→Prop} {S:World→Prop}
  (hw:Sat R (Own s T xs::Hs) w) (h1:oneAll xs=true) (hx:x.oneCell'=true) (hb:2 * (xs.length + 1) * bytes≤281474976710656) (hb':xs.length + 1≤9223372036854775807)
  (hS:∀ A w,Sat R (A::Own s T xs::Hs) w→S w)
  (k:∀ s' w',Sat R (Own s' T (xs++[x])::Hs) w'→K s' w'):
  New (.cells #[x] T' (0,0)) (fun b w=>S w∧∃ w',∃ t:Sl,(Builtin.append_ #[t1,t2] ty #[.slice s.a s.len s.cap,.slice (some ⟨b,0,none⟩) 1 1]).run P w=.ok (.slice t.a t.len t.cap) w'∧K t w') w:=by
 refine new_rule hw fun b w hw=>⟨hS _ _ hw,?_⟩
 have hw:Sat R (pts b (.cells [x].toArray T' (0,0))::Own s T xs::Hs) w:=hw
 exact append_rule E hw.swap (Src_one E.hk 1 hw hx) h1 hb hb' fun s' w' h=>k s' w' h.swap.drop
theorem rrstr_rule {q:Nat} {s:Sl} {bs:List Int} {rd:Rd} {most:Int} {K:ByteArray→World→Prop} (hm:most<9223372036854775808) (hl:bs.length≤1099511627776) (hb:Bytes bs) (hs:SlR R.m s (b8 bs)) (hw:Sat R (RRdAt q s bs rd::Hs) w)
  (k:∀ w',Sat R (RRdAt q s bs (strRd most rd).2::Hs) w'→K (strRd most rd).1 w'):
  Calls Tryz.prog 85 #[.pointer (some ⟨q,0,none⟩),.int .i64 most] w fun e w'=>∃ t:Sl,(e=.returned (.slice t.a t.len t.cap))∧
   ∃ x:ByteArray,(∀ w2,(fun w''=>w''=w') w2→((convert 42 9 (.slice t.a t.len t.cap))).run Tryz.prog w2=.ok (.string x) w2)∧K x w':=by
 obtain ⟨n,⟨hn,hd⟩,_⟩:=Sat.rrd.1 hw
 have hrd:rd.bs.length≤bs.length:=by rw [←hd,List.length_drop];omega
 have htl:=rdText_len (most:=most) (rd:=rd)
 refine (rrtext_spec hm hl hb hs hw).use ?_
 rintro _ w ⟨t,rfl,hw⟩
 refine ⟨t,rfl,VC.strOf (rdText most rd).1,fun w' e=>?_,k _ hw.drop⟩
 rw [show w'=w from e]
 obtain ⟨R',hr,_,hw2,back⟩:=Own.lend hw (by rw [List.length_map];omega)
 exact convS_ro Tryz.underlying42 Tryz.underlying5 Tryz.underlying9 hw2 hr
theorem wrapN {x:Int} (h:0≤x) (h2:x<9223372036854775808):IntKind.i64.wrap x=x:=wrap64 (by omega) h2
end Go.Proofs.YtfgbbckfikiomaaGreatDoor
/- Reference 18: Read. Condition: bounds on lengths. -/
namespace Go.Proofs.YtfgbbckfikiomaaGreatDoor
set_option linter.unusedVariables false
open Go Go.VC
open Classical
variable {R:Cx} {Hs Rest:List HP} {w:World}
theorem rpRd_eq (r:Rd):rpRd r=
 let k:=rdNum 1099511627776 r
 let p:=strRd 16 k.2
 let s:=rdNum 1099511627776 p.2
 let f:=rdNum 1099511627776 s.2
 let c:=rdNum 1099511627776 f.2
 let m:=rdNum 1099511627776 c.2
 let t:=rdNum 1099511627776 m.2
 let n:=rdNum 8 t.2
 let g:=rdEach (rdNum 1099511627776) n.1.toNat n.2
 let q:=rdNum 600 g.2
 let x:=rdEach (strRd 16) q.1.toNat q.2
 (⟨k.1,p.1,s.1,f.1,c.1,m.1,t.1,g.1,x.1⟩,x.2):=rfl
set_option maxHeartbeats 1000000 in
theorem r18read_spec {s:Sl} {bs:List Int} (hb:Bytes bs) (hl:bs.length≤1099511627776) (hs:SlR R.m s (b8 bs)) (hw:Sat R Hs w):
  Gets Tryz.prog 27 #[.slice s.a s.len s.cap] w fun v w'=>∃ sl sb:Sl,v=.tuple #[.agg (rpV (rpDec bs).1 sl sb).toArray,.int .i64 (rpDec bs).2]∧Sat R (Own sl 3 (intsI (rpDec bs).1.left)::Own sb 9 (strs (rpDec bs).1.labs)::Hs) w':=by
 apply call27
 have bb0:Bytes (⟨bs,false⟩:Rd).bs:=hb
 have hcm:=rpRd_eq ⟨bs,false⟩
 obtain ⟨rd0,e0⟩:∃ rd:Rd,rd=⟨bs,false⟩:=⟨_,rfl⟩
 rw [←e0] at bb0 hcm
 refine new_rule hw fun b2 w hw=>?_
 have hw:Sat R (rpNew b2::Hs) w:=hw
 refine new_rule hw fun q w hw=>?_
 have hw:Sat R (pts q (rrCells s 0 false)::rpNew b2::Hs) w:=hw
 have hw:Sat R (RRdAt q s bs ⟨bs,false⟩::rpNew b2::Hs) w:=Sat.rrd.2 ⟨0,⟨by omega,rfl⟩,hw⟩
 rw [←e0] at hw
 have bb1:=rdNum_bd (most:=1099511627776) bb0
 have v1:=rdNum_val (most:=1099511627776) bb0 (by omega)
 obtain ⟨k,rd1,e1⟩:∃ y rd,rdNum 1099511627776 rd0=(y,rd):=⟨_,_,rfl⟩
 refine (rrnum_spec (most:=1099511627776) hl hb hs hw).use ?_
 clear hw
 rintro _ w ⟨rfl,hw⟩
 rw [e1] at bb1 v1 hw ⊢
 dsimp only at bb1 v1 hw ⊢
 refine ⟨_,rfl,?_⟩
 rw [wrapN (x:=k) v1.1 (by omega)]
 have bb2:=strRd_bd (most:=16) bb1
 obtain ⟨p,rd2,e2⟩:∃ y rd,strRd 16 rd1=(y,rd):=⟨_,_,rfl⟩
 refine rrstr_rule (most:=16) (by omega) hl hb hs hw fun w hw=>?_
 rw [e2] at bb2 hw ⊢
 dsimp only at bb2 hw ⊢
 refine new_rule hw fun b w hw=>?_
 have hw:Sat R (rpNew b::RRdAt q s bs rd2::rpNew b2::Hs) w:=hw
 refine store_rule hw (by kernel_rfl) rfl (by simp [Value.cells]) fun w hw=>?_
 have hw:Sat R (RRdAt q s bs rd2::rpC b (rpHead k p 0 0 0 0 0) nilSl nilSl::rpNew b2::Hs) w:=(hw.re (rpC b (rpHead k p 0 0 0 0 0) nilSl nilSl)).arr
 have bb3:=rdNum_bd (most:=1099511627776) bb2
 have v3:=rdNum_val (most:=1099511627776) bb2 (by omega)
 obtain ⟨st,rd3,e3⟩:∃ y rd,rdNum 1099511627776 rd2=(y,rd):=⟨_,_,rfl⟩
 refine (rrnum_spec (most:=1099511627776) hl hb hs hw).use ?_
 clear hw
 rintro _ w ⟨rfl,hw⟩
 rw [e3] at bb3 v3 hw ⊢
 dsimp only at bb3 v3 hw ⊢
 refine ⟨_,rfl,?_⟩
 rw [wrapN (x:=st) v3.1 (by omega)]
 refine store_rule hw (by kernel_rfl) rfl (by simp [Value.cells]) fun w hw=>?_
 have hw:Sat R (RRdAt q s bs rd3::rpC b ({ rpHead k p 0 0 0 0 0 with state:=st }) nilSl nilSl::rpNew b2::Hs) w:=(hw.re (rpC b ({ rpHead k p 0 0 0 0 0 with state:=st }) nilSl nilSl)).arr
 have bb4:=rdNum_bd (most:=1099511627776) bb3
 have v4:=rdNum_val (most:=1099511627776) bb3 (by omega)
 obtain ⟨f,rd4,e4⟩:∃ y rd,rdNum 1099511627776 rd3=(y,rd):=⟨_,_,rfl⟩
 refine (rrnum_spec (most:=1099511627776) hl hb hs hw).use ?_
 clear hw
 rintro _ w ⟨rfl,hw⟩
 rw [e4] at bb4 v4 hw ⊢
 dsimp only at bb4 v4 hw ⊢
 refine ⟨_,rfl,?_⟩
 rw [wrapN (x:=f) v4.1 (by omega)]
 refine store_rule hw (by kernel_rfl) rfl (by simp [Value.cells]) fun w hw=>?_
 have hw:Sat R (RRdAt q s bs rd4::rpC b ({ rpHead k p 0 0 0 0 0 with state:=st,flt:=f }) nilSl nilSl::rpNew b2::Hs) w:=(hw.re (rpC b ({ rpHead k p 0 0 0 0 0 with state:=st,flt:=f }) nilSl nilSl)).arr
 have bb5:=rdNum_bd (most:=1099511627776) bb4
 have v5:=rdNum_val (most:=1099511627776) bb4 (by omega)
 obtain ⟨c,rd5,e5⟩:∃ y rd,rdNum 1099511627776 rd4=(y,rd):=⟨_,_,rfl⟩
 refine (rrnum_spec (most:=1099511627776) hl hb hs hw).use ?_
 clear hw
 rintro _ w ⟨rfl,hw⟩
 rw [e5] at bb5 v5 hw ⊢
 dsimp only at bb5 v5 hw ⊢
 refine ⟨_,rfl,?_⟩
 rw [wrapN (x:=c) v5.1 (by omega)]
 refine store_rule hw (by kernel_rfl) rfl (by simp [Value.cells]) fun w hw=>?_
 have hw:Sat R (RRdAt q s bs rd5::rpC b ({ rpHead k p 0 0 0 0 0 with state:=st,flt:=f,cls:=c }) nilSl nilSl::rpNew b2::Hs) w:=(hw.re (rpC b ({ rpHead k p 0 0 0 0 0 with state:=st,flt:=f,cls:=c }) nilSl nilSl)).arr
 have bb6:=rdNum_bd (most:=1099511627776) bb5
 have v6:=rdNum_val (most:=1099511627776) bb5 (by omega)
 obtain ⟨m,rd6,e6⟩:∃ y rd,rdNum 1099511627776 rd5=(y,rd):=⟨_,_,rfl⟩
 refine (rrnum_spec (most:=1099511627776) hl hb hs hw).use ?_
 clear hw
 rintro _ w ⟨rfl,hw⟩
 rw [e6] at bb6 v6 hw ⊢
 dsimp only at bb6 v6 hw ⊢
 refine ⟨_,rfl,?_⟩
 rw [wrapN (x:=m) v6.1 (by omega)]
 refine store_rule hw (by kernel_rfl) rfl (by simp [Value.cells]) fun w hw=>?_
 have hw:Sat R (RRdAt q s bs rd6::rpC b ({ rpHead k p 0 0 0 0 0 with state:=st,flt:=f,cls:=c,many:=m }) nilSl nilSl::rpNew b2::Hs) w:=(hw.re (rpC b ({ rpHead k p 0 0 0 0 0 with state:=st,flt:=f,cls:=c,many:=m }) nilSl nilSl)).arr
 have bb7:=rdNum_bd (most:=1099511627776) bb6
 have v7:=rdNum_val (most:=1099511627776) bb6 (by omega)
 obtain ⟨t,rd7,e7⟩:∃ y rd,rdNum 1099511627776 rd6=(y,rd):=⟨_,_,rfl⟩
 refine (rrnum_spec (most:=1099511627776) hl hb hs hw).use ?_
 clear hw
 rintro _ w ⟨rfl,hw⟩
 rw [e7] at bb7 v7 hw ⊢
 dsimp only at bb7 v7 hw ⊢
 refine ⟨_,rfl,?_⟩
 rw [wrapN (x:=t) v7.1 (by omega)]
 refine store_rule hw (by kernel_rfl) rfl (by simp [Value.cells]) fun w hw=>?_
 have hw:Sat R (RRdAt q s bs rd7::rpC b ({ rpHead k p 0 0 0 0 0 with state:=st,flt:=f,cls:=c,many:=m,time:=t }) nilSl nilSl::rpNew b2::Hs) w:=(hw.re (rpC b ({ rpHead k p 0 0 0 0 0 with state:=st,flt:=f,cls:=c,many:=m,time:=t }) nilSl nilSl)).arr
 have bb8:=rdNum_bd (most:=8) bb7
 have v8:=rdNum_val (most:=8) bb7 (by omega)
 obtain ⟨n8,rd8,e8⟩:∃ y rd,rdNum 8 rd7=(y,rd):=⟨_,_,rfl⟩
 refine (rrnum_spec (most:=8) hl hb hs hw).use ?_
 clear hw
 rintro _ w ⟨rfl,hw⟩
 rw [e8] at bb8 v8 hw ⊢
 dsimp only at bb8 v8 hw ⊢
 refine ⟨_,rfl,?_⟩
 obtain ⟨n,rfl⟩:=Int.eq_ofNat_of_zero_le v8.1
 have inv:∀ k,Bytes (rdEach (rdNum 1099511627776) k rd8).2.bs:=fun k=>(rdEach_inv (one:=rdNum 1099511627776) (P:=fun r=>Bytes r.bs) (Q:=fun _=>True) (fun r hr=>⟨trivial,rdNum_bd hr⟩) k bb8).2
 refine ⟨fun i w=>∃ (j:Nat) (sg:Sl),i=j∧j≤n∧Sat R (RRdAt q s bs (rdEach (rdNum 1099511627776) j rd8).2::rpC b ({ rpHead k p 0 0 0 0 0 with state:=st,flt:=f,cls:=c,many:=m,time:=t,left:=(rdEach (rdNum 1099511627776) j rd8).1 }) sg nilSl::Own sg 3 (intsI (rdEach (rdNum 1099511627776) j rd8).1)::rpNew b2::Hs) w,fun i _=>n - i.toNat,⟨0,nilSl,rfl,by omega,show Sat R (RRdAt q s bs rd8::rpC b ({ rpHead k p 0 0 0 0 0 with state:=st,flt:=f,cls:=c,many:=m,time:=t,left:=[] }) nilSl nilSl::Own nilSl 3 (intsI [])::rpNew b2::Hs) w from (show Sat R (Own nilSl 3 (intsI [])::RRdAt q s bs rd8::rpC b ({ rpHead k p 0 0 0 0 0 with state:=st,flt:=f,cls:=c,many:=m,time:=t,left:=[] }) nilSl nilSl::rpNew b2::Hs) w from Own.nil hw).arr⟩,?_⟩
 clear hw
 rintro _ _ w ⟨j,sg,rfl,hj,hw⟩
 refine Br.d (fun h=>?_) (fun h=>?_)
 ·have gl:=rdEach_len (rdNum 1099511627776) j rd8
  have bj:=inv j
  have hsn:=rdEach_snoc (rdNum 1099511627776) j rd8
  have vj:=rdNum_val (most:=1099511627776) bj (by omega)
  rw [wrapU64 (x:=(j:Int) + 1) (by omega) (by omega)]
  generalize (rdEach (rdNum 1099511627776) j rd8).1=gs at *
  generalize (rdEach (rdNum 1099511627776) j rd8).2=rdj at *
  refine drw_rule' (Sat R [rpC b ({ rpHead k p 0 0 0 0 0 with state:=st,flt:=f,cls:=c,many:=m,time:=t,left:=gs }) sg nilSl,VC.tru]) hw (fun w hw=>tru2 hw) fun w hw=>?_
  refine ⟨sg,At.own (fun _ h=>h) (by exact ⟨rfl,trivial⟩),?_⟩
  refine (rrnum_spec (most:=1099511627776) hl hb hs hw).use ?_
  clear hw
  rintro _ w ⟨rfl,hw⟩
  refine ⟨_,rfl,tru2 hw,?_⟩
  rw [wrapN vj.1 (by omega)]
  have hw:Sat R (Own sg 3 (intsI gs)::rpC b ({ rpHead k p 0 0 0 0 0 with state:=st,flt:=f,cls:=c,many:=m,time:=t,left:=gs }) sg nilSl::RRdAt q s bs (rdNum 1099511627776 rdj).2::rpNew b2::Hs) w:=hw.arr
  refine pushS_rule elI8 hw (by unfold oneAll;simp [Value.oneCell']) rfl (by rw [List.length_map];omega) (by rw [List.length_map];omega) (fun A w hw=>(hw.arr (Hs':=rpC b ({ rpHead k p 0 0 0 0 0 with state:=st,flt:=f,cls:=c,many:=m,time:=t,left:=gs }) sg nilSl::A::Own sg 3 (intsI gs)::RRdAt q s bs (rdNum 1099511627776 rdj).2::rpNew b2::Hs)).restTru2) fun sg' w hw=>?_
  refine store_rule hw (by kernel_rfl) rfl (by simp [Value.cells]) fun w hw=>?_
  have hw:=hw.re (rpC b ({ rpHead k p 0 0 0 0 0 with state:=st,flt:=f,cls:=c,many:=m,time:=t,left:=gs++[(rdNum 1099511627776 rdj).1] }) sg' nilSl)
  refine ⟨⟨j + 1,sg',by omega,by omega,?_⟩,by dsimp only;omega⟩
  rw [hsn]
  simp only [List.map_append,List.map_cons,List.map_nil] at hw ⊢
  exact hw.arr
 have hjn:j=n:=by omega
 subst hjn
 have gl:=rdEach_len (rdNum 1099511627776) j rd8
 have bb9:=inv j
 clear inv
 obtain ⟨gs,rd9,e9⟩:∃ y rd,rdEach (rdNum 1099511627776) j rd8=(y,rd):=⟨_,_,rfl⟩
 rw [e9] at gl bb9 hw
 dsimp only at gl bb9 hw
 have bb10:=rdNum_bd (most:=600) bb9
 have v10:=rdNum_val (most:=600) bb9 (by omega)
 obtain ⟨n10,rd10,e10⟩:∃ y rd,rdNum 600 rd9=(y,rd):=⟨_,_,rfl⟩
 refine (rrnum_spec (most:=600) hl hb hs hw).use ?_
 clear hw
 rintro _ w ⟨rfl,hw⟩
 rw [e10] at bb10 v10 hw ⊢
 dsimp only at bb10 v10 hw ⊢
 refine ⟨_,rfl,?_⟩
 obtain ⟨n,rfl⟩:=Int.eq_ofNat_of_zero_le v10.1
 have inv:∀ k,Bytes (rdEach (strRd 16) k rd10).2.bs:=fun k=>(rdEach_inv (one:=strRd 16) (P:=fun r=>Bytes r.bs) (Q:=fun _=>True) (fun r hr=>⟨trivial,strRd_bd hr⟩) k bb10).2
 refine ⟨fun i w=>∃ (j:Nat) (sp:Sl),i=j∧j≤n∧Sat R (RRdAt q s bs (rdEach (strRd 16) j rd10).2::rpC b ({ rpHead k p 0 0 0 0 0 with state:=st,flt:=f,cls:=c,many:=m,time:=t,left:=gs,labs:=(rdEach (strRd 16) j rd10).1 }) sg sp::Own sg 3 (intsI gs)::Own sp 9 (strs (rdEach (strRd 16) j rd10).1)::rpNew b2::Hs) w,fun i _=>n - i.toNat,⟨0,nilSl,rfl,by omega,show Sat R (RRdAt q s bs rd10::rpC b ({ rpHead k p 0 0 0 0 0 with state:=st,flt:=f,cls:=c,many:=m,time:=t,left:=gs,labs:=[] }) sg nilSl::Own sg 3 (intsI gs)::Own nilSl 9 (strs [])::rpNew b2::Hs) w from (show Sat R (Own nilSl 9 (strs [])::RRdAt q s bs rd10::rpC b ({ rpHead k p 0 0 0 0 0 with state:=st,flt:=f,cls:=c,many:=m,time:=t,left:=gs,labs:=[] }) sg nilSl::Own sg 3 (intsI gs)::rpNew b2::Hs) w from Own.nil hw).arr⟩,?_⟩
 clear hw
 rintro _ _ w ⟨i,sp,rfl,hi,hw⟩
 refine Br.d (fun h=>?_) (fun h=>?_)
 ·have pl:=rdEach_len (strRd 16) i rd10
  have bj:=inv i
  have hsn:=rdEach_snoc (strRd 16) i rd10
  rw [wrapU64 (x:=(i:Int) + 1) (by omega) (by omega)]
  generalize (rdEach (strRd 16) i rd10).1=ps at *
  generalize (rdEach (strRd 16) i rd10).2=rdj at *
  refine drw_rule' (Sat R [rpC b ({ rpHead k p 0 0 0 0 0 with state:=st,flt:=f,cls:=c,many:=m,time:=t,left:=gs,labs:=ps }) sg sp,VC.tru]) hw (fun w hw=>tru2 hw) fun w hw=>?_
  refine ⟨sp,At.own (fun _ h=>h) (by exact ⟨rfl,trivial⟩),?_⟩
  obtain ⟨n0,⟨hn0,hd0⟩,_⟩:=Sat.rrd.1 hw
  have hrd:rdj.bs.length≤bs.length:=by rw [←hd0,List.length_drop];omega
  have htl:=rdText_len (most:=16) (rd:=rdj)
  refine (rrtext_spec (most:=16) (by omega) hl hb hs hw).use ?_
  clear hw
  rintro _ w ⟨t65,rfl,hw⟩
  have hw:Sat R (Own t65 5 (b8 (rdText 16 rdj).1)::RRdAt q s bs (strRd 16 rdj).2::rpC b ({ rpHead k p 0 0 0 0 0 with state:=st,flt:=f,cls:=c,many:=m,time:=t,left:=gs,labs:=ps }) sg sp::Own sg 3 (intsI gs)::Own sp 9 (strs ps)::rpNew b2::Hs) w:=hw
  refine ⟨t65,rfl,(hw.arr (Hs':=rpC b ({ rpHead k p 0 0 0 0 0 with state:=st,flt:=f,cls:=c,many:=m,time:=t,left:=gs,labs:=ps }) sg sp::Own t65 5 (b8 (rdText 16 rdj).1)::RRdAt q s bs (strRd 16 rdj).2::Own sg 3 (intsI gs)::Own sp 9 (strs ps)::rpNew b2::Hs)).restTru2,(strRd 16 rdj).1,fun w' e=>?_,?_⟩
  ·rw [show w'=w from e]
   obtain ⟨R',hr,_,hw2,back⟩:=Own.lend hw (by rw [List.length_map];omega)
   exact convS_ro Tryz.underlying42 Tryz.underlying5 Tryz.underlying9 hw2 hr
  have hw:=hw.drop
  have hw:Sat R (Own sp 9 (strs ps)::rpC b ({ rpHead k p 0 0 0 0 0 with state:=st,flt:=f,cls:=c,many:=m,time:=t,left:=gs,labs:=ps }) sg sp::RRdAt q s bs (strRd 16 rdj).2::Own sg 3 (intsI gs)::rpNew b2::Hs) w:=hw.arr
  refine pushS_rule elStr hw (oneAll_str _) rfl (by rw [List.length_map];omega) (by rw [List.length_map];omega) (fun A w hw=>(hw.arr (Hs':=rpC b ({ rpHead k p 0 0 0 0 0 with state:=st,flt:=f,cls:=c,many:=m,time:=t,left:=gs,labs:=ps }) sg sp::A::Own sp 9 (strs ps)::RRdAt q s bs (strRd 16 rdj).2::Own sg 3 (intsI gs)::rpNew b2::Hs)).restTru2) fun sp' w hw=>?_
  refine ⟨(hw.arr (Hs':=rpC b ({ rpHead k p 0 0 0 0 0 with state:=st,flt:=f,cls:=c,many:=m,time:=t,left:=gs,labs:=ps }) sg sp::Own sp' 9 (strs ps++[Value.string (strRd 16 rdj).1])::RRdAt q s bs (strRd 16 rdj).2::Own sg 3 (intsI gs)::rpNew b2::Hs)).restTru2,?_⟩
  refine store_rule hw (by kernel_rfl) rfl (by simp [Value.cells]) fun w hw=>?_
  have hw:=hw.re (rpC b ({ rpHead k p 0 0 0 0 0 with state:=st,flt:=f,cls:=c,many:=m,time:=t,left:=gs,labs:=ps++[(strRd 16 rdj).1] }) sg sp')
  refine ⟨⟨i + 1,sp',by omega,by omega,?_⟩,by dsimp only;omega⟩
  rw [hsn]
  have e:strs ps++[Value.string (strRd 16 rdj).1]=strs (ps++[(strRd 16 rdj).1]):=by simp
  rw [e] at hw
  exact hw.arr
 have hin:i=n:=by omega
 subst hin
 clear inv
 obtain ⟨ps,rd11,e11⟩:∃ y rd,rdEach (strRd 16) i rd10=(y,rd):=⟨_,_,rfl⟩
 rw [e11] at hw
 dsimp only at hw
 have hC:rpRd rd0=({ rpHead k p 0 0 0 0 0 with state:=st,flt:=f,cls:=c,many:=m,time:=t,left:=gs,labs:=ps },rd11):=by
  rw [hcm]
  simp only [e1,e2,e3,e4,e5,e6,e7,e8,e9,e10,e11,Int.toNat_natCast]
 clear hcm
 rw [e0] at hC
 have hdec:rpDec bs=if rdWhole rd11=true then ({ rpHead k p 0 0 0 0 0 with state:=st,flt:=f,cls:=c,many:=m,time:=t,left:=gs,labs:=ps },0) else (zeroR,6):=by unfold rpDec;rw [hC]
 obtain ⟨C,eC⟩:∃ C:Rp,C={ rpHead k p 0 0 0 0 0 with state:=st,flt:=f,cls:=c,many:=m,time:=t,left:=gs,labs:=ps }:=⟨_,rfl⟩
 rw [←eC] at hdec hw
 have eg:C.left=gs:=by rw [eC]
 have ep:C.labs=ps:=by rw [eC]
 rw [←eg] at hw
 rw [←ep] at hw
 clear eC hC eg ep e1 e2 e3 e4 e5 e6 e7 e8 e9 e10 e11
 refine (rrwhole_spec hs hw).use ?_
 clear hw
 rintro _ w ⟨rfl,hw⟩
 refine ⟨_,rfl,Br.nb (fun h=>?_) (fun h=>?_)⟩
 ·have hw:Sat R (rpNew b2::Hs) w:=hw.drop.drop.drop.drop
  refine store_rule hw (by kernel_rfl) rfl (by simp [Value.cells]) fun w hw=>?_
  have hw:=hw.re (rpNew b2)
  refine ⟨_,_,_,_,_,_,_,nilSl,nilSl,At.own (eqS hw) (by exact ⟨rfl,rfl,rfl,rfl,rfl,rfl,rfl,rfl,rfl,trivial⟩),?_⟩
  rw [hdec,if_neg (by rw [h];simp)]
  exact ⟨nilSl,nilSl,rfl,Own.nil (Own.nil hw.drop)⟩
 refine ⟨C.code,C.pnr,C.state,C.flt,C.cls,C.many,C.time,sg,sp,At.own (eqS hw) (by exact ⟨rfl,rfl,rfl,rfl,rfl,rfl,rfl,rfl,rfl,trivial⟩),?_⟩
 have hw:Sat R (rpNew b2::RRdAt q s bs rd11::rpC b C sg sp::Own sp 9 (strs C.labs)::Own sg 3 (intsI C.left)::Hs) w:=hw.arr
 refine store_rule hw (by kernel_rfl) rfl (by simp [Value.cells]) fun w hw=>?_
 have hw:=hw.re (rpC b2 C sg sp)
 refine ⟨C.code,C.pnr,C.state,C.flt,C.cls,C.many,C.time,sg,sp,At.own (eqS hw) (by exact ⟨rfl,rfl,rfl,rfl,rfl,rfl,rfl,rfl,rfl,trivial⟩),?_⟩
 rw [hdec,if_pos h]
 exact ⟨sg,sp,rfl,(hw.drop.arr (Hs':=Own sg 3 (intsI C.left)::Own sp 9 (strs C.labs)::RRdAt q s bs rd11::rpC b C sg sp::Hs)).cons fun _ h=>h.cons fun _ h=>h.drop.drop⟩
end Go.Proofs.YtfgbbckfikiomaaGreatDoor
/- The formulas of functions of this seat's translation, printed by a program of mine off the translation; each is proved equal to 'fnF' of the function's body, so it is enough for the call. No condition. -/
namespace Go.Proofs.YtfgbbckfikiomaaGreatDoor
open Go Go.VC
set_option linter.unusedVariables false
set_option maxRecDepth 10000
def B12  (K:Value→World→Prop) (w:World):Prop:=
 Calls Tryz.prog 14 #[] w fun I G=>
 ∃ l:Option Addr,(I=.returned (.pointer l))∧
 Br l.isNone
 (K (.bool false) G)
 (Calls Tryz.prog 38 #[] G fun J M=>
 ∃ o:Int,∃ p:ByteArray,∃ q:Int,∃ r:Int,∃ s:Int,∃ t:Int,∃ u:Nat,∃ v:ByteArray,∃ x:Int,∃ e:Sl,∃ d:Sl,(J=.returned (.agg #[.int .i64 o,.string p,.int .i64 q,.int .i64 r,.int .i64 s,.int .i64 t,.float .f64 u,.string v,.int .i64 x,.slice e.a e.len e.cap,.slice d.a d.len d.cap]))∧
 Calls Tryz.prog 15 #[.pointer l,.agg #[.int .i64 o,.string p,.int .i64 q,.int .i64 r,.int .i64 s,.int .i64 t,.float .f64 u,.string v,.int .i64 x,.slice e.a e.len e.cap,.slice d.a d.len d.cap]] M fun L N=>
 ∃ y:Int,∃ z:ByteArray,∃ A:Int,∃ C:Int,∃ D:Int,∃ E:Int,∃ F:Int,∃ f:Sl,∃ g:Sl,(L=.returned (.agg #[.int .i64 y,.string z,.int .i64 A,.int .i64 C,.int .i64 D,.int .i64 E,.int .i64 F,.slice f.a f.len f.cap,.slice g.a g.len g.cap]))∧
 New (.cells #[.int .i64 0,.string (ByteArray.mk #[]),.int .i64 0,.int .i64 0,.int .i64 0,.int .i64 0,.int .i64 0,.slice none 0 0,.slice none 0 0] 31 (0,0)) (fun j O=>
 ∃ b:World,((Instr.storeAt 31 (.pointer ((some ⟨j,0,none⟩))) (.agg #[.int .i64 y,.string z,.int .i64 A,.int .i64 C,.int .i64 D,.int .i64 E,.int .i64 F,.slice f.a f.len f.cap,.slice g.a g.len g.cap])).run Tryz.prog O=.ok () b)∧
 ∃ m:Int,(At (fun c=>c=b) ⟨j,0,none⟩ [.int .i64 m])∧
 Br (m==0)
 (∃ k:Sl,(At (fun c=>c=b) ⟨j,0 + 7,none⟩ [.slice k.a k.len k.cap])∧
 Br ((↑k.len:Int)==1)
 (∃ i:Sl,(At (fun c=>c=b) ⟨j,0 + 7,none⟩ [.slice i.a i.len i.cap])∧
 Rng 0 i.len (NilP i.a fun H=>
 ∃ n:Int,(At (fun c=>c=b) (Addr.add H 0) [.int .i64 n])∧
 K (.bool (n==2)) b))
 (K (.bool false) b))
 (K (.bool false) b)) N)
theorem call12  (K:Value→World→Prop) (w:World) (h:B12  K w):Gets Tryz.prog 12 #[] w K:=cq (sk:=.leaf) Tryz.func12 (by kernel_rfl) (by kernel_rfl) (by kernel_rfl) h
def B38  (K:Value→World→Prop) (w:World):Prop:=
 New (.cells #[.int .i64 0,.string (ByteArray.mk #[]),.int .i64 0,.int .i64 0,.int .i64 0,.int .i64 0,.float .f64 0,.string (ByteArray.mk #[]),.int .i64 0,.slice none 0 0,.slice none 0 0] 38 (0,0)) (fun e s=>
 New (.cells #[.int .i64 2] 3 (0,0)) (fun p t=>
 New (.cells #[.float .f64 4607182418800017408] 33 (0,0)) (fun q u=>
 ∃ d:World,((Instr.storeAt 38 (.pointer ((some ⟨e,0,none⟩))) (.agg #[.int .i64 1,.string (ByteArray.mk #[]),.int .i64 7,.int .i64 0,.int .i64 0,.int .i64 0,.float .f64 0,.string (ByteArray.mk #[]),.int .i64 1,.slice ((some ⟨p,0,none⟩)) 1 1,.slice ((some ⟨q,0,none⟩)) 1 1])).run Tryz.prog u=.ok () d)∧
 ∃ f:Int,∃ g:ByteArray,∃ i:Int,∃ j:Int,∃ k:Int,∃ l:Int,∃ m:Nat,∃ n:ByteArray,∃ o:Int,∃ c:Sl,∃ b:Sl,(At (fun r=>r=d) ⟨e,0,none⟩ [.int .i64 f,.string g,.int .i64 i,.int .i64 j,.int .i64 k,.int .i64 l,.float .f64 m,.string n,.int .i64 o,.slice c.a c.len c.cap,.slice b.a b.len b.cap])∧
 K (.agg #[.int .i64 f,.string g,.int .i64 i,.int .i64 j,.int .i64 k,.int .i64 l,.float .f64 m,.string n,.int .i64 o,.slice c.a c.len c.cap,.slice b.a b.len b.cap]) d) t) s) w
theorem call38  (K:Value→World→Prop) (w:World) (h:B38  K w):Gets Tryz.prog 38 #[] w K:=cq (sk:=.leaf) Tryz.func38 (by kernel_rfl) (by kernel_rfl) (by kernel_rfl) h
def B7 (br:Int) (bs:ByteArray) (bt:Int) (bu:Int) (bv:Int) (bw:Int) (bx:Int) (G:Sl) (H:Sl) (e:Sl) (K:Value→World→Prop) (w:World):Prop:=
 New (.cells #[.int .i64 br,.string bs,.int .i64 bt,.int .i64 bu,.int .i64 bv,.int .i64 bw,.int .i64 bx,.slice G.a G.len G.cap,.slice H.a H.len H.cap] 31 (0,0)) (fun f bz=>
 Calls Tryz.prog 12 #[] bz fun bl d=>
 ∃ i:Bool,(bl=.returned (.bool i))∧
 ∃ (I:World→Prop),(Br (!i)
 (K (.bool i) d)
 (∃ A:Sl,(At (fun b=>b=d) ⟨f,0 + 7,none⟩ [.slice A.a A.len A.cap])∧
 Br (decide ((↑A.len:Int)>1000))
 (K (.bool i) d)
 (∃ C:Sl,(At (fun b=>b=d) ⟨f,0 + 8,none⟩ [.slice C.a C.len C.cap])∧
 Br (decide ((↑C.len:Int)>1000))
 (K (.bool i) d)
 (Br (decide ((↑e.len:Int)>20000))
 (K (.bool i) d)
 (∃ N:ByteArray,(At (fun b=>b=d) ⟨f,0 + 1,none⟩ [.string N])∧
 Br (decide ((↑N.size:Int)>1000))
 (K (.bool i) d)
 (I  d))))))∧
 ∀ (b6:Env)  (bh:World),I  bh→
 ∃ (F:Int→World→Prop) (bj:Int→World→Nat),(F 0 bh)∧∀ (b7:Env) (g:Int) (c:World),F g c→
 ∃ D:Sl,(At (fun b=>b=c) ⟨f,0 + 8,none⟩ [.slice D.a D.len D.cap])∧
 Br (decide (g<(↑D.len:Int)))
 (∃ y:Sl,(At (fun b=>b=c) ⟨f,0 + 8,none⟩ [.slice y.a y.len y.cap])∧
 Rng g y.len (NilP y.a fun bk=>
 ∃ O:ByteArray,(At (fun b=>b=c) (Addr.add bk g.toNat) [.string O])∧
 Br (decide ((↑O.size:Int)>1000))
 (K (.bool true) c)
 ((F (IntKind.i64.wrap (g + 1)) c)∧bj (IntKind.i64.wrap (g + 1)) c<bj g c)))
 (∃ Q:Int,∃ T:ByteArray,∃ U:Int,∃ V:Int,∃ X:Int,∃ Y:Int,∃ Z:Int,∃ j:Sl,∃ k:Sl,(At (fun b=>b=c) ⟨f,0,none⟩ [.int .i64 Q,.string T,.int .i64 U,.int .i64 V,.int .i64 X,.int .i64 Y,.int .i64 Z,.slice j.a j.len j.cap,.slice k.a k.len k.cap])∧
 Calls Tryz.prog 25 #[.agg #[.int .i64 Q,.string T,.int .i64 U,.int .i64 V,.int .i64 X,.int .i64 Y,.int .i64 Z,.slice j.a j.len j.cap,.slice k.a k.len k.cap]] c fun bm b2=>
 ∃ l:Sl,(bm=.returned (.slice l.a l.len l.cap))∧
 Calls Tryz.prog 26 #[.slice e.a e.len e.cap] b2 fun bn b3=>
 ∃ aa:Int,∃ ab:ByteArray,∃ ac:Int,∃ ad:Int,∃ ae:Int,∃ af:Int,∃ ag:Int,∃ m:Sl,∃ n:Sl,∃ ah:Int,(bn=.returned (.tuple #[.agg #[.int .i64 aa,.string ab,.int .i64 ac,.int .i64 ad,.int .i64 ae,.int .i64 af,.int .i64 ag,.slice m.a m.len m.cap,.slice n.a n.len n.cap],.int .i64 ah]))∧
 New (.cells #[.int .i64 0,.string (ByteArray.mk #[]),.int .i64 0,.int .i64 0,.int .i64 0,.int .i64 0,.int .i64 0,.slice none 0 0,.slice none 0 0] 31 (0,0)) (fun M b4=>
 ∃ bi:World,((Instr.storeAt 31 (.pointer ((some ⟨M,0,none⟩))) (.agg #[.int .i64 aa,.string ab,.int .i64 ac,.int .i64 ad,.int .i64 ae,.int .i64 af,.int .i64 ag,.slice m.a m.len m.cap,.slice n.a n.len n.cap])).run Tryz.prog b4=.ok () bi)∧
 Calls Tryz.prog 27 #[.slice e.a e.len e.cap] bi fun bo b5=>
 ∃ ai:Int,∃ aj:ByteArray,∃ ak:Int,∃ al:Int,∃ am:Int,∃ an:Int,∃ ao:Int,∃ o:Sl,∃ p:Sl,∃ ap:Int,(bo=.returned (.tuple #[.agg #[.int .i64 ai,.string aj,.int .i64 ak,.int .i64 al,.int .i64 am,.int .i64 an,.int .i64 ao,.slice o.a o.len o.cap,.slice p.a p.len p.cap],.int .i64 ap]))∧
 New (.cells #[.int .i64 0,.string (ByteArray.mk #[]),.int .i64 0,.int .i64 0,.int .i64 0,.int .i64 0,.int .i64 0,.slice none 0 0,.slice none 0 0] 31 (0,0)) (fun L b0=>
 ∃ E:World,((Instr.storeAt 31 (.pointer ((some ⟨L,0,none⟩))) (.agg #[.int .i64 ai,.string aj,.int .i64 ak,.int .i64 al,.int .i64 am,.int .i64 an,.int .i64 ao,.slice o.a o.len o.cap,.slice p.a p.len p.cap])).run Tryz.prog b0=.ok () E)∧
 ∃ aq:Int,∃ ar:ByteArray,∃ au:Int,∃ av:Int,∃ aw:Int,∃ ax:Int,∃ ay:Int,∃ q:Sl,∃ r:Sl,(At (fun b=>b=E) ⟨M,0,none⟩ [.int .i64 aq,.string ar,.int .i64 au,.int .i64 av,.int .i64 aw,.int .i64 ax,.int .i64 ay,.slice q.a q.len q.cap,.slice r.a r.len r.cap])∧
 ∃ az:Int,∃ a0:ByteArray,∃ a1:Int,∃ a2:Int,∃ a3:Int,∃ a4:Int,∃ a5:Int,∃ s:Sl,∃ t:Sl,(At (fun b=>b=E) ⟨L,0,none⟩ [.int .i64 az,.string a0,.int .i64 a1,.int .i64 a2,.int .i64 a3,.int .i64 a4,.int .i64 a5,.slice s.a s.len s.cap,.slice t.a t.len t.cap])∧
 Calls Tryz.prog 20 #[.agg #[.int .i64 aq,.string ar,.int .i64 au,.int .i64 av,.int .i64 aw,.int .i64 ax,.int .i64 ay,.slice q.a q.len q.cap,.slice r.a r.len r.cap],.agg #[.int .i64 az,.string a0,.int .i64 a1,.int .i64 a2,.int .i64 a3,.int .i64 a4,.int .i64 a5,.slice s.a s.len s.cap,.slice t.a t.len t.cap]] E fun bp b1=>
 ∃ a6:Bool,(bp=.returned (.bool a6))∧
 Drw b1 fun J bg=>
 ∃ a7:ByteArray,(∀ b,J b→((convert 42 9 (.slice l.a l.len l.cap))).run Tryz.prog b=.ok (.string a7) b)∧
 ∃ a8:Int,∃ a9:ByteArray,∃ ba:Int,∃ bb:Int,∃ bc:Int,∃ bd:Int,∃ be:Int,∃ u:Sl,∃ v:Sl,(At (fun b=>b=bg) ⟨f,0,none⟩ [.int .i64 a8,.string a9,.int .i64 ba,.int .i64 bb,.int .i64 bc,.int .i64 bd,.int .i64 be,.slice u.a u.len u.cap,.slice v.a v.len v.cap])∧
 Calls Tryz.prog 28 #[.agg #[.int .i64 a8,.string a9,.int .i64 ba,.int .i64 bb,.int .i64 bc,.int .i64 bd,.int .i64 be,.slice u.a u.len u.cap,.slice v.a v.len v.cap]] bg fun bq z=>
 ∃ x:Sl,(bq=.returned (.slice x.a x.len x.cap))∧
 (J z)∧
 ∃ bf:ByteArray,(∀ b,(fun b=>b=z) b→((convert 42 9 (.slice x.a x.len x.cap))).run Tryz.prog b=.ok (.string bf) b)∧
 Br (a7.toList==bf.toList)
 (Br a6
 (K (.bool (ah==ap)) z)
 (K (.bool false) z))
 (K (.bool false) z)) b5) b3)) w
def sk7:Sk:=(.seq .leaf (.seq .leaf (.cut [] [] [4,14,15,16,17,18,19,20,21,22,23,24,25,26,27,28,29,30,31,32,33,34,35,36,37,38,39] .leaf (.seq (.seq .leaf (.block (.loop [6] [(.int .i64)] [4,6,40,41,42,43,44,45,46,47,48,49,50,51,52,53] .leaf))) (.seq .leaf (.seq .leaf (.seq .leaf (.seq .leaf (.seq (.block .leaf) .leaf)))))))))
theorem call7 (e:Int) (f:ByteArray) (g:Int) (i:Int) (j:Int) (k:Int) (l:Int) (c:Sl) (d:Sl) (b:Sl) (K:Value→World→Prop) (w:World) (h:B7 e f g i j k l c d b K w):Gets Tryz.prog 7 #[.agg #[.int .i64 e,.string f,.int .i64 g,.int .i64 i,.int .i64 j,.int .i64 k,.int .i64 l,.slice c.a c.len c.cap,.slice d.a d.len d.cap],.slice b.a b.len b.cap] w K:=cq (sk:=sk7) Tryz.func7 (by kernel_rfl) (by kernel_rfl) (by kernel_rfl) h
end Go.Proofs.YtfgbbckfikiomaaGreatDoor
/- The laws of chapter 18: two replies, two commands; many commands. Condition: bounds on lengths. -/
namespace Go.Proofs.YtfgbbckfikiomaaGreatDoor
set_option linter.unusedVariables false
open Go Go.VC
open Classical
variable {R:Cx} {Hs Rest:List HP} {w:World}
theorem same18_spec {a b:Rp} {la lb ma mb:Sl} (h1:RoI R la a.left) (h2:RoI R ma b.left) (h3:Ro R lb (strs a.labs)) (h4:Ro R mb (strs b.labs)) (hw:Sat R Hs w):
  Gets Tryz.prog 20 #[.agg #[.int .i64 a.code,.string a.pnr,.int .i64 a.state,.int .i64 a.flt,.int .i64 a.cls,.int .i64 a.many,.int .i64 a.time,.slice la.a la.len la.cap,.slice lb.a lb.len lb.cap],.agg #[.int .i64 b.code,.string b.pnr,.int .i64 b.state,.int .i64 b.flt,.int .i64 b.cls,.int .i64 b.many,.int .i64 b.time,.slice ma.a ma.len ma.cap,.slice mb.a mb.len mb.cap]] w
   fun v w'=>v=.bool (decide (a=b))∧Sat R Hs w':=by
 apply call20
 refine new_rule hw fun x w hw=>new_rule hw fun y w hw=>?_
 have hw:Sat R (rpC y b ma mb::rpC x a la lb::Hs) w:=hw
 refine ⟨la,At.own (eqS hw) (by exact ⟨rfl,trivial⟩),ma,At.own (eqS hw) (by exact ⟨rfl,trivial⟩),?_⟩
 refine (sameI_spec h1 h2 hw).use ?_
 clear hw
 rintro _ w ⟨rfl,hw⟩
 refine ⟨_,rfl,lb,At.own (eqS hw) (by exact ⟨rfl,trivial⟩),mb,At.own (eqS hw) (by exact ⟨rfl,trivial⟩),?_⟩
 refine (sameT_spec h3 h4 hw).use ?_
 clear hw
 rintro _ w ⟨rfl,hw⟩
 refine ⟨_,rfl,?_⟩
 have no:¬ a=b→(Value.bool false=.bool (decide (a=b))∧Sat R Hs w):=fun h=>⟨by rw [decide_eq_false h],hw.drop.drop⟩
 refine ⟨a.code,At.own (eqS hw) (by exact ⟨rfl,trivial⟩),b.code,At.own (eqS hw) (by exact ⟨rfl,trivial⟩),Br.e (fun e1=>?_) (fun h=>no fun e=>h (by rw [e]))⟩
 refine ⟨a.pnr,At.own (eqS hw) (by exact ⟨rfl,trivial⟩),b.pnr,At.own (eqS hw) (by exact ⟨rfl,trivial⟩),Br.se (fun e2=>?_) (fun h=>no fun e=>h (by rw [e]))⟩
 refine ⟨a.state,At.own (eqS hw) (by exact ⟨rfl,trivial⟩),b.state,At.own (eqS hw) (by exact ⟨rfl,trivial⟩),Br.e (fun e3=>?_) (fun h=>no fun e=>h (by rw [e]))⟩
 refine ⟨a.flt,At.own (eqS hw) (by exact ⟨rfl,trivial⟩),b.flt,At.own (eqS hw) (by exact ⟨rfl,trivial⟩),Br.e (fun e4=>?_) (fun h=>no fun e=>h (by rw [e]))⟩
 refine ⟨a.cls,At.own (eqS hw) (by exact ⟨rfl,trivial⟩),b.cls,At.own (eqS hw) (by exact ⟨rfl,trivial⟩),Br.e (fun e5=>?_) (fun h=>no fun e=>h (by rw [e]))⟩
 refine ⟨a.many,At.own (eqS hw) (by exact ⟨rfl,trivial⟩),b.many,At.own (eqS hw) (by exact ⟨rfl,trivial⟩),Br.e (fun e6=>?_) (fun h=>no fun e=>h (by rw [e]))⟩
 refine ⟨a.time,At.own (eqS hw) (by exact ⟨rfl,trivial⟩),b.time,At.own (eqS hw) (by exact ⟨rfl,trivial⟩),Br.e (fun e7=>?_) (fun h=>no fun e=>h (by rw [e]))⟩
 refine Br.d (fun e8=>?_) (fun h=>no fun e=>h (by rw [e]))
 refine ⟨?_,hw.drop.drop⟩
 congr 1
 refine decide_eq_decide.2 ⟨fun e9=>?_,fun e=>by rw [e]⟩
 cases a;cases b
 simp only at e1 e2 e3 e4 e5 e6 e7 e8 e9
 subst e1 e2 e3 e4 e5 e6 e7 e8 e9
 rfl
end Go.Proofs.YtfgbbckfikiomaaGreatDoor
/- Package booking: the book in memory; errors that are thrown and caught. Condition: none. -/
namespace Go.Proofs.YtfgbbckfikiomaaGreatDoor
set_option linter.unusedVariables false
open Go Go.VC
open Classical
variable {R:Cx} {Hs Rest:List HP} {w:World}
def wtV (w:Wt):List Value:=[.int .i64 w.id,.int .i64 w.cls,.int .i64 w.many,.int .i64 w.time,.float .f64 w.sc]
abbrev quCell (s:Sl):Obj:=.cells [.slice s.a s.len s.cap].toArray 179 (0,0)
def QuAt (q:Nat) (l:List Wt):HP:=exs fun s:Sl=>Star [pts q (quCell s),OwnN 5 s 181 (l.map wtV)]
theorem Sat.qu {q:Nat} {l:List Wt}:Sat R (QuAt q l::Hs) w↔∃ s:Sl,Sat R (pts q (quCell s)::OwnN 5 s 181 (l.map wtV)::Hs) w:=by
 unfold QuAt
 rw [Sat.exs]
 exact ⟨fun ⟨s,h⟩=>⟨s,Sat.star.1 h⟩,fun ⟨s,h⟩=>⟨s,Sat.star.2 h⟩⟩
abbrev FE:=Nat × Nat × Pl
abbrev BE:=Nat × Bk
def plAt (e:FE):HP:=Star [LoneAt e.1 e.2.2.r,QuAt e.2.1 e.2.2.q]
abbrev bkObj (x:Bk):Obj:=.cells [.int .i64 x.id,.int .i64 x.flt,.int .i64 x.cls,.int .i64 x.many,.int .i64 x.state,.int .i64 x.till].toArray 106 (0,0)
def bkAt (e:BE):HP:=pts e.1 (bkObj e.2)
def FlsAt (fs:List FE):HP:=Star (fs.map plAt)
def BksAt (xs:List BE):HP:=Star (xs.map bkAt)
def flV (e:FE):Int × Value:=(e.2.2.n,.agg #[.pointer (some ⟨e.1,0,none⟩),.pointer (some ⟨e.2.1,0,none⟩)])
def bkV (e:BE):Int × Value:=(e.2.id,.pointer (some ⟨e.1,0,none⟩))
abbrev bookC (b:Book) (m1 m2:Nat):Obj:=.cells [.int .i64 b.now,.int .i64 b.next,.map (some m1),.map (some m2)].toArray 80 (0,0)
structure BookL (b:Book) (fs:List FE) (xs:List BE):Prop where
 fl:(fs.map fun e=>e.2.2).Perm b.fl
 bk:xs.map (fun e=>e.2)=b.L
def BookAt (p:Nat) (b:Book):HP:=exs fun m1:Nat=>exs fun m2:Nat=>exs fun fs:List FE=>exs fun xs:List BE=>
 Star [pur (BookL b fs xs),pts p (bookC b m1 m2),MapAt m1 (fs.map flV),MapAt m2 (xs.map bkV),FlsAt fs,BksAt xs]
theorem Sat.book {p:Nat} {b:Book}:Sat R (BookAt p b::Hs) w↔∃ m1 m2 fs xs,BookL b fs xs∧Sat R (pts p (bookC b m1 m2)::MapAt m1 (fs.map flV)::MapAt m2 (xs.map bkV)::FlsAt fs::BksAt xs::Hs) w:=by
 unfold BookAt
 simp only [Sat.exs]
 constructor
 ·rintro ⟨m1,m2,fs,xs,h⟩
  obtain ⟨h1,h2⟩:=Sat.pur.1 (Sat.star.1 h)
  exact ⟨m1,m2,fs,xs,h1,h2⟩
 ·rintro ⟨m1,m2,fs,xs,h1,h2⟩
  exact ⟨m1,m2,fs,xs,Sat.star.2 (Sat.pur.2 ⟨h1,h2⟩)⟩
abbrev pMap:MapT Tryz.prog 77 Int 3 102 (.agg #[.pointer none,.pointer none]):=⟨Tryz.underlying77,Tryz.underlying3,Tryz.zeroValue102⟩
theorem FlsAt.snoc {fs:List FE} {f q:Nat} {p:Pl} (hw:Sat R (LoneAt f p.r::QuAt q p.q::FlsAt fs::Hs) w):Sat R (FlsAt (fs++[(f,q,p)])::Hs) w:=by
 unfold FlsAt at hw ⊢
 rw [Sat.star,List.map_append,List.append_assoc]
 have hw:Sat R (Star (fs.map plAt)::LoneAt f p.r::QuAt q p.q::Hs) w:=hw.arr
 rw [Sat.star] at hw
 have key:∀ (L:List HP) {R:Cx},Sat R (L++LoneAt f p.r::QuAt q p.q::Hs) w→Sat R (L++(List.map plAt [(f,q,p)]++Hs)) w:=fun L=>by
  induction L with
  |nil=>exact fun h=>Sat.star.2 h
  |cons A L ih=>exact fun h=>h.cons fun _ h=>ih h
 exact key _ hw
theorem getM_ne {β:Type} {k:Int}:∀ {l:List (Int × β)},getM k l=none↔∀ e∈l,e.1≠k
 |[]=>⟨fun _ _ h=>(by cases h),fun _=>rfl⟩
 |e::l=>by
  rw [getM]
  by_cases h:k=e.1
  ·rw [if_pos (by simpa using h)]
   exact ⟨fun h2=>(by cases h2),fun h2=>absurd h.symm (h2 e (by simp))⟩
  ·rw [if_neg (by simpa using h),getM_ne]
   exact ⟨fun h2 x hx=>by
    rcases List.mem_cons.1 hx with h1|h1
    ·rw [h1];exact fun e=>h e.symm
    ·exact h2 x h1,fun h2 x hx=>h2 x (by simp [hx])⟩
theorem fl_none {b:Book} {fs:List FE} {xs:List BE} (hl:BookL b fs xs) {n:Int}:getM n (fs.map flV)=none↔b.at n=none:=by
 unfold Book.at
 rw [getM_ne,kget_none]
 constructor
 ·intro h p hp
  obtain ⟨e,he,rfl⟩:=List.mem_map.1 (hl.fl.mem_iff.2 hp)
  exact h (flV e) (List.mem_map.2 ⟨e,he,rfl⟩)
 ·rintro h _ he
  obtain ⟨e,h1,rfl⟩:=List.mem_map.1 he
  exact h e.2.2 (hl.fl.mem_iff.1 (List.mem_map.2 ⟨e,h1,rfl⟩))
theorem fl_len {b:Book} {fs:List FE} {xs:List BE} (hl:BookL b fs xs):fs.length=b.fl.length:=by
 have:=hl.fl.length_eq
 rwa [List.length_map] at this
abbrev errP (e:Int):List PanicEntry:=[⟨.iface 27 (.int .i64 e),false,false⟩]
theorem need_c {b:Bool} {e:Int} {Q:Ending→World→Prop} (h1:b=true→Q (.returned (.tuple #[])) w) (h2:b=false→Q (.panicked (errP e)) w):Calls Tryz.prog 40 #[.bool b,.int .i64 e] w Q:=by
 have h:GetsX Tryz.prog 40 #[.bool b,.int .i64 e] w (fun ch w'=>b=false∧ch=errP e∧w'=w) (fun v w'=>b=true∧v=.tuple #[]∧w'=w):=by
  apply call40
  exact Br.nb (fun h=>⟨h,rfl,rfl⟩) (fun h=>⟨h,rfl,rfl⟩)
 refine h.use ?_ ?_
 ·rintro v w' ⟨hb,rfl,e⟩;rw [e];exact h1 hb
 ·rintro v w' ⟨hb,rfl,e⟩;rw [e];exact h2 hb
theorem mustE_c {e:Int} {Q:Ending→World→Prop} (h1:e=0→Q (.returned (.tuple #[])) w) (h2:¬ e=0→Q (.panicked (errP e)) w):Calls Tryz.prog 110 #[.int .i64 e] w Q:=by
 have h:GetsX Tryz.prog 110 #[.int .i64 e] w (fun ch w'=>¬ e=0∧ch=errP e∧w'=w) (fun v w'=>e=0∧v=.tuple #[]∧w'=w):=by
  apply call110
  exact Br.ne (fun h=>⟨h,rfl,rfl⟩) (fun h=>⟨h,rfl,rfl⟩)
 refine h.use ?_ ?_
 ·rintro v w' ⟨hb,rfl,e⟩;rw [e];exact h1 hb
 ·rintro v w' ⟨hb,rfl,e⟩;rw [e];exact h2 hb
theorem caughtP {r:Nat} {x:Rp} {sl sb:Sl} {e:Int} {Kr:World→Prop} (hw:Sat R (rpC r x sl sb::Hs) w) (k:∀ w,Sat R (rpC r (errR e) nilSl nilSl::Hs) w→Kr w):
  LeaveF Tryz.prog 39 [.pointer (some ⟨r,0,none⟩)] (.panicking (errP e)) Kr w:=by
 unfold LeaveF
 refine CallsD.mono (callP39 (some ⟨r,0,none⟩) (.iface 27 (.int .i64 e)) Kr w ?_) ?_
 ·refine ⟨true,fun w' _=>by kernel_rfl,Br.t rfl ?_⟩
  refine ⟨e,fun w' _=>by kernel_rfl,NilP.mk rfl ?_⟩
  refine store_rule hw (by kernel_rfl) rfl (by simp [Value.cells]) fun w hw=>?_
  exact k w (hw.re (rpC r (errR e) nilSl nilSl))
 ·rintro e v w' ⟨hy,rfl,hk⟩
  exact ⟨hy,rfl,hk⟩
theorem caughtR {r:Nat} {Kr:World→Prop} (k:Kr w):LeaveF Tryz.prog 39 [.pointer (some ⟨r,0,none⟩)] .returning Kr w:=by
 unfold LeaveF
 refine CallsD.mono (callR39 (some ⟨r,0,none⟩) Kr w ?_) ?_
 ·exact ⟨false,fun w' _=>by kernel_rfl,Br.f rfl k⟩
 ·rintro e v w' ⟨hy,rfl,hk⟩
  exact ⟨hy,rfl,hk⟩
theorem qnew_spec (hw:Sat R Hs w):Gets Tryz.prog 111 #[] w fun v w'=>∃ q,v=.pointer (some ⟨q,0,none⟩)∧Sat R (QuAt q []::Hs) w':=by
 apply call111
 refine new_rule hw fun q w hw=>⟨q,rfl,Sat.qu.2 ⟨nilSl,?_⟩⟩
 exact (OwnN.nil hw).swap
theorem bnew_spec (hw:Sat R Hs w):Gets Tryz.prog 14 #[] w fun v w'=>∃ p,v=.pointer (some ⟨p,0,none⟩)∧Sat R (BookAt p newBook::Hs) w':=by
 apply call14
 refine new_rule hw fun m1 w hw=>?_
 have hw:=MapAt.new (α:=Int) rfl hw
 refine new_rule hw fun m2 w hw=>?_
 have hw:=MapAt.new (α:=Int) rfl hw
 refine new_rule hw fun p w hw=>⟨p,rfl,Sat.book.2 ⟨m1,m2,[],[],⟨List.Perm.refl _,rfl⟩,?_⟩⟩
 have hw:Sat R (pts p (bookC newBook m1 m2)::MapAt (α:=Int) m2 []::MapAt (α:=Int) m1 []::Hs) w:=hw
 have hw:Sat R (pts p (bookC newBook m1 m2)::MapAt (α:=Int) m1 []::MapAt (α:=Int) m2 []::Hs) w:=hw.arr
 exact hw.cons fun _ h=>h.cons fun _ h=>h.cons fun _ h=>Sat.star.2 (Sat.star.2 h)
end Go.Proofs.YtfgbbckfikiomaaGreatDoor
/- Package booking: a flight is opened. Condition: bounds. -/
namespace Go.Proofs.YtfgbbckfikiomaaGreatDoor
set_option linter.unusedVariables false
open Go Go.VC
open Classical
variable {R:Cx} {Hs Rest:List HP} {w:World}
abbrev openR (c:Cm):Rp:=⟨0,emS,0,c.flt,0,0,0,rleftsF (rnewF c.flt c.rows c.grps (limitsT (layN c.rows c.grps) c.parts).1),[]⟩
set_option maxHeartbeats 1000000 in
theorem bopen_spec {p:Nat} {b:Book} {c:Cm} {sg sp:Sl} (hfl:b.fl.length≤1000000) (hg:RoI R sg c.grps) (hp:SlR R.m sp (flts c.parts)) (hw:Sat R (BookAt p b::Hs) w):
  GetsX Tryz.prog 42 #[.pointer (some ⟨p,0,none⟩),.agg #[.int .i64 c.kind,.string c.pnr,.int .i64 c.flt,.int .i64 c.cls,.int .i64 c.many,.int .i64 c.time,.float .f64 c.sc,.string c.lab,.int .i64 c.rows,.slice sg.a sg.len sg.cap,.slice sp.a sp.len sp.cap]] w
   (fun ch w'=>∃ e,ch=errP e∧openB b c=(b,errR e)∧Sat R (BookAt p b::Hs) w')
   (fun v w'=>(openB b c).2=openR c∧∃ sl:Sl,v=.agg (rpV (openR c) sl nilSl).toArray∧Sat R (Own sl 3 (intsI (openR c).left)::BookAt p (openB b c).1::Hs) w'):=by
 apply call42
 suffices H:∀ (X:List PanicEntry→World→Prop) (K:Value→World→Prop),(∀ e w',openB b c=(b,errR e)→Sat R (BookAt p b::Hs) w'→X (errP e) w')→
   (∀ sl w',(openB b c).2=openR c→Sat R (Own sl 3 (intsI (openR c).left)::BookAt p (openB b c).1::Hs) w'→K (.agg (rpV (openR c) sl nilSl).toArray) w')→B42 (some ⟨p,0,none⟩) c.kind c.pnr c.flt c.cls c.many c.time c.sc c.lab c.rows sg sp X K w from
  H _ _ (fun e w' h1 h2=>⟨e,rfl,h1,h2⟩) (fun sl w' h1 h2=>⟨h1,sl,rfl,h2⟩)
 intro X K hX hK
 obtain ⟨m1,m2,fs,xs,hl,hw⟩:=Sat.book.1 hw
 have hlen:=fl_len hl
 refine new_rule hw fun b3 w hw=>new_rule hw fun b4 w hw=>?_
 have hw:Sat R (MapAt m1 (fs.map flV)::pts p (bookC b m1 m2)::cmC b3 c sg sp::rpNew b4::MapAt m2 (xs.map bkV)::FlsAt fs::BksAt xs::Hs) w:=by
  have hw:Sat R (rpNew b4::cmC b3 c sg sp::pts p (bookC b m1 m2)::MapAt m1 (fs.map flV)::MapAt m2 (xs.map bkV)::FlsAt fs::BksAt xs::Hs) w:=hw
  exact hw.arr
 have close:∀ {w},Sat R (MapAt m1 (fs.map flV)::pts p (bookC b m1 m2)::cmC b3 c sg sp::rpNew b4::MapAt m2 (xs.map bkV)::FlsAt fs::BksAt xs::Hs) w→Sat R (BookAt p b::Hs) w:=fun {w} hw=>by
  have hw:Sat R (cmC b3 c sg sp::rpNew b4::pts p (bookC b m1 m2)::MapAt m1 (fs.map flV)::MapAt m2 (xs.map bkV)::FlsAt fs::BksAt xs::Hs) w:=hw.arr
  exact Sat.book.2 ⟨m1,m2,fs,xs,hl,hw.drop.drop⟩
 refine drw_ruleT hw fun w hw=>?_
 refine NilP.mk rfl ⟨some m1,At.own (fun _ h=>h) (by exact ⟨rfl,trivial⟩),c.flt,At.own (fun _ h=>h) (by exact ⟨rfl,trivial⟩),?_⟩
 have look:∀ w',Sat R (VC.tru::MapAt m1 (fs.map flV)::pts p (bookC b m1 m2)::cmC b3 c sg sp::rpNew b4::MapAt m2 (xs.map bkV)::FlsAt fs::BksAt xs::Hs) w'→
   (Instr.lookup 77 (.map (some m1)) (.int .i64 c.flt) true).run Tryz.prog w'=.ok (.tuple #[(getM c.flt (fs.map flV)).getD (.agg #[.pointer none,.pointer none]),.bool (getM c.flt (fs.map flV)).isSome]) w':=fun w' h=>
  MapAt.look pMap h.swap c.flt true
 obtain ⟨v1,v2,hv⟩:∃ v1 v2:Option Addr,(getM c.flt (fs.map flV)).getD (.agg #[.pointer none,.pointer none])=.agg #[.pointer v1,.pointer v2]:=by
  cases hgm:getM c.flt (fs.map flV) with
  |none=>exact ⟨none,none,rfl⟩
  |some v=>
   obtain ⟨A,C,e,_⟩:=getM_split hgm
   have:(c.flt,v)∈fs.map flV:=by rw [e];simp
   obtain ⟨x,_,hx⟩:=List.mem_map.1 this
   have hx2:=congrArg Prod.snd hx
   exact ⟨_,_,hx2.symm⟩
 rw [hv] at look
 refine ⟨v1,v2,_,look,?_⟩
 refine new_rule hw fun b5 w hw=>⟨hw.absorb,?_⟩
 refine store_rule hw (by kernel_rfl) rfl (by simp [Value.cells]) fun w hw=>?_
 have hw:=hw.drop.drop
 have hat:=fl_none hl (n:=c.flt)
 refine need_c (fun hn=>.inl ⟨rfl,?_⟩) (fun hn=>.inr ⟨_,rfl,hX 7 w ?_ (close hw)⟩)
 rotate_left
 ·unfold openB
  rw [if_pos]
  cases hba:b.at c.flt with
  |none=>rw [hat.2 hba] at hn;cases hn
  |some _=>rfl
 have hno:getM c.flt (fs.map flV)=none:=by
  cases hgm:getM c.flt (fs.map flV) with
  |none=>rfl
  |some v=>rw [hgm] at hn;cases hn
 have hba:=hat.1 hno
 have o1:¬ (b.at c.flt).isSome=true:=by rw [hba];simp
 refine NilP.mk rfl ⟨some m1,At.own (eqS hw) (by exact ⟨rfl,trivial⟩),((fs.map flV).length:Int),fun w' e=>?_,?_⟩
 ·rw [show w'=w from e]
  exact MapAt.len (by kernel_rfl) hw
 rw [List.length_map,hlen]
 refine need_c (fun hn8=>.inl ⟨rfl,?_⟩) (fun hn8=>.inr ⟨_,rfl,hX 3 w ?_ (close hw)⟩)
 rotate_left
 ·have:=of_decide_eq_false hn8
  unfold openB
  rw [if_neg o1,if_pos (by omega)]
 have h8:=of_decide_eq_true hn8
 have o2:¬ 8≤b.fl.length:=by omega
 refine ⟨c.flt,At.own (eqS hw) (by exact ⟨rfl,trivial⟩),c.rows,sg,At.own (eqS hw) (by exact ⟨rfl,rfl,trivial⟩),sp,At.own (eqS hw) (by exact ⟨rfl,trivial⟩),?_⟩
 refine (fnew_spec' hg hp hw).use ?_
 clear hw
 rintro _ w (⟨hn,rfl,hw⟩|⟨hn,f,rfl,hw⟩)
 ·refine .inl ⟨none,1,rfl,mustE_c (fun h=>by cases h) (fun _=>.inr ⟨_,rfl,hX 1 w ?_ (close hw)⟩)⟩
  unfold openB
  rw [if_neg o1,if_neg o2,if_pos hn]
 have hopen:openB b c=({ b with fl:=kins Pl.n ⟨rnewF c.flt c.rows c.grps (limitsT (layN c.rows c.grps) c.parts).1,[]⟩ b.fl },openR c):=by
  unfold openB
  rw [if_neg o1,if_neg o2,if_neg (fun h=>h hn)]
 obtain ⟨r,hr⟩:∃ r,r=rnewF c.flt c.rows c.grps (limitsT (layN c.rows c.grps) c.parts).1:=⟨_,rfl⟩
 have hw:Sat R (LoneAt f r::MapAt m1 (fs.map flV)::pts p (bookC b m1 m2)::cmC b3 c sg sp::rpNew b4::MapAt m2 (xs.map bkV)::FlsAt fs::BksAt xs::Hs) w:=by
  rw [hr]
  exact Sat.lone.2 ⟨_,⟨tie_new,good_new hn⟩,hw⟩
 rw [←hr] at hopen
 refine .inl ⟨some ⟨f,0,none⟩,0,rfl,mustE_c (fun _=>.inl ⟨rfl,?_⟩) (fun h=>absurd rfl h)⟩
 refine drw_rule' (Sat R [cmC b3 c sg sp,pts p (bookC b m1 m2),VC.tru]) hw (fun w hw=>?_) fun w hw=>?_
 ·exact (hw.arr (Hs':=cmC b3 c sg sp::pts p (bookC b m1 m2)::LoneAt f r::MapAt m1 (fs.map flV)::rpNew b4::MapAt m2 (xs.map bkV)::FlsAt fs::BksAt xs::Hs)).cons fun _ h=>h.restTru2
 refine NilP.mk rfl ⟨some m1,At.own (fun _ h=>h) (by exact ⟨rfl,trivial⟩),c.flt,At.own (fun _ h=>h) (by exact ⟨rfl,trivial⟩),?_⟩
 refine (qnew_spec hw).use ?_
 clear hw
 rintro _ w ⟨q,rfl,hw⟩
 refine .inl ⟨_,rfl,?_,?_⟩
 ·exact (hw.arr (Hs':=cmC b3 c sg sp::pts p (bookC b m1 m2)::QuAt q []::LoneAt f r::MapAt m1 (fs.map flV)::rpNew b4::MapAt m2 (xs.map bkV)::FlsAt fs::BksAt xs::Hs)).cons fun _ h=>h.restTru2
 have hw:Sat R (MapAt m1 (fs.map flV)::LoneAt f r::QuAt q []::FlsAt fs::pts p (bookC b m1 m2)::cmC b3 c sg sp::rpNew b4::MapAt m2 (xs.map bkV)::BksAt xs::Hs) w:=hw.arr
 refine MapAt.put pMap hw c.flt (.agg #[.pointer (some ⟨f,0,none⟩),.pointer (some ⟨q,0,none⟩)]) fun w hw=>?_
 have hput:putM c.flt (.agg #[.pointer (some ⟨f,0,none⟩),.pointer (some ⟨q,0,none⟩)]) (fs.map flV)=(fs++[((f,q,⟨r,[]⟩):FE)]).map flV:=by
  unfold putM
  rw [hno]
  have:r.num=c.flt:=by rw [hr];rfl
  simp only [Option.isSome_none,Bool.false_eq_true,if_false,List.map_append,List.map_cons,List.map_nil,flV,Pl.n,this]
 rw [hput] at hw
 refine drw_rule' (Sat R [cmC b3 c sg sp,VC.tru]) hw (fun w hw=>?_) fun w hw=>?_
 ·exact (hw.arr (Hs':=cmC b3 c sg sp::MapAt m1 ((fs++[((f,q,⟨r,[]⟩):FE)]).map flV)::LoneAt f r::QuAt q []::FlsAt fs::pts p (bookC b m1 m2)::rpNew b4::MapAt m2 (xs.map bkV)::BksAt xs::Hs)).restTru2
 refine ⟨c.flt,At.own (fun _ h=>h) (by exact ⟨rfl,trivial⟩),?_⟩
 have hw:Sat R (LoneAt f r::MapAt m1 ((fs++[((f,q,⟨r,[]⟩):FE)]).map flV)::QuAt q []::FlsAt fs::pts p (bookC b m1 m2)::cmC b3 c sg sp::rpNew b4::MapAt m2 (xs.map bkV)::BksAt xs::Hs) w:=hw.swap
 refine (lone_left hw).use ?_
 clear hw
 rintro _ w ⟨sl,rfl,hw⟩
 refine .inl ⟨sl,rfl,?_,?_⟩
 ·exact (hw.arr (Hs':=cmC b3 c sg sp::Own sl 3 (intsI (rleftsF r))::LoneAt f r::MapAt m1 ((fs++[((f,q,⟨r,[]⟩):FE)]).map flV)::QuAt q []::FlsAt fs::pts p (bookC b m1 m2)::rpNew b4::MapAt m2 (xs.map bkV)::BksAt xs::Hs)).restTru2
 refine store_rule hw (by kernel_rfl) rfl (by simp [Value.cells]) fun w hw=>?_
 have hw:=hw.re (rpC b4 (openR c) sl nilSl)
 refine ⟨0,emS,0,c.flt,0,0,0,sl,nilSl,At.own (eqS hw) (by exact ⟨rfl,rfl,rfl,rfl,rfl,rfl,rfl,rfl,rfl,trivial⟩),?_⟩
 have hw:Sat R (Own sl 3 (intsI (rleftsF r))::pts p (bookC b m1 m2)::MapAt m1 ((fs++[((f,q,⟨r,[]⟩):FE)]).map flV)::MapAt m2 (xs.map bkV)::LoneAt f r::QuAt q []::FlsAt fs::BksAt xs::rpC b4 (openR c) sl nilSl::cmC b3 c sg sp::Hs) w:=hw.arr
 refine hK sl w (by rw [hopen]) ?_
 rw [hopen]
 dsimp only
 rw [←hr]
 refine hw.cons fun _ hw=>Sat.book.2 ⟨m1,m2,fs++[((f,q,⟨r,[]⟩):FE)],xs,⟨?_,hl.bk⟩,?_⟩
 ·rw [List.map_append]
  refine (List.perm_append_singleton _ _).trans (List.Perm.trans (hl.fl.cons _) kins_perm.symm)
 ·refine hw.cons fun _ h=>h.cons fun _ h=>h.cons fun _ h=>?_
  exact (FlsAt.snoc h).cons fun _ h=>h.cons fun _ h=>h.drop.drop
end Go.Proofs.YtfgbbckfikiomaaGreatDoor
/- Chapter 18: a flight is opened in a book of nothing: awake. Condition: none. -/
namespace Go.Proofs.YtfgbbckfikiomaaGreatDoor
set_option linter.unusedVariables false
open Go Go.VC
open Classical
variable {R:Cx} {Hs Rest:List HP} {w:World}
set_option maxHeartbeats 1000000 in
theorem bapply1_spec {p:Nat} {b:Book} {c:Cm} {sg sp:Sl} (hk:c.kind=1) (hr:RightC c) (hfl:b.fl.length≤1000000) (hg:RoI R sg c.grps) (hp:SlR R.m sp (flts c.parts)) (hw:Sat R (BookAt p b::Hs) w):
  Gets Tryz.prog 15 #[.pointer (some ⟨p,0,none⟩),.agg #[.int .i64 c.kind,.string c.pnr,.int .i64 c.flt,.int .i64 c.cls,.int .i64 c.many,.int .i64 c.time,.float .f64 c.sc,.string c.lab,.int .i64 c.rows,.slice sg.a sg.len sg.cap,.slice sp.a sp.len sp.cap]] w
   fun v w'=>∃ sl:Sl,v=.agg (rpV (openB b c).2 sl nilSl).toArray∧Sat R (Own sl 3 (intsI (openB b c).2.left)::BookAt p (openB b c).1::Hs) w':=by
 have hplen:sp.len=c.parts.length:=by have:=hp.len;simpa using this
 have hgl:c.grps.length≤17592186043904:=by have:=hr.gl;omega
 apply call15
 refine new_rule hw fun b3 w hw=>new_rule hw fun b4 w hw=>?_
 have hw:Sat R (rpNew b4::cmC b3 c sg sp::BookAt p b::Hs) w:=hw
 refine ⟨c.kind,c.pnr,c.flt,c.cls,c.many,c.time,c.sc,c.lab,c.rows,sg,sp,At.own (eqS hw) (by exact ⟨rfl,rfl,rfl,rfl,rfl,rfl,rfl,rfl,rfl,rfl,rfl,trivial⟩),?_⟩
 refine (bright_spec hg hgl hplen hw).use ?_
 clear hw
 rintro _ w ⟨rfl,hw⟩
 refine .inl ⟨_,rfl,need_c (fun _=>.inl ⟨rfl,?_⟩) (fun h=>absurd hr (of_decide_eq_false h))⟩
 refine ⟨c.kind,At.own (eqS hw) (by exact ⟨rfl,trivial⟩),Br.e (fun _=>?_) (fun h=>absurd hk h)⟩
 refine ⟨c.kind,c.pnr,c.flt,c.cls,c.many,c.time,c.sc,c.lab,c.rows,sg,sp,At.own (eqS hw) (by exact ⟨rfl,rfl,rfl,rfl,rfl,rfl,rfl,rfl,rfl,rfl,rfl,trivial⟩),?_⟩
 have hw:Sat R (BookAt p b::rpNew b4::cmC b3 c sg sp::Hs) w:=hw.arr
 refine (bopen_spec hfl hg hp hw).use ?_ ?_
 ·clear hw
  rintro _ w ⟨he,sl,rfl,hw⟩
  refine .inl ⟨0,emS,0,c.flt,0,0,0,sl,nilSl,rfl,?_⟩
  refine store_rule hw (by kernel_rfl) rfl (by simp [Value.cells]) fun w hw=>?_
  have hw:=hw.re (rpC b4 (openR c) sl nilSl)
  refine caughtR ⟨0,emS,0,c.flt,0,0,0,sl,nilSl,At.own (eqS hw) (by exact ⟨rfl,rfl,rfl,rfl,rfl,rfl,rfl,rfl,rfl,trivial⟩),sl,?_,?_⟩
  ·rw [he]
  ·rw [he]
   have hw:Sat R (Own sl 3 (intsI (openR c).left)::BookAt p (openB b c).1::rpC b4 (openR c) sl nilSl::cmC b3 c sg sp::Hs) w:=hw.arr
   exact hw.cons fun _ h=>h.cons fun _ h=>h.drop.drop
 ·clear hw
  rintro _ w ⟨e,rfl,he,hw⟩
  refine .inr ⟨_,rfl,?_⟩
  have hw:Sat R (rpNew b4::BookAt p b::cmC b3 c sg sp::Hs) w:=hw.swap
  refine caughtP hw fun w hw=>⟨e,emS,0,0,0,0,0,nilSl,nilSl,At.own (eqS hw) (by exact ⟨rfl,rfl,rfl,rfl,rfl,rfl,rfl,rfl,rfl,trivial⟩),nilSl,?_,?_⟩
  ·rw [he];rfl
  ·rw [he]
   exact Own.nil (hw.drop.cons fun _ h=>h.drop)
def aw18:Cm:=⟨1,ByteArray.mk #[],7,0,0,0,0,ByteArray.mk #[],1,[2],[4607182418800017408]⟩
theorem aw18_lims:limitsT (layN 1 [2]) [4607182418800017408]=([2],0):=by kernel_rfl
theorem aw18_left:rleftsF (rnewF 7 1 [2] [2])=[2]:=by kernel_rfl
theorem aw18_ok:newOk 7 1 [2] [4607182418800017408]:=⟨by omega,by omega,by kernel_rfl,by rw [aw18_lims]⟩
theorem aw18_right:RightC aw18:=by
 refine ⟨?_,?_,?_,?_,?_,?_,?_,?_,?_,?_,?_⟩<;>unfold aw18<;>try (unfold numOk)<;>try (simp only;omega)
 ·intro n hn
  simp only [List.mem_singleton] at hn
  subst hn;omega
 all_goals first|(show (0:Nat)≤16;omega)|simp
theorem aw18_open:(openB newBook aw18).2=⟨0,emS,0,7,0,0,0,[2],[]⟩:=by
 have h1:¬ (newBook.at aw18.flt).isSome=true:=by
  show ¬ (kget Pl.n 7 []).isSome=true
  unfold kget
  simp
 unfold openB
 rw [if_neg h1,if_neg (by show ¬ 8≤0;omega),if_neg (fun h=>h aw18_ok)]
 show (⟨0,emS,0,7,0,0,0,rleftsF (rnewF 7 1 [2] (limitsT (layN 1 [2]) [4607182418800017408]).1),[]⟩:Rp)=_
 rw [aw18_lims,aw18_left]
theorem lopen_spec (hw:Sat R Hs w):Gets Tryz.prog 38 #[] w fun v w'=>∃ sg sp:Sl,v=.agg (cmV aw18 sg sp).toArray∧Sat R (Own sg 3 (intsI aw18.grps)::Own sp 33 (flts aw18.parts)::Hs) w':=by
 apply call38
 refine new_rule hw fun b w hw=>new_rule hw fun x w hw=>new_rule hw fun y w hw=>?_
 have hw:Sat R (pts y (.cells (flts [4607182418800017408]).toArray 33 (0,0))::pts x (.cells (intsI [2]).toArray 3 (0,0))::cmNew b::Hs) w:=hw
 have hw:Sat R (cmNew b::pts y (.cells (flts [4607182418800017408]).toArray 33 (0,0))::pts x (.cells (intsI [2]).toArray 3 (0,0))::Hs) w:=hw.arr
 refine store_rule hw (by kernel_rfl) rfl (by simp [Value.cells]) fun w hw=>?_
 have hw:=hw.re (cmC b aw18 ⟨some ⟨x,0,none⟩,1,1⟩ ⟨some ⟨y,0,none⟩,1,1⟩)
 refine ⟨_,_,_,_,_,_,_,_,_,⟨some ⟨x,0,none⟩,1,1⟩,⟨some ⟨y,0,none⟩,1,1⟩,At.own (eqS hw) (by exact ⟨rfl,rfl,rfl,rfl,rfl,rfl,rfl,rfl,rfl,rfl,rfl,trivial⟩),⟨some ⟨x,0,none⟩,1,1⟩,⟨some ⟨y,0,none⟩,1,1⟩,rfl,?_⟩
 exact (own_lit (n:=1) (hw.drop.swap)).cons fun _ h=>own_lit (n:=1) h
theorem aw18_spec (hw:Sat R Hs w):Gets Tryz.prog 12 #[] w fun v w'=>v=.bool true∧Sat R Hs w':=by
 apply call12
 refine (bnew_spec hw).use ?_
 clear hw
 rintro _ w ⟨p,rfl,hw⟩
 refine ⟨_,rfl,Br.f rfl ?_⟩
 refine (lopen_spec hw).use ?_
 clear hw
 rintro _ w ⟨sg,sp,rfl,hw⟩
 obtain ⟨R1,e1,g1,hw⟩:=Own.leak hw
 obtain ⟨R2,e2,g2,hw⟩:=Own.leak hw
 refine ⟨_,_,_,_,_,_,_,_,_,sg,sp,rfl,?_⟩
 refine (bapply1_spec (c:=aw18) rfl aw18_right (by show 0≤1000000;omega) (e2.ro (g1.ro (by unfold aw18;simp))) g2 hw).use ?_
 clear hw
 rintro _ w ⟨sl,rfl,hw⟩
 rw [aw18_open] at hw ⊢
 refine ⟨_,_,_,_,_,_,_,sl,nilSl,rfl,?_⟩
 refine new_rule hw fun b w hw=>?_
 refine store_rule hw (by kernel_rfl) rfl (by simp [Value.cells]) fun w hw=>?_
 have hw:=hw.re (rpC b ⟨0,emS,0,7,0,0,0,[2],[]⟩ sl nilSl)
 refine ⟨0,At.own (eqS hw) (by exact ⟨rfl,trivial⟩),Br.e (fun _=>?_) (fun h=>absurd rfl h)⟩
 have hw:=hw.swap
 have hsl:=Own.len hw
 have hsl:sl.len=1:=hsl
 refine ⟨sl,At.own (eqS hw) (by exact ⟨rfl,trivial⟩),Br.e (fun _=>?_) (fun h=>absurd (by rw [hsl];rfl) h)⟩
 refine ⟨sl,At.own (eqS hw) (by exact ⟨rfl,trivial⟩),Own.ix (xs:=[2]) hw (eqS hw) 0 rfl (by simp) ⟨rfl,?_⟩⟩
 exact e1.back (e2.back hw.drop.drop.drop)
end Go.Proofs.YtfgbbckfikiomaaGreatDoor

/- Chapter 18: BookingReplies. Condition: bounds on lengths. -/
namespace Go.Proofs.YtfgbbckfikiomaaGreatDoor
set_option linter.unusedVariables false
open Go Go.VC
open Classical
variable {R:Cx} {Hs Rest:List HP} {w:World}
theorem rpB_len {r:Rp} (hi:RpW r):(rpB r).length≤9223372036854775807:=by
 have i1:=hi.ints
 have i2:=hi.pnr
 have i3:=hi.ll
 have i4:=hi.bl
 have q:∀ x∈[r.code,r.state,r.flt,r.cls,r.many,r.time]++r.left,0≤nn x∧nn x<18446744073709551616:=fun x hx=>by have:=nn_bd (i1 x hx);omega
 have l1:=nums1_len (q r.code (by simp))
 have l2:=strB_len (s:=r.pnr) i2
 have l3:=nums1_len (q r.state (by simp))
 have l4:=nums1_len (q r.flt (by simp))
 have l5:=nums1_len (q r.cls (by simp))
 have l6:=nums1_len (q r.many (by simp))
 have l7:=nums1_len (q r.time (by simp))
 have l10:=nums1_len (x:=(r.left.length:Int)) (by omega)
 have l11:=numsB_len (l:=r.left.map nn) fun y hy=>by obtain ⟨x,hx,rfl⟩:=List.mem_map.1 hy;exact q x (by simp [hx])
 rw [List.length_map] at l11
 have l12:=nums1_len (x:=(r.labs.length:Int)) (by omega)
 have hfl:=flat_len (l:=r.labs) (code:=strB) (m:=100009) fun x hx=>by have:=hi.labs x hx;have:=strB_len this;omega
 unfold rpB
 simp only [List.length_append]
 omega
theorem rpDec_len {bs:List Int} (hb:Bytes bs):(rpDec bs).1.left.length≤8∧(rpDec bs).1.labs.length≤600:=by
 unfold rpDec
 split
 ·have b1:=rdNum_bd (most:=MI) (rd:=⟨bs,false⟩) hb
  have b2:=strRd_bd (most:=16) b1
  have b3:=hd5_bd b2
  have v1:=rdNum_val (most:=8) b3 (by omega)
  have b4:=rdNum_bd (most:=8) b3
  have b5:=(rdEach_inv (one:=rdNum MI) (P:=fun r=>Bytes r.bs) (Q:=fun _=>True) (fun r hr=>⟨trivial,rdNum_bd hr⟩) (rdNum 8 (hd5 (strRd 16 (rdNum MI ⟨bs,false⟩).2).2).2).1.toNat b4).2
  have v2:=rdNum_val (most:=600) b5 (by omega)
  rw [rpRd_hd]
  dsimp only
  rw [rdEach_len,rdEach_len]
  omega
 ·exact ⟨by show 0≤8;omega,by show 0≤600;omega⟩
set_option maxHeartbeats 1000000 in
theorem breplies_lspec {r:Rp} {sl sb s:Sl} {bs:List Int} (hi:∀ x∈[r.code,r.state,r.flt,r.cls,r.many,r.time]++r.left,x<9223372036854775808) (hg:RoI R sl r.left) (hp:SlR R.m sb (r.labs.map Value.string)) (hs:SlR R.m s (b8 bs)) (hb:Bytes bs) (hw:Sat R Hs w):
  Gets Tryz.prog 7 #[.agg #[.int .i64 r.code,.string r.pnr,.int .i64 r.state,.int .i64 r.flt,.int .i64 r.cls,.int .i64 r.many,.int .i64 r.time,.slice sl.a sl.len sl.cap,.slice sb.a sb.len sb.cap],.slice s.a s.len s.cap] w fun v w'=>v=.bool true∧Sat R Hs w':=by
 have hplen:sb.len=r.labs.length:=by have:=hp.len;simpa using this
 have hglen:=hg.len
 have hslen:s.len=bs.length:=by have:=hs.len;simpa using this
 apply call7
 suffices H:∀ K:Value→World→Prop,(∀ w',Sat R Hs w'→K (.bool true) w')→B7 r.code r.pnr r.state r.flt r.cls r.many r.time sl sb s K w from H _ fun w' h=>⟨rfl,h⟩
 intro K hK
 refine new_rule hw fun b2 w hw=>?_
 have hw:Sat R (rpC b2 r sl sb::Hs) w:=hw
 refine (aw18_spec hw).use ?_
 clear hw
 rintro _ w ⟨rfl,hw⟩
 refine ⟨_,rfl,fun w=>(r.left.length≤1000∧r.labs.length≤1000∧bs.length≤20000∧r.pnr.size≤1000)∧Sat R (rpC b2 r sl sb::Hs) w,Br.f rfl ?_,?_⟩
 ·refine ⟨sl,At.own (eqS hw) (by exact ⟨rfl,trivial⟩),Br.d (fun _=>hK _ hw.drop) (fun h1=>?_)⟩
  refine ⟨sb,At.own (eqS hw) (by exact ⟨rfl,trivial⟩),Br.d (fun _=>hK _ hw.drop) (fun h2=>Br.d (fun _=>hK _ hw.drop) (fun h3=>?_))⟩
  refine ⟨r.pnr,At.own (eqS hw) (by exact ⟨rfl,trivial⟩),Br.d (fun _=>hK _ hw.drop) (fun h4=>⟨⟨by omega,by omega,by omega,by omega⟩,hw⟩)⟩
 clear hw
 rintro _ w ⟨⟨h1,h2,h3,h4⟩,hw⟩
 refine ⟨fun i w=>∃ k:Nat,i=k∧k≤r.labs.length∧(∀ x∈r.labs.take k,x.size≤1000)∧Sat R (rpC b2 r sl sb::Hs) w,fun i _=>r.labs.length - i.toNat,⟨0,rfl,by omega,by simp,hw⟩,?_⟩
 clear hw
 rintro _ _ w ⟨k,rfl,hk,hsz,hw⟩
 refine ⟨sb,At.own (eqS hw) (by exact ⟨rfl,trivial⟩),Br.d (fun h=>?_) (fun h=>?_)⟩
 ·have hkx:k<r.labs.length:=by omega
  refine ⟨sb,At.own (eqS hw) (by exact ⟨rfl,trivial⟩),Ro.ixStr (hp.ro (by rw [List.length_map];omega)) (eqS hw) k rfl hkx ?_⟩
  refine Br.d (fun _=>hK _ hw.drop) (fun h5=>?_)
  rw [wrap64 (by omega) (by omega)]
  refine ⟨⟨k + 1,by omega,by omega,fun x hx=>?_,hw⟩,by dsimp only;omega⟩
  rw [List.take_add_one,List.getElem?_eq_getElem hkx] at hx
  rcases List.mem_append.1 hx with hx|hx
  ·exact hsz x hx
  ·rw [show x=r.labs[k] by simpa using hx]
   omega
 rw [List.take_of_length_le (by omega)] at hsz
 have hW:RpW r:=⟨hi,by omega,by omega,by omega,fun x hx=>by have:=hsz x hx;omega⟩
 clear hk h
 refine ⟨r.code,r.pnr,r.state,r.flt,r.cls,r.many,r.time,sl,sb,At.own (eqS hw) (by exact ⟨rfl,rfl,rfl,rfl,rfl,rfl,rfl,rfl,rfl,trivial⟩),?_⟩
 refine (banswer_spec hW hg hp hw).use ?_
 clear hw
 rintro _ w ⟨t1,rfl,hw⟩
 refine ⟨t1,rfl,?_⟩
 refine (bread_spec hb (by omega) (hs.ro (by rw [List.length_map];omega)) hw).use ?_
 clear hw
 rintro _ w ⟨g1,p1,rfl,hw⟩
 have hr18:=fun {Hs:List HP} {w:World} (hw:Sat R Hs w)=>r18read_spec hb (by omega) hs hw
 have hlb:=rpDec_len hb
 generalize (rpDec bs).1=C at *
 generalize (rpDec bs).2=e at *
 refine ⟨C.code,C.pnr,C.state,C.flt,C.cls,C.many,C.time,g1,p1,e,rfl,?_⟩
 refine new_rule hw fun y w hw=>?_
 refine store_rule hw (by kernel_rfl) rfl (by simp [Value.cells]) fun w hw=>?_
 have hw:=hw.re (rpC y C g1 p1)
 refine (hr18 hw).use ?_
 clear hw
 rintro _ w ⟨g2,p2,rfl,hw⟩
 refine ⟨C.code,C.pnr,C.state,C.flt,C.cls,C.many,C.time,g2,p2,e,rfl,?_⟩
 refine new_rule hw fun z w hw=>?_
 refine store_rule hw (by kernel_rfl) rfl (by simp [Value.cells]) fun w hw=>?_
 have hw:=hw.re (rpC z C g2 p2)
 refine ⟨C.code,C.pnr,C.state,C.flt,C.cls,C.many,C.time,g1,p1,At.own (eqS hw) (by exact ⟨rfl,rfl,rfl,rfl,rfl,rfl,rfl,rfl,rfl,trivial⟩),?_⟩
 refine ⟨C.code,C.pnr,C.state,C.flt,C.cls,C.many,C.time,g2,p2,At.own (eqS hw) (by exact ⟨rfl,rfl,rfl,rfl,rfl,rfl,rfl,rfl,rfl,trivial⟩),?_⟩
 have hw:Sat R (Own g1 3 (intsI C.left)::Own p1 9 (strs C.labs)::Own g2 3 (intsI C.left)::Own p2 9 (strs C.labs)::Own t1 5 (b8 (rpB r))::rpC z C g2 p2::rpC y C g1 p1::rpC b2 r sl sb::Hs) w:=hw.arr
 obtain ⟨R1,e1,r1,hw⟩:=Own.leak hw
 obtain ⟨R2,e2,r2,hw⟩:=Own.leak hw
 obtain ⟨R3,e3,r3,hw⟩:=Own.leak hw
 obtain ⟨R4,e4,r4,hw⟩:=Own.leak hw
 refine (same18_spec (e4.ro (e3.ro (e2.ro (r1.ro (by rw [List.length_map];omega))))) (e4.ro (r3.ro (by rw [List.length_map];omega))) (e4.ro (e3.ro (r2.ro (by rw [List.length_map];omega)))) (r4.ro (by rw [List.length_map];omega)) hw).use ?_
 clear hw
 rintro _ w ⟨rfl,hw⟩
 rw [decide_eq_true rfl]
 refine ⟨_,rfl,?_⟩
 have hl:=rpB_len hW
 refine drw_rule' (Sat R4 [Own t1 5 (b8 (rpB r)),VC.tru]) hw (fun w hw=>hw.restTru2) fun w hw=>?_
 refine ⟨VC.strOf (rpB r),fun w' h=>?_,?_⟩
 ·obtain ⟨_,q1,_,hw1,_⟩:=Own.lend h (by rw [List.length_map];exact hl)
  exact convS_ro Tryz.underlying42 Tryz.underlying5 Tryz.underlying9 hw1 q1
 refine ⟨r.code,r.pnr,r.state,r.flt,r.cls,r.many,r.time,sl,sb,At.own (eqS hw) (by exact ⟨rfl,rfl,rfl,rfl,rfl,rfl,rfl,rfl,rfl,trivial⟩),?_⟩
 refine (r18answer_spec hW (e4.ro (e3.ro (e2.ro (e1.ro hg)))) (e4.slR (e3.slR (e2.slR (e1.slR hp)))) hw).use ?_
 clear hw
 rintro _ w ⟨t2,rfl,hw⟩
 refine ⟨t2,rfl,hw.swap.restTru2,VC.strOf (rpB r),fun w' h=>?_,?_⟩
 ·rw [show w'=w from h]
  obtain ⟨_,q1,_,hw1,_⟩:=Own.lend hw (by rw [List.length_map];exact hl)
  exact convS_ro Tryz.underlying42 Tryz.underlying5 Tryz.underlying9 hw1 q1
 refine Br.se (fun _=>Br.t rfl ?_) (fun h=>absurd rfl h)
 rw [beq_self_eq_true]
 exact hK _ (e1.back (e2.back (e3.back (e4.back hw.drop.drop.drop.drop.drop))))
end Go.Proofs.YtfgbbckfikiomaaGreatDoor
/- ROW: from a reading of an argument to what the contracts ask; from a walk's end to 'Below'. No condition. -/
namespace Go.VC
set_option linter.unusedVariables false
open Go.ChangeShapes Go.WideShapes Go.ChangeAt Go.RowKit
theorem below_of {W W':World} {Hs:List HP} (h:Sat (Cx.of W) Hs W'):Below W.heap.size W W':=by
 obtain ⟨h1,h2,h3⟩:=h.streams
 have hb:∀ k,k<W.heap.size→W'.heap[k]? =W.heap[k]?:=fun k hk=>by
  have:(Cx.of W).m k=some W.heap[k]:=by simp [Cx.of,hk]
  rw [h.of_ro this];simp [hk]
 refine ⟨h1,h2,h3,?_,hb⟩
 rcases Nat.lt_or_ge W'.heap.size W.heap.size with hl|hl
 ·have:=hb W'.heap.size hl
  rw [Array.getElem?_eq_none (Nat.le_refl _)] at this
  simp [hl] at this
 ·exact hl
theorem block_of_cell {w:World} {a:Addr} {v:Value} (h:w.cell? a=some v):a.spot=none∧∃ l T fr,w.heap[a.block]? =some (.cells l T fr)∧l[a.off]? =some v:=by
 unfold World.cell? at h
 split at h
 ·rename_i c T fr hb
  split at h
  ·cases h
  ·rename_i hs
   exact ⟨by simpa using hs,c,T,fr,hb,h⟩
 ·cases h
section
variable {H:Type} {enc:TypeId × Value→H} {P:Program} {W:World} {base:Nat} {spare:Nat→Bool} {held:Bool}
end
end Go.VC

