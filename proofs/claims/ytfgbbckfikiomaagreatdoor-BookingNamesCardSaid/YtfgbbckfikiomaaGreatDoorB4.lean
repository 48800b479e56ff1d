/- The book, plainly: what holds of it, behind each step. No condition. -/
import Derived.Test.YtfgbbckfikiomaaGreatDoorB3
import Derived.Test.YtfgbbckfikiomaaGreatDoorB2
import Derived.Test.YtfgbbckfikiomaaGreatDoorB1
import Derived.ProofKit
import Derived.OpenShut
import Derived.ShutString
import Derived.ChangeOld
import Derived.Below
import Derived.Lib.SmallJoins
import Derived.Maps.RangeRun
namespace Go.Proofs.YtfgbbckfikiomaaGreatDoor
set_option linter.unusedVariables false
open Go Go.VC
variable {b:Book} {n:Int} {p:Pl} {w:Wt} {x:Bk}
theorem Core.uniq (c:Core b) {x y:Bk} (hx:x∈b.L) (hy:y∈b.L) (e:x.id=y.id):x=y:=c.ids.uniq hx hy e
theorem Core.uniqP (c:Core b) {p q:Pl} (hp:p∈b.fl) (hq:q∈b.fl) (e:p.n=q.n):p=q:=c.nums.uniq hp hq e
theorem Core.waits (c:Core b) (hp:p∈b.fl) (hw:w∈p.q):∃ x∈b.L,x.id=w.id∧x.flt=p.n∧x.state=3∧x.cls=w.cls∧x.many=w.many:=by
 obtain ⟨x,hx,e1,e2,e3⟩:=(c.loc p hp).backQ w hw
 have h:=(c.loc p hp).has x hx e2
 unfold HasP at h
 rw [if_pos e3] at h
 obtain ⟨⟨w',hw',a1,a2,a3⟩,_⟩:=h
 have:w'=w:=by
  have hq:=(c.qok p hp).ids
  have key:∀ {q:List Wt},QIds q→∀ {a b:Wt},a∈q→b∈q→a.id=b.id→a=b:=by
   intro q
   induction q with
   |nil=>intro _ a b ha;cases ha
   |cons y q ih=>
    intro h a b ha hb e
    have hp:=List.pairwise_cons.1 h
    rcases List.mem_cons.1 ha with e1|h1
    ·rcases List.mem_cons.1 hb with e2|h2
     ·rw [e1,e2]
     ·rw [e1] at e;exact absurd e (hp.1 b h2)
    ·rcases List.mem_cons.1 hb with e2|h2
     ·rw [e2] at e;exact absurd e.symm (hp.1 a h1)
     ·exact ih hp.2 h1 h2 e
  exact key hq hw' hw (by omega)
 rw [this] at a2 a3
 exact ⟨x,hx,e1,e2,e3,a2.symm,a3.symm⟩
theorem Core.noHold (c:Core b) (hp:p∈b.fl) (hw:w∈p.q):getO w.id p.r.L=none:=by
 rw [getO_none]
 intro h hh e
 obtain ⟨x,hx,e1,e2,e3,_⟩:=c.waits hp hw
 obtain ⟨y,hy,a1,a2,a3⟩:=(c.loc p hp).backH h hh
 have:=c.uniq hx hy (by omega)
 rw [this] at e3
 exact a3 e3
theorem takeW_n:(takeW w p).n=p.n:=take_num.1
theorem fit_take (c:Core b) (hp:p∈b.fl) (hw:qfirst p.q (rleftsF p.r)=some w):w∈p.q∧fitsQ (rleftsF p.r) w=true∧(rtakeF p.r w.id w.cls w.many).2=0:=by
 obtain ⟨h1,h2⟩:=qfirst_mem hw
 exact ⟨h1,h2,take_fits (c.good p hp) ((c.qok p hp).ok w h1) h2 (c.noHold hp h1)⟩
theorem core_move (c:Core b) (hp:p∈b.fl) (hn:p.n=n) (hf:qfirst p.q (rleftsF p.r)=some w):Core (moveB b n w):=by
 obtain ⟨hw,hfit,htake⟩:=fit_take c hp hf
 obtain ⟨x,hx,e1,e2,e3,e4,e5⟩:=c.waits hp hw
 have hq:=c.qok p hp
 refine c.swap (next:=b.next) ⟨Int.le_refl _,c.next.2⟩ (fun p' hp' hn'=>?_) (kset_rise c.ids fun y _ e=>e) (fun y hy=>?_) (by show (kset Bk.id w.id bookX b.L).length≤300;rw [kset_len];exact c.many) (fun y hy=>?_) fun y _ _=>⟨p,hp,hn⟩
 ·obtain rfl:p'=p:=c.uniqP hp' hp (by omega)
  refine ⟨by rw [takeW_n];exact hn,good_take (c.good _ hp) _ _ _,hq.del _,?_⟩
  have hl:=c.loc _ hp
  refine ⟨fun y hy e=>?_,fun v hv=>?_,fun h hh=>?_⟩
  ·obtain ⟨z,hz,rfl⟩:=mem_kset.1 hy
   by_cases hid:z.id=w.id
   ·rw [if_pos hid]
    obtain rfl:z=x:=c.uniq hz hx (by omega)
    unfold HasP
    rw [if_neg (by show (2:Int)≠3;omega)]
    exact ⟨⟨w.id,w.cls,w.many,[]⟩,(take_mem htake).2 (.inl rfl),hid.symm,e4.symm,e5.symm⟩
   ·rw [if_neg hid] at e ⊢
    have hz2:=hl.has z hz (by rw [e,takeW_n])
    unfold HasP at *
    by_cases h3:z.state=3
    ·rw [if_pos h3] at hz2 ⊢
     obtain ⟨⟨v,hv,a1,a2,a3⟩,a4⟩:=hz2
     refine ⟨⟨v,(delQ_mem hq.ids).2 ⟨hv,by omega⟩,a1,a2,a3⟩,?_⟩
     show z.cls<((rtakeF _ _ _ _).1.lims.length:Int)
     rw [take_num.2];exact a4
    ·rw [if_neg h3] at hz2 ⊢
     obtain ⟨h,hh,a1,a2,a3⟩:=hz2
     exact ⟨h,(take_mem htake).2 (.inr hh),a1,a2,a3⟩
  ·obtain ⟨hv1,hv2⟩:=(delQ_mem hq.ids).1 hv
   obtain ⟨y,hy,a1,a2,a3⟩:=hl.backQ v hv1
   exact ⟨y,mem_kset.2 ⟨y,hy,by rw [if_neg (by omega)]⟩,a1,by rw [a2,takeW_n],a3⟩
  ·rcases (take_mem htake).1 hh with rfl|hh
   ·exact ⟨bookX x,mem_kset.2 ⟨x,hx,by rw [if_pos e1]⟩,e1,by show x.flt=_;rw [e2,takeW_n],by show (2:Int)≠3;omega⟩
   ·obtain ⟨y,hy,a1,a2,a3⟩:=hl.backH h hh
    refine ⟨y,mem_kset.2 ⟨y,hy,?_⟩,a1,by rw [a2,takeW_n],a3⟩
    rw [if_neg fun e=>?_]
    obtain rfl:y=x:=c.uniq hy hx (by omega)
    exact a3 e3
 ·obtain ⟨z,hz,rfl⟩:=mem_kset.1 hy
  have hb:=c.each z hz
  by_cases hid:z.id=w.id
  ·rw [if_pos hid]
   obtain rfl:z=x:=c.uniq hz hx (by omega)
   exact ⟨hb.id,hb.flt,hb.cls,hb.many,⟨by show (1:Int)≤2;omega,by show (2:Int)≤3;omega⟩,hb.till,fun _=>hb.free (by omega)⟩
  ·rw [if_neg hid];exact hb
 ·constructor
  ·intro h
   obtain ⟨z,hz,rfl⟩:=mem_kset.1 h
   by_cases hid:z.id=w.id
   ·rw [if_pos hid] at hy
    obtain rfl:z=x:=c.uniq hz hx (by omega)
    exact absurd (e2.trans hn) hy
   ·rw [if_neg hid];exact hz
  ·intro h
   refine mem_kset.2 ⟨y,h,?_⟩
   rw [if_neg fun e=>?_]
   obtain rfl:y=x:=c.uniq h hx (by omega)
   exact hy (e2.trans hn)
theorem move_at (c:Core b) (hp:b.at n=some p):(moveB b n w).at n=some (takeW w p):=
 at_put (by rw [takeW_n];exact (at_some hp).2) c hp (kset_rise c.nums fun q _ e=>by rw [takeW_n];exact e)
theorem move_fl {q:Pl} (h:q∈(moveB b n w).fl):q.n=n∨q∈b.fl:=by
 obtain ⟨z,hz,rfl⟩:=mem_kset.1 h
 by_cases e:z.n=n
 ·rw [if_pos e];exact .inl (by rw [takeW_n];exact e)
 ·rw [if_neg e];exact .inr hz
theorem move_timely (t:Timely b):Timely (moveB b n w):=by
 intro x hx hs
 obtain ⟨z,hz,rfl⟩:=mem_kset.1 hx
 by_cases e:z.id=w.id
 ·rw [if_pos e] at hs;exact absurd hs (by show (2:Int)≠1;omega)
 ·rw [if_neg e] at hs ⊢;exact t z hz hs
theorem delQ_len {id:Int} {q:List Wt} (h:hasQ id q=true):(delQ id q).length + 1=q.length:=by
 obtain ⟨A,w,C,e,_,_,e2⟩:=delQ_split h
 rw [e2,e]
 simp
 omega
structure Kept (n:Int) (b b':Book):Prop where
 now:b'.now=b.now
 next:b'.next=b.next
 keys:b'.fl.map Pl.n=b.fl.map Pl.n
 others:∀ q∈b'.fl,q.n=n∨q∈b.fl
 ids:b'.L.map Bk.id=b.L.map Bk.id
 bk:∀ y∈b'.L,∃ x∈b.L,y.id=x.id∧y.flt=x.flt∧y.cls=x.cls∧y.many=x.many∧y.till=x.till
theorem Kept.refl (n:Int) (b:Book):Kept n b b:=⟨rfl,rfl,rfl,fun _ h=>.inr h,rfl,fun y hy=>⟨y,hy,rfl,rfl,rfl,rfl,rfl⟩⟩
theorem Kept.trans {b1 b2 b3:Book} (h1:Kept n b1 b2) (h2:Kept n b2 b3):Kept n b1 b3:=
 ⟨h2.now.trans h1.now,h2.next.trans h1.next,h2.keys.trans h1.keys,fun q hq=>by
  rcases h2.others q hq with h|h
  ·exact .inl h
  ·exact h1.others q h,h2.ids.trans h1.ids,fun y hy=>by
  obtain ⟨x,hx,a1,a2,a3,a4,a5⟩:=h2.bk y hy
  obtain ⟨z,hz,c1,c2,c3,c4,c5⟩:=h1.bk x hx
  exact ⟨z,hz,by omega,by omega,by omega,by omega,by omega⟩⟩
theorem kset_keys {α:Type} {k:α→Int} {n:Int} {f:α→α} (hf:∀ x,k x=n→k (f x)=n):∀ l:List α,(kset k n f l).map k=l.map k
 |[]=>rfl
 |a::l=>by
  show k (if k a=n then f a else a)::(kset k n f l).map k=_
  rw [kset_keys hf l,List.map_cons]
  split
  ·rename_i e;rw [hf a e,e]
  ·rfl
theorem kept_move:Kept n b (moveB b n w):=by
 refine ⟨rfl,rfl,kset_keys (fun q e=>by rw [takeW_n];exact e) _,fun q hq=>move_fl hq,kset_keys (k:=Bk.id) (f:=bookX) (fun y e=>e) b.L,fun y hy=>?_⟩
 obtain ⟨z,hz,rfl⟩:=mem_kset.1 hy
 refine ⟨z,hz,?_⟩
 split<;>exact ⟨rfl,rfl,rfl,rfl,rfl⟩
theorem prom_ok:∀ (k:Nat) {b:Book},Core b→Core (promB k n b)∧Kept n b (promB k n b)∧(Timely b→Timely (promB k n b))∧((∀ p,b.at n=some p→p.q.length<k)→∀ p∈(promB k n b).fl,p.n=n→NoFit p)
 |0,b,c=>⟨c,Kept.refl n b,fun t=>t,fun h p hp e=>absurd (h p ((at_iff c).2 ⟨hp,e⟩)) (by omega)⟩
 |k + 1,b,c=>by
  unfold promB
  cases ha:b.at n with
  |none=>
   refine ⟨c,Kept.refl n b,fun t=>t,fun _ p hp e=>?_⟩
   rw [(at_iff c).2 ⟨hp,e⟩] at ha
   cases ha
  |some p=>
   dsimp only
   have hp:=at_some ha
   cases hq:qfirst p.q (rleftsF p.r) with
   |none=>
    refine ⟨c,Kept.refl n b,fun t=>t,fun _ p' hp' e=>?_⟩
    obtain rfl:p'=p:=c.uniqP hp' hp.1 (by rw [e,hp.2])
    exact hq
   |some w=>
    dsimp only
    have c':=core_move c hp.1 hp.2 hq
    obtain ⟨i1,i2,i3,i4⟩:=prom_ok k c'
    refine ⟨i1,kept_move.trans i2,fun t=>i3 (move_timely t),fun h=>i4 fun p' hp'=>?_⟩
    rw [move_at c ha] at hp'
    cases hp'
    have h1:=h p rfl
    have hm:=(fit_take c hp.1 hq).1
    have h2:=delQ_len (hasQ_iff.2 ⟨w,hm,rfl⟩)
    show (delQ w.id p.q).length<k
    omega
theorem promote_ok (c:Core b):Core (promote n b)∧Kept n b (promote n b)∧(Timely b→Timely (promote n b))∧∀ p∈(promote n b).fl,p.n=n→NoFit p:=by
 obtain ⟨h1,h2,h3,h4⟩:=prom_ok (n:=n) 201 c
 exact ⟨h1,h2,h3,h4 fun p hp=>by have:=(c.qok p (at_some hp).1).len;omega⟩
theorem core_open (c:Core b) {r:RF} (g:Good r) (hL:r.L=[]) (hn:b.at r.num=none) (hf:b.fl.length<8):Core { b with fl:=kins Pl.n ⟨r,[]⟩ b.fl }:=by
 have hno:=kget_none.1 hn
 refine ⟨c.now,c.next,fun p hp=>?_,fun p hp=>?_,kins_rise c.nums hno,by show (kins Pl.n _ b.fl).length≤8;rw [kins_len];omega,c.ids,c.each,c.many,fun x hx=>?_,fun p hp=>?_⟩
 ·rcases mem_kins.1 hp with rfl|hp
  ·exact g
  ·exact c.good p hp
 ·rcases mem_kins.1 hp with rfl|hp
  ·exact QOk.nil
  ·exact c.qok p hp
 ·obtain ⟨p,hp,e⟩:=c.there x hx
  exact ⟨p,mem_kins.2 (.inr hp),e⟩
 ·rcases mem_kins.1 hp with rfl|hp
  ·refine ⟨fun x hx e=>?_,fun w hw=>(by cases hw),fun h hh=>?_⟩
   ·obtain ⟨p,hp,e2⟩:=c.there x hx
    exact absurd (e2.trans e) (hno p hp)
   ·rw [show (Pl.mk r []).r.L=r.L from rfl,hL] at hh;cases hh
  ·exact c.loc p hp
theorem core_out (c:Core b) (hx:x∈b.L) {f:Pl→Pl} (hf:∀ p∈b.fl,p.n=x.flt→(f p).n=x.flt∧Good (f p).r∧QOk (f p).q∧(f p).r.lims=p.r.lims∧(∀ w,w∈(f p).q↔w∈p.q∧w.id≠x.id)∧∀ h,h∈(f p).r.L↔h∈p.r.L∧h.owner≠x.id):
  Core (b.put x.flt f (kdel Bk.id x.id b.L)):=by
 refine c.swap (next:=b.next) ⟨Int.le_refl _,c.next.2⟩ (fun p hp hn=>?_) (kdel_rise c.ids) (fun y hy=>c.each y (mem_kdel.1 hy).1) (Nat.le_trans (List.length_filter_le _ _) c.many) (fun y hy=>?_) fun y _ _=>c.there x hx
 ·obtain ⟨f1,f2,f3,f6,f4,f5⟩:=hf p hp hn
  have hl:=c.loc p hp
  refine ⟨f1,f2,f3,fun y hy e=>?_,fun w hw=>?_,fun h hh=>?_⟩
  ·obtain ⟨hy1,hy2⟩:=mem_kdel.1 hy
   have h:=hl.has y hy1 (by rw [e,f1,hn])
   unfold HasP at *
   by_cases h3:y.state=3
   ·rw [if_pos h3] at h ⊢
    obtain ⟨⟨w,hw,a1,a2,a3⟩,a4⟩:=h
    exact ⟨⟨w,(f4 w).2 ⟨hw,by omega⟩,a1,a2,a3⟩,by rw [f6];exact a4⟩
   ·rw [if_neg h3] at h ⊢
    obtain ⟨h,hh,a1,a2,a3⟩:=h
    exact ⟨h,(f5 h).2 ⟨hh,by omega⟩,a1,a2,a3⟩
  ·obtain ⟨hw1,hw2⟩:=(f4 w).1 hw
   obtain ⟨y,hy,a1,a2,a3⟩:=hl.backQ w hw1
   exact ⟨y,mem_kdel.2 ⟨hy,by omega⟩,a1,by rw [a2,f1,hn],a3⟩
  ·obtain ⟨hh1,hh2⟩:=(f5 h).1 hh
   obtain ⟨y,hy,a1,a2,a3⟩:=hl.backH h hh1
   exact ⟨y,mem_kdel.2 ⟨hy,by omega⟩,a1,by rw [a2,f1,hn],a3⟩
 ·refine mem_kdel.trans ⟨fun h=>h.1,fun h=>⟨h,fun e=>hy ?_⟩⟩
  rw [c.uniq h hx e]
theorem core_drop (c:Core b) (hx:x∈b.L) (hs:x.state≠3):Core (dropB b x):=by
 refine core_out c hx fun p hp hn=>⟨by show (rgiveF _ _).1.num=_;rw [give_num.1];exact hn,good_give (c.good p hp) _,c.qok p hp,give_num.2,fun w=>⟨fun hw=>⟨hw,fun e=>?_⟩,fun h=>h.1⟩,fun h=>give_mem (c.good p hp)⟩
 obtain ⟨y,hy,e1,_,e3,_⟩:=c.waits hp hw
 rw [c.uniq hy hx (by omega)] at e3
 exact hs e3
theorem core_gone (c:Core b) (hx:x∈b.L):Core (gone b x):=by
 unfold gone
 split
 ·rename_i hs
  refine core_out c hx fun p hp hn=>⟨hn,c.good p hp,(c.qok p hp).del _,rfl,fun w=>delQ_mem (c.qok p hp).ids,fun h=>⟨fun hh=>⟨hh,fun e=>?_⟩,fun hh=>hh.1⟩⟩
  obtain ⟨y,hy,a1,a2,a3⟩:=(c.loc p hp).backH h hh
  rw [c.uniq hy hx (by omega)] at a3
  exact a3 hs
 ·rename_i hs
  exact core_drop c hx hs
theorem put_timely {f:Pl→Pl} {L:List Bk} (t:Timely b) (h:∀ y∈L,y.state=1→y∈b.L):Timely (b.put n f L):=fun y hy hs=>t y (h y hy hs) hs
theorem gone_timely (t:Timely b):Timely (gone b x):=by
 unfold gone dropB
 split<;>exact put_timely t fun y hy _=>(mem_kdel.1 hy).1
theorem gone_fl {q:Pl} (h:q∈(gone b x).fl):q.n=x.flt∨q∈b.fl:=by
 unfold gone dropB at h
 split at h<;>
 ·obtain ⟨z,hz,rfl⟩:=mem_kset.1 h
  by_cases e:z.n=x.flt
  ·rw [if_pos e]
   exact .inl (by first|exact e|(show (rgiveF _ _).1.num=_;rw [give_num.1];exact e))
  ·rw [if_neg e];exact .inr hz
end Go.Proofs.YtfgbbckfikiomaaGreatDoor
/- The book, plainly: each command. No condition. -/
namespace Go.Proofs.YtfgbbckfikiomaaGreatDoor
set_option linter.unusedVariables false
open Go Go.VC
variable {b:Book} {n:Int} {p:Pl} {w:Wt} {x:Bk} {c:Cm}
theorem mem_snoc {α:Type} {l:List α} {a y:α}:y∈l++[a]↔y∈l∨y=a:=by simp
theorem Core.fresh (k:Core b) {y:Bk} (hy:y∈b.L):y.id<b.next:=(k.each y hy).id.2
theorem core_add (k:Core b) (hx:BkOk (b.next + 1) x) (hid:x.id=b.next) (hf:¬ b.full) (hp:p∈b.fl) (hn:p.n=x.flt) {f:Pl→Pl} (hl:(f p).n=p.n∧Good (f p).r∧QOk (f p).q∧LocP (b.L++[x]) (f p)):
  Core { b.put x.flt f (b.L++[x]) with next:=b.next + 1 }:=by
 unfold Book.full at hf
 refine k.swap (next:=b.next + 1) ⟨by omega,by omega⟩ (fun p' hp' hn'=>?_) (krise_snoc k.ids fun y hy=>by rw [hid];exact k.fresh hy) (fun y hy=>?_) (by rw [List.length_append,List.length_singleton];omega) (fun y hy=>?_) fun y _ _=>⟨p,hp,hn⟩
 ·obtain rfl:p'=p:=k.uniqP hp' hp (by omega)
  exact ⟨by rw [hl.1];exact hn,hl.2.1,hl.2.2.1,hl.2.2.2⟩
 ·rcases mem_snoc.1 hy with hy|rfl
  ·exact (k.each y hy).le (by omega)
  ·exact hx
 ·refine mem_snoc.trans ⟨fun h=>?_,fun h=>.inl h⟩
  rcases h with h|rfl
  ·exact h
  ·exact absurd rfl hy
theorem core_hold (k:Core b) (hc:RightC c) (hp:b.at c.flt=some p) (hf:¬ b.full) (ht:(rtakeF p.r b.next c.cls c.many).2=0):
  Core { b.put c.flt (takeP b.next c.cls c.many) (b.L++[heldX b c]) with next:=b.next + 1 }:=by
 obtain ⟨hp1,hp2⟩:=at_some hp
 have hnx:=k.next
 refine core_add k (x:=heldX b c) ⟨⟨hnx.1,by show b.next<b.next + 1;omega⟩,hc.flt,hc.cls,hc.many,⟨by show (1:Int)≤1;omega,by show (1:Int)≤3;omega⟩,hc.time,fun h=>absurd rfl h⟩ rfl hf hp1 hp2 ?_
 refine ⟨take_num.1,good_take (k.good p hp1) _ _ _,k.qok p hp1,?_⟩
 have hl:=k.loc p hp1
 have hnum:(takeP b.next c.cls c.many p).n=p.n:=take_num.1
 refine ⟨fun y hy e=>?_,fun v hv=>?_,fun h hh=>?_⟩
 ·rcases mem_snoc.1 hy with hy|rfl
  ·have h:=hl.has y hy (by rw [e,hnum])
   unfold HasP at *
   by_cases h3:y.state=3
   ·rw [if_pos h3] at h ⊢
    exact ⟨h.1,by show y.cls<((rtakeF _ _ _ _).1.lims.length:Int);rw [take_num.2];exact h.2⟩
   ·rw [if_neg h3] at h ⊢
    obtain ⟨h,hh,a⟩:=h
    exact ⟨h,(take_mem ht).2 (.inr hh),a⟩
  ·unfold HasP
   rw [if_neg (by show (1:Int)≠3;omega)]
   exact ⟨⟨b.next,c.cls,c.many,[]⟩,(take_mem ht).2 (.inl rfl),rfl,rfl,rfl⟩
 ·obtain ⟨y,hy,a1,a2,a3⟩:=hl.backQ v hv
  exact ⟨y,mem_snoc.2 (.inl hy),a1,by rw [a2,hnum],a3⟩
 ·rcases (take_mem ht).1 hh with rfl|hh
  ·exact ⟨heldX b c,mem_snoc.2 (.inr rfl),rfl,by show c.flt=_;rw [hnum];exact hp2.symm,by show (1:Int)≠3;omega⟩
  ·obtain ⟨y,hy,a1,a2,a3⟩:=hl.backH h hh
   exact ⟨y,mem_snoc.2 (.inl hy),a1,by rw [a2,hnum],a3⟩
theorem qadd_facts {q:List Wt} (h:(qadd q w).2=0):w.Ok∧hasQ w.id q=false∧q.length<200∧qadd q w=(insQ w q,0):=by
 unfold qadd at *
 split at h
 ·cases h
 rename_i h1
 split at h
 ·cases h
 rename_i h2
 split at h
 ·cases h
 rename_i h3
 rw [if_neg h1,if_neg h2,if_neg h3]
 exact ⟨by simpa using h1,by simpa using h2,by omega,rfl⟩
theorem core_wait (k:Core b) (hc:RightC c) (hs:c.sc<18446744073709551616) (hp:b.at c.flt=some p) (hcl:¬ (p.r.lims.length:Int)≤c.cls) (hf:¬ b.full) (hq:(qadd p.q (waitW b c)).2=0):Core (queued b c):=by
 obtain ⟨hp1,hp2⟩:=at_some hp
 obtain ⟨q1,q2,q3,_⟩:=qadd_facts hq
 have hnx:=k.next
 refine core_add k (x:=waitX b c) ⟨⟨hnx.1,by show b.next<b.next + 1;omega⟩,hc.flt,hc.cls,hc.many,⟨by show (1:Int)≤3;omega,by show (3:Int)≤3;omega⟩,⟨Int.le_refl _,by show (0:Int)≤_;omega⟩,fun _=>rfl⟩ rfl hf hp1 hp2 ?_
 refine ⟨rfl,k.good p hp1,(k.qok p hp1).ins q1 hs q2 q3,?_⟩
 have hl:=k.loc p hp1
 refine ⟨fun y hy e=>?_,fun v hv=>?_,fun h hh=>?_⟩
 ·rcases mem_snoc.1 hy with hy|rfl
  ·have h:=hl.has y hy e
   unfold HasP at *
   by_cases h3:y.state=3
   ·rw [if_pos h3] at h ⊢
    obtain ⟨⟨v,hv,a⟩,a4⟩:=h
    exact ⟨⟨v,insQ_mem.2 (.inr hv),a⟩,a4⟩
   ·rw [if_neg h3] at h ⊢
    exact h
  ·unfold HasP
   rw [if_pos (by rfl)]
   exact ⟨⟨waitW b c,insQ_mem.2 (.inl rfl),rfl,rfl,rfl⟩,by show c.cls<(p.r.lims.length:Int);omega⟩
 ·rcases insQ_mem.1 hv with rfl|hv
  ·exact ⟨waitX b c,mem_snoc.2 (.inr rfl),rfl,hp2.symm,rfl⟩
  ·obtain ⟨y,hy,a⟩:=hl.backQ v hv
   exact ⟨y,mem_snoc.2 (.inl hy),a⟩
 ·obtain ⟨y,hy,a⟩:=hl.backH h hh
  exact ⟨y,mem_snoc.2 (.inl hy),a⟩
theorem core_sure (k:Core b) (hx:x∈b.L) (hs:x.state=1):Core { b with L:=kset Bk.id x.id sureX b.L }:=by
 have hmem:∀ {y},y∈kset Bk.id x.id sureX b.L→y=sureX x∨(y∈b.L∧y.id≠x.id):=fun {y} hy=>by
  obtain ⟨z,hz,rfl⟩:=mem_kset.1 hy
  by_cases e:z.id=x.id
  ·rw [if_pos e,k.uniq hz hx e];exact .inl rfl
  ·rw [if_neg e];exact .inr ⟨hz,e⟩
 have hput:∀ {y},y∈b.L→y.id≠x.id→y∈kset Bk.id x.id sureX b.L:=fun {y} hy e=>mem_kset.2 ⟨y,hy,by rw [if_neg e]⟩
 have hnew:sureX x∈kset Bk.id x.id sureX b.L:=mem_kset.2 ⟨x,hx,by rw [if_pos rfl]⟩
 refine ⟨k.now,k.next,k.good,k.qok,k.nums,k.few,kset_rise k.ids fun _ _ e=>e,fun y hy=>?_,by show (kset Bk.id _ _ b.L).length≤_;rw [kset_len];exact k.many,fun y hy=>?_,fun p hp=>?_⟩
 ·rcases hmem hy with rfl|⟨hy,_⟩
  ·have hb:=k.each x hx
   exact ⟨hb.id,hb.flt,hb.cls,hb.many,⟨by show (1:Int)≤2;omega,by show (2:Int)≤3;omega⟩,⟨Int.le_refl _,by show (0:Int)≤_;omega⟩,fun _=>rfl⟩
  ·exact k.each y hy
 ·rcases hmem hy with rfl|⟨hy,_⟩
  ·exact k.there x hx
  ·exact k.there y hy
 ·have hl:=k.loc p hp
  refine ⟨fun y hy e=>?_,fun w hw=>?_,fun h hh=>?_⟩
  ·rcases hmem hy with rfl|⟨hy,_⟩
   ·have h:=hl.has x hx e
    unfold HasP at *
    rw [if_neg (by omega)] at h
    rw [if_neg (by show (2:Int)≠3;omega)]
    exact h
   ·exact hl.has y hy e
  ·obtain ⟨y,hy,a1,a2,a3⟩:=hl.backQ w hw
   refine ⟨y,hput hy fun e=>?_,a1,a2,a3⟩
   rw [k.uniq hy hx e] at a3
   omega
  ·obtain ⟨y,hy,a1,a2,a3⟩:=hl.backH h hh
   by_cases e:y.id=x.id
   ·rw [k.uniq hy hx e] at a1 a2
    exact ⟨sureX x,hnew,a1,a2,by show (2:Int)≠3;omega⟩
   ·exact ⟨y,hput hy e,a1,a2,a3⟩
theorem core_seat (k:Core b) {r:RF} (hp:b.at n=some p) (g:Good r) (h:Seatly p.r r):Core (b.put n (seatP r) b.L):=by
 obtain ⟨hp1,hp2⟩:=at_some hp
 refine k.swap (next:=b.next) ⟨Int.le_refl _,k.next.2⟩ (fun p' hp' hn'=>?_) k.ids k.each k.many (fun y _=>Iff.rfl) fun y _ _=>⟨p,hp1,hp2⟩
 obtain rfl:p'=p:=k.uniqP hp' hp1 (by omega)
 have hl:=k.loc _ hp1
 have hnum:(seatP r p').n=p'.n:=h.num
 refine ⟨by rw [hnum];exact hp2,g,k.qok p' hp1,fun y hy e=>?_,fun w hw=>?_,fun o ho=>?_⟩
 ·have h2:=hl.has y hy (by rw [e,hnum])
  unfold HasP at *
  by_cases h3:y.state=3
  ·rw [if_pos h3] at h2 ⊢
   exact ⟨h2.1,by show y.cls<(r.lims.length:Int);rw [h.lims];exact h2.2⟩
  ·rw [if_neg h3] at h2 ⊢
   obtain ⟨o,ho,a1,a2,a3⟩:=h2
   obtain ⟨o',ho',c1,c2,c3⟩:=h.mem ho
   exact ⟨o',ho',by omega,by omega,by omega⟩
 ·obtain ⟨y,hy,a1,a2,a3⟩:=hl.backQ w hw
  exact ⟨y,hy,a1,by rw [a2,hnum],a3⟩
 ·obtain ⟨o',ho',c1,_,_⟩:=h.symm.mem ho
  obtain ⟨y,hy,a1,a2,a3⟩:=hl.backH o' ho'
  exact ⟨y,hy,by omega,by rw [a2,hnum],a3⟩
theorem core_now (k:Core b) {t:Int} (h:0≤t∧t≤1099511627776):Core { b with now:=t }:=⟨h,k.next,k.good,k.qok,k.nums,k.few,k.ids,k.each,k.many,k.there,k.loc⟩
theorem drop_now:(dropB b x).now=b.now:=rfl
theorem exp_ok:∀ (l:List Bk) {b:Book},Core b→(∀ x∈l,x∈b.L)→KRise Bk.id l→
  Core (expAll l b)∧(expAll l b).now=b.now∧(expAll l b).next=b.next∧((expAll l b).fl.map Pl.n=b.fl.map Pl.n)∧∀ y,y∈(expAll l b).L↔y∈b.L∧¬ (y∈l∧old b.now y=true)
 |[],b,k,_,_=>⟨k,rfl,rfl,rfl,fun y=>by simp [expAll]⟩
 |x::l,b,k,hl,hr=>by
  have hp:=List.pairwise_cons.1 hr
  have hx:=hl x (by simp)
  unfold expAll
  by_cases ho:old b.now x=true
  ·rw [if_pos ho]
   have hs:x.state=1:=by unfold old at ho;simp at ho;exact ho.1
   have k':=core_drop k hx (by omega)
   have hin:∀ y∈l,y∈(dropB b x).L:=fun y hy=>mem_kdel.2 ⟨hl y (by simp [hy]),by have:=hp.1 y hy;omega⟩
   obtain ⟨i1,i2,i3,i4,i5⟩:=exp_ok l k' hin hp.2
   refine ⟨i1,i2,i3,i4.trans (kset_keys (fun q e=>by show (rgiveF _ _).1.num=_;rw [give_num.1];exact e) _),fun y=>?_⟩
   rw [i5,drop_now]
   have hm:y∈(dropB b x).L↔y∈b.L∧y.id≠x.id:=mem_kdel
   rw [hm,List.mem_cons]
   constructor
   ·rintro ⟨⟨h1,h2⟩,h3⟩
    refine ⟨h1,fun ⟨h4,h5⟩=>?_⟩
    rcases h4 with rfl|h4
    ·exact h2 rfl
    ·exact h3 ⟨h4,h5⟩
   ·rintro ⟨h1,h2⟩
    refine ⟨⟨h1,fun e=>h2 ⟨.inl (k.uniq h1 hx e),?_⟩⟩,fun ⟨h4,h5⟩=>h2 ⟨.inr h4,h5⟩⟩
    rw [k.uniq h1 hx e];exact ho
  ·rw [if_neg ho]
   obtain ⟨i1,i2,i3,i4,i5⟩:=exp_ok l k (fun y hy=>hl y (by simp [hy])) hp.2
   refine ⟨i1,i2,i3,i4,fun y=>?_⟩
   rw [i5,List.mem_cons]
   constructor
   ·rintro ⟨h1,h2⟩
    refine ⟨h1,fun ⟨h4,h5⟩=>?_⟩
    rcases h4 with rfl|h4
    ·exact ho h5
    ·exact h2 ⟨h4,h5⟩
   ·rintro ⟨h1,h2⟩
    exact ⟨h1,fun ⟨h4,h5⟩=>h2 ⟨.inr h4,h5⟩⟩
theorem ticked_ok (k:Core b) {t:Int} (h:0≤t∧t≤1099511627776):Core (ticked b t)∧Timely (ticked b t)∧(ticked b t).now=t∧(ticked b t).next=b.next∧(ticked b t).fl.map Pl.n=b.fl.map Pl.n:=by
 obtain ⟨i1,i2,i3,i4,i5⟩:=exp_ok b.L (core_now k h) (fun x hx=>hx) k.ids
 refine ⟨i1,fun y hy hs=>?_,i2,i3,i4⟩
 obtain ⟨h1,h2⟩:=(i5 y).1 hy
 show (ticked b t).now<_
 rw [show (ticked b t).now=t from i2]
 refine Int.not_le.1 fun h3=>h2 ⟨h1,?_⟩
 unfold old
 simp [hs]
 exact h3
theorem promAll_ok:∀ (l:List Int) {b:Book},Core b→Timely b→∀ S:Int→Prop,(∀ p∈b.fl,S p.n→NoFit p)→
  Core (promAll l b)∧Timely (promAll l b)∧(promAll l b).now=b.now∧(promAll l b).next=b.next∧(promAll l b).fl.map Pl.n=b.fl.map Pl.n∧∀ p∈(promAll l b).fl,(S p.n∨p.n∈l)→NoFit p
 |[],b,k,t,S,h=>⟨k,t,rfl,rfl,rfl,fun p hp e=>h p hp (by simpa using e)⟩
 |n::l,b,k,t,S,h=>by
  obtain ⟨p1,p2,p3,p4⟩:=promote_ok (n:=n) k
  obtain ⟨i1,i2,i3,i4,i5,i6⟩:=promAll_ok l p1 (p3 t) (fun k=>S k∨k=n) fun p hp e=>by
   by_cases hn:p.n=n
   ·exact p4 p hp hn
   ·rcases p2.others p hp with h2|h2
    ·exact absurd h2 hn
    ·exact h p h2 (e.resolve_right hn)
  refine ⟨i1,i2,i3.trans p2.now,i4.trans p2.next,i5.trans p2.keys,fun p hp e=>i6 p hp ?_⟩
  rcases e with e|e
  ·exact .inl (.inl e)
  ·rcases List.mem_cons.1 e with e|e
   ·exact .inl (.inr e)
   ·exact .inr e
theorem BookOk.promoted (k:Core b) (t:Timely b) (h:∀ p∈b.fl,p.n=n∨NoFit p):BookOk (promote n b):=by
 obtain ⟨p1,p2,p3,p4⟩:=promote_ok (n:=n) k
 refine ⟨p1,p3 t,fun p hp=>?_⟩
 by_cases e:p.n=n
 ·exact p4 p hp e
 ·rcases p2.others p hp with h2|h2
  ·exact absurd h2 e
  ·exact (h p h2).resolve_left e
theorem nofit_nil {r:RF}:NoFit ⟨r,[]⟩:=rfl
theorem nofit_take (g:Good p.r) (hq:QOk p.q) (h:NoFit p) {id cls many:Int} (ht:(rtakeF p.r id cls many).2=0):NoFit (takeP id cls many p):=by
 unfold NoFit qfirst at *
 rw [List.find?_eq_none] at *
 intro w hw hf
 exact h w hw (fits_take g ht (hq.ok w hw).2.1.1 hf)
theorem nofit_seat {r:RF} (h:NoFit p) (hs:Seatly p.r r):NoFit (seatP r p):=by
 unfold NoFit at *
 show qfirst p.q (rleftsF r)=none
 rw [hs.lefts]
 exact h
theorem put_fl {f:Pl→Pl} {L:List Bk} {q:Pl} (h:q∈(b.put n f L).fl):(∃ p∈b.fl,p.n=n∧q=f p)∨(q∈b.fl∧q.n≠n):=by
 obtain ⟨z,hz,rfl⟩:=mem_kset.1 h
 by_cases e:z.n=n
 ·rw [if_pos e];exact .inl ⟨z,hz,e,rfl⟩
 ·rw [if_neg e];exact .inr ⟨hz,e⟩
theorem ok_open (k:BookOk b):BookOk (openB b c).1:=by
 unfold openB
 split
 ·exact k
 rename_i h1
 split
 ·exact k
 rename_i h2
 split
 ·exact k
 rename_i h3
 have hn:b.at c.flt=none:=by cases e:b.at c.flt with|none=>rfl|some p=>rw [e] at h1;simp at h1
 have h3:newOk c.flt c.rows c.grps c.parts:=Classical.byContradiction h3
 refine ⟨core_open k.core (good_new h3) rfl hn (by omega),k.time,fun p hp=>?_⟩
 rcases mem_kins.1 hp with rfl|hp
 ·exact nofit_nil
 ·exact k.nofit p hp
theorem ok_hold (k:BookOk b) (hc:RightC c):BookOk (heldB b c).1:=by
 unfold heldB
 cases hp:b.at c.flt with
 |none=>exact k
 |some p=>
  dsimp only
  split
  ·exact k
  rename_i h1
  split
  ·exact k
  rename_i h2
  split
  ·exact k
  rename_i h3
  have h3:(rtakeF p.r b.next c.cls c.many).2=0:=Classical.byContradiction h3
  obtain ⟨hp1,hp2⟩:=at_some hp
  refine ⟨core_hold k.core hc hp h2 h3,fun y hy hs=>?_,fun q hq=>?_⟩
  ·rcases mem_snoc.1 hy with hy|rfl
   ·exact k.time y hy hs
   ·show b.now<c.time;omega
  ·rcases put_fl (b:=b) (L:=b.L) hq with ⟨z,hz,e,rfl⟩|⟨hq,_⟩
   ·obtain rfl:z=p:=k.core.uniqP hz hp1 (by omega)
    exact nofit_take (k.core.good _ hz) (k.core.qok _ hz) (k.nofit _ hz) h3
   ·exact k.nofit q hq
theorem ok_wait (k:BookOk b) (hc:RightC c) (hs:c.sc<18446744073709551616):BookOk (waitB b c).1:=by
 unfold waitB
 cases hp:b.at c.flt with
 |none=>exact k
 |some p=>
  dsimp only
  split
  ·exact k
  rename_i h1
  split
  ·exact k
  rename_i h2
  split
  ·exact k
  rename_i h3
  have h3:(qadd p.q (waitW b c)).2=0:=Classical.byContradiction h3
  refine BookOk.promoted (core_wait k.core hc hs hp h1 h2 h3) (fun y hy hs=>?_) fun q hq=>?_
  ·rcases mem_snoc.1 hy with hy|rfl
   ·exact k.time y hy hs
   ·exact absurd hs (by show (3:Int)≠1;omega)
  ·rcases put_fl (b:=b) (L:=b.L) hq with ⟨z,hz,e,rfl⟩|⟨hq,_⟩
   ·exact .inl e
   ·exact .inr (k.nofit q hq)
theorem ok_clock (k:BookOk b) (hc:RightC c):BookOk (clockB b c).1:=by
 unfold clockB
 split
 ·exact k
 obtain ⟨t1,t2,t3,t4,t5⟩:=ticked_ok k.core hc.time
 obtain ⟨p1,p2,p3,p4,p5,p6⟩:=promAll_ok (b.fl.map Pl.n) t1 t2 (fun _=>False) fun p _ h=>h.elim
 refine ⟨p1,p2,fun p hp=>p6 p hp (.inr ?_)⟩
 rw [←t5,←p5]
 exact List.mem_map_of_mem hp
theorem ok_one (k:BookOk b) (hx:x∈b.L):BookOk (oneB b x c).1:=by
 unfold oneB
 cases hp:b.at x.flt with
 |none=>exact k
 |some p=>
  obtain ⟨hp1,hp2⟩:=at_some hp
  dsimp only
  split
  ·split
   ·exact k
   ·rename_i h
    have h:x.state=1:=Classical.byContradiction h
    refine ⟨core_sure k.core hx h,fun y hy hs=>?_,k.nofit⟩
    obtain ⟨z,hz,rfl⟩:=mem_kset.1 hy
    by_cases e:z.id=x.id
    ·rw [if_pos e] at hs;exact absurd hs (by show (2:Int)≠1;omega)
    ·rw [if_neg e] at hs ⊢;exact k.time z hz hs
  ·split
   ·exact BookOk.promoted (core_gone k.core hx) (gone_timely k.time) fun q hq=>(gone_fl hq).imp_right (k.nofit q)
   ·split
    ·exact k
    ·have seat:∀ r,Good r→Seatly p.r r→BookOk (b.put x.flt (seatP r) b.L):=fun r g hs=>by
      refine ⟨core_seat k.core hp g hs,fun y hy=>k.time y hy,fun q hq=>?_⟩
      rcases put_fl (b:=b) (L:=b.L) hq with ⟨z,hz,e,rfl⟩|⟨hq,_⟩
      ·obtain rfl:z=p:=k.core.uniqP hz hp1 (by omega)
       exact nofit_seat (k.nofit _ hz) hs
      ·exact k.nofit q hq
     split
     ·split
      ·exact k
      ·rename_i h
       exact seat _ (good_seat (k.core.good p hp1) _ _) (seat_ly (k.core.good p hp1) (Classical.byContradiction h))
     ·split
      ·exact k
      ·rename_i h
       exact seat _ (good_auto (k.core.good p hp1) _) (auto_ly (Classical.byContradiction h))
theorem named_mem {s:ByteArray} {e:Int} (h:namedB b s=(some x,e)):x∈b.L:=by
 unfold namedB at h
 split at h
 ·cases h
 ·split at h
  ·cases h
  ·rename_i y hy
   cases h
   exact (kget_some hy).1
theorem ok_apply (k:BookOk b) (hs:c.sc<18446744073709551616):BookOk (applyB b c).1:=by
 unfold applyB
 split
 ·exact k
 rename_i hc
 have hc:RightC c:=Classical.byContradiction hc
 split
 ·exact ok_open k
 split
 ·exact ok_hold k hc
 split
 ·exact ok_wait k hc hs
 split
 ·exact ok_clock k hc
 split
 ·exact k
 split
 ·exact k
 ·rename_i hnm
  exact ok_one k (named_mem hnm)
end Go.Proofs.YtfgbbckfikiomaaGreatDoor
/- The book, plainly: errors, the time, names, what a reply may be. No condition. -/
namespace Go.Proofs.YtfgbbckfikiomaaGreatDoor
set_option linter.unusedVariables false
open Go Go.VC
variable {b:Book} {n:Int} {p:Pl} {w:Wt} {x:Bk} {c:Cm}
theorem tell_code {b:Book} {x:Bk}:(tellB b x).code=0:=by
 unfold tellB
 split<;>rfl
theorem keeps_open:(openB b c).1.now=b.now∧(openB b c).1.next=b.next:=by
 unfold openB
 split
 ·exact ⟨rfl,rfl⟩
 ·split
  ·exact ⟨rfl,rfl⟩
  ·split<;>exact ⟨rfl,rfl⟩
theorem keeps_one (k:BookOk b) (hx:x∈b.L):(oneB b x c).1.now=b.now∧(oneB b x c).1.next=b.next:=by
 unfold oneB
 split
 ·exact ⟨rfl,rfl⟩
 ·split
  ·split<;>exact ⟨rfl,rfl⟩
  ·split
   ·obtain ⟨_,p2,_,_⟩:=promote_ok (n:=x.flt) (core_gone k.core hx)
    refine ⟨p2.now.trans ?_,p2.next.trans ?_⟩<;>
    ·unfold gone dropB
     split<;>rfl
   ·split
    ·exact ⟨rfl,rfl⟩
    ·split
     ·split<;>exact ⟨rfl,rfl⟩
     ·split<;>exact ⟨rfl,rfl⟩
theorem wait_cases (k:BookOk b) (hc:RightC c) (hs:c.sc<18446744073709551616):
  ((waitB b c).2.code≠0∧(waitB b c).1=b)∨
  (∃ p y,b.at c.flt=some p∧¬ (p.r.lims.length:Int)≤c.cls∧¬ b.full∧(qadd p.q (waitW b c)).2=0∧Core (queued b c)∧
   y∈(promote c.flt (queued b c)).L∧y.id=b.next∧y.flt=c.flt∧y.cls=c.cls∧y.many=c.many∧y.till=0∧
   waitB b c=(promote c.flt (queued b c),tellB (promote c.flt (queued b c)) y)):=by
 unfold waitB
 cases hp:b.at c.flt with
 |none=>exact .inl ⟨by show (2:Int)≠0;omega,rfl⟩
 |some p=>
  dsimp only
  split
  ·exact .inl ⟨by show (1:Int)≠0;omega,rfl⟩
  rename_i h1
  split
  ·exact .inl ⟨by show (3:Int)≠0;omega,rfl⟩
  rename_i h2
  split
  ·rename_i h3;exact .inl ⟨h3,rfl⟩
  rename_i h3
  have h3:(qadd p.q (waitW b c)).2=0:=Classical.byContradiction h3
  have kc:=core_wait k.core hc hs hp h1 h2 h3
  obtain ⟨p1,p2,_,_⟩:=promote_ok (n:=c.flt) kc
  have hid:b.next∈(promote c.flt (queued b c)).L.map Bk.id:=by
   rw [p2.ids]
   exact List.mem_map.2 ⟨waitX b c,mem_snoc.2 (.inr rfl),rfl⟩
  obtain ⟨y,hy,he⟩:=List.mem_map.1 hid
  obtain ⟨z,hz,a1,a2,a3,a4,a5⟩:=p2.bk y hy
  have hzx:z=waitX b c:=by
   rcases mem_snoc.1 hz with hz|rfl
   ·have:=k.core.fresh hz;omega
   ·rfl
  subst hzx
  refine .inr ⟨p,y,rfl,h1,h2,h3,kc,hy,he,a2,a3,a4,a5,?_⟩
  rw [(bk_iff p1).2 ⟨hy,he⟩]
theorem names_apply (k:BookOk b) (hs:c.sc<18446744073709551616) (hk:c.kind=2∨c.kind=7) (he:(applyB b c).2.code=0):
  (applyB b c).2.pnr=locS b.next∧(applyB b c).2.flt=c.flt∧(applyB b c).2.cls=c.cls∧(applyB b c).2.many=c.many∧(applyB b c).1.next=b.next + 1∧b.next<28629151:=by
 unfold applyB at *
 by_cases h1:RightC c
 ·rw [if_neg (fun h=>h h1),if_neg (by omega)] at *
  by_cases h2:c.kind=2
  ·rw [if_pos h2] at *
   unfold heldB at *
   cases hp:b.at c.flt with
   |none=>rw [hp] at he;exact absurd he (by show (2:Int)≠0;omega)
   |some p=>
    rw [hp] at he
    dsimp only at he ⊢
    split at he
    ·exact absurd he (by show (1:Int)≠0;omega)
    rename_i h3
    split at he
    ·exact absurd he (by show (3:Int)≠0;omega)
    rename_i h4
    split at he
    ·rename_i h5;exact absurd he h5
    rename_i h5
    rw [if_neg h3,if_neg h4,if_neg h5]
    unfold Book.full at h4
    exact ⟨rfl,rfl,rfl,rfl,rfl,by omega⟩
  ·rw [if_neg h2,if_pos (by omega)] at *
   rcases wait_cases k h1 hs with ⟨h,_⟩|⟨_,y,_,_,h4,_,kc,hy,e1,e2,e3,e4,e5,e⟩
   ·exact absurd he h
   ·have p2:=(promote_ok (n:=c.flt) kc)
    obtain ⟨q,hq⟩:=p2.1.at_of hy
    rw [e]
    unfold tellB
    rw [hq]
    unfold Book.full at h4
    exact ⟨by show locS y.id=_;rw [e1],e2,e3,e4,p2.2.1.next,by omega⟩
 ·rw [if_pos h1] at he
  exact absurd he (by show (1:Int)≠0;omega)
theorem next_le (k:BookOk b) (hs:c.sc<18446744073709551616):b.next≤(applyB b c).1.next:=by
 unfold applyB
 split
 ·exact Int.le_refl _
 rename_i hc
 have hc:RightC c:=Classical.byContradiction hc
 split
 ·exact Int.le_of_eq keeps_open.2.symm
 split
 ·unfold heldB
  split
  ·exact Int.le_refl _
  ·split
   ·exact Int.le_refl _
   ·split
    ·exact Int.le_refl _
    ·split
     ·exact Int.le_refl _
     ·show b.next≤b.next + 1;omega
 split
 ·rcases wait_cases k hc hs with ⟨_,h⟩|⟨_,y,_,_,_,_,kc,_,_,_,_,_,_,e⟩
  ·rw [h];exact Int.le_refl _
  ·rw [e]
   have h2:(promote c.flt (queued b c)).next=b.next + 1:=(promote_ok (n:=c.flt) kc).2.1.next
   show b.next≤(promote c.flt (queued b c)).next
   omega
 split
 ·unfold clockB
  split
  ·exact Int.le_refl _
  ·obtain ⟨t1,t2,t3,t4,t5⟩:=ticked_ok k.core hc.time
   obtain ⟨p1,p2,p3,p4,p5,p6⟩:=promAll_ok (b.fl.map Pl.n) t1 t2 (fun _=>False) fun p _ h=>h.elim
   exact Int.le_of_eq (p4.trans t4).symm
 split
 ·exact Int.le_refl _
 split
 ·exact Int.le_refl _
 ·rename_i hnm
  exact Int.le_of_eq (keeps_one k (named_mem hnm)).2.symm
end Go.Proofs.YtfgbbckfikiomaaGreatDoor
/- The book, plainly: what a reply may be. No condition. -/
namespace Go.Proofs.YtfgbbckfikiomaaGreatDoor
set_option linter.unusedVariables false
open Go Go.VC
variable {b:Book} {n:Int} {p:Pl} {w:Wt} {x:Bk} {c:Cm} {r:RF}
theorem mnF_bd {f:Nat→Int}:∀ {k:Nat},(∀ i,i<k→0≤f i)→0≤mnF f k∧mnF f k≤10000
 |0,_=>by show (0:Int)≤10000∧(10000:Int)≤10000;omega
 |k + 1,h=>by
  have h1:=mnF_bd (k:=k) fun i hi=>h i (by omega)
  have h2:=h k (by omega)
  unfold mnF
  split<;>omega
theorem lefts_bd (g:Good r):(rleftsF r).length≤8∧∀ y∈rleftsF r,0≤y∧y≤10000:=by
 have h8:=(good_lims g).2.2
 refine ⟨by rw [lefts_len];exact h8,fun y hy=>?_⟩
 obtain ⟨k,hk,rfl⟩:=List.mem_map.1 hy
 have hk:=List.mem_range.1 hk
 rw [(left_val g hk).1]
 refine mnF_bd fun i hi=>?_
 have h:=(nestOk_iff.1 g.nest).2.2 i (by omega)
 unfold roomF
 omega
end Go.Proofs.YtfgbbckfikiomaaGreatDoor
/- The book, plainly: its bytes, and what is loaded of them. No condition. -/
namespace Go.Proofs.YtfgbbckfikiomaaGreatDoor
set_option linter.unusedVariables false
open Go Go.VC
open Classical
noncomputable section
variable {b:Book} {n:Int} {p:Pl} {w:Wt} {x:Bk} {r:RF}
def things (l:List Pl):Nat:=(l.map fun p=>p.r.L.length + p.q.length).sum
structure BkMay (b:Book) (x:Bk):Prop where
 id:1≤x.id∧x.id<b.next
 state:1≤x.state
 held:x.state=1→b.now<x.till
 free:x.state≠1→x.till=0
 has:∃ p,b.at x.flt=some p∧HasP p x
structure MayB (b:Book):Prop where
 next:1≤b.next
 nums:KRise Pl.n b.fl
 ids:KRise Bk.id b.L
 each:∀ x∈b.L,BkMay b x
 things:things b.fl=b.L.length
end
end Go.Proofs.YtfgbbckfikiomaaGreatDoor
/- The formulas of functions of this seat's translation, printed by a program of mine off the translation; each is proved equal to 'fnF' of the function's body, so it is enough for the call. No condition. -/
namespace Go.Proofs.YtfgbbckfikiomaaGreatDoor
open Go Go.VC
set_option linter.unusedVariables false
set_option maxRecDepth 10000
def B221 (b:Nat) (c:Nat) (K:Value→World→Prop) (w:World):Prop:=
 Calls Tryz.prog 258 #[.float .f64 b,.float .f64 c] w fun d e=>
 ∃ a:Int,(d=.returned (.int .i64 a))∧
 K (.int .i64 a) e
theorem call221 (a:Nat) (b:Nat) (K:Value→World→Prop) (w:World) (h:B221 a b K w):Gets Tryz.prog 221 #[.float .f64 a,.float .f64 b] w K:=cq (sk:=.leaf) Tryz.func221 (by kernel_rfl) (by kernel_rfl) (by kernel_rfl) h
def B258 (c:Nat) (d:Nat) (K:Value→World→Prop) (w:World):Prop:=
 Calls Tryz.prog 273 #[.float .f64 c] w fun j l=>
 ∃ i:Bool,(j=.returned (.bool i))∧
 Calls Tryz.prog 273 #[.float .f64 d] l fun k b=>
 ∃ e:Bool,(k=.returned (.bool e))∧
 Br i
 (Br e
 (K (.int .i64 0) b)
 (K (.int .i64 ((-1))) b))
 (Br e
 (K (.int .i64 1) b)
 (∃ f:Bool,(∀ a,(fun a=>a=b) a→((do eqGuard BinOp.lss 33 (Operand.tmp 14) (Operand.tmp 15) (.float .f64 c) (.float .f64 d);binOp BinOp.lss 33 (.float .f64 c) (.float .f64 d):Sem Value)).run Tryz.prog a=.ok (.bool f) a)∧
 Br f
 (K (.int .i64 ((-1))) b)
 (∃ g:Bool,(∀ a,(fun a=>a=b) a→((do eqGuard BinOp.gtr 33 (Operand.tmp 17) (Operand.tmp 18) (.float .f64 c) (.float .f64 d);binOp BinOp.gtr 33 (.float .f64 c) (.float .f64 d):Sem Value)).run Tryz.prog a=.ok (.bool g) a)∧
 Br g
 (K (.int .i64 1) b)
 (K (.int .i64 0) b))))
theorem call258 (a:Nat) (b:Nat) (K:Value→World→Prop) (w:World) (h:B258 a b K w):Gets Tryz.prog 258 #[.float .f64 a,.float .f64 b] w K:=cq (sk:=.leaf) Tryz.func258 (by kernel_rfl) (by kernel_rfl) (by kernel_rfl) h
def B273 (b:Nat) (K:Value→World→Prop) (w:World):Prop:=
 ∃ c:Bool,(∀ a,(fun a=>a=w) a→((do eqGuard BinOp.neq 33 (Operand.tmp 3) (Operand.tmp 4) (.float .f64 b) (.float .f64 b);binOp BinOp.neq 33 (.float .f64 b) (.float .f64 b):Sem Value)).run Tryz.prog a=.ok (.bool c) a)∧
 K (.bool c) w
theorem call273 (a:Nat) (K:Value→World→Prop) (w:World) (h:B273 a K w):Gets Tryz.prog 273 #[.float .f64 a] w K:=cq (sk:=.leaf) Tryz.func273 (by kernel_rfl) (by kernel_rfl) (by kernel_rfl) h
def B222 (c:Int) (d:Int) (K:Value→World→Prop) (w:World):Prop:=
 Calls Tryz.prog 259 #[.int .i64 c] w fun f i=>
 ∃ e:Bool,(f=.returned (.bool e))∧
 Calls Tryz.prog 259 #[.int .i64 d] i fun g a=>
 ∃ b:Bool,(g=.returned (.bool b))∧
 Br e
 (Br b
 (K (.int .i64 0) a)
 (K (.int .i64 ((-1))) a))
 (Br b
 (K (.int .i64 1) a)
 (Br (decide (c<d))
 (K (.int .i64 ((-1))) a)
 (Br (decide (c>d))
 (K (.int .i64 1) a)
 (K (.int .i64 0) a))))
theorem call222 (a:Int) (b:Int) (K:Value→World→Prop) (w:World) (h:B222 a b K w):Gets Tryz.prog 222 #[.int .i64 a,.int .i64 b] w K:=cq (sk:=.leaf) Tryz.func222 (by kernel_rfl) (by kernel_rfl) (by kernel_rfl) h
def B220 (f:Sl) (K:Value→World→Prop) (w:World):Prop:=
 ∃ (d:Int→World→Prop) (g:Int→World→Nat),(d 0 w)∧∀ (k:Env) (b:Int) (c:World),d b c→
 Br (decide (b<(↑f.len:Int)))
 (Rng b f.len (NilP f.a fun i=>
 ∃ e:Int,(At (fun j=>j=c) (Addr.add i b.toNat) [.int .i64 e])∧
 Br (e !=0)
 (K (.int .i64 e) c)
 ((d (IntKind.i64.wrap (b + 1)) c)∧g (IntKind.i64.wrap (b + 1)) c<g b c)))
 (K (.int .i64 0) c)
def sk220:Sk:=(.seq .leaf (.seq .leaf (.seq (.seq .leaf (.block (.loop [8] [(.int .i64)] [2,5,8,9,10,11,12,13,14,15,16] .leaf))) .leaf)))
theorem call220 (b:Sl) (K:Value→World→Prop) (w:World) (h:B220 b K w):Gets Tryz.prog 220 #[.slice b.a b.len b.cap] w K:=cq (sk:=sk220) Tryz.func220 (by kernel_rfl) (by kernel_rfl) (by kernel_rfl) h
def B111  (K:Value→World→Prop) (w:World):Prop:=
 New (.cells #[.slice none 0 0] 179 (0,0)) (fun a b=>
 K (.pointer ((some ⟨a,0,none⟩))) b) w
theorem call111  (K:Value→World→Prop) (w:World) (h:B111  K w):Gets Tryz.prog 111 #[] w K:=cq (sk:=.leaf) Tryz.func111 (by kernel_rfl) (by kernel_rfl) (by kernel_rfl) h
def B170 (z:Int) (A:Int) (C:Int) (D:Int) (E:Nat) (I:Int) (J:Int) (L:Int) (M:Int) (N:Nat) (K:Value→World→Prop) (w:World):Prop:=
 New (.cells #[.int .i64 z,.int .i64 A,.int .i64 C,.int .i64 D,.float .f64 E] 181 (0,0)) (fun b F=>
 New (.cells #[.int .i64 I,.int .i64 J,.int .i64 L,.int .i64 M,.float .f64 N] 181 (0,0)) (fun c G=>
 Drw G fun a H=>
 ∃ n:Nat,(At a ⟨c,0 + 4,none⟩ [.float .f64 n])∧
 ∃ d:Nat,(At a ⟨b,0 + 4,none⟩ [.float .f64 d])∧
 ∃ f:Int,(At a ⟨b,0 + 3,none⟩ [.int .i64 f])∧
 ∃ g:Int,(At a ⟨c,0 + 3,none⟩ [.int .i64 g])∧
 ∃ j:Int,(At a ⟨b,0,none⟩ [.int .i64 j])∧
 ∃ k:Int,(At a ⟨c,0,none⟩ [.int .i64 k])∧
 Calls Tryz.prog 221 #[.float .f64 n,.float .f64 d] H fun u o=>
 ∃ e:Int,(u=.returned (.int .i64 e))∧
 (a o)∧
 Calls Tryz.prog 222 #[.int .i64 f,.int .i64 g] o fun v p=>
 ∃ i:Int,(v=.returned (.int .i64 i))∧
 (a p)∧
 Calls Tryz.prog 222 #[.int .i64 j,.int .i64 k] p fun x q=>
 ∃ l:Int,(x=.returned (.int .i64 l))∧
 (a q)∧
 New (.cells #[.int .i64 e,.int .i64 i,.int .i64 l] 3 (0,0)) (fun t r=>
 (a r)∧
 Calls Tryz.prog 220 #[.slice ((some ⟨t,0,none⟩)) 3 3] r fun y s=>
 ∃ m:Int,(y=.returned (.int .i64 m))∧
 (a s)∧
 K (.int .i64 m) s) q) F) w
theorem call170 (a:Int) (b:Int) (c:Int) (d:Int) (e:Nat) (f:Int) (g:Int) (i:Int) (j:Int) (k:Nat) (K:Value→World→Prop) (w:World) (h:B170 a b c d e f g i j k K w):Gets Tryz.prog 170 #[.agg #[.int .i64 a,.int .i64 b,.int .i64 c,.int .i64 d,.float .f64 e],.agg #[.int .i64 f,.int .i64 g,.int .i64 i,.int .i64 j,.float .f64 k]] w K:=cq (sk:=.leaf) Tryz.func170 (by kernel_rfl) (by kernel_rfl) (by kernel_rfl) h
def B179 (t:Int) (u:Int) (v:Int) (x:Int) (y:Nat) (K:Value→World→Prop) (w:World):Prop:=
 New (.cells #[.int .i64 t,.int .i64 u,.int .i64 v,.int .i64 x,.float .f64 y] 181 (0,0)) (fun b o=>
 ∃ m:Int,(At (fun a=>a=o) ⟨b,0,none⟩ [.int .i64 m])∧
 Calls Tryz.prog 229 #[.int .i64 m,.int .i64 1,.int .i64 28629151] o fun p c=>
 ∃ n:Bool,(p=.returned (.bool n))∧
 Br n
 (∃ f:Int,(At (fun a=>a=c) ⟨b,0 + 1,none⟩ [.int .i64 f])∧
 Calls Tryz.prog 229 #[.int .i64 f,.int .i64 0,.int .i64 7] c fun q d=>
 ∃ g:Bool,(q=.returned (.bool g))∧
 Br g
 (∃ i:Int,(At (fun a=>a=d) ⟨b,0 + 2,none⟩ [.int .i64 i])∧
 Calls Tryz.prog 229 #[.int .i64 i,.int .i64 1,.int .i64 600] d fun r e=>
 ∃ j:Bool,(r=.returned (.bool j))∧
 Br j
 (∃ k:Int,(At (fun a=>a=e) ⟨b,0 + 3,none⟩ [.int .i64 k])∧
 Calls Tryz.prog 229 #[.int .i64 k,.int .i64 0,.int .i64 1099511627776] e fun s z=>
 ∃ l:Bool,(s=.returned (.bool l))∧
 K (.bool l) z)
 (K (.bool false) e))
 (K (.bool false) d))
 (K (.bool false) c)) w
theorem call179 (a:Int) (b:Int) (c:Int) (d:Int) (e:Nat) (K:Value→World→Prop) (w:World) (h:B179 a b c d e K w):Gets Tryz.prog 179 #[.agg #[.int .i64 a,.int .i64 b,.int .i64 c,.int .i64 d,.float .f64 e]] w K:=cq (sk:=.leaf) Tryz.func179 (by kernel_rfl) (by kernel_rfl) (by kernel_rfl) h
def B229 (a:Int) (c:Int) (b:Int) (K:Value→World→Prop) (w:World):Prop:=
 Br (decide (a ≥ c))
 (K (.bool (decide (a≤b))) w)
 (K (.bool false) w)
theorem call229 (c:Int) (b:Int) (a:Int) (K:Value→World→Prop) (w:World) (h:B229 c b a K w):Gets Tryz.prog 229 #[.int .i64 c,.int .i64 b,.int .i64 a] w K:=cq (sk:=.leaf) Tryz.func229 (by kernel_rfl) (by kernel_rfl) (by kernel_rfl) h
def B180 (j:Option Addr) (i:Int) (K:Value→World→Prop) (w:World):Prop:=
 New (.cells #[.int .i64 i] 3 (0,0)) (fun f d=>
 NilP j fun e=>
 ∃ b:Sl,(At (fun k=>k=d) (Addr.add e 0) [.slice b.a b.len b.cap])∧
 Calls Tryz.prog 230 #[.slice b.a b.len b.cap,.func (.func 231) #[] #[.pointer ((some ⟨f,0,none⟩))]] d fun g l=>
 ∃ c:Int,(g=.returned (.int .i64 c))∧
 K (.int .i64 c) l) w
theorem call180 (b:Option Addr) (a:Int) (K:Value→World→Prop) (w:World) (h:B180 b a K w):Gets Tryz.prog 180 #[.pointer b,.int .i64 a] w K:=cq (sk:=.leaf) Tryz.func180 (by kernel_rfl) (by kernel_rfl) (by kernel_rfl) h
def B231 (i:Int) (j:Int) (k:Int) (l:Int) (m:Nat) (g:Option Addr) (K:Value→World→Prop) (w:World):Prop:=
 New (.cells #[.int .i64 i,.int .i64 j,.int .i64 k,.int .i64 l,.float .f64 m] 181 (0,0)) (fun f b=>
 ∃ c:Int,(At (fun a=>a=b) ⟨f,0,none⟩ [.int .i64 c])∧
 NilP g fun e=>
 ∃ d:Int,(At (fun a=>a=b) e [.int .i64 d])∧
 K (.bool (c==d)) b) w
theorem call231 (b:Int) (c:Int) (d:Int) (e:Int) (f:Nat) (a:Option Addr) (K:Value→World→Prop) (w:World) (h:B231 b c d e f a K w):Gets Tryz.prog 231 #[.agg #[.int .i64 b,.int .i64 c,.int .i64 d,.int .i64 e,.float .f64 f],.pointer a] w K:=cq (sk:=.leaf) Tryz.func231 (by kernel_rfl) (by kernel_rfl) (by kernel_rfl) h
def B113 (f:Option Addr) (ai:Int) (aj:Int) (ak:Int) (al:Int) (am:Nat) (K:Value→World→Prop) (w:World):Prop:=
 New (.cells #[.int .i64 ai,.int .i64 aj,.int .i64 ak,.int .i64 al,.float .f64 am] 65 (0,0)) (fun o T=>
 ∃ L:Int,∃ M:Int,∃ N:Int,∃ O:Int,∃ Q:Nat,(At (fun b=>b=T) ⟨o,0,none⟩ [.int .i64 L,.int .i64 M,.int .i64 N,.int .i64 O,.float .f64 Q])∧
 New (.cells #[.int .i64 0,.int .i64 0,.int .i64 0,.int .i64 0,.float .f64 0] 181 (0,0)) (fun i an=>
 ∃ l:World,((Instr.storeAt 181 (.pointer ((some ⟨i,0,none⟩))) (.agg #[.int .i64 L,.int .i64 M,.int .i64 N,.int .i64 O,.float .f64 Q])).run Tryz.prog an=.ok () l)∧
 ∃ p:Int,∃ q:Int,∃ r:Int,∃ s:Int,∃ t:Nat,(At (fun b=>b=l) ⟨i,0,none⟩ [.int .i64 p,.int .i64 q,.int .i64 r,.int .i64 s,.float .f64 t])∧
 Calls Tryz.prog 179 #[.agg #[.int .i64 p,.int .i64 q,.int .i64 r,.int .i64 s,.float .f64 t]] l fun ad m=>
 ∃ u:Bool,(ad=.returned (.bool u))∧
 Br (!u)
 (K (.int .i64 1) m)
 (∃ v:Int,(At (fun b=>b=m) ⟨o,0,none⟩ [.int .i64 v])∧
 Calls Tryz.prog 180 #[.pointer f,.int .i64 v] m fun ae k=>
 ∃ x:Int,(ae=.returned (.int .i64 x))∧
 Br (decide (x ≥ 0))
 (K (.int .i64 7) k)
 (NilP f fun Y=>
 ∃ j:Sl,(At (fun b=>b=k) (Addr.add Y 0) [.slice j.a j.len j.cap])∧
 Br (decide ((↑j.len:Int) ≥ 200))
 (K (.int .i64 3) k)
 (Drw k fun n ao=>
 NilP f fun Z=>
 ∃ c:Sl,(At n (Addr.add Z 0) [.slice c.a c.len c.cap])∧
 ∃ y:Int,∃ z:Int,∃ A:Int,∃ C:Int,∃ D:Nat,(At n ⟨i,0,none⟩ [.int .i64 y,.int .i64 z,.int .i64 A,.int .i64 C,.float .f64 D])∧
 Calls Tryz.prog 181 #[.slice c.a c.len c.cap,.agg #[.int .i64 y,.int .i64 z,.int .i64 A,.int .i64 C,.float .f64 D],.func (.func 170) #[] #[]] ao fun af ap=>
 ∃ E:Int,∃ ah:Bool,(af=.returned (.tuple #[.int .i64 E,.bool ah]))∧
 Drw ap fun g aq=>
 NilP f fun aa=>
 ∃ d:Sl,(At g (Addr.add aa 0) [.slice d.a d.len d.cap])∧
 ∃ F:Int,∃ G:Int,∃ H:Int,∃ I:Int,∃ J:Nat,(At g ⟨i,0,none⟩ [.int .i64 F,.int .i64 G,.int .i64 H,.int .i64 I,.float .f64 J])∧
 New (.cells #[.int .i64 F,.int .i64 G,.int .i64 H,.int .i64 I,.float .f64 J] 181 (0,0)) (fun ac X=>
 (g X)∧
 Calls Tryz.prog 182 #[.slice d.a d.len d.cap,.int .i64 E,.slice ((some ⟨ac,0,none⟩)) 1 1] X fun ag U=>
 ∃ e:Sl,(ag=.returned (.slice e.a e.len e.cap))∧
 (g U)∧
 NilP f fun ab=>
 ∃ V:World,((Instr.storeAt 177 (.pointer ((some (Addr.add ab 0)))) (.slice e.a e.len e.cap)).run Tryz.prog U=.ok () V)∧
 K (.int .i64 0) V) aq)))) T) w
theorem call113 (a:Option Addr) (b:Int) (c:Int) (d:Int) (e:Int) (f:Nat) (K:Value→World→Prop) (w:World) (h:B113 a b c d e f K w):Gets Tryz.prog 113 #[.pointer a,.agg #[.int .i64 b,.int .i64 c,.int .i64 d,.int .i64 e,.float .f64 f]] w K:=cq (sk:=.leaf) Tryz.func113 (by kernel_rfl) (by kernel_rfl) (by kernel_rfl) h
def B116 (e:Option Addr) (m:Int) (K:Value→World→Prop) (w:World):Prop:=
 Calls Tryz.prog 180 #[.pointer e,.int .i64 m] w fun k f=>
 ∃ d:Int,(k=.returned (.int .i64 d))∧
 Br (decide (d<0))
 (K (.int .i64 2) f)
 (NilP e fun i=>
 ∃ b:Sl,(At (fun n=>n=f) (Addr.add i 0) [.slice b.a b.len b.cap])∧
 Calls Tryz.prog 185 #[.slice b.a b.len b.cap,.int .i64 d,.int .i64 (IntKind.i64.wrap (d + 1))] f fun l o=>
 ∃ c:Sl,(l=.returned (.slice c.a c.len c.cap))∧
 NilP e fun j=>
 ∃ g:World,((Instr.storeAt 177 (.pointer ((some (Addr.add j 0)))) (.slice c.a c.len c.cap)).run Tryz.prog o=.ok () g)∧
 K (.int .i64 0) g)
theorem call116 (b:Option Addr) (a:Int) (K:Value→World→Prop) (w:World) (h:B116 b a K w):Gets Tryz.prog 116 #[.pointer b,.int .i64 a] w K:=cq (sk:=.leaf) Tryz.func116 (by kernel_rfl) (by kernel_rfl) (by kernel_rfl) h
def B59 (C:Option Addr) (K:Value→World→Prop) (w:World):Prop:=
 NilP C fun z=>
 ∃ d:Sl,(At (fun f=>f=w) (Addr.add z 0) [.slice d.a d.len d.cap])∧
 ∃ (i:Sl→Int→World→Prop) (x:Sl→Int→World→Nat),(i ⟨none,0,0⟩ 0 w)∧∀ (F:Env) (b:Sl) (c:Int) (g:World),i b c g→
 Br (decide (c<(↑d.len:Int)))
 (Rng c d.len (NilP d.a fun y=>
 ∃ m:Int,∃ n:Int,∃ o:Int,∃ p:Int,∃ q:Nat,(At (fun f=>f=g) (Addr.add y (mulS c.toNat 5)) [.int .i64 m,.int .i64 n,.int .i64 o,.int .i64 p,.float .f64 q])∧
 New (.cells #[.int .i64 0,.int .i64 0,.int .i64 0,.int .i64 0,.float .f64 0] 181 (0,0)) (fun l D=>
 ∃ j:World,((Instr.storeAt 181 (.pointer ((some ⟨l,0,none⟩))) (.agg #[.int .i64 m,.int .i64 n,.int .i64 o,.int .i64 p,.float .f64 q])).run Tryz.prog D=.ok () j)∧
 ∃ r:Int,∃ s:Int,∃ t:Int,∃ u:Int,∃ v:Nat,(At (fun f=>f=j) ⟨l,0,none⟩ [.int .i64 r,.int .i64 s,.int .i64 t,.int .i64 u,.float .f64 v])∧
 New (.cells #[.int .i64 r,.int .i64 s,.int .i64 t,.int .i64 u,.float .f64 v] 65 (0,0)) (fun A E=>
 ∃ k:World,∃ e:Sl,((Builtin.append_ #[109,109] 109 #[.slice b.a b.len b.cap,.slice ((some ⟨A,0,none⟩)) 1 1]).run Tryz.prog E=.ok (.slice e.a e.len e.cap) k)∧
 (i e (IntKind.i64.wrap (c + 1)) k)∧x e (IntKind.i64.wrap (c + 1)) k<x b c g) j) g))
 (K (.slice b.a b.len b.cap) g)
def sk59:Sk:=(.seq .leaf (.seq .leaf (.seq (.seq .leaf (.block (.loop [3,11] [.sl,(.int .i64)] [3,5,11,12,13,14,15,16,17,18,19,20] .leaf))) .leaf)))
theorem call59 (a:Option Addr) (K:Value→World→Prop) (w:World) (h:B59 a K w):Gets Tryz.prog 59 #[.pointer a] w K:=cq (sk:=sk59) Tryz.func59 (by kernel_rfl) (by kernel_rfl) (by kernel_rfl) h
def B183 (Z:Option Addr) (m:Sl) (K:Value→World→Prop) (w:World):Prop:=
 New (.cells #[.int .i64 0,.int .i64 0,.int .i64 0,.int .i64 0,.float .f64 0] 65 (0,0)) (fun k T=>
 NilP Z fun Y=>
 ∃ d:Sl,(At (fun c=>c=T) (Addr.add Y 0) [.slice d.a d.len d.cap])∧
 ∃ (i:Int→World→Prop) (l:Int→World→Nat),(i 0 T)∧∀ (ab:Env) (b:Int) (e:World),i b e→
 Br (decide (b<(↑d.len:Int)))
 (Rng b d.len (NilP d.a fun V=>
 ∃ q:Int,∃ r:Int,∃ s:Int,∃ t:Int,∃ u:Nat,(At (fun c=>c=e) (Addr.add V (mulS b.toNat 5)) [.int .i64 q,.int .i64 r,.int .i64 s,.int .i64 t,.float .f64 u])∧
 New (.cells #[.int .i64 0,.int .i64 0,.int .i64 0,.int .i64 0,.float .f64 0] 181 (0,0)) (fun g aa=>
 ∃ U:World,((Instr.storeAt 181 (.pointer ((some ⟨g,0,none⟩))) (.agg #[.int .i64 q,.int .i64 r,.int .i64 s,.int .i64 t,.float .f64 u])).run Tryz.prog aa=.ok () U)∧
 Drw U fun j f=>
 ∃ v:Int,(At j ⟨g,0 + 1,none⟩ [.int .i64 v])∧
 Br (decide (v<(↑m.len:Int)))
 (∃ x:Int,(At j ⟨g,0 + 2,none⟩ [.int .i64 x])∧
 ∃ n:Int,(At j ⟨g,0 + 1,none⟩ [.int .i64 n])∧
 Rng n m.len (NilP m.a fun X=>
 ∃ y:Int,(At j (Addr.add X n.toNat) [.int .i64 y])∧
 Br (decide (x≤y))
 (∃ z:Int,∃ A:Int,∃ C:Int,∃ D:Int,∃ E:Nat,(At (fun c=>c=f) ⟨g,0,none⟩ [.int .i64 z,.int .i64 A,.int .i64 C,.int .i64 D,.float .f64 E])∧
 ∃ o:World,((Instr.storeAt 65 (.pointer ((some ⟨k,0,none⟩))) (.agg #[.int .i64 z,.int .i64 A,.int .i64 C,.int .i64 D,.float .f64 E])).run Tryz.prog f=.ok () o)∧
 ∃ F:Int,∃ G:Int,∃ H:Int,∃ I:Int,∃ J:Nat,(At (fun c=>c=o) ⟨k,0,none⟩ [.int .i64 F,.int .i64 G,.int .i64 H,.int .i64 I,.float .f64 J])∧
 K (.tuple #[.agg #[.int .i64 F,.int .i64 G,.int .i64 H,.int .i64 I,.float .f64 J],.bool true]) o)
 ((i (IntKind.i64.wrap (b + 1)) f)∧l (IntKind.i64.wrap (b + 1)) f<l b e)))
 ((i (IntKind.i64.wrap (b + 1)) f)∧l (IntKind.i64.wrap (b + 1)) f<l b e)) e))
 (∃ p:World,((Instr.storeAt 65 (.pointer ((some ⟨k,0,none⟩))) (.agg #[.int .i64 0,.int .i64 0,.int .i64 0,.int .i64 0,.float .f64 0])).run Tryz.prog e=.ok () p)∧
 ∃ L:Int,∃ M:Int,∃ N:Int,∃ O:Int,∃ Q:Nat,(At (fun c=>c=p) ⟨k,0,none⟩ [.int .i64 L,.int .i64 M,.int .i64 N,.int .i64 O,.float .f64 Q])∧
 K (.tuple #[.agg #[.int .i64 L,.int .i64 M,.int .i64 N,.int .i64 O,.float .f64 Q],.bool false]) p)) w
def sk183:Sk:=(.seq .leaf (.seq (.seq .leaf (.block (.loop [13] [(.int .i64)] [5,7,13,14,15,16,17,18,19,20,21,22,23,24,25,26,27,28,29,30,31,32,33,34,35,36,37] .leaf))) .leaf))
theorem call183 (c:Option Addr) (b:Sl) (K:Value→World→Prop) (w:World) (h:B183 c b K w):Gets Tryz.prog 183 #[.pointer c,.slice b.a b.len b.cap] w K:=cq (sk:=sk183) Tryz.func183 (by kernel_rfl) (by kernel_rfl) (by kernel_rfl) h
def B230 (e:Sl) (q:Value) (K:Value→World→Prop) (w:World):Prop:=
 ∃ (d:Int→World→Prop) (n:Int→World→Nat),(d 0 w)∧∀ (s:Env) (b:Int) (c:World),d b c→
 Br (decide (b<(↑e.len:Int)))
 (Rng b e.len (NilP e.a fun o=>
 ∃ g:Int,∃ i:Int,∃ j:Int,∃ k:Int,∃ l:Nat,(At (fun r=>r=c) (Addr.add o (mulS b.toNat 5)) [.int .i64 g,.int .i64 i,.int .i64 j,.int .i64 k,.float .f64 l])∧
 CalW Tryz.prog cl q [.agg #[.int .i64 g,.int .i64 i,.int .i64 j,.int .i64 k,.float .f64 l]] c fun p f=>
 ∃ m:Bool,(p=.returned (.bool m))∧
 Br m
 (K (.int .i64 b) f)
 ((d (IntKind.i64.wrap (b + 1)) f)∧n (IntKind.i64.wrap (b + 1)) f<n b c)))
 (K (.int .i64 ((-1))) c)
def sk230:Sk:=(.seq .leaf (.seq (.seq .leaf (.block (.loop [8] [(.int .i64)] [4,5,8,9,10,11,12,13,14,15,16,17,18] .leaf))) .leaf))
theorem call230 (b:Sl) (c:Value) (K:Value→World→Prop) (w:World) (h:B230 b c K w):Gets Tryz.prog 230 #[.slice b.a b.len b.cap,c] w K:=cq (sk:=sk230) Tryz.func230 (by kernel_rfl) (by kernel_rfl) (by kernel_rfl) h
def B181 (d:Sl) (U:Int) (V:Int) (X:Int) (Y:Int) (Z:Nat) (m:Value) (K:Value→World→Prop) (w:World):Prop:=
 New (.cells #[.int .i64 U,.int .i64 V,.int .i64 X,.int .i64 Y,.float .f64 Z] 181 (0,0)) (fun l aa=>
 ∃ (f:Int→Int→World→Prop) (i:Int→Int→World→Nat),(f 0 ((↑d.len:Int)) aa)∧∀ (ad:Env) (b:Int) (c:Int) (e:World),f b c e→
 Br (decide (b<c))
 (Drw e fun j ab=>
 Rng (IntKind.i64.wrap (shrI IntKind.u64 (IntKind.u64.wrap (IntKind.i64.wrap (b + c))) 1)) d.len (NilP d.a fun N=>
 ∃ n:Int,∃ o:Int,∃ p:Int,∃ q:Int,∃ r:Nat,(At j (Addr.add N (mulS (IntKind.i64.wrap (shrI IntKind.u64 (IntKind.u64.wrap (IntKind.i64.wrap (b + c))) 1)).toNat 5)) [.int .i64 n,.int .i64 o,.int .i64 p,.int .i64 q,.float .f64 r])∧
 ∃ s:Int,∃ t:Int,∃ u:Int,∃ v:Int,∃ x:Nat,(At j ⟨l,0,none⟩ [.int .i64 s,.int .i64 t,.int .i64 u,.int .i64 v,.float .f64 x])∧
 CalW Tryz.prog cl m [.agg #[.int .i64 n,.int .i64 o,.int .i64 p,.int .i64 q,.float .f64 r],.agg #[.int .i64 s,.int .i64 t,.int .i64 u,.int .i64 v,.float .f64 x]] ab fun Q g=>
 ∃ y:Int,(Q=.returned (.int .i64 y))∧
 Br (decide (y<0))
 ((f (IntKind.i64.wrap (IntKind.i64.wrap (shrI IntKind.u64 (IntKind.u64.wrap (IntKind.i64.wrap (b + c))) 1) + 1)) c g)∧i (IntKind.i64.wrap (IntKind.i64.wrap (shrI IntKind.u64 (IntKind.u64.wrap (IntKind.i64.wrap (b + c))) 1) + 1)) c g<i b c e)
 ((f b (IntKind.i64.wrap (shrI IntKind.u64 (IntKind.u64.wrap (IntKind.i64.wrap (b + c))) 1)) g)∧i b (IntKind.i64.wrap (shrI IntKind.u64 (IntKind.u64.wrap (IntKind.i64.wrap (b + c))) 1)) g<i b c e)))
 (Drw e fun k M=>
 Br (decide (b<(↑d.len:Int)))
 (Rng b d.len (NilP d.a fun O=>
 ∃ z:Int,∃ A:Int,∃ C:Int,∃ D:Int,∃ E:Nat,(At k (Addr.add O (mulS b.toNat 5)) [.int .i64 z,.int .i64 A,.int .i64 C,.int .i64 D,.float .f64 E])∧
 ∃ F:Int,∃ G:Int,∃ H:Int,∃ I:Int,∃ J:Nat,(At k ⟨l,0,none⟩ [.int .i64 F,.int .i64 G,.int .i64 H,.int .i64 I,.float .f64 J])∧
 CalW Tryz.prog cl m [.agg #[.int .i64 z,.int .i64 A,.int .i64 C,.int .i64 D,.float .f64 E],.agg #[.int .i64 F,.int .i64 G,.int .i64 H,.int .i64 I,.float .f64 J]] M fun T ac=>
 ∃ L:Int,(T=.returned (.int .i64 L))∧
 K (.tuple #[.int .i64 b,.bool (L==0)]) ac))
 (K (.tuple #[.int .i64 b,.bool false]) M))) w
def sk181:Sk:=(.seq .leaf (.seq .leaf (.seq .leaf (.seq (.block (.loop [9,10] [(.int .i64),(.int .i64)] [9,10,11,15,16,17,18,19,20,21,22,23,24,25,26,27,28,29,30,31,32,33,34] .leaf)) .leaf))))
theorem call181 (b:Sl) (d:Int) (e:Int) (f:Int) (g:Int) (i:Nat) (c:Value) (K:Value→World→Prop) (w:World) (h:B181 b d e f g i c K w):Gets Tryz.prog 181 #[.slice b.a b.len b.cap,.agg #[.int .i64 d,.int .i64 e,.int .i64 f,.int .i64 g,.float .f64 i],c] w K:=cq (sk:=sk181) Tryz.func181 (by kernel_rfl) (by kernel_rfl) (by kernel_rfl) h
def B182 (b:Sl) (d:Int) (c:Sl) (K:Value→World→Prop) (w:World):Prop:=
 ((0:Int)≤d)∧
 ((d:Int)≤(↑b.len:Int))∧
 Br ((↑c.len:Int)==0)
 (K (.slice b.a b.len b.cap) w)
 (Br (d==(↑b.len:Int))
 (∃ i:World,∃ f:Sl,((Builtin.append_ #[177,177] 177 #[.slice b.a b.len b.cap,.slice c.a c.len c.cap]).run Tryz.prog w=.ok (.slice f.a f.len f.cap) i)∧
 K (.slice f.a f.len f.cap) i)
 (Br (decide (IntKind.i64.wrap ((↑b.len:Int) + (↑c.len:Int))>(↑b.cap:Int)))
 (((0:Int)≤d)∧
 ((d:Int)≤(↑b.cap:Int))∧
 ∃ k:World,∃ e:Sl,((Builtin.append_ #[177,3] 177 #[.slice b.a d.toNat b.cap,.int .i64 (IntKind.i64.wrap (IntKind.i64.wrap ((↑b.len:Int) + (↑c.len:Int)) - d))]).run Tryz.prog w=.ok (.slice e.a e.len e.cap) k)∧
 ((0:Int)≤d)∧
 ((d:Int)≤(↑e.len:Int))∧
 ∃ l:World,∃ s:Int,((Builtin.copy_ #[177,177] 3 #[.slice (cutA e.a d.toNat e.cap 5) (e.len - d.toNat) (e.cap - d.toNat),.slice c.a c.len c.cap]).run Tryz.prog k=.ok (.int .i64 s) l)∧
 Drw l fun C z=>
 ((0:Int)≤IntKind.i64.wrap (d + (↑c.len:Int)))∧
 ((IntKind.i64.wrap (d + (↑c.len:Int)):Int)≤(↑e.len:Int))∧
 ((0:Int)≤d)∧
 ((d:Int)≤(↑b.len:Int))∧
 ∃ m:World,∃ t:Int,((Builtin.copy_ #[177,177] 3 #[.slice (cutA e.a (IntKind.i64.wrap (d + (↑c.len:Int))).toNat e.cap 5) (e.len - (IntKind.i64.wrap (d + (↑c.len:Int))).toNat) (e.cap - (IntKind.i64.wrap (d + (↑c.len:Int))).toNat),.slice (cutA b.a d.toNat b.cap 5) (b.len - d.toNat) (b.cap - d.toNat)]).run Tryz.prog z=.ok (.int .i64 t) m)∧
 K (.slice e.a e.len e.cap) m)
 (((0:Int)≤IntKind.i64.wrap ((↑b.len:Int) + (↑c.len:Int)))∧
 ((IntKind.i64.wrap ((↑b.len:Int) + (↑c.len:Int)):Int)≤(↑b.cap:Int))∧
 ((0:Int)≤IntKind.i64.wrap (d + (↑c.len:Int)))∧
 ((IntKind.i64.wrap (d + (↑c.len:Int)):Int)≤(↑(IntKind.i64.wrap ((↑b.len:Int) + (↑c.len:Int))).toNat:Int))∧
 Ext Tryz.prog 232 #[.slice c.a c.len c.cap,.slice (cutA b.a (IntKind.i64.wrap (d + (↑c.len:Int))).toNat b.cap 5) ((IntKind.i64.wrap ((↑b.len:Int) + (↑c.len:Int))).toNat - (IntKind.i64.wrap (d + (↑c.len:Int))).toNat) (b.cap - (IntKind.i64.wrap (d + (↑c.len:Int))).toNat)] w fun q n=>
 ∃ g:Bool,(q=.returned (.bool g))∧
 Br (!g)
 (Drw n fun D A=>
 ((0:Int)≤IntKind.i64.wrap (d + (↑c.len:Int)))∧
 ((IntKind.i64.wrap (d + (↑c.len:Int)):Int)≤(↑(IntKind.i64.wrap ((↑b.len:Int) + (↑c.len:Int))).toNat:Int))∧
 ((0:Int)≤d)∧
 ((d:Int)≤(↑(IntKind.i64.wrap ((↑b.len:Int) + (↑c.len:Int))).toNat:Int))∧
 ∃ o:World,∃ u:Int,((Builtin.copy_ #[177,177] 3 #[.slice (cutA b.a (IntKind.i64.wrap (d + (↑c.len:Int))).toNat b.cap 5) ((IntKind.i64.wrap ((↑b.len:Int) + (↑c.len:Int))).toNat - (IntKind.i64.wrap (d + (↑c.len:Int))).toNat) (b.cap - (IntKind.i64.wrap (d + (↑c.len:Int))).toNat),.slice (cutA b.a d.toNat b.cap 5) ((IntKind.i64.wrap ((↑b.len:Int) + (↑c.len:Int))).toNat - d.toNat) (b.cap - d.toNat)]).run Tryz.prog A=.ok (.int .i64 u) o)∧
 ((0:Int)≤d)∧
 ((d:Int)≤(↑(IntKind.i64.wrap ((↑b.len:Int) + (↑c.len:Int))).toNat:Int))∧
 ∃ p:World,∃ v:Int,((Builtin.copy_ #[177,177] 3 #[.slice (cutA b.a d.toNat b.cap 5) ((IntKind.i64.wrap ((↑b.len:Int) + (↑c.len:Int))).toNat - d.toNat) (b.cap - d.toNat),.slice c.a c.len c.cap]).run Tryz.prog o=.ok (.int .i64 v) p)∧
 K (.slice b.a ((IntKind.i64.wrap ((↑b.len:Int) + (↑c.len:Int))).toNat) b.cap) p)
 (((0:Int)≤(↑b.len:Int))∧
 (((↑b.len:Int):Int)≤(↑(IntKind.i64.wrap ((↑b.len:Int) + (↑c.len:Int))).toNat:Int))∧
 ∃ j:World,∃ x:Int,((Builtin.copy_ #[177,177] 3 #[.slice (cutA b.a (↑b.len:Int).toNat b.cap 5) ((IntKind.i64.wrap ((↑b.len:Int) + (↑c.len:Int))).toNat - (↑b.len:Int).toNat) (b.cap - (↑b.len:Int).toNat),.slice c.a c.len c.cap]).run Tryz.prog n=.ok (.int .i64 x) j)∧
 ((0:Int)≤d)∧
 ((d:Int)≤(↑(IntKind.i64.wrap ((↑b.len:Int) + (↑c.len:Int))).toNat:Int))∧
 Calls Tryz.prog 233 #[.slice (cutA b.a d.toNat b.cap 5) ((IntKind.i64.wrap ((↑b.len:Int) + (↑c.len:Int))).toNat - d.toNat) (b.cap - d.toNat),.int .i64 ((↑c.len:Int))] j fun r y=>
 (r=.returned (.tuple #[]))∧
 K (.slice b.a ((IntKind.i64.wrap ((↑b.len:Int) + (↑c.len:Int))).toNat) b.cap) y))))
theorem call182 (b:Sl) (d:Int) (c:Sl) (K:Value→World→Prop) (w:World) (h:B182 b d c K w):Gets Tryz.prog 182 #[.slice b.a b.len b.cap,.int .i64 d,.slice c.a c.len c.cap] w K:=cq (sk:=.leaf) Tryz.func182 (by kernel_rfl) (by kernel_rfl) (by kernel_rfl) h
def B185 (b:Sl) (e:Int) (d:Int) (K:Value→World→Prop) (w:World):Prop:=
 ((0:Int)≤(↑b.len:Int))∧
 (((↑b.len:Int):Int)≤(↑b.cap:Int))∧
 ((0:Int)≤d)∧
 ((d:Int)≤(↑(↑b.len:Int).toNat:Int))∧
 ((0:Int)≤e)∧
 ((e:Int)≤(↑d.toNat:Int))∧
 Br (e==d)
 (K (.slice b.a b.len b.cap) w)
 (Drw w fun j i=>
 ((0:Int)≤e)∧
 ((e:Int)≤(↑b.cap:Int))∧
 ((0:Int)≤d)∧
 ((d:Int)≤(↑b.len:Int))∧
 ∃ f:World,∃ c:Sl,((Builtin.append_ #[177,177] 177 #[.slice b.a e.toNat b.cap,.slice (cutA b.a d.toNat b.cap 5) (b.len - d.toNat) (b.cap - d.toNat)]).run Tryz.prog i=.ok (.slice c.a c.len c.cap) f)∧
 ((0:Int)≤(↑b.len:Int))∧
 (((↑b.len:Int):Int)≤(↑c.cap:Int))∧
 ((0:Int)≤(↑c.len:Int))∧
 (((↑c.len:Int):Int)≤(↑(↑b.len:Int).toNat:Int))∧
 ∃ g:World,((Builtin.clear_ #[177] 0 #[.slice (cutA c.a (↑c.len:Int).toNat c.cap 5) ((↑b.len:Int).toNat - (↑c.len:Int).toNat) (c.cap - (↑c.len:Int).toNat)]).run Tryz.prog f=.ok (.tuple #[]) g)∧
 K (.slice c.a c.len c.cap) g)
theorem call185 (b:Sl) (c:Int) (d:Int) (K:Value→World→Prop) (w:World) (h:B185 b c d K w):Gets Tryz.prog 185 #[.slice b.a b.len b.cap,.int .i64 c,.int .i64 d] w K:=cq (sk:=.leaf) Tryz.func185 (by kernel_rfl) (by kernel_rfl) (by kernel_rfl) h
def B191  (K:Value→World→Prop) (w:World):Prop:=
 New (.cells #[.int .i64 0] 3 (0,0)) (fun a e=>
 New (.cells #[.int .i64 0] 3 (0,0)) (fun b f=>
 ∃ c:World,((Instr.storeAt 3 (.pointer ((some ⟨a,0,none⟩))) (.int .i64 0)).run Tryz.prog f=.ok () c)∧
 ∃ d:World,((Instr.storeAt 3 (.pointer ((some ⟨b,0,none⟩))) (.int .i64 2)).run Tryz.prog c=.ok () d)∧
 K (.func (.func 241) #[] #[.pointer ((some ⟨a,0,none⟩)),.pointer ((some ⟨b,0,none⟩))]) d) e) w
theorem call191  (K:Value→World→Prop) (w:World) (h:B191  K w):Gets Tryz.prog 191 #[] w K:=cq (sk:=.leaf) Tryz.func191 (by kernel_rfl) (by kernel_rfl) (by kernel_rfl) h
def B241 (o:Int) (b:Option Addr) (c:Option Addr) (K:Value→World→Prop) (w:World):Prop:=
 NilP b fun m=>
 ∃ i:Int,(At (fun a=>a=w) m [.int .i64 i])∧
 NilP c fun n=>
 ∃ j:Int,(At (fun a=>a=w) n [.int .i64 j])∧
 ∃ d:World,((Instr.storeAt 3 (.pointer b) (.int .i64 ((IntKind.i64.wrap (i + IntKind.i64.wrap (j * o))).tmod 31))).run Tryz.prog w=.ok () d)∧
 NilP c fun k=>
 ∃ f:Int,(At (fun a=>a=d) k [.int .i64 f])∧
 ∃ e:World,((Instr.storeAt 3 (.pointer c) (.int .i64 (IntKind.i64.wrap (f + 1)))).run Tryz.prog d=.ok () e)∧
 NilP b fun l=>
 ∃ g:Int,(At (fun a=>a=e) l [.int .i64 g])∧
 K (.int .i64 g) e
theorem call241 (c:Int) (a:Option Addr) (b:Option Addr) (K:Value→World→Prop) (w:World) (h:B241 c a b K w):Gets Tryz.prog 241 #[.int .i64 c,.pointer a,.pointer b] w K:=cq (sk:=.leaf) Tryz.func241 (by kernel_rfl) (by kernel_rfl) (by kernel_rfl) h
def B129 (m:Int) (K:Value→World→Prop) (w:World):Prop:=
 ∃ (r:World→Prop),(Br (decide (m<0))
 (K (.tuple #[.string (ByteArray.mk #[]),.int .i64 1]) w)
 (Br (decide (m ≥ 28629151))
 (K (.tuple #[.string (ByteArray.mk #[]),.int .i64 1]) w)
 (r  w)))∧
 ∀ (L:Env)  (z:World),r  z→
 New (.cells #[.int .u8 0,.int .u8 0,.int .u8 0,.int .u8 0,.int .u8 0,.int .u8 0] 234 (0,0)) (fun l I=>
 New (.cells #[.int .i64 0,.int .i64 0,.int .i64 0,.int .i64 0,.int .i64 0] 235 (0,0)) (fun s J=>
 ∃ (j:Int→Int→World→Prop) (E:Int→Int→World→Nat),(j m 4 J)∧∀ (M:Env) (d:Int) (b:Int) (g:World),j d b g→
 Br (decide (b ≥ 0))
 (Rng b 5 (∃ q:World,((Instr.storeAt 3 (.pointer ((some (Addr.add ⟨s,0,none⟩ b.toNat)))) (.int .i64 (d.tmod 31))).run Tryz.prog g=.ok () q)∧
 (j (IntKind.i64.wrap (d.tdiv 31)) (IntKind.i64.wrap (b - 1)) q)∧E (IntKind.i64.wrap (d.tdiv 31)) (IntKind.i64.wrap (b - 1)) q<E d b g))
 (Calls Tryz.prog 191 #[] g fun G A=>
 ∃ t:Value,(G=.returned (t))∧
 ∃ n:List Value,(n.length=5)∧
 (At (fun c=>c=A) ⟨s,0,none⟩ n)∧
 ∃ (k:Int→Int→World→Prop) (F:Int→Int→World→Nat),(k 0 0 A)∧∀ (N:Env) (e:Int) (a:Int) (i:World),k e a i→
 Br (decide (a<5))
 (Rng a 5 (∃ f:Int,(n.toArray[a.toNat]? =some (Value.int IntKind.i64 f))∧
 ∃ u:UInt8,((0:Int)≤f)∧
 ((ByteArray.mk #[65,66,67,68,69,70,71,72,74,75,76,77,78,80,81,82,84,85,86,87,88,89,90,50,51,52,53,54,55,56,57])[f.toNat]? =some u)∧
 Rng a 6 (∃ C:World,((Instr.storeAt 5 (.pointer ((some (Addr.add ⟨l,0,none⟩ a.toNat)))) (.int .u8 ((↑u.toNat:Int)))).run Tryz.prog i=.ok () C)∧
 CalW Tryz.prog cl t [.int .i64 f] C fun H D=>
 ∃ o:Int,(H=.returned (.int .i64 o))∧
 (k o (IntKind.i64.wrap (a + 1)) D)∧F o (IntKind.i64.wrap (a + 1)) D<F e a i)))
 (∃ v:UInt8,((0:Int)≤(IntKind.i64.wrap (31 - e)).tmod 31)∧
 ((ByteArray.mk #[65,66,67,68,69,70,71,72,74,75,76,77,78,80,81,82,84,85,86,87,88,89,90,50,51,52,53,54,55,56,57])[((IntKind.i64.wrap (31 - e)).tmod 31).toNat]? =some v)∧
 ∃ p:World,((Instr.storeAt 5 (.pointer ((some (Addr.add ⟨l,0,none⟩ 5)))) (.int .u8 ((↑v.toNat:Int)))).run Tryz.prog i=.ok () p)∧
 ∃ x:Addr,(some (Addr.mk l 0 none)=some x)∧
 ∃ y:ByteArray,(∀ c,(fun c=>c=p) c→((convert 42 9 (.slice ((some (x))) 6 6))).run Tryz.prog c=.ok (.string y) c)∧
 K (.tuple #[.string y,.int .i64 0]) p))) I) z
def sk129:Sk:=(.seq .leaf (.cut [] [] [2,3,11,12,13,14,15,16] .leaf (.seq .leaf (.seq .leaf (.seq (.seq .leaf (.block (.loop [0,6] [(.int .i64),(.int .i64)] [0,6,17,18,19,20,21,22,23,24,25,26] .leaf))) (.seq .leaf (.seq (.seq .leaf (.block (.loop [8,29] [(.int .i64),(.int .i64)] [8,9,10,29,30,31,32,33,34,35,36,37,38,39,40] .leaf))) .leaf)))))))
theorem call129 (a:Int) (K:Value→World→Prop) (w:World) (h:B129 a K w):Gets Tryz.prog 129 #[.int .i64 a] w K:=cq (sk:=sk129) Tryz.func129 (by kernel_rfl) (by kernel_rfl) (by kernel_rfl) h
def B119 (l:ByteArray) (K:Value→World→Prop) (w:World):Prop:=
 Br ((↑l.size:Int) !=6)
 (K (.tuple #[.int .i64 0,.int .i64 6]) w)
 (Calls Tryz.prog 191 #[] w fun r v=>
 ∃ m:Value,(r=.returned (m))∧
 New (.stringIter l 0) (fun q x=>
 ∃ (e:Int→Int→World→Prop) (g:Int→Int→World→Nat),(e 0 0 x)∧∀ (A:Env) (a:Int) (b:Int) (f:World),e a b f→
 NextS ((some ⟨q,0,none⟩)) (fun u k y=>
 Calls Tryz.prog 192 #[.string (ByteArray.mk #[65,66,67,68,69,70,71,72,74,75,76,77,78,80,81,82,84,85,86,87,88,89,90,50,51,52,53,54,55,56,57]),.int .u8 (IntKind.u8.wrap k)] y fun s o=>
 ∃ c:Int,(s=.returned (.int .i64 c))∧
 ∃ (i:Bool→World→Prop),(Br (decide (c<0))
 (i true o)
 (i (decide (k>90)) o))∧
 ∀ (C:Env) (n:Bool) (d:World),i n d→
 Br n
 (K (.tuple #[.int .i64 0,.int .i64 6]) d)
 (Br (decide (u<5))
 (CalW Tryz.prog cl m [.int .i64 c] d fun t p=>
 ∃ j:Int,(t=.returned (.int .i64 j))∧
 (e (IntKind.i64.wrap (IntKind.i64.wrap (a * 31) + c)) j p)∧g (IntKind.i64.wrap (IntKind.i64.wrap (a * 31) + c)) j p<g a b f)
 (Br ((IntKind.i64.wrap (b + c)).tmod 31 !=0)
 (K (.tuple #[.int .i64 0,.int .i64 6]) d)
 ((e a b d)∧g a b d<g a b f))))
 (fun z=>
 K (.tuple #[.int .i64 a,.int .i64 0]) z) f) v)
def sk119:Sk:=(.seq .leaf (.seq .leaf (.seq .leaf (.seq (.seq .leaf (.block (.loop [5,6] [(.int .i64),(.int .i64)] [2,3,5,6,7,8,9,16,17,18,19,20,21,22,23,24,25,26,27,28,29,30,31,32,33,34,35,36,37,38,39,40,41,42,43,44,45] (.seq .leaf (.seq .leaf (.block (.seq .leaf (.seq .leaf (.block (.cut [23] [.bool] [23,24,25,26,27,28,29] .leaf .leaf)))))))))) .leaf))))
theorem call119 (a:ByteArray) (K:Value→World→Prop) (w:World) (h:B119 a K w):Gets Tryz.prog 119 #[.string a] w K:=cq (sk:=sk119) Tryz.func119 (by kernel_rfl) (by kernel_rfl) (by kernel_rfl) h
def B192 (d:ByteArray) (b:Int) (K:Value→World→Prop) (w:World):Prop:=
 Calls Tryz.prog 242 #[.string d,.int .u8 b] w fun c e=>
 ∃ a:Int,(c=.returned (.int .i64 a))∧
 K (.int .i64 a) e
theorem call192 (b:ByteArray) (a:Int) (K:Value→World→Prop) (w:World) (h:B192 b a K w):Gets Tryz.prog 192 #[.string b,.int .u8 a] w K:=cq (sk:=.leaf) Tryz.func192 (by kernel_rfl) (by kernel_rfl) (by kernel_rfl) h
def B242 (d:ByteArray) (b:Int) (K:Value→World→Prop) (w:World):Prop:=
 Ext Tryz.prog 267 #[.string d,.int .u8 b] w fun c e=>
 ∃ a:Int,(c=.returned (.int .i64 a))∧
 K (.int .i64 a) e
theorem call242 (b:ByteArray) (a:Int) (K:Value→World→Prop) (w:World) (h:B242 b a K w):Gets Tryz.prog 242 #[.string b,.int .u8 a] w K:=cq (sk:=.leaf) Tryz.func242 (by kernel_rfl) (by kernel_rfl) (by kernel_rfl) h
end Go.Proofs.YtfgbbckfikiomaaGreatDoor
/- The formulas of functions of this seat's translation, printed by a program of mine off the translation; each is proved equal to 'fnF' of the function's body, so it is enough for the call. No condition. -/
namespace Go.Proofs.YtfgbbckfikiomaaGreatDoor
open Go Go.VC
set_option linter.unusedVariables false
set_option maxRecDepth 10000
def B40 (c:Bool) (b:Int) (a:List PanicEntry→World→Prop) (K:Value→World→Prop) (w:World):Prop:=
 Br (!c)
 (a [⟨.iface 27 (.int .i64 b),false,false⟩] w)
 (K (.tuple #[]) w)
theorem call40 (c:Bool) (b:Int) (a:List PanicEntry→World→Prop) (K:Value→World→Prop) (w:World) (h:B40 c b a K w):GetsX Tryz.prog 40 #[.bool c,.int .i64 b] w a K:=cqx (sk:=.leaf) Tryz.func40 (by kernel_rfl) (by kernel_rfl) (by kernel_rfl) h
def B110 (a:Int) (b:List PanicEntry→World→Prop) (K:Value→World→Prop) (w:World):Prop:=
 Br (a !=0)
 (b [⟨.iface 27 (.int .i64 a),false,false⟩] w)
 (K (.tuple #[]) w)
theorem call110 (b:Int) (a:List PanicEntry→World→Prop) (K:Value→World→Prop) (w:World) (h:B110 b a K w):GetsX Tryz.prog 110 #[.int .i64 b] w a K:=cqx (sk:=.leaf) Tryz.func110 (by kernel_rfl) (by kernel_rfl) (by kernel_rfl) h
def B39 (g:Option Addr) (b:Value) (K:World→Prop) (w:World):Prop:=
 ∃ c:Bool,(∀ a,(fun a=>a=w) a→((do eqGuard BinOp.neq 20 (Operand.tmp 4) (Operand.const Value.nilIface) b .nilIface;binOp BinOp.neq 20 b .nilIface:Sem Value)).run Tryz.prog a=.ok (.bool c) a)∧
 Br c
 (∃ d:Int,(∀ a,(fun a=>a=w) a→((Instr.typeAssert b 20 27 false)).run Tryz.prog a=.ok (.int .i64 d) a)∧
 NilP g fun f=>
 ∃ e:World,((Instr.storeAt 31 (.pointer ((some (f)))) (.agg #[.int .i64 d,.string (ByteArray.mk #[]),.int .i64 0,.int .i64 0,.int .i64 0,.int .i64 0,.int .i64 0,.slice none 0 0,.slice none 0 0])).run Tryz.prog w=.ok () e)∧
 K e)
 (K w)
theorem callP39 (b:Option Addr) (a:Value) (K:World→Prop) (w:World) (h:B39 b a K w):CallsD Tryz.prog 39 #[.pointer b] (.panicking [⟨a,false,false⟩]) w fun c d e=>(∃ f,c=.returned f)∧d=.panicking [⟨a,true,false⟩]∧K e:=
 rec_panic (sk:=.leaf) cl_ok mixed Tryz.func39 (by kernel_rfl) (Nat.le_of_ble_eq_true (by kernel_rfl)) (cast (by kernel_rfl) h)
theorem callR39 (a:Option Addr) (K:World→Prop) (w:World) (h:B39 a .nilIface K w):CallsD Tryz.prog 39 #[.pointer a] .returning w fun b c d=>(∃ e,b=.returned e)∧c=.returning∧K d:=
 rec_return (sk:=.leaf) cl_ok mixed Tryz.func39 (by kernel_rfl) (Nat.le_of_ble_eq_true (by kernel_rfl)) (cast (by kernel_rfl) h)
def B41 (Q:Int) (T:ByteArray) (U:Int) (V:Int) (X:Int) (Y:Int) (Z:Nat) (aa:ByteArray) (ab:Int) (r:Sl) (q:Sl) (K:Value→World→Prop) (w:World):Prop:=
 New (.cells #[.int .i64 Q,.string T,.int .i64 U,.int .i64 V,.int .i64 X,.int .i64 Y,.float .f64 Z,.string aa,.int .i64 ab,.slice r.a r.len r.cap,.slice q.a q.len q.cap] 38 (0,0)) (fun c j=>
 ∃ H:Int,(At (fun b=>b=j) ⟨c,0 + 2,none⟩ [.int .i64 H])∧
 ∃ u:Int,(At (fun b=>b=j) ⟨c,0 + 3,none⟩ [.int .i64 u])∧
 ∃ v:Int,(At (fun b=>b=j) ⟨c,0 + 4,none⟩ [.int .i64 v])∧
 ∃ x:Int,(At (fun b=>b=j) ⟨c,0 + 8,none⟩ [.int .i64 x])∧
 New (.cells #[.int .i64 H,.int .i64 u,.int .i64 v,.int .i64 x] 3 (0,0)) (fun O J=>
 ∃ g:Sl,(At (fun b=>b=J) ⟨c,0 + 8 + 1,none⟩ [.slice g.a g.len g.cap])∧
 ∃ L:World,∃ i:Sl,((Builtin.append_ #[28,28] 28 #[.slice ((some ⟨O,0,none⟩)) 4 4,.slice g.a g.len g.cap]).run Tryz.prog J=.ok (.slice i.a i.len i.cap) L)∧
 ∃ (n:Int→World→Prop) (M:Int→World→Nat),(n 0 L)∧∀ (ad:Env) (f:Int) (e:World),n f e→
 Br (decide (f<(↑i.len:Int)))
 (Rng f i.len (NilP i.a fun N=>
 ∃ y:Int,(At (fun b=>b=e) (Addr.add N f.toNat) [.int .i64 y])∧
 Calls Tryz.prog 108 #[.int .i64 y] e fun ac s=>
 ∃ z:Bool,(ac=.returned (.bool z))∧
 Br z
 (K (.bool false) s)
 ((n (IntKind.i64.wrap (f + 1)) s)∧M (IntKind.i64.wrap (f + 1)) s<M f e)))
 (∃ (o:Bool→World→Prop),(∃ A:ByteArray,(At (fun b=>b=e) ⟨c,0 + 1,none⟩ [.string A])∧
 Br (decide ((↑A.size:Int)≤16))
 (∃ C:ByteArray,(At (fun b=>b=e) ⟨c,0 + 7,none⟩ [.string C])∧
 o (decide ((↑C.size:Int)≤16)) e)
 (o false e))∧
 ∀ (ae:Env) (I:Bool) (k:World),o I k→
 ∃ (p:Bool→World→Prop),(∃ l:Sl,(At (fun b=>b=k) ⟨c,0 + 8 + 1,none⟩ [.slice l.a l.len l.cap])∧
 Br (decide ((↑l.len:Int)≤16))
 (∃ m:Sl,(At (fun b=>b=k) ⟨c,0 + 10,none⟩ [.slice m.a m.len m.cap])∧
 p (decide ((↑m.len:Int)≤16)) k)
 (p false k))∧
 ∀ (af:Env) (t:Bool) (d:World),p t d→
 Br I
 (Br t
 (∃ D:Int,(At (fun b=>b=d) ⟨c,0,none⟩ [.int .i64 D])∧
 Br (decide (D ≥ 1))
 (∃ E:Int,(At (fun b=>b=d) ⟨c,0,none⟩ [.int .i64 E])∧
 Br (decide (E≤9))
 (∃ F:Int,(At (fun b=>b=d) ⟨c,0 + 5,none⟩ [.int .i64 F])∧
 Br (decide (F ≥ 0))
 (∃ G:Int,(At (fun b=>b=d) ⟨c,0 + 5,none⟩ [.int .i64 G])∧
 K (.bool (decide (G≤1099511627776))) d)
 (K (.bool false) d))
 (K (.bool false) d))
 (K (.bool false) d))
 (K (.bool false) d))
 (K (.bool false) d))) j) w
def sk41:Sk:=(.seq .leaf (.seq .leaf (.seq (.seq .leaf (.block (.loop [23] [(.int .i64)] [2,5,23,24,25,26,27,28,29,30] .leaf))) (.cut [6] [.bool] [6,31,32,33,34,35,36,37,38,39,40] .leaf (.cut [7] [.bool] [7,41,42,43,44,45,46,47,48,49,50,51] .leaf .leaf)))))
theorem call41 (d:Int) (e:ByteArray) (f:Int) (g:Int) (i:Int) (j:Int) (k:Nat) (l:ByteArray) (m:Int) (c:Sl) (b:Sl) (K:Value→World→Prop) (w:World) (h:B41 d e f g i j k l m c b K w):Gets Tryz.prog 41 #[.agg #[.int .i64 d,.string e,.int .i64 f,.int .i64 g,.int .i64 i,.int .i64 j,.float .f64 k,.string l,.int .i64 m,.slice c.a c.len c.cap,.slice b.a b.len b.cap]] w K:=cq (sk:=sk41) Tryz.func41 (by kernel_rfl) (by kernel_rfl) (by kernel_rfl) h
def B108 (a:Int) (K:Value→World→Prop) (w:World):Prop:=
 Br (decide (a<0))
 (K (.bool true) w)
 (K (.bool (decide (a>9999))) w)
theorem call108 (a:Int) (K:Value→World→Prop) (w:World) (h:B108 a K w):Gets Tryz.prog 108 #[.int .i64 a] w K:=cq (sk:=.leaf) Tryz.func108 (by kernel_rfl) (by kernel_rfl) (by kernel_rfl) h
def B14  (K:Value→World→Prop) (w:World):Prop:=
 New (.map #[] 0) (fun a d=>
 New (.map #[] 0) (fun b e=>
 New (.cells #[.int .i64 0,.int .i64 1,.map ((some a)),.map ((some b))] 80 (0,0)) (fun c f=>
 K (.pointer ((some ⟨c,0,none⟩))) f) e) d) w
theorem call14  (K:Value→World→Prop) (w:World) (h:B14  K w):Gets Tryz.prog 14 #[] w K:=cq (sk:=.leaf) Tryz.func14 (by kernel_rfl) (by kernel_rfl) (by kernel_rfl) h
def B46 (s:Option Addr) (t:ByteArray) (c:List PanicEntry→World→Prop) (K:Value→World→Prop) (w:World):Prop:=
 Calls Tryz.prog 119 #[.string t] w fun i q=>
 (∃ l:Int,∃ m:Int,(i=.returned (.tuple #[.int .i64 l,.int .i64 m]))∧
 Calls Tryz.prog 110 #[.int .i64 m] q fun j b=>
 ((j=.returned (.tuple #[]))∧
 NilP s fun d=>
 ∃ n:Option Nat,(At (fun a=>a=b) ⟨d.block,d.off + 3,none⟩ [.map n])∧
 ∃ o:Option Addr,∃ p:Bool,(∀ a,(fun a=>a=b) a→((Instr.lookup 78 (.map n) (.int .i64 l) true)).run Tryz.prog a=.ok (.tuple #[.pointer o,.bool p]) a)∧
 Calls Tryz.prog 40 #[.bool p,.int .i64 2] b fun k r=>
 ((k=.returned (.tuple #[]))∧
 K (.pointer o) r)∨
 (∃ g:List PanicEntry,(k=.panicked g)∧c g r))∨
 (∃ f:List PanicEntry,(j=.panicked f)∧c f b))∨
 (∃ e:List PanicEntry,(i=.panicked e)∧c e q)
theorem call46 (b:Option Addr) (c:ByteArray) (a:List PanicEntry→World→Prop) (K:Value→World→Prop) (w:World) (h:B46 b c a K w):GetsX Tryz.prog 46 #[.pointer b,.string c] w a K:=cqx (sk:=.leaf) Tryz.func46 (by kernel_rfl) (by kernel_rfl) (by kernel_rfl) h
def B57 (u:Option Addr) (v:Int) (t:List PanicEntry→World→Prop) (K:Value→World→Prop) (w:World):Prop:=
 New (.cells #[.pointer none,.pointer none] 102 (0,0)) (fun g b=>
 NilP u fun e=>
 ∃ k:Option Nat,(At (fun a=>a=b) ⟨e.block,e.off + 2,none⟩ [.map k])∧
 ∃ l:Option Addr,∃ m:Option Addr,∃ n:Bool,(∀ a,(fun a=>a=b) a→((Instr.lookup 77 (.map k) (.int .i64 v) true)).run Tryz.prog a=.ok (.tuple #[.agg #[.pointer l,.pointer m],.bool n]) a)∧
 New (.cells #[.pointer none,.pointer none] 102 (0,0)) (fun f x=>
 ∃ s:World,((Instr.storeAt 102 (.pointer ((some ⟨f,0,none⟩))) (.agg #[.pointer l,.pointer m])).run Tryz.prog x=.ok () s)∧
 Calls Tryz.prog 40 #[.bool n,.int .i64 2] s fun j c=>
 ((j=.returned (.tuple #[]))∧
 ∃ o:Option Addr,∃ p:Option Addr,(At (fun a=>a=c) ⟨f,0,none⟩ [.pointer o,.pointer p])∧
 ∃ d:World,((Instr.storeAt 102 (.pointer ((some ⟨g,0,none⟩))) (.agg #[.pointer o,.pointer p])).run Tryz.prog c=.ok () d)∧
 ∃ q:Option Addr,∃ r:Option Addr,(At (fun a=>a=d) ⟨g,0,none⟩ [.pointer q,.pointer r])∧
 K (.agg #[.pointer q,.pointer r]) d)∨
 (∃ i:List PanicEntry,(j=.panicked i)∧t i c)) b) w
theorem call57 (b:Option Addr) (c:Int) (a:List PanicEntry→World→Prop) (K:Value→World→Prop) (w:World) (h:B57 b c a K w):GetsX Tryz.prog 57 #[.pointer b,.int .i64 c] w a K:=cqx (sk:=.leaf) Tryz.func57 (by kernel_rfl) (by kernel_rfl) (by kernel_rfl) h
def B114 (E:Option Addr) (b2:Int) (K:Value→World→Prop) (w:World):Prop:=
 NilP E fun D=>
 ∃ J:Option Nat,(At (fun b=>b=w) ⟨D.block,D.off + 2,none⟩ [.map J])∧
 ∃ L:Option Addr,∃ M:Option Addr,(∀ b,(fun b=>b=w) b→((Instr.lookup 77 (.map J) (.int .i64 b2) false)).run Tryz.prog b=.ok (.agg #[.pointer L,.pointer M]) b)∧
 New (.cells #[.pointer none,.pointer none] 102 (0,0)) (fun f b5=>
 ∃ bd:World,((Instr.storeAt 102 (.pointer ((some ⟨f,0,none⟩))) (.agg #[.pointer L,.pointer M])).run Tryz.prog b5=.ok () bd)∧
 ∃ (l:Option Addr→Bool→World→Prop),(Drw bd fun c bh=>
 ∃ o:Option Addr,(At c ⟨f,0 + 1,none⟩ [.pointer o])∧
 ∃ s:Option Addr,(At c ⟨f,0,none⟩ [.pointer s])∧
 (Calls Tryz.prog 58 #[.pointer s] bh fun bs x=>
 ∃ d:Sl,(bs=.returned (.slice d.a d.len d.cap))∧
 (c x)∧
 (Calls Tryz.prog 183 #[.pointer o,.slice d.a d.len d.cap] x fun bt bi=>
 ∃ N:Int,∃ O:Int,∃ ab:Int,∃ ac:Int,∃ ad:Nat,∃ ae:Bool,(bt=.returned (.tuple #[.agg #[.int .i64 N,.int .i64 O,.int .i64 ab,.int .i64 ac,.float .f64 ad],.bool ae]))∧
 (c bi)∧
 New (.cells #[.int .i64 0,.int .i64 0,.int .i64 0,.int .i64 0,.float .f64 0] 65 (0,0)) (fun F bj=>
 (c bj)∧
 ∃ bk:World,((Instr.storeAt 65 (.pointer ((some ⟨F,0,none⟩))) (.agg #[.int .i64 N,.int .i64 O,.int .i64 ab,.int .i64 ac,.float .f64 ad])).run Tryz.prog bj=.ok () bk)∧
 l ((some ⟨F,0,none⟩)) ae bk) bi)∧
 New (.cells #[.int .i64 0,.int .i64 0,.int .i64 0,.int .i64 0,.float .f64 0] 65 (0,0)) (fun G bl=>
 (c bl)∧
 Calls Tryz.prog 183 #[.pointer o,.slice d.a d.len d.cap] bl fun bu bm=>
 ∃ af:Int,∃ ag:Int,∃ ah:Int,∃ ai:Int,∃ Q:Nat,∃ T:Bool,(bu=.returned (.tuple #[.agg #[.int .i64 af,.int .i64 ag,.int .i64 ah,.int .i64 ai,.float .f64 Q],.bool T]))∧
 (c bm)∧
 ∃ a7:World,((Instr.storeAt 65 (.pointer ((some ⟨G,0,none⟩))) (.agg #[.int .i64 af,.int .i64 ag,.int .i64 ah,.int .i64 ai,.float .f64 Q])).run Tryz.prog bm=.ok () a7)∧
 l ((some ⟨G,0,none⟩)) T a7) x)∧
 New (.cells #[.int .i64 0,.int .i64 0,.int .i64 0,.int .i64 0,.float .f64 0] 65 (0,0)) (fun H a8=>
 (c a8)∧
 Calls Tryz.prog 58 #[.pointer s] a8 fun bv a9=>
 ∃ g:Sl,(bv=.returned (.slice g.a g.len g.cap))∧
 (c a9)∧
 Calls Tryz.prog 183 #[.pointer o,.slice g.a g.len g.cap] a9 fun bw ba=>
 ∃ U:Int,∃ V:Int,∃ X:Int,∃ Y:Int,∃ Z:Nat,∃ aa:Bool,(bw=.returned (.tuple #[.agg #[.int .i64 U,.int .i64 V,.int .i64 X,.int .i64 Y,.float .f64 Z],.bool aa]))∧
 (c ba)∧
 ∃ bb:World,((Instr.storeAt 65 (.pointer ((some ⟨H,0,none⟩))) (.agg #[.int .i64 U,.int .i64 V,.int .i64 X,.int .i64 Y,.float .f64 Z])).run Tryz.prog ba=.ok () bb)∧
 l ((some ⟨H,0,none⟩)) aa bb) bh)∧
 ∀ (ca:Env) (a6:Option Addr) (I:Bool) (bc:World),l a6 I bc→
 ∃ (p:Option Addr→Bool→World→Prop) (bn:Option Addr→Bool→World→Nat),(p a6 I bc)∧∀ (cb:Env) (e:Option Addr) (r:Bool) (j:World),p e r j→
 Br r
 (∃ aq:Option Addr,(At (fun b=>b=j) ⟨f,0 + 1,none⟩ [.pointer aq])∧
 NilP e fun bo=>
 ∃ ar:Int,(At (fun b=>b=j) (Addr.add bo 0) [.int .i64 ar])∧
 Calls Tryz.prog 116 #[.pointer aq,.int .i64 ar] j fun bx k=>
 ∃ b3:Int,(bx=.returned (.int .i64 b3))∧
 ∃ au:Option Addr,(At (fun b=>b=k) ⟨f,0,none⟩ [.pointer au])∧
 NilP e fun bp=>
 ∃ av:Int,(At (fun b=>b=k) (Addr.add bp 0) [.int .i64 av])∧
 NilP e fun y=>
 ∃ aw:Int,(At (fun b=>b=k) ⟨y.block,y.off + 1,none⟩ [.int .i64 aw])∧
 NilP e fun z=>
 ∃ ax:Int,(At (fun b=>b=k) ⟨z.block,z.off + 2,none⟩ [.int .i64 ax])∧
 Calls Tryz.prog 112 #[.pointer au,.int .i64 av,.int .i64 aw,.int .i64 ax] k fun bz b6=>
 ∃ b4:Int,(bz=.returned (.int .i64 b4))∧
 Drw b6 fun q b7=>
 NilP E fun A=>
 ∃ ay:Option Nat,(At q ⟨A.block,A.off + 3,none⟩ [.map ay])∧
 NilP e fun bq=>
 ∃ az:Int,(At q (Addr.add bq 0) [.int .i64 az])∧
 ∃ a0:Option Addr,(∀ b,q b→((Instr.lookup 78 (.map ay) (.int .i64 az) false)).run Tryz.prog b=.ok (.pointer a0) b)∧
 NilP a0 fun C=>
 ∃ u:World,((Instr.storeAt 3 (.pointer ((some ⟨C.block,C.off + 4,none⟩))) (.int .i64 2)).run Tryz.prog b7=.ok () u)∧
 NilP e fun br=>
 ∃ a1:Int,∃ a2:Int,∃ a3:Int,∃ a4:Int,∃ a5:Nat,(At (fun b=>b=u) br [.int .i64 a1,.int .i64 a2,.int .i64 a3,.int .i64 a4,.float .f64 a5])∧
 New (.cells #[.int .i64 0,.int .i64 0,.int .i64 0,.int .i64 0,.float .f64 0] 65 (0,0)) (fun n b8=>
 ∃ be:World,((Instr.storeAt 65 (.pointer ((some ⟨n,0,none⟩))) (.agg #[.int .i64 a1,.int .i64 a2,.int .i64 a3,.int .i64 a4,.float .f64 a5])).run Tryz.prog b8=.ok () be)∧
 Drw be fun m b9=>
 ∃ aj:Option Addr,(At m ⟨f,0 + 1,none⟩ [.pointer aj])∧
 ∃ ak:Option Addr,(At m ⟨f,0,none⟩ [.pointer ak])∧
 Calls Tryz.prog 58 #[.pointer ak] b9 fun b0 bf=>
 ∃ i:Sl,(b0=.returned (.slice i.a i.len i.cap))∧
 (m bf)∧
 Calls Tryz.prog 183 #[.pointer aj,.slice i.a i.len i.cap] bf fun b1 bg=>
 ∃ al:Int,∃ am:Int,∃ an:Int,∃ ao:Int,∃ ap:Nat,∃ t:Bool,(b1=.returned (.tuple #[.agg #[.int .i64 al,.int .i64 am,.int .i64 an,.int .i64 ao,.float .f64 ap],.bool t]))∧
 (m bg)∧
 ∃ v:World,((Instr.storeAt 65 (.pointer ((some ⟨n,0,none⟩))) (.agg #[.int .i64 al,.int .i64 am,.int .i64 an,.int .i64 ao,.float .f64 ap])).run Tryz.prog bg=.ok () v)∧
 (p ((some ⟨n,0,none⟩)) t v)∧bn ((some ⟨n,0,none⟩)) t v<bn e r j) u)
 (K (.tuple #[]) j)) w
def sk114:Sk:=(.seq .leaf (.cut [5,6] [.ptr,.bool] [5,6,13,14,15,16,17,18,19,20,21] .leaf (.block (.loop [5,6] [.ptr,.bool] [5,6,22,23,24,25,26,27,28,29,30,31,32,33,34,35,36,37,38,39,40,41,42,43,44,45,46,47,48,49,50,51,52,53,54,55] .leaf))))
theorem call114 (a:Option Addr) (b:Int) (K:Value→World→Prop) (w:World) (h:B114 a b K w):Gets Tryz.prog 114 #[.pointer a,.int .i64 b] w K:=cq (sk:=sk114) Tryz.func114 (by kernel_rfl) (by kernel_rfl) (by kernel_rfl) h
def B56 (ac:Option Addr) (c:Option Addr) (K:Value→World→Prop) (w:World):Prop:=
 New (.cells #[.int .i64 0,.string (ByteArray.mk #[]),.int .i64 0,.int .i64 0,.int .i64 0,.int .i64 0,.int .i64 0,.slice none 0 0,.slice none 0 0] 31 (0,0)) (fun u ah=>
 Drw ah fun j ai=>
 NilP ac fun t=>
 ∃ v:Option Nat,(At j ⟨t.block,t.off + 2,none⟩ [.map v])∧
 NilP c fun n=>
 ∃ x:Int,(At j ⟨n.block,n.off + 1,none⟩ [.int .i64 x])∧
 ∃ y:Option Addr,∃ z:Option Addr,(∀ d,j d→((Instr.lookup 77 (.map v) (.int .i64 x) false)).run Tryz.prog d=.ok (.agg #[.pointer y,.pointer z]) d)∧
 New (.cells #[.pointer none,.pointer none] 102 (0,0)) (fun k X=>
 (j X)∧
 ∃ l:World,((Instr.storeAt 102 (.pointer ((some ⟨k,0,none⟩))) (.agg #[.pointer y,.pointer z])).run Tryz.prog X=.ok () l)∧
 NilP c fun aa=>
 ∃ A:Int,(At (fun d=>d=l) (Addr.add aa 0) [.int .i64 A])∧
 Calls Tryz.prog 129 #[.int .i64 A] l fun ad aj=>
 ∃ C:ByteArray,∃ ag:Int,(ad=.returned (.tuple #[.string C,.int .i64 ag]))∧
 Drw aj fun b ak=>
 NilP c fun o=>
 ∃ D:Int,(At b ⟨o.block,o.off + 4,none⟩ [.int .i64 D])∧
 NilP c fun p=>
 ∃ E:Int,(At b ⟨p.block,p.off + 1,none⟩ [.int .i64 E])∧
 NilP c fun q=>
 ∃ F:Int,(At b ⟨q.block,q.off + 2,none⟩ [.int .i64 F])∧
 NilP c fun r=>
 ∃ G:Int,(At b ⟨r.block,r.off + 3,none⟩ [.int .i64 G])∧
 NilP c fun s=>
 ∃ H:Int,(At b ⟨s.block,s.off + 5,none⟩ [.int .i64 H])∧
 ∃ I:Option Addr,(At b ⟨k,0,none⟩ [.pointer I])∧
 ∃ J:Option Addr,(At b ⟨k,0,none⟩ [.pointer J])∧
 NilP c fun ab=>
 ∃ L:Int,(At b (Addr.add ab 0) [.int .i64 L])∧
 Calls Tryz.prog 58 #[.pointer I] ak fun ae Y=>
 ∃ e:Sl,(ae=.returned (.slice e.a e.len e.cap))∧
 (b Y)∧
 Calls Tryz.prog 130 #[.pointer J,.int .i64 L] Y fun af Z=>
 ∃ f:Sl,(af=.returned (.slice f.a f.len f.cap))∧
 (b Z)∧
 ∃ m:World,((Instr.storeAt 31 (.pointer ((some ⟨u,0,none⟩))) (.agg #[.int .i64 0,.string C,.int .i64 D,.int .i64 E,.int .i64 F,.int .i64 G,.int .i64 H,.slice e.a e.len e.cap,.slice f.a f.len f.cap])).run Tryz.prog Z=.ok () m)∧
 ∃ M:Int,∃ N:ByteArray,∃ O:Int,∃ Q:Int,∃ T:Int,∃ U:Int,∃ V:Int,∃ g:Sl,∃ i:Sl,(At (fun d=>d=m) ⟨u,0,none⟩ [.int .i64 M,.string N,.int .i64 O,.int .i64 Q,.int .i64 T,.int .i64 U,.int .i64 V,.slice g.a g.len g.cap,.slice i.a i.len i.cap])∧
 K (.agg #[.int .i64 M,.string N,.int .i64 O,.int .i64 Q,.int .i64 T,.int .i64 U,.int .i64 V,.slice g.a g.len g.cap,.slice i.a i.len i.cap]) m) ai) w
theorem call56 (a:Option Addr) (b:Option Addr) (K:Value→World→Prop) (w:World) (h:B56 a b K w):Gets Tryz.prog 56 #[.pointer a,.pointer b] w K:=cq (sk:=.leaf) Tryz.func56 (by kernel_rfl) (by kernel_rfl) (by kernel_rfl) h
def B42 (o:Option Addr) (aw:Int) (ax:ByteArray) (ay:Int) (az:Int) (a0:Int) (a1:Int) (a2:Nat) (a3:ByteArray) (a4:Int) (q:Sl) (p:Sl) (c:List PanicEntry→World→Prop) (K:Value→World→Prop) (w:World):Prop:=
 New (.cells #[.int .i64 aw,.string ax,.int .i64 ay,.int .i64 az,.int .i64 a0,.int .i64 a1,.float .f64 a2,.string a3,.int .i64 a4,.slice q.a q.len q.cap,.slice p.a p.len p.cap] 38 (0,0)) (fun d a5=>
 New (.cells #[.int .i64 0,.string (ByteArray.mk #[]),.int .i64 0,.int .i64 0,.int .i64 0,.int .i64 0,.int .i64 0,.slice none 0 0,.slice none 0 0] 31 (0,0)) (fun A a8=>
 Drw a8 fun l a9=>
 NilP o fun x=>
 ∃ Q:Option Nat,(At l ⟨x.block,x.off + 2,none⟩ [.map Q])∧
 ∃ T:Int,(At l ⟨d,0 + 2,none⟩ [.int .i64 T])∧
 ∃ U:Option Addr,∃ V:Option Addr,∃ X:Bool,(∀ b,l b→((Instr.lookup 77 (.map Q) (.int .i64 T) true)).run Tryz.prog b=.ok (.tuple #[.agg #[.pointer U,.pointer V],.bool X]) b)∧
 New (.cells #[.pointer none,.pointer none] 102 (0,0)) (fun av ap=>
 (l ap)∧
 ∃ aq:World,((Instr.storeAt 102 (.pointer ((some ⟨av,0,none⟩))) (.agg #[.pointer U,.pointer V])).run Tryz.prog ap=.ok () aq)∧
 Calls Tryz.prog 40 #[.bool (!X),.int .i64 7] aq fun I m=>
 ((I=.returned (.tuple #[]))∧
 NilP o fun y=>
 ∃ Y:Option Nat,(At (fun b=>b=m) ⟨y.block,y.off + 2,none⟩ [.map Y])∧
 ∃ Z:Int,(∀ b,(fun b=>b=m) b→((Builtin.len_ #[77] 3 #[.map Y])).run Tryz.prog b=.ok (.int .i64 Z) b)∧
 Calls Tryz.prog 40 #[.bool (decide (Z<8)),.int .i64 3] m fun J k=>
 ((J=.returned (.tuple #[]))∧
 ∃ aa:Int,(At (fun b=>b=k) ⟨d,0 + 2,none⟩ [.int .i64 aa])∧
 ∃ ab:Int,∃ e:Sl,(At (fun b=>b=k) ⟨d,0 + 8,none⟩ [.int .i64 ab,.slice e.a e.len e.cap])∧
 ∃ f:Sl,(At (fun b=>b=k) ⟨d,0 + 10,none⟩ [.slice f.a f.len f.cap])∧
 Calls Tryz.prog 109 #[.int .i64 aa,.agg #[.int .i64 ab,.slice e.a e.len e.cap],.slice f.a f.len f.cap] k fun L ar=>
 (∃ r:Option Addr,∃ ac:Int,(L=.returned (.tuple #[.pointer r,.int .i64 ac]))∧
 Calls Tryz.prog 110 #[.int .i64 ac] ar fun M au=>
 ((M=.returned (.tuple #[]))∧
 Drw au fun n a6=>
 NilP o fun z=>
 ∃ ad:Option Nat,(At n ⟨z.block,z.off + 2,none⟩ [.map ad])∧
 ∃ ae:Int,(At n ⟨d,0 + 2,none⟩ [.int .i64 ae])∧
 Calls Tryz.prog 111 #[] a6 fun N s=>
 (∃ af:Option Addr,(N=.returned (.pointer af))∧
 (n s)∧
 ∃ ao:World,((Instr.mapUpdate 77 (.map ad) (.int .i64 ae) (.agg #[.pointer r,.pointer af])).run Tryz.prog s=.ok () ao)∧
 Drw ao fun v a7=>
 ∃ ag:Int,(At v ⟨d,0 + 2,none⟩ [.int .i64 ag])∧
 Calls Tryz.prog 58 #[.pointer r] a7 fun O t=>
 (∃ g:Sl,(O=.returned (.slice g.a g.len g.cap))∧
 (v t)∧
 ∃ u:World,((Instr.storeAt 31 (.pointer ((some ⟨A,0,none⟩))) (.agg #[.int .i64 0,.string (ByteArray.mk #[]),.int .i64 0,.int .i64 ag,.int .i64 0,.int .i64 0,.int .i64 0,.slice g.a g.len g.cap,.slice none 0 0])).run Tryz.prog t=.ok () u)∧
 ∃ ah:Int,∃ ai:ByteArray,∃ aj:Int,∃ ak:Int,∃ al:Int,∃ am:Int,∃ an:Int,∃ i:Sl,∃ j:Sl,(At (fun b=>b=u) ⟨A,0,none⟩ [.int .i64 ah,.string ai,.int .i64 aj,.int .i64 ak,.int .i64 al,.int .i64 am,.int .i64 an,.slice i.a i.len i.cap,.slice j.a j.len j.cap])∧
 K (.agg #[.int .i64 ah,.string ai,.int .i64 aj,.int .i64 ak,.int .i64 al,.int .i64 am,.int .i64 an,.slice i.a i.len i.cap,.slice j.a j.len j.cap]) u)∨
 (∃ H:List PanicEntry,(O=.panicked H)∧c H t))∨
 (∃ G:List PanicEntry,(N=.panicked G)∧c G s))∨
 (∃ F:List PanicEntry,(M=.panicked F)∧c F au))∨
 (∃ E:List PanicEntry,(L=.panicked E)∧c E ar))∨
 (∃ D:List PanicEntry,(J=.panicked D)∧c D k))∨
 (∃ C:List PanicEntry,(I=.panicked C)∧c C m)) a9) a5) w
theorem call42 (e:Option Addr) (f:Int) (g:ByteArray) (i:Int) (j:Int) (k:Int) (l:Int) (m:Nat) (n:ByteArray) (o:Int) (c:Sl) (b:Sl) (d:List PanicEntry→World→Prop) (K:Value→World→Prop) (w:World) (h:B42 e f g i j k l m n o c b d K w):GetsX Tryz.prog 42 #[.pointer e,.agg #[.int .i64 f,.string g,.int .i64 i,.int .i64 j,.int .i64 k,.int .i64 l,.float .f64 m,.string n,.int .i64 o,.slice c.a c.len c.cap,.slice b.a b.len b.cap]] w d K:=cqx (sk:=.leaf) Tryz.func42 (by kernel_rfl) (by kernel_rfl) (by kernel_rfl) h
def B43 (d:Option Addr) (da:Int) (db:ByteArray) (dc:Int) (dd:Int) (de:Int) (df:Int) (dg:Nat) (dh:ByteArray) (di:Int) (H:Sl) (G:Sl) (c:List PanicEntry→World→Prop) (K:Value→World→Prop) (w:World):Prop:=
 New (.cells #[.int .i64 da,.string db,.int .i64 dc,.int .i64 dd,.int .i64 de,.int .i64 df,.float .f64 dg,.string dh,.int .i64 di,.slice H.a H.len H.cap,.slice G.a G.len G.cap] 38 (0,0)) (fun e dj=>
 New (.cells #[.int .i64 0,.string (ByteArray.mk #[]),.int .i64 0,.int .i64 0,.int .i64 0,.int .i64 0,.int .i64 0,.slice none 0 0,.slice none 0 0] 31 (0,0)) (fun x c0=>
 ∃ cf:Int,(At (fun b=>b=c0) ⟨e,0 + 2,none⟩ [.int .i64 cf])∧
 Calls Tryz.prog 57 #[.pointer d,.int .i64 cf] c0 fun aq c4=>
 (∃ a5:Option Addr,∃ ba:Option Addr,(aq=.returned (.agg #[.pointer a5,.pointer ba]))∧
 New (.cells #[.pointer none,.pointer none] 102 (0,0)) (fun v dp=>
 ∃ c7:World,((Instr.storeAt 102 (.pointer ((some ⟨v,0,none⟩))) (.agg #[.pointer a5,.pointer ba])).run Tryz.prog dp=.ok () c7)∧
 Drw c7 fun i dq=>
 NilP d fun Z=>
 ∃ bt:Int,(At i ⟨Z.block,Z.off + 1,none⟩ [.int .i64 bt])∧
 ∃ bu:Int,(At i ⟨e,0 + 2,none⟩ [.int .i64 bu])∧
 ∃ bv:Int,(At i ⟨e,0 + 3,none⟩ [.int .i64 bv])∧
 ∃ bw:Int,(At i ⟨e,0 + 4,none⟩ [.int .i64 bw])∧
 ∃ bx:Int,(At i ⟨e,0 + 5,none⟩ [.int .i64 bx])∧
 New (.cells #[.int .i64 bt,.int .i64 bu,.int .i64 bv,.int .i64 bw,.int .i64 1,.int .i64 bx] 106 (0,0)) (fun f A=>
 (i A)∧
 ∃ (C:World→Prop),(∃ bz:Int,(At (fun b=>b=A) ⟨e,0,none⟩ [.int .i64 bz])∧
 Br (bz==2)
 (Drw A fun F dr=>
 ∃ b0:Int,(At F ⟨e,0 + 5,none⟩ [.int .i64 b0])∧
 NilP d fun c8=>
 ∃ b1:Int,(At F (Addr.add c8 0) [.int .i64 b1])∧
 Calls Tryz.prog 40 #[.bool (decide (b0>b1)),.int .i64 1] dr fun ar U=>
 ((ar=.returned (.tuple #[]))∧
 (F U)∧
 C  U)∨
 (∃ ae:List PanicEntry,(ar=.panicked ae)∧c ae U))
 (Drw A fun u dk=>
 ∃ b2:Int,(At u ⟨e,0 + 3,none⟩ [.int .i64 b2])∧
 ∃ b3:Option Addr,(At u ⟨v,0,none⟩ [.pointer b3])∧
 Calls Tryz.prog 58 #[.pointer b3] dk fun ax I=>
 (∃ y:Sl,(ax=.returned (.slice y.a y.len y.cap))∧
 (u I)∧
 Calls Tryz.prog 40 #[.bool (decide (b2<(↑y.len:Int))),.int .i64 1] I fun ay J=>
 ((ay=.returned (.tuple #[]))∧
 (u J)∧
 ∃ cw:World,((Instr.storeAt 3 (.pointer ((some ⟨f,0 + 4,none⟩))) (.int .i64 3)).run Tryz.prog J=.ok () cw)∧
 ∃ cx:World,((Instr.storeAt 3 (.pointer ((some ⟨f,0 + 5,none⟩))) (.int .i64 0)).run Tryz.prog cw=.ok () cx)∧
 C  cx)∨
 (∃ aj:List PanicEntry,(ay=.panicked aj)∧c aj J))∨
 (∃ ai:List PanicEntry,(ax=.panicked ai)∧c ai I)))∧
 ∀ (ds:Env)  (r:World),C  r→
 ∃ (D:World→Prop),(NilP d fun ab=>
 ∃ b4:Option Nat,(At (fun b=>b=r) ⟨ab.block,ab.off + 3,none⟩ [.map b4])∧
 ∃ b5:Int,(∀ b,(fun b=>b=r) b→((Builtin.len_ #[78] 3 #[.map b4])).run Tryz.prog b=.ok (.int .i64 b5) b)∧
 Br (decide (b5<300))
 (NilP d fun ac=>
 ∃ b6:Int,(At (fun b=>b=r) ⟨ac.block,ac.off + 1,none⟩ [.int .i64 b6])∧
 Calls Tryz.prog 40 #[.bool (decide (b6<28629151)),.int .i64 3] r fun az cy=>
 ((az=.returned (.tuple #[]))∧
 D  cy)∨
 (∃ ak:List PanicEntry,(az=.panicked ak)∧c ak cy))
 (Calls Tryz.prog 40 #[.bool false,.int .i64 3] r fun a0 cz=>
 ((a0=.returned (.tuple #[]))∧
 D  cz)∨
 (∃ al:List PanicEntry,(a0=.panicked al)∧c al cz)))∧
 ∀ (dt:Env)  (z:World),D  z→
 ∃ (E:World→Prop),(∃ b7:Int,(At (fun b=>b=z) ⟨e,0,none⟩ [.int .i64 b7])∧
 Br (b7==2)
 (Drw z fun s dl=>
 ∃ b8:Option Addr,(At s ⟨v,0,none⟩ [.pointer b8])∧
 ∃ b9:Int,(At s ⟨f,0,none⟩ [.int .i64 b9])∧
 ∃ ca:Int,(At s ⟨f,0 + 2,none⟩ [.int .i64 ca])∧
 ∃ cb:Int,(At s ⟨f,0 + 3,none⟩ [.int .i64 cb])∧
 Calls Tryz.prog 112 #[.pointer b8,.int .i64 b9,.int .i64 ca,.int .i64 cb] dl fun a1 c1=>
 (∃ cc:Int,(a1=.returned (.int .i64 cc))∧
 Calls Tryz.prog 110 #[.int .i64 cc] c1 fun a2 L=>
 ((a2=.returned (.tuple #[]))∧
 (s L)∧
 E  L)∨
 (∃ an:List PanicEntry,(a2=.panicked an)∧c an L))∨
 (∃ am:List PanicEntry,(a1=.panicked am)∧c am c1))
 (Drw z fun g dm=>
 ∃ cd:Option Addr,(At g ⟨v,0 + 1,none⟩ [.pointer cd])∧
 ∃ ce:Int,(At g ⟨f,0,none⟩ [.int .i64 ce])∧
 ∃ cg:Int,(At g ⟨f,0 + 2,none⟩ [.int .i64 cg])∧
 ∃ ch:Int,(At g ⟨f,0 + 3,none⟩ [.int .i64 ch])∧
 NilP d fun c9=>
 ∃ a6:Int,(At g (Addr.add c9 0) [.int .i64 a6])∧
 ∃ a7:Nat,(At g ⟨e,0 + 6,none⟩ [.float .f64 a7])∧
 Calls Tryz.prog 113 #[.pointer cd,.agg #[.int .i64 ce,.int .i64 cg,.int .i64 ch,.int .i64 a6,.float .f64 a7]] dm fun a3 M=>
 (∃ a8:Int,(a3=.returned (.int .i64 a8))∧
 (g M)∧
 Calls Tryz.prog 110 #[.int .i64 a8] M fun a4 N=>
 ((a4=.returned (.tuple #[]))∧
 (g N)∧
 E  N)∨
 (∃ ap:List PanicEntry,(a4=.panicked ap)∧c ap N))∨
 (∃ ao:List PanicEntry,(a3=.panicked ao)∧c ao M)))∧
 ∀ (du:Env)  (c2:World),E  c2→
 Drw c2 fun V dn=>
 NilP d fun X=>
 ∃ a9:Option Nat,(At V ⟨X.block,X.off + 3,none⟩ [.map a9])∧
 ∃ bb:Int,(At V ⟨f,0,none⟩ [.int .i64 bb])∧
 ∃ O:World,((Instr.mapUpdate 78 (.map a9) (.int .i64 bb) (.pointer ((some ⟨f,0,none⟩)))).run Tryz.prog dn=.ok () O)∧
 NilP d fun Y=>
 ∃ bc:Int,(At (fun b=>b=O) ⟨Y.block,Y.off + 1,none⟩ [.int .i64 bc])∧
 NilP d fun aa=>
 ∃ t:World,((Instr.storeAt 3 (.pointer ((some ⟨aa.block,aa.off + 1,none⟩))) (.int .i64 (IntKind.i64.wrap (bc + 1)))).run Tryz.prog O=.ok () t)∧
 ∃ bd:Int,(At (fun b=>b=t) ⟨e,0,none⟩ [.int .i64 bd])∧
 Br (bd==7)
 (∃ be:Int,(At (fun b=>b=t) ⟨e,0 + 2,none⟩ [.int .i64 be])∧
 Calls Tryz.prog 114 #[.pointer d,.int .i64 be] t fun au c3=>
 ((au=.returned (.tuple #[]))∧
 Calls Tryz.prog 56 #[.pointer d,.pointer ((some ⟨f,0,none⟩))] c3 fun av c5=>
 (∃ bf:Int,∃ bg:ByteArray,∃ bn:Int,∃ bo:Int,∃ bp:Int,∃ bq:Int,∃ br:Int,∃ l:Sl,∃ m:Sl,(av=.returned (.agg #[.int .i64 bf,.string bg,.int .i64 bn,.int .i64 bo,.int .i64 bp,.int .i64 bq,.int .i64 br,.slice l.a l.len l.cap,.slice m.a m.len m.cap]))∧
 ∃ Q:World,((Instr.storeAt 31 (.pointer ((some ⟨x,0,none⟩))) (.agg #[.int .i64 bf,.string bg,.int .i64 bn,.int .i64 bo,.int .i64 bp,.int .i64 bq,.int .i64 br,.slice l.a l.len l.cap,.slice m.a m.len m.cap])).run Tryz.prog c5=.ok () Q)∧
 ∃ ci:Int,∃ cj:ByteArray,∃ cq:Int,∃ cr:Int,∃ cs:Int,∃ ct:Int,∃ cu:Int,∃ p:Sl,∃ q:Sl,(At (fun b=>b=Q) ⟨x,0,none⟩ [.int .i64 ci,.string cj,.int .i64 cq,.int .i64 cr,.int .i64 cs,.int .i64 ct,.int .i64 cu,.slice p.a p.len p.cap,.slice q.a q.len q.cap])∧
 K (.agg #[.int .i64 ci,.string cj,.int .i64 cq,.int .i64 cr,.int .i64 cs,.int .i64 ct,.int .i64 cu,.slice p.a p.len p.cap,.slice q.a q.len q.cap]) Q)∨
 (∃ ag:List PanicEntry,(av=.panicked ag)∧c ag c5))∨
 (∃ af:List PanicEntry,(au=.panicked af)∧c af c3))
 (Calls Tryz.prog 56 #[.pointer d,.pointer ((some ⟨f,0,none⟩))] t fun aw c6=>
 (∃ bs:Int,∃ bh:ByteArray,∃ bi:Int,∃ bj:Int,∃ bk:Int,∃ bl:Int,∃ bm:Int,∃ j:Sl,∃ k:Sl,(aw=.returned (.agg #[.int .i64 bs,.string bh,.int .i64 bi,.int .i64 bj,.int .i64 bk,.int .i64 bl,.int .i64 bm,.slice j.a j.len j.cap,.slice k.a k.len k.cap]))∧
 ∃ T:World,((Instr.storeAt 31 (.pointer ((some ⟨x,0,none⟩))) (.agg #[.int .i64 bs,.string bh,.int .i64 bi,.int .i64 bj,.int .i64 bk,.int .i64 bl,.int .i64 bm,.slice j.a j.len j.cap,.slice k.a k.len k.cap])).run Tryz.prog c6=.ok () T)∧
 ∃ cv:Int,∃ ck:ByteArray,∃ cl:Int,∃ cm:Int,∃ cn:Int,∃ co:Int,∃ cp:Int,∃ n:Sl,∃ o:Sl,(At (fun b=>b=T) ⟨x,0,none⟩ [.int .i64 cv,.string ck,.int .i64 cl,.int .i64 cm,.int .i64 cn,.int .i64 co,.int .i64 cp,.slice n.a n.len n.cap,.slice o.a o.len o.cap])∧
 K (.agg #[.int .i64 cv,.string ck,.int .i64 cl,.int .i64 cm,.int .i64 cn,.int .i64 co,.int .i64 cp,.slice n.a n.len n.cap,.slice o.a o.len o.cap]) T)∨
 (∃ ah:List PanicEntry,(aw=.panicked ah)∧c ah c6))) dq) c4)∨
 (∃ ad:List PanicEntry,(aq=.panicked ad)∧c ad c4)) dj) w
def sk43:Sk:=(.seq .leaf (.seq .leaf (.seq .leaf (.cut [] [] [25,26,27,28,29,30,31,32,33,34,35,36,37,38,39,40,41,42,43,44,45,46,47,48,49] .leaf (.cut [] [] [50,51,52,53,54,55,56,57,58,59,60,61,62,63] .leaf (.cut [] [] [64,65,66,67,68,69,70,71,72,73,74,75,76,77,78,79,80,81,82,83,84,85,86,87,88,89,90,91,92,93,94,95,96,97,98,99,100,101,102,103,104,105] .leaf .leaf))))))
theorem call43 (e:Option Addr) (f:Int) (g:ByteArray) (i:Int) (j:Int) (k:Int) (l:Int) (m:Nat) (n:ByteArray) (o:Int) (c:Sl) (b:Sl) (d:List PanicEntry→World→Prop) (K:Value→World→Prop) (w:World) (h:B43 e f g i j k l m n o c b d K w):GetsX Tryz.prog 43 #[.pointer e,.agg #[.int .i64 f,.string g,.int .i64 i,.int .i64 j,.int .i64 k,.int .i64 l,.float .f64 m,.string n,.int .i64 o,.slice c.a c.len c.cap,.slice b.a b.len b.cap]] w d K:=cqx (sk:=sk43) Tryz.func43 (by kernel_rfl) (by kernel_rfl) (by kernel_rfl) h
def B44 (c:Option Addr) (bn:Int) (bo:ByteArray) (bp:Int) (bq:Int) (br:Int) (bs:Int) (bt:Nat) (bu:ByteArray) (bv:Int) (C:Sl) (A:Sl) (f:List PanicEntry→World→Prop) (K:Value→World→Prop) (w:World):Prop:=
 New (.cells #[.int .i64 bn,.string bo,.int .i64 bp,.int .i64 bq,.int .i64 br,.int .i64 bs,.float .f64 bt,.string bu,.int .i64 bv,.slice C.a C.len C.cap,.slice A.a A.len A.cap] 38 (0,0)) (fun T bz=>
 New (.cells #[.int .i64 0,.string (ByteArray.mk #[]),.int .i64 0,.int .i64 0,.int .i64 0,.int .i64 0,.int .i64 0,.slice none 0 0,.slice none 0 0] 31 (0,0)) (fun U b1=>
 Drw b1 fun y b2=>
 ∃ ak:Int,(At y ⟨T,0 + 5,none⟩ [.int .i64 ak])∧
 NilP c fun bh=>
 ∃ al:Int,(At y (Addr.add bh 0) [.int .i64 al])∧
 Calls Tryz.prog 40 #[.bool (decide (ak ≥ al)),.int .i64 7] b2 fun ad t=>
 ((ad=.returned (.tuple #[]))∧
 (y t)∧
 ∃ am:Int,(At (fun b=>b=t) ⟨T,0 + 5,none⟩ [.int .i64 am])∧
 NilP c fun bi=>
 ∃ G:World,((Instr.storeAt 3 (.pointer ((some (Addr.add bi 0)))) (.int .i64 am)).run Tryz.prog t=.ok () G)∧
 NilP c fun H=>
 ∃ an:Option Nat,(At (fun b=>b=G) ⟨H.block,H.off + 3,none⟩ [.map an])∧
 Calls Tryz.prog 55 #[.map an] G fun ae bd=>
 (∃ ao:Value,(ae=.returned (ao))∧
 Calls Tryz.prog 50 #[ao] bd fun af be=>
 (∃ i:Sl,(af=.returned (.slice i.a i.len i.cap))∧
 ∃ (n:Int→World→Prop) (u:Int→World→Nat),(n 0 be)∧∀ (b3:Env) (d:Int) (e:World),n d e→
 Br (decide (d<(↑i.len:Int)))
 (Rng d i.len (NilP i.a fun bj=>
 ∃ p:Int,(At (fun b=>b=e) (Addr.add bj d.toNat) [.int .i64 p])∧
 NilP c fun I=>
 ∃ ap:Option Nat,(At (fun b=>b=e) ⟨I.block,I.off + 3,none⟩ [.map ap])∧
 ∃ q:Option Addr,(∀ b,(fun b=>b=e) b→((Instr.lookup 78 (.map ap) (.int .i64 p) false)).run Tryz.prog b=.ok (.pointer q) b)∧
 ∃ (x:Bool→World→Prop),(Drw e fun z bf=>
 NilP q fun J=>
 ∃ aq:Int,(At z ⟨J.block,J.off + 4,none⟩ [.int .i64 aq])∧
 Br (aq==1)
 (NilP q fun L=>
 ∃ ar:Int,(At z ⟨L.block,L.off + 5,none⟩ [.int .i64 ar])∧
 NilP c fun bk=>
 ∃ au:Int,(At z (Addr.add bk 0) [.int .i64 au])∧
 x (decide (ar≤au)) bf)
 (x false bf))∧
 ∀ (b4:Env) (av:Bool) (r:World),x av r→
 Br av
 (Drw r fun o b0=>
 NilP c fun M=>
 ∃ aw:Option Nat,(At o ⟨M.block,M.off + 2,none⟩ [.map aw])∧
 NilP q fun N=>
 ∃ ax:Int,(At o ⟨N.block,N.off + 1,none⟩ [.int .i64 ax])∧
 ∃ ay:Option Addr,∃ bw:Option Addr,(∀ b,o b→((Instr.lookup 77 (.map aw) (.int .i64 ax) false)).run Tryz.prog b=.ok (.agg #[.pointer ay,.pointer bw]) b)∧
 Calls Tryz.prog 115 #[.pointer ay,.int .i64 p] b0 fun ag s=>
 (∃ bx:Int,(ag=.returned (.int .i64 bx))∧
 (o s)∧
 NilP c fun O=>
 ∃ az:Option Nat,(At (fun b=>b=s) ⟨O.block,O.off + 3,none⟩ [.map az])∧
 ∃ D:World,((Builtin.delete_ #[78,3] 0 #[.map az,.int .i64 p]).run Tryz.prog s=.ok (.tuple #[]) D)∧
 (n (IntKind.i64.wrap (d + 1)) D)∧u (IntKind.i64.wrap (d + 1)) D<u d e)∨
 (∃ Z:List PanicEntry,(ag=.panicked Z)∧f Z s))
 ((n (IntKind.i64.wrap (d + 1)) r)∧u (IntKind.i64.wrap (d + 1)) r<u d e)))
 (NilP c fun Q=>
 ∃ a0:Option Nat,(At (fun b=>b=e) ⟨Q.block,Q.off + 2,none⟩ [.map a0])∧
 Calls Tryz.prog 51 #[.map a0] e fun ah bb=>
 (∃ a1:Value,(ah=.returned (a1))∧
 Calls Tryz.prog 50 #[a1] bb fun ai bc=>
 (∃ j:Sl,(ai=.returned (.slice j.a j.len j.cap))∧
 ∃ (v:Int→World→Prop) (bg:Int→World→Nat),(v 0 bc)∧∀ (b5:Env) (g:Int) (m:World),v g m→
 Br (decide (g<(↑j.len:Int)))
 (Rng g j.len (NilP j.a fun bl=>
 ∃ a2:Int,(At (fun b=>b=m) (Addr.add bl g.toNat) [.int .i64 a2])∧
 Calls Tryz.prog 114 #[.pointer c,.int .i64 a2] m fun aj E=>
 ((aj=.returned (.tuple #[]))∧
 (v (IntKind.i64.wrap (g + 1)) E)∧bg (IntKind.i64.wrap (g + 1)) E<bg g m)∨
 (∃ ac:List PanicEntry,(aj=.panicked ac)∧f ac E)))
 (NilP c fun bm=>
 ∃ a3:Int,(At (fun b=>b=m) (Addr.add bm 0) [.int .i64 a3])∧
 ∃ F:World,((Instr.storeAt 31 (.pointer ((some ⟨U,0,none⟩))) (.agg #[.int .i64 0,.string (ByteArray.mk #[]),.int .i64 0,.int .i64 0,.int .i64 0,.int .i64 0,.int .i64 a3,.slice none 0 0,.slice none 0 0])).run Tryz.prog m=.ok () F)∧
 ∃ a4:Int,∃ a5:ByteArray,∃ a6:Int,∃ a7:Int,∃ a8:Int,∃ a9:Int,∃ ba:Int,∃ k:Sl,∃ l:Sl,(At (fun b=>b=F) ⟨U,0,none⟩ [.int .i64 a4,.string a5,.int .i64 a6,.int .i64 a7,.int .i64 a8,.int .i64 a9,.int .i64 ba,.slice k.a k.len k.cap,.slice l.a l.len l.cap])∧
 K (.agg #[.int .i64 a4,.string a5,.int .i64 a6,.int .i64 a7,.int .i64 a8,.int .i64 a9,.int .i64 ba,.slice k.a k.len k.cap,.slice l.a l.len l.cap]) F))∨
 (∃ ab:List PanicEntry,(ai=.panicked ab)∧f ab bc))∨
 (∃ aa:List PanicEntry,(ah=.panicked aa)∧f aa bb)))∨
 (∃ Y:List PanicEntry,(af=.panicked Y)∧f Y be))∨
 (∃ X:List PanicEntry,(ae=.panicked X)∧f X bd))∨
 (∃ V:List PanicEntry,(ad=.panicked V)∧f V t)) bz) w
def sk44:Sk:=(.seq .leaf (.seq .leaf (.seq .leaf (.seq (.seq .leaf (.block (.loop [30] [(.int .i64)] [6,7,30,31,32,33,34,35,36,37,38,39,40,41,42,43,44,45,46,47,48,49,50,51,52,53,54,55,56,57,58,59,60,61,62,63,64,65,66,67,68,69,70,71,72,73] (.seq .leaf (.seq .leaf (.seq (.block (.seq .leaf (.seq .leaf (.cut [55] [.bool] [40,41,42,43,44,45,46,47,48,49,50,51,52,53,54,55] .leaf .leaf)))) .leaf)))))) (.seq (.seq .leaf (.block (.loop [81] [(.int .i64)] [9,81,82,83,84,85,86,87,88] .leaf))) .leaf)))))
theorem call44 (e:Option Addr) (f:Int) (g:ByteArray) (i:Int) (j:Int) (k:Int) (l:Int) (m:Nat) (n:ByteArray) (o:Int) (c:Sl) (b:Sl) (d:List PanicEntry→World→Prop) (K:Value→World→Prop) (w:World) (h:B44 e f g i j k l m n o c b d K w):GetsX Tryz.prog 44 #[.pointer e,.agg #[.int .i64 f,.string g,.int .i64 i,.int .i64 j,.int .i64 k,.int .i64 l,.float .f64 m,.string n,.int .i64 o,.slice c.a c.len c.cap,.slice b.a b.len b.cap]] w d K:=cqx (sk:=sk44) Tryz.func44 (by kernel_rfl) (by kernel_rfl) (by kernel_rfl) h
def B45 (g:Option Addr) (c:Option Addr) (ed:Int) (ee:ByteArray) (ef:Int) (eg:Int) (eh:Int) (ei:Int) (ej:Nat) (ek:ByteArray) (el:Int) (L:Sl) (J:Sl) (d:List PanicEntry→World→Prop) (K:Value→World→Prop) (w:World):Prop:=
 New (.cells #[.int .i64 ed,.string ee,.int .i64 ef,.int .i64 eg,.int .i64 eh,.int .i64 ei,.float .f64 ej,.string ek,.int .i64 el,.slice L.a L.len L.cap,.slice J.a J.len J.cap] 38 (0,0)) (fun I eo=>
 New (.cells #[.int .i64 0,.string (ByteArray.mk #[]),.int .i64 0,.int .i64 0,.int .i64 0,.int .i64 0,.int .i64 0,.slice none 0 0,.slice none 0 0] 31 (0,0)) (fun e es=>
 Drw es fun E ev=>
 NilP g fun ad=>
 ∃ ca:Option Nat,(At E ⟨ad.block,ad.off + 2,none⟩ [.map ca])∧
 NilP c fun ae=>
 ∃ cb:Int,(At E ⟨ae.block,ae.off + 1,none⟩ [.int .i64 cb])∧
 ∃ cc:Option Addr,∃ cd:Option Addr,(∀ b,E b→((Instr.lookup 77 (.map ca) (.int .i64 cb) false)).run Tryz.prog b=.ok (.agg #[.pointer cc,.pointer cd]) b)∧
 New (.cells #[.pointer none,.pointer none] 102 (0,0)) (fun C d3=>
 (E d3)∧
 ∃ f:World,((Instr.storeAt 102 (.pointer ((some ⟨C,0,none⟩))) (.agg #[.pointer cc,.pointer cd])).run Tryz.prog d3=.ok () f)∧
 NilP c fun af=>
 ∃ G:Int,(At (fun b=>b=f) ⟨af.block,af.off + 4,none⟩ [.int .i64 G])∧
 ∃ D:Int,(At (fun b=>b=f) ⟨I,0,none⟩ [.int .i64 D])∧
 Br (D==3)
 (NilP c fun ag=>
 ∃ ce:Int,(At (fun b=>b=f) ⟨ag.block,ag.off + 4,none⟩ [.int .i64 ce])∧
 Calls Tryz.prog 40 #[.bool (ce==1),.int .i64 7] f fun a1 d4=>
 ((a1=.returned (.tuple #[]))∧
 NilP c fun ah=>
 ∃ d5:World,((Instr.storeAt 3 (.pointer ((some ⟨ah.block,ah.off + 4,none⟩))) (.int .i64 2)).run Tryz.prog d4=.ok () d5)∧
 NilP c fun ai=>
 ∃ d6:World,((Instr.storeAt 3 (.pointer ((some ⟨ai.block,ai.off + 5,none⟩))) (.int .i64 0)).run Tryz.prog d5=.ok () d6)∧
 Calls Tryz.prog 56 #[.pointer g,.pointer c] d6 fun a2 d7=>
 (∃ bh:Int,∃ bi:ByteArray,∃ br:Int,∃ b1:Int,∃ b6:Int,∃ b7:Int,∃ b8:Int,∃ o:Sl,∃ p:Sl,(a2=.returned (.agg #[.int .i64 bh,.string bi,.int .i64 br,.int .i64 b1,.int .i64 b6,.int .i64 b7,.int .i64 b8,.slice o.a o.len o.cap,.slice p.a p.len p.cap]))∧
 ∃ N:World,((Instr.storeAt 31 (.pointer ((some ⟨e,0,none⟩))) (.agg #[.int .i64 bh,.string bi,.int .i64 br,.int .i64 b1,.int .i64 b6,.int .i64 b7,.int .i64 b8,.slice o.a o.len o.cap,.slice p.a p.len p.cap])).run Tryz.prog d7=.ok () N)∧
 ∃ cs:Int,∃ ct:ByteArray,∃ c2:Int,∃ db:Int,∃ dk:Int,∃ dp:Int,∃ dq:Int,∃ z:Sl,∃ A:Sl,(At (fun b=>b=N) ⟨e,0,none⟩ [.int .i64 cs,.string ct,.int .i64 c2,.int .i64 db,.int .i64 dk,.int .i64 dp,.int .i64 dq,.slice z.a z.len z.cap,.slice A.a A.len A.cap])∧
 K (.agg #[.int .i64 cs,.string ct,.int .i64 c2,.int .i64 db,.int .i64 dk,.int .i64 dp,.int .i64 dq,.slice z.a z.len z.cap,.slice A.a A.len A.cap]) N)∨
 (∃ am:List PanicEntry,(a2=.panicked am)∧d am d7))∨
 (∃ al:List PanicEntry,(a1=.panicked al)∧d al d4))
 (Br (D==4)
 (∃ (H:World→Prop),(Br (G==3)
 (Drw f fun Z ep=>
 ∃ cf:Option Addr,(At Z ⟨C,0 + 1,none⟩ [.pointer cf])∧
 NilP c fun d8=>
 ∃ cg:Int,(At Z (Addr.add d8 0) [.int .i64 cg])∧
 Calls Tryz.prog 116 #[.pointer cf,.int .i64 cg] ep fun a7 ds=>
 (∃ em:Int,(a7=.returned (.int .i64 em))∧
 H  ds)∨
 (∃ ar:List PanicEntry,(a7=.panicked ar)∧d ar ds))
 (Drw f fun aa eq=>
 ∃ ch:Option Addr,(At aa ⟨C,0,none⟩ [.pointer ch])∧
 NilP c fun d9=>
 ∃ ci:Int,(At aa (Addr.add d9 0) [.int .i64 ci])∧
 Calls Tryz.prog 115 #[.pointer ch,.int .i64 ci] eq fun a8 dt=>
 (∃ en:Int,(a8=.returned (.int .i64 en))∧
 H  dt)∨
 (∃ au:List PanicEntry,(a8=.panicked au)∧d au dt)))∧
 ∀ (ew:Env)  (du:World),H  du→
 Drw du fun ab er=>
 NilP g fun aj=>
 ∃ cj:Option Nat,(At ab ⟨aj.block,aj.off + 3,none⟩ [.map cj])∧
 NilP c fun ea=>
 ∃ ck:Int,(At ab (Addr.add ea 0) [.int .i64 ck])∧
 ∃ O:World,((Builtin.delete_ #[78,3] 0 #[.map cj,.int .i64 ck]).run Tryz.prog er=.ok (.tuple #[]) O)∧
 NilP c fun ak=>
 ∃ cl:Int,(At (fun b=>b=O) ⟨ak.block,ak.off + 1,none⟩ [.int .i64 cl])∧
 Calls Tryz.prog 114 #[.pointer g,.int .i64 cl] O fun a9 Q=>
 ((a9=.returned (.tuple #[]))∧
 ∃ cm:ByteArray,(At (fun b=>b=Q) ⟨I,0 + 1,none⟩ [.string cm])∧
 ∃ T:World,((Instr.storeAt 31 (.pointer ((some ⟨e,0,none⟩))) (.agg #[.int .i64 0,.string cm,.int .i64 0,.int .i64 0,.int .i64 0,.int .i64 0,.int .i64 0,.slice none 0 0,.slice none 0 0])).run Tryz.prog Q=.ok () T)∧
 ∃ dr:Int,∃ cu:ByteArray,∃ cv:Int,∃ cw:Int,∃ cx:Int,∃ cy:Int,∃ cz:Int,∃ q:Sl,∃ r:Sl,(At (fun b=>b=T) ⟨e,0,none⟩ [.int .i64 dr,.string cu,.int .i64 cv,.int .i64 cw,.int .i64 cx,.int .i64 cy,.int .i64 cz,.slice q.a q.len q.cap,.slice r.a r.len r.cap])∧
 K (.agg #[.int .i64 dr,.string cu,.int .i64 cv,.int .i64 cw,.int .i64 cx,.int .i64 cy,.int .i64 cz,.slice q.a q.len q.cap,.slice r.a r.len r.cap]) T)∨
 (∃ av:List PanicEntry,(a9=.panicked av)∧d av Q))
 (Br (D==5)
 (Calls Tryz.prog 40 #[.bool (!G==3),.int .i64 7] f fun ba dv=>
 ((ba=.returned (.tuple #[]))∧
 Drw dv fun F et=>
 ∃ cn:Option Addr,(At F ⟨C,0,none⟩ [.pointer cn])∧
 NilP c fun eb=>
 ∃ co:Int,(At F (Addr.add eb 0) [.int .i64 co])∧
 ∃ cp:ByteArray,(At F ⟨I,0 + 7,none⟩ [.string cp])∧
 Calls Tryz.prog 117 #[.pointer cn,.int .i64 co,.string cp] et fun bb dw=>
 (∃ cq:Int,(bb=.returned (.int .i64 cq))∧
 Calls Tryz.prog 110 #[.int .i64 cq] dw fun bc U=>
 ((bc=.returned (.tuple #[]))∧
 (F U)∧
 Calls Tryz.prog 56 #[.pointer g,.pointer c] U fun bd dx=>
 (∃ b9:Int,∃ bj:ByteArray,∃ bk:Int,∃ bl:Int,∃ bm:Int,∃ bn:Int,∃ bo:Int,∃ i:Sl,∃ j:Sl,(bd=.returned (.agg #[.int .i64 b9,.string bj,.int .i64 bk,.int .i64 bl,.int .i64 bm,.int .i64 bn,.int .i64 bo,.slice i.a i.len i.cap,.slice j.a j.len j.cap]))∧
 ∃ V:World,((Instr.storeAt 31 (.pointer ((some ⟨e,0,none⟩))) (.agg #[.int .i64 b9,.string bj,.int .i64 bk,.int .i64 bl,.int .i64 bm,.int .i64 bn,.int .i64 bo,.slice i.a i.len i.cap,.slice j.a j.len j.cap])).run Tryz.prog dx=.ok () V)∧
 ∃ c0:Int,∃ c1:ByteArray,∃ c3:Int,∃ c4:Int,∃ c5:Int,∃ c6:Int,∃ c7:Int,∃ s:Sl,∃ t:Sl,(At (fun b=>b=V) ⟨e,0,none⟩ [.int .i64 c0,.string c1,.int .i64 c3,.int .i64 c4,.int .i64 c5,.int .i64 c6,.int .i64 c7,.slice s.a s.len s.cap,.slice t.a t.len t.cap])∧
 K (.agg #[.int .i64 c0,.string c1,.int .i64 c3,.int .i64 c4,.int .i64 c5,.int .i64 c6,.int .i64 c7,.slice s.a s.len s.cap,.slice t.a t.len t.cap]) V)∨
 (∃ az:List PanicEntry,(bd=.panicked az)∧d az dx))∨
 (∃ ay:List PanicEntry,(bc=.panicked ay)∧d ay U))∨
 (∃ ax:List PanicEntry,(bb=.panicked ax)∧d ax dw))∨
 (∃ aw:List PanicEntry,(ba=.panicked aw)∧d aw dv))
 (Br (D==6)
 (Calls Tryz.prog 40 #[.bool (!G==3),.int .i64 7] f fun be dy=>
 ((be=.returned (.tuple #[]))∧
 Drw dy fun ac eu=>
 ∃ cr:Option Addr,(At ac ⟨C,0,none⟩ [.pointer cr])∧
 NilP c fun ec=>
 ∃ bf:Int,(At ac (Addr.add ec 0) [.int .i64 bf])∧
 Calls Tryz.prog 118 #[.pointer cr,.int .i64 bf] eu fun a3 dz=>
 (∃ M:Sl,∃ bg:Int,(a3=.returned (.tuple #[.slice M.a M.len M.cap,.int .i64 bg]))∧
 Calls Tryz.prog 110 #[.int .i64 bg] dz fun a4 d0=>
 ((a4=.returned (.tuple #[]))∧
 Calls Tryz.prog 56 #[.pointer g,.pointer c] d0 fun a5 d1=>
 (∃ bp:Int,∃ bq:ByteArray,∃ bs:Int,∃ bt:Int,∃ bu:Int,∃ bv:Int,∃ bw:Int,∃ k:Sl,∃ l:Sl,(a5=.returned (.agg #[.int .i64 bp,.string bq,.int .i64 bs,.int .i64 bt,.int .i64 bu,.int .i64 bv,.int .i64 bw,.slice k.a k.len k.cap,.slice l.a l.len l.cap]))∧
 ∃ X:World,((Instr.storeAt 31 (.pointer ((some ⟨e,0,none⟩))) (.agg #[.int .i64 bp,.string bq,.int .i64 bs,.int .i64 bt,.int .i64 bu,.int .i64 bv,.int .i64 bw,.slice k.a k.len k.cap,.slice l.a l.len l.cap])).run Tryz.prog d1=.ok () X)∧
 ∃ c8:Int,∃ c9:ByteArray,∃ da:Int,∃ dc:Int,∃ dd:Int,∃ de:Int,∃ df:Int,∃ u:Sl,∃ v:Sl,(At (fun b=>b=X) ⟨e,0,none⟩ [.int .i64 c8,.string c9,.int .i64 da,.int .i64 dc,.int .i64 dd,.int .i64 de,.int .i64 df,.slice u.a u.len u.cap,.slice v.a v.len v.cap])∧
 K (.agg #[.int .i64 c8,.string c9,.int .i64 da,.int .i64 dc,.int .i64 dd,.int .i64 de,.int .i64 df,.slice u.a u.len u.cap,.slice v.a v.len v.cap]) X)∨
 (∃ ap:List PanicEntry,(a5=.panicked ap)∧d ap d1))∨
 (∃ ao:List PanicEntry,(a4=.panicked ao)∧d ao d0))∨
 (∃ an:List PanicEntry,(a3=.panicked an)∧d an dz))∨
 (∃ a0:List PanicEntry,(be=.panicked a0)∧d a0 dy))
 (Calls Tryz.prog 56 #[.pointer g,.pointer c] f fun a6 d2=>
 (∃ bx:Int,∃ bz:ByteArray,∃ b0:Int,∃ b2:Int,∃ b3:Int,∃ b4:Int,∃ b5:Int,∃ m:Sl,∃ n:Sl,(a6=.returned (.agg #[.int .i64 bx,.string bz,.int .i64 b0,.int .i64 b2,.int .i64 b3,.int .i64 b4,.int .i64 b5,.slice m.a m.len m.cap,.slice n.a n.len n.cap]))∧
 ∃ Y:World,((Instr.storeAt 31 (.pointer ((some ⟨e,0,none⟩))) (.agg #[.int .i64 bx,.string bz,.int .i64 b0,.int .i64 b2,.int .i64 b3,.int .i64 b4,.int .i64 b5,.slice m.a m.len m.cap,.slice n.a n.len n.cap])).run Tryz.prog d2=.ok () Y)∧
 ∃ dg:Int,∃ dh:ByteArray,∃ di:Int,∃ dj:Int,∃ dl:Int,∃ dm:Int,∃ dn:Int,∃ x:Sl,∃ y:Sl,(At (fun b=>b=Y) ⟨e,0,none⟩ [.int .i64 dg,.string dh,.int .i64 di,.int .i64 dj,.int .i64 dl,.int .i64 dm,.int .i64 dn,.slice x.a x.len x.cap,.slice y.a y.len y.cap])∧
 K (.agg #[.int .i64 dg,.string dh,.int .i64 di,.int .i64 dj,.int .i64 dl,.int .i64 dm,.int .i64 dn,.slice x.a x.len x.cap,.slice y.a y.len y.cap]) Y)∨
 (∃ aq:List PanicEntry,(a6=.panicked aq)∧d aq d2)))))) ev) eo) w
def sk45:Sk:=(.seq .leaf (.seq .leaf (.seq .leaf (.seq (.seq .leaf (.block (.seq .leaf (.cond .leaf (.seq .leaf (.cond (.cut [] [] [43,44,45,46,47,48,49,50,51,52,53,54,55,56,57] .leaf .leaf) .leaf)))))) .leaf))))
theorem call45 (e:Option Addr) (p:Option Addr) (f:Int) (g:ByteArray) (i:Int) (j:Int) (k:Int) (l:Int) (m:Nat) (n:ByteArray) (o:Int) (c:Sl) (b:Sl) (d:List PanicEntry→World→Prop) (K:Value→World→Prop) (w:World) (h:B45 e p f g i j k l m n o c b d K w):GetsX Tryz.prog 45 #[.pointer e,.pointer p,.agg #[.int .i64 f,.string g,.int .i64 i,.int .i64 j,.int .i64 k,.int .i64 l,.float .f64 m,.string n,.int .i64 o,.slice c.a c.len c.cap,.slice b.a b.len b.cap]] w d K:=cqx (sk:=sk45) Tryz.func45 (by kernel_rfl) (by kernel_rfl) (by kernel_rfl) h
def B15 (g:Option Addr) (g4:Int) (g5:ByteArray) (g6:Int) (g7:Int) (g8:Int) (g9:Int) (ha:Nat) (hb:ByteArray) (hc:Int) (ap:Sl) (ao:Sl) (K:Value→World→Prop) (w:World):Prop:=
 New (.cells #[.int .i64 g4,.string g5,.int .i64 g6,.int .i64 g7,.int .i64 g8,.int .i64 g9,.float .f64 ha,.string hb,.int .i64 hc,.slice ap.a ap.len ap.cap,.slice ao.a ao.len ao.cap] 38 (0,0)) (fun d hd=>
 New (.cells #[.int .i64 0,.string (ByteArray.mk #[]),.int .i64 0,.int .i64 0,.int .i64 0,.int .i64 0,.int .i64 0,.slice none 0 0,.slice none 0 0] 31 (0,0)) (fun c gq=>
 ∃ dm:Int,∃ dn:ByteArray,∃ dp:Int,∃ dq:Int,∃ dr:Int,∃ ds:Int,∃ dt:Nat,∃ du:ByteArray,∃ dv:Int,∃ F:Sl,∃ E:Sl,(At (fun b=>b=gq) ⟨d,0,none⟩ [.int .i64 dm,.string dn,.int .i64 dp,.int .i64 dq,.int .i64 dr,.int .i64 ds,.float .f64 dt,.string du,.int .i64 dv,.slice F.a F.len F.cap,.slice E.a E.len E.cap])∧
 Calls Tryz.prog 41 #[.agg #[.int .i64 dm,.string dn,.int .i64 dp,.int .i64 dq,.int .i64 dr,.int .i64 ds,.float .f64 dt,.string du,.int .i64 dv,.slice F.a F.len F.cap,.slice E.a E.len E.cap]] gq fun a2 gy=>
 (∃ dw:Bool,(a2=.returned (.bool dw))∧
 Calls Tryz.prog 40 #[.bool dw,.int .i64 1] gy fun a3 al=>
 ((a3=.returned (.tuple #[]))∧
 ∃ f:Int,(At (fun b=>b=al) ⟨d,0,none⟩ [.int .i64 f])∧
 Br (f==1)
 (∃ ba:Int,∃ bb:ByteArray,∃ bc:Int,∃ bd:Int,∃ be:Int,∃ bf:Int,∃ bg:Nat,∃ bh:ByteArray,∃ bi:Int,∃ j:Sl,∃ i:Sl,(At (fun b=>b=al) ⟨d,0,none⟩ [.int .i64 ba,.string bb,.int .i64 bc,.int .i64 bd,.int .i64 be,.int .i64 bf,.float .f64 bg,.string bh,.int .i64 bi,.slice j.a j.len j.cap,.slice i.a i.len i.cap])∧
 Calls Tryz.prog 42 #[.pointer g,.agg #[.int .i64 ba,.string bb,.int .i64 bc,.int .i64 bd,.int .i64 be,.int .i64 bf,.float .f64 bg,.string bh,.int .i64 bi,.slice j.a j.len j.cap,.slice i.a i.len i.cap]] al fun a4 g0=>
 (∃ bj:Int,∃ bk:ByteArray,∃ bl:Int,∃ bm:Int,∃ bn:Int,∃ bo:Int,∃ bp:Int,∃ k:Sl,∃ l:Sl,(a4=.returned (.agg #[.int .i64 bj,.string bk,.int .i64 bl,.int .i64 bm,.int .i64 bn,.int .i64 bo,.int .i64 bp,.slice k.a k.len k.cap,.slice l.a l.len l.cap]))∧
 ∃ g1:World,((Instr.storeAt 31 (.pointer ((some ⟨c,0,none⟩))) (.agg #[.int .i64 bj,.string bk,.int .i64 bl,.int .i64 bm,.int .i64 bn,.int .i64 bo,.int .i64 bp,.slice k.a k.len k.cap,.slice l.a l.len l.cap])).run Tryz.prog g0=.ok () g1)∧
 LeaveF Tryz.prog 39 [.pointer ((some ⟨c,0,none⟩))] .returning (fun g2=>∃ dx:Int,∃ dy:ByteArray,∃ ek:Int,∃ et:Int,∃ e2:Int,∃ fb:Int,∃ fk:Int,∃ ab:Sl,∃ af:Sl,(At (fun b=>b=g2) ⟨c,0,none⟩ [.int .i64 dx,.string dy,.int .i64 ek,.int .i64 et,.int .i64 e2,.int .i64 fb,.int .i64 fk,.slice ab.a ab.len ab.cap,.slice af.a af.len af.cap])∧
 K (.agg #[.int .i64 dx,.string dy,.int .i64 ek,.int .i64 et,.int .i64 e2,.int .i64 fb,.int .i64 fk,.slice ab.a ab.len ab.cap,.slice af.a af.len af.cap]) g2) g1)∨
 (∃ aw:List PanicEntry,(a4=.panicked aw)∧LeaveF Tryz.prog 39 [.pointer ((some ⟨c,0,none⟩))] (.panicking aw) (fun g3=>∃ f7:Int,∃ dz:ByteArray,∃ d8:Int,∃ ee:Int,∃ ef:Int,∃ eg:Int,∃ eh:Int,∃ L:Sl,∃ M:Sl,(At (fun b=>b=g3) ⟨c,0,none⟩ [.int .i64 f7,.string dz,.int .i64 d8,.int .i64 ee,.int .i64 ef,.int .i64 eg,.int .i64 eh,.slice L.a L.len L.cap,.slice M.a M.len M.cap])∧
 K (.agg #[.int .i64 f7,.string dz,.int .i64 d8,.int .i64 ee,.int .i64 ef,.int .i64 eg,.int .i64 eh,.slice L.a L.len L.cap,.slice M.a M.len M.cap]) g3) g0))
 (∃ (an:Bool→World→Prop),(Br (f==2)
 (an (f==2) al)
 (an (f==7) al))∧
 ∀ (hf:Env) (bq:Bool) (e:World),an bq e→
 Br bq
 (∃ br:Int,∃ bs:ByteArray,∃ bt:Int,∃ bu:Int,∃ bv:Int,∃ bw:Int,∃ bx:Nat,∃ bz:ByteArray,∃ b0:Int,∃ n:Sl,∃ m:Sl,(At (fun b=>b=e) ⟨d,0,none⟩ [.int .i64 br,.string bs,.int .i64 bt,.int .i64 bu,.int .i64 bv,.int .i64 bw,.float .f64 bx,.string bz,.int .i64 b0,.slice n.a n.len n.cap,.slice m.a m.len m.cap])∧
 Calls Tryz.prog 43 #[.pointer g,.agg #[.int .i64 br,.string bs,.int .i64 bt,.int .i64 bu,.int .i64 bv,.int .i64 bw,.float .f64 bx,.string bz,.int .i64 b0,.slice n.a n.len n.cap,.slice m.a m.len m.cap]] e fun a5 gg=>
 (∃ b1:Int,∃ b2:ByteArray,∃ b3:Int,∃ b4:Int,∃ b5:Int,∃ b6:Int,∃ b7:Int,∃ o:Sl,∃ p:Sl,(a5=.returned (.agg #[.int .i64 b1,.string b2,.int .i64 b3,.int .i64 b4,.int .i64 b5,.int .i64 b6,.int .i64 b7,.slice o.a o.len o.cap,.slice p.a p.len p.cap]))∧
 ∃ gh:World,((Instr.storeAt 31 (.pointer ((some ⟨c,0,none⟩))) (.agg #[.int .i64 b1,.string b2,.int .i64 b3,.int .i64 b4,.int .i64 b5,.int .i64 b6,.int .i64 b7,.slice o.a o.len o.cap,.slice p.a p.len p.cap])).run Tryz.prog gg=.ok () gh)∧
 LeaveF Tryz.prog 39 [.pointer ((some ⟨c,0,none⟩))] .returning (fun gi=>∃ ei:Int,∃ ej:ByteArray,∃ el:Int,∃ em:Int,∃ en:Int,∃ eo:Int,∃ ep:Int,∃ N:Sl,∃ O:Sl,(At (fun b=>b=gi) ⟨c,0,none⟩ [.int .i64 ei,.string ej,.int .i64 el,.int .i64 em,.int .i64 en,.int .i64 eo,.int .i64 ep,.slice N.a N.len N.cap,.slice O.a O.len O.cap])∧
 K (.agg #[.int .i64 ei,.string ej,.int .i64 el,.int .i64 em,.int .i64 en,.int .i64 eo,.int .i64 ep,.slice N.a N.len N.cap,.slice O.a O.len O.cap]) gi) gh)∨
 (∃ ax:List PanicEntry,(a5=.panicked ax)∧LeaveF Tryz.prog 39 [.pointer ((some ⟨c,0,none⟩))] (.panicking ax) (fun gj=>∃ eq:Int,∃ er:ByteArray,∃ es:Int,∃ eu:Int,∃ ev:Int,∃ ew:Int,∃ ex:Int,∃ Q:Sl,∃ T:Sl,(At (fun b=>b=gj) ⟨c,0,none⟩ [.int .i64 eq,.string er,.int .i64 es,.int .i64 eu,.int .i64 ev,.int .i64 ew,.int .i64 ex,.slice Q.a Q.len Q.cap,.slice T.a T.len T.cap])∧
 K (.agg #[.int .i64 eq,.string er,.int .i64 es,.int .i64 eu,.int .i64 ev,.int .i64 ew,.int .i64 ex,.slice Q.a Q.len Q.cap,.slice T.a T.len T.cap]) gj) gg))
 (Br (f==8)
 (∃ b8:Int,∃ b9:ByteArray,∃ ca:Int,∃ cb:Int,∃ cc:Int,∃ cd:Int,∃ ce:Nat,∃ cf:ByteArray,∃ cg:Int,∃ r:Sl,∃ q:Sl,(At (fun b=>b=e) ⟨d,0,none⟩ [.int .i64 b8,.string b9,.int .i64 ca,.int .i64 cb,.int .i64 cc,.int .i64 cd,.float .f64 ce,.string cf,.int .i64 cg,.slice r.a r.len r.cap,.slice q.a q.len q.cap])∧
 Calls Tryz.prog 44 #[.pointer g,.agg #[.int .i64 b8,.string b9,.int .i64 ca,.int .i64 cb,.int .i64 cc,.int .i64 cd,.float .f64 ce,.string cf,.int .i64 cg,.slice r.a r.len r.cap,.slice q.a q.len q.cap]] e fun a6 gk=>
 (∃ ch:Int,∃ ci:ByteArray,∃ cj:Int,∃ ck:Int,∃ cl:Int,∃ cm:Int,∃ cn:Int,∃ s:Sl,∃ t:Sl,(a6=.returned (.agg #[.int .i64 ch,.string ci,.int .i64 cj,.int .i64 ck,.int .i64 cl,.int .i64 cm,.int .i64 cn,.slice s.a s.len s.cap,.slice t.a t.len t.cap]))∧
 ∃ gl:World,((Instr.storeAt 31 (.pointer ((some ⟨c,0,none⟩))) (.agg #[.int .i64 ch,.string ci,.int .i64 cj,.int .i64 ck,.int .i64 cl,.int .i64 cm,.int .i64 cn,.slice s.a s.len s.cap,.slice t.a t.len t.cap])).run Tryz.prog gk=.ok () gl)∧
 LeaveF Tryz.prog 39 [.pointer ((some ⟨c,0,none⟩))] .returning (fun gm=>∃ ey:Int,∃ ez:ByteArray,∃ e0:Int,∃ e1:Int,∃ e3:Int,∃ e4:Int,∃ e5:Int,∃ U:Sl,∃ V:Sl,(At (fun b=>b=gm) ⟨c,0,none⟩ [.int .i64 ey,.string ez,.int .i64 e0,.int .i64 e1,.int .i64 e3,.int .i64 e4,.int .i64 e5,.slice U.a U.len U.cap,.slice V.a V.len V.cap])∧
 K (.agg #[.int .i64 ey,.string ez,.int .i64 e0,.int .i64 e1,.int .i64 e3,.int .i64 e4,.int .i64 e5,.slice U.a U.len U.cap,.slice V.a V.len V.cap]) gm) gl)∨
 (∃ ay:List PanicEntry,(a6=.panicked ay)∧LeaveF Tryz.prog 39 [.pointer ((some ⟨c,0,none⟩))] (.panicking ay) (fun gn=>∃ e6:Int,∃ e7:ByteArray,∃ e8:Int,∃ e9:Int,∃ fa:Int,∃ fc:Int,∃ fd:Int,∃ X:Sl,∃ Y:Sl,(At (fun b=>b=gn) ⟨c,0,none⟩ [.int .i64 e6,.string e7,.int .i64 e8,.int .i64 e9,.int .i64 fa,.int .i64 fc,.int .i64 fd,.slice X.a X.len X.cap,.slice Y.a Y.len Y.cap])∧
 K (.agg #[.int .i64 e6,.string e7,.int .i64 e8,.int .i64 e9,.int .i64 fa,.int .i64 fc,.int .i64 fd,.slice X.a X.len X.cap,.slice Y.a Y.len Y.cap]) gn) gk))
 (Br (f==9)
 (∃ co:Int,∃ cp:ByteArray,∃ cq:Int,∃ cr:Int,∃ cs:Int,∃ ct:Int,∃ cu:Nat,∃ cv:ByteArray,∃ cw:Int,∃ v:Sl,∃ u:Sl,(At (fun b=>b=e) ⟨d,0,none⟩ [.int .i64 co,.string cp,.int .i64 cq,.int .i64 cr,.int .i64 cs,.int .i64 ct,.float .f64 cu,.string cv,.int .i64 cw,.slice v.a v.len v.cap,.slice u.a u.len u.cap])∧
 Calls Tryz.prog 19 #[.pointer g,.agg #[.int .i64 co,.string cp,.int .i64 cq,.int .i64 cr,.int .i64 cs,.int .i64 ct,.float .f64 cu,.string cv,.int .i64 cw,.slice v.a v.len v.cap,.slice u.a u.len u.cap]] e fun a7 go=>
 (∃ cx:Int,∃ cy:ByteArray,∃ cz:Int,∃ c0:Int,∃ c1:Int,∃ c2:Int,∃ c3:Int,∃ x:Sl,∃ y:Sl,(a7=.returned (.agg #[.int .i64 cx,.string cy,.int .i64 cz,.int .i64 c0,.int .i64 c1,.int .i64 c2,.int .i64 c3,.slice x.a x.len x.cap,.slice y.a y.len y.cap]))∧
 ∃ gp:World,((Instr.storeAt 31 (.pointer ((some ⟨c,0,none⟩))) (.agg #[.int .i64 cx,.string cy,.int .i64 cz,.int .i64 c0,.int .i64 c1,.int .i64 c2,.int .i64 c3,.slice x.a x.len x.cap,.slice y.a y.len y.cap])).run Tryz.prog go=.ok () gp)∧
 LeaveF Tryz.prog 39 [.pointer ((some ⟨c,0,none⟩))] .returning (fun gr=>∃ fe:Int,∃ ff:ByteArray,∃ fg:Int,∃ fh:Int,∃ fi:Int,∃ fj:Int,∃ fl:Int,∃ Z:Sl,∃ aa:Sl,(At (fun b=>b=gr) ⟨c,0,none⟩ [.int .i64 fe,.string ff,.int .i64 fg,.int .i64 fh,.int .i64 fi,.int .i64 fj,.int .i64 fl,.slice Z.a Z.len Z.cap,.slice aa.a aa.len aa.cap])∧
 K (.agg #[.int .i64 fe,.string ff,.int .i64 fg,.int .i64 fh,.int .i64 fi,.int .i64 fj,.int .i64 fl,.slice Z.a Z.len Z.cap,.slice aa.a aa.len aa.cap]) gr) gp)∨
 (∃ az:List PanicEntry,(a7=.panicked az)∧LeaveF Tryz.prog 39 [.pointer ((some ⟨c,0,none⟩))] (.panicking az) (fun gs=>∃ fm:Int,∃ fn:ByteArray,∃ fo:Int,∃ fp:Int,∃ fq:Int,∃ fr:Int,∃ fs:Int,∃ ac:Sl,∃ ad:Sl,(At (fun b=>b=gs) ⟨c,0,none⟩ [.int .i64 fm,.string fn,.int .i64 fo,.int .i64 fp,.int .i64 fq,.int .i64 fr,.int .i64 fs,.slice ac.a ac.len ac.cap,.slice ad.a ad.len ad.cap])∧
 K (.agg #[.int .i64 fm,.string fn,.int .i64 fo,.int .i64 fp,.int .i64 fq,.int .i64 fr,.int .i64 fs,.slice ac.a ac.len ac.cap,.slice ad.a ad.len ad.cap]) gs) go))
 (Drw e fun am he=>
 ∃ c4:ByteArray,(At am ⟨d,0 + 1,none⟩ [.string c4])∧
 ∃ c6:Int,∃ c7:ByteArray,∃ c8:Int,∃ c9:Int,∃ da:Int,∃ db:Int,∃ dc:Nat,∃ dd:ByteArray,∃ de:Int,∃ A:Sl,∃ z:Sl,(At am ⟨d,0,none⟩ [.int .i64 c6,.string c7,.int .i64 c8,.int .i64 c9,.int .i64 da,.int .i64 db,.float .f64 dc,.string dd,.int .i64 de,.slice A.a A.len A.cap,.slice z.a z.len z.cap])∧
 Calls Tryz.prog 46 #[.pointer g,.string c4] he fun a8 aq=>
 (∃ c5:Option Addr,(a8=.returned (.pointer c5))∧
 (am aq)∧
 Calls Tryz.prog 45 #[.pointer g,.pointer c5,.agg #[.int .i64 c6,.string c7,.int .i64 c8,.int .i64 c9,.int .i64 da,.int .i64 db,.float .f64 dc,.string dd,.int .i64 de,.slice A.a A.len A.cap,.slice z.a z.len z.cap]] aq fun a9 ar=>
 (∃ df:Int,∃ dg:ByteArray,∃ dh:Int,∃ di:Int,∃ dj:Int,∃ dk:Int,∃ dl:Int,∃ C:Sl,∃ D:Sl,(a9=.returned (.agg #[.int .i64 df,.string dg,.int .i64 dh,.int .i64 di,.int .i64 dj,.int .i64 dk,.int .i64 dl,.slice C.a C.len C.cap,.slice D.a D.len D.cap]))∧
 (am ar)∧
 ∃ gt:World,((Instr.storeAt 31 (.pointer ((some ⟨c,0,none⟩))) (.agg #[.int .i64 df,.string dg,.int .i64 dh,.int .i64 di,.int .i64 dj,.int .i64 dk,.int .i64 dl,.slice C.a C.len C.cap,.slice D.a D.len D.cap])).run Tryz.prog ar=.ok () gt)∧
 LeaveF Tryz.prog 39 [.pointer ((some ⟨c,0,none⟩))] .returning (fun gu=>∃ ft:Int,∃ fu:ByteArray,∃ fv:Int,∃ fw:Int,∃ fx:Int,∃ fy:Int,∃ fz:Int,∃ ae:Sl,∃ ag:Sl,(At (fun b=>b=gu) ⟨c,0,none⟩ [.int .i64 ft,.string fu,.int .i64 fv,.int .i64 fw,.int .i64 fx,.int .i64 fy,.int .i64 fz,.slice ae.a ae.len ae.cap,.slice ag.a ag.len ag.cap])∧
 K (.agg #[.int .i64 ft,.string fu,.int .i64 fv,.int .i64 fw,.int .i64 fx,.int .i64 fy,.int .i64 fz,.slice ae.a ae.len ae.cap,.slice ag.a ag.len ag.cap]) gu) gt)∨
 (∃ a1:List PanicEntry,(a9=.panicked a1)∧LeaveF Tryz.prog 39 [.pointer ((some ⟨c,0,none⟩))] (.panicking a1) (fun gv=>∃ f0:Int,∃ f1:ByteArray,∃ f2:Int,∃ f3:Int,∃ f4:Int,∃ f5:Int,∃ f6:Int,∃ ah:Sl,∃ ai:Sl,(At (fun b=>b=gv) ⟨c,0,none⟩ [.int .i64 f0,.string f1,.int .i64 f2,.int .i64 f3,.int .i64 f4,.int .i64 f5,.int .i64 f6,.slice ah.a ah.len ah.cap,.slice ai.a ai.len ai.cap])∧
 K (.agg #[.int .i64 f0,.string f1,.int .i64 f2,.int .i64 f3,.int .i64 f4,.int .i64 f5,.int .i64 f6,.slice ah.a ah.len ah.cap,.slice ai.a ai.len ai.cap]) gv) ar))∨
 (∃ a0:List PanicEntry,(a8=.panicked a0)∧LeaveF Tryz.prog 39 [.pointer ((some ⟨c,0,none⟩))] (.panicking a0) (fun gw=>∃ f8:Int,∃ f9:ByteArray,∃ ga:Int,∃ gb:Int,∃ gc:Int,∃ gd:Int,∃ ge:Int,∃ aj:Sl,∃ ak:Sl,(At (fun b=>b=gw) ⟨c,0,none⟩ [.int .i64 f8,.string f9,.int .i64 ga,.int .i64 gb,.int .i64 gc,.int .i64 gd,.int .i64 ge,.slice aj.a aj.len aj.cap,.slice ak.a ak.len ak.cap])∧
 K (.agg #[.int .i64 f8,.string f9,.int .i64 ga,.int .i64 gb,.int .i64 gc,.int .i64 gd,.int .i64 ge,.slice aj.a aj.len aj.cap,.slice ak.a ak.len ak.cap]) gw) aq))))))∨
 (∃ av:List PanicEntry,(a3=.panicked av)∧LeaveF Tryz.prog 39 [.pointer ((some ⟨c,0,none⟩))] (.panicking av) (fun gx=>∃ gf:Int,∃ d0:ByteArray,∃ d1:Int,∃ d2:Int,∃ d3:Int,∃ d4:Int,∃ d5:Int,∃ G:Sl,∃ H:Sl,(At (fun b=>b=gx) ⟨c,0,none⟩ [.int .i64 gf,.string d0,.int .i64 d1,.int .i64 d2,.int .i64 d3,.int .i64 d4,.int .i64 d5,.slice G.a G.len G.cap,.slice H.a H.len H.cap])∧
 K (.agg #[.int .i64 gf,.string d0,.int .i64 d1,.int .i64 d2,.int .i64 d3,.int .i64 d4,.int .i64 d5,.slice G.a G.len G.cap,.slice H.a H.len H.cap]) gx) al))∨
 (∃ au:List PanicEntry,(a2=.panicked au)∧LeaveF Tryz.prog 39 [.pointer ((some ⟨c,0,none⟩))] (.panicking au) (fun gz=>∃ d6:Int,∃ d7:ByteArray,∃ d9:Int,∃ ea:Int,∃ eb:Int,∃ ec:Int,∃ ed:Int,∃ I:Sl,∃ J:Sl,(At (fun b=>b=gz) ⟨c,0,none⟩ [.int .i64 d6,.string d7,.int .i64 d9,.int .i64 ea,.int .i64 eb,.int .i64 ec,.int .i64 ed,.slice I.a I.len I.cap,.slice J.a J.len J.cap])∧
 K (.agg #[.int .i64 d6,.string d7,.int .i64 d9,.int .i64 ea,.int .i64 eb,.int .i64 ec,.int .i64 ed,.slice I.a I.len I.cap,.slice J.a J.len J.cap]) gz) gy)) hd) w
def sk15:Sk:=(.seq .leaf (.seq (.seq .leaf (.block (.seq .leaf (.cond .leaf (.cut [15] [.bool] [15,16,17] .leaf .leaf))))) .leaf))
theorem call15 (d:Option Addr) (e:Int) (f:ByteArray) (g:Int) (i:Int) (j:Int) (k:Int) (l:Nat) (m:ByteArray) (n:Int) (c:Sl) (b:Sl) (K:Value→World→Prop) (w:World) (h:B15 d e f g i j k l m n c b K w):Gets Tryz.prog 15 #[.pointer d,.agg #[.int .i64 e,.string f,.int .i64 g,.int .i64 i,.int .i64 j,.int .i64 k,.float .f64 l,.string m,.int .i64 n,.slice c.a c.len c.cap,.slice b.a b.len b.cap]] w K:=cqd (sk:=sk15) Tryz.func15 (by kernel_rfl) (by kernel_rfl) (by kernel_rfl) h
def B19 (M:Option Addr) (dy:Int) (dz:ByteArray) (d0:Int) (d1:Int) (d2:Int) (d3:Int) (d4:Nat) (d5:ByteArray) (d6:Int) (Q:Sl) (O:Sl) (K:Value→World→Prop) (w:World):Prop:=
 New (.cells #[.int .i64 dy,.string dz,.int .i64 d0,.int .i64 d1,.int .i64 d2,.int .i64 d3,.float .f64 d4,.string d5,.int .i64 d6,.slice Q.a Q.len Q.cap,.slice O.a O.len O.cap] 38 (0,0)) (fun d d7=>
 New (.cells #[.int .i64 0,.string (ByteArray.mk #[]),.int .i64 0,.int .i64 0,.int .i64 0,.int .i64 0,.int .i64 0,.slice none 0 0,.slice none 0 0] 31 (0,0)) (fun c dm=>
 ∃ (L:World→Prop),(∃ bq:Int,∃ br:ByteArray,∃ bs:Int,∃ bt:Int,∃ bu:Int,∃ bv:Int,∃ bw:Nat,∃ bx:ByteArray,∃ bz:Int,∃ p:Sl,∃ o:Sl,(At (fun b=>b=dm) ⟨d,0,none⟩ [.int .i64 bq,.string br,.int .i64 bs,.int .i64 bt,.int .i64 bu,.int .i64 bv,.float .f64 bw,.string bx,.int .i64 bz,.slice p.a p.len p.cap,.slice o.a o.len o.cap])∧
 Calls Tryz.prog 41 #[.agg #[.int .i64 bq,.string br,.int .i64 bs,.int .i64 bt,.int .i64 bu,.int .i64 bv,.float .f64 bw,.string bx,.int .i64 bz,.slice p.a p.len p.cap,.slice o.a o.len o.cap]] dm fun ae J=>
 (∃ b0:Bool,(ae=.returned (.bool b0))∧
 Br b0
 (∃ am:Int,(At (fun b=>b=J) ⟨d,0,none⟩ [.int .i64 am])∧
 Calls Tryz.prog 40 #[.bool (am==9),.int .i64 1] J fun af dt=>
 ((af=.returned (.tuple #[]))∧
 L  dt)∨
 (∃ X:List PanicEntry,(af=.panicked X)∧LeaveF Tryz.prog 39 [.pointer ((some ⟨c,0,none⟩))] (.panicking X) (fun du=>∃ an:Int,∃ ao:ByteArray,∃ az:Int,∃ a5:Int,∃ a6:Int,∃ a7:Int,∃ a8:Int,∃ j:Sl,∃ k:Sl,(At (fun b=>b=du) ⟨c,0,none⟩ [.int .i64 an,.string ao,.int .i64 az,.int .i64 a5,.int .i64 a6,.int .i64 a7,.int .i64 a8,.slice j.a j.len j.cap,.slice k.a k.len k.cap])∧
 K (.agg #[.int .i64 an,.string ao,.int .i64 az,.int .i64 a5,.int .i64 a6,.int .i64 a7,.int .i64 a8,.slice j.a j.len j.cap,.slice k.a k.len k.cap]) du) dt))
 (Calls Tryz.prog 40 #[.bool false,.int .i64 1] J fun ag dv=>
 ((ag=.returned (.tuple #[]))∧
 L  dv)∨
 (∃ Y:List PanicEntry,(ag=.panicked Y)∧LeaveF Tryz.prog 39 [.pointer ((some ⟨c,0,none⟩))] (.panicking Y) (fun dw=>∃ a9:Int,∃ ap:ByteArray,∃ aq:Int,∃ ar:Int,∃ au:Int,∃ av:Int,∃ aw:Int,∃ e:Sl,∃ f:Sl,(At (fun b=>b=dw) ⟨c,0,none⟩ [.int .i64 a9,.string ap,.int .i64 aq,.int .i64 ar,.int .i64 au,.int .i64 av,.int .i64 aw,.slice e.a e.len e.cap,.slice f.a f.len f.cap])∧
 K (.agg #[.int .i64 a9,.string ap,.int .i64 aq,.int .i64 ar,.int .i64 au,.int .i64 av,.int .i64 aw,.slice e.a e.len e.cap,.slice f.a f.len f.cap]) dw) dv)))∨
 (∃ V:List PanicEntry,(ae=.panicked V)∧LeaveF Tryz.prog 39 [.pointer ((some ⟨c,0,none⟩))] (.panicking V) (fun dx=>∃ ax:Int,∃ ay:ByteArray,∃ a0:Int,∃ a1:Int,∃ a2:Int,∃ a3:Int,∃ a4:Int,∃ g:Sl,∃ i:Sl,(At (fun b=>b=dx) ⟨c,0,none⟩ [.int .i64 ax,.string ay,.int .i64 a0,.int .i64 a1,.int .i64 a2,.int .i64 a3,.int .i64 a4,.slice g.a g.len g.cap,.slice i.a i.len i.cap])∧
 K (.agg #[.int .i64 ax,.string ay,.int .i64 a0,.int .i64 a1,.int .i64 a2,.int .i64 a3,.int .i64 a4,.slice g.a g.len g.cap,.slice i.a i.len i.cap]) dx) J))∧
 ∀ (ea:Env)  (G:World),L  G→
 ∃ ba:ByteArray,(At (fun b=>b=G) ⟨d,0 + 1,none⟩ [.string ba])∧
 Br (!ba.toList==(ByteArray.mk #[]).toList)
 (∃ bb:ByteArray,(At (fun b=>b=G) ⟨d,0 + 1,none⟩ [.string bb])∧
 Calls Tryz.prog 46 #[.pointer M,.string bb] G fun ah de=>
 (∃ bc:Option Addr,(ah=.returned (.pointer bc))∧
 Calls Tryz.prog 56 #[.pointer M,.pointer bc] de fun ai df=>
 (∃ bd:Int,∃ be:ByteArray,∃ bf:Int,∃ bg:Int,∃ bh:Int,∃ bi:Int,∃ bj:Int,∃ l:Sl,∃ m:Sl,(ai=.returned (.agg #[.int .i64 bd,.string be,.int .i64 bf,.int .i64 bg,.int .i64 bh,.int .i64 bi,.int .i64 bj,.slice l.a l.len l.cap,.slice m.a m.len m.cap]))∧
 ∃ dg:World,((Instr.storeAt 31 (.pointer ((some ⟨c,0,none⟩))) (.agg #[.int .i64 bd,.string be,.int .i64 bf,.int .i64 bg,.int .i64 bh,.int .i64 bi,.int .i64 bj,.slice l.a l.len l.cap,.slice m.a m.len m.cap])).run Tryz.prog df=.ok () dg)∧
 LeaveF Tryz.prog 39 [.pointer ((some ⟨c,0,none⟩))] .returning (fun dh=>∃ b1:Int,∃ b2:ByteArray,∃ cb:Int,∃ ck:Int,∃ ct:Int,∃ c2:Int,∃ db:Int,∃ E:Sl,∃ F:Sl,(At (fun b=>b=dh) ⟨c,0,none⟩ [.int .i64 b1,.string b2,.int .i64 cb,.int .i64 ck,.int .i64 ct,.int .i64 c2,.int .i64 db,.slice E.a E.len E.cap,.slice F.a F.len F.cap])∧
 K (.agg #[.int .i64 b1,.string b2,.int .i64 cb,.int .i64 ck,.int .i64 ct,.int .i64 c2,.int .i64 db,.slice E.a E.len E.cap,.slice F.a F.len F.cap]) dh) dg)∨
 (∃ aa:List PanicEntry,(ai=.panicked aa)∧LeaveF Tryz.prog 39 [.pointer ((some ⟨c,0,none⟩))] (.panicking aa) (fun di=>∃ dd:Int,∃ b3:ByteArray,∃ b4:Int,∃ b5:Int,∃ b6:Int,∃ b7:Int,∃ b8:Int,∃ q:Sl,∃ r:Sl,(At (fun b=>b=di) ⟨c,0,none⟩ [.int .i64 dd,.string b3,.int .i64 b4,.int .i64 b5,.int .i64 b6,.int .i64 b7,.int .i64 b8,.slice q.a q.len q.cap,.slice r.a r.len r.cap])∧
 K (.agg #[.int .i64 dd,.string b3,.int .i64 b4,.int .i64 b5,.int .i64 b6,.int .i64 b7,.int .i64 b8,.slice q.a q.len q.cap,.slice r.a r.len r.cap]) di) df))∨
 (∃ Z:List PanicEntry,(ah=.panicked Z)∧LeaveF Tryz.prog 39 [.pointer ((some ⟨c,0,none⟩))] (.panicking Z) (fun dj=>∃ b9:Int,∃ ca:ByteArray,∃ cc:Int,∃ cd:Int,∃ ce:Int,∃ cf:Int,∃ cg:Int,∃ s:Sl,∃ t:Sl,(At (fun b=>b=dj) ⟨c,0,none⟩ [.int .i64 b9,.string ca,.int .i64 cc,.int .i64 cd,.int .i64 ce,.int .i64 cf,.int .i64 cg,.slice s.a s.len s.cap,.slice t.a t.len t.cap])∧
 K (.agg #[.int .i64 b9,.string ca,.int .i64 cc,.int .i64 cd,.int .i64 ce,.int .i64 cf,.int .i64 cg,.slice s.a s.len s.cap,.slice t.a t.len t.cap]) dj) de))
 (∃ bk:Int,(At (fun b=>b=G) ⟨d,0 + 2,none⟩ [.int .i64 bk])∧
 Calls Tryz.prog 57 #[.pointer M,.int .i64 bk] G fun aj dk=>
 (∃ bl:Option Addr,∃ bm:Option Addr,(aj=.returned (.agg #[.pointer bl,.pointer bm]))∧
 New (.cells #[.pointer none,.pointer none] 102 (0,0)) (fun N d8=>
 ∃ dl:World,((Instr.storeAt 102 (.pointer ((some ⟨N,0,none⟩))) (.agg #[.pointer bl,.pointer bm])).run Tryz.prog d8=.ok () dl)∧
 Drw dl fun H d9=>
 ∃ bn:Int,(At H ⟨d,0 + 2,none⟩ [.int .i64 bn])∧
 ∃ bo:Option Addr,(At H ⟨N,0,none⟩ [.pointer bo])∧
 ∃ bp:Option Addr,(At H ⟨N,0 + 1,none⟩ [.pointer bp])∧
 Calls Tryz.prog 58 #[.pointer bo] d9 fun ak T=>
 (∃ n:Sl,(ak=.returned (.slice n.a n.len n.cap))∧
 (H T)∧
 Calls Tryz.prog 59 #[.pointer bp] T fun al U=>
 (∃ I:Sl,(al=.returned (.slice I.a I.len I.cap))∧
 (H U)∧
 ∃ dn:World,((Instr.storeAt 31 (.pointer ((some ⟨c,0,none⟩))) (.agg #[.int .i64 0,.string (ByteArray.mk #[]),.int .i64 0,.int .i64 bn,.int .i64 0,.int .i64 ((↑I.len:Int)),.int .i64 0,.slice n.a n.len n.cap,.slice none 0 0])).run Tryz.prog U=.ok () dn)∧
 LeaveF Tryz.prog 39 [.pointer ((some ⟨c,0,none⟩))] .returning (fun dp=>∃ ch:Int,∃ ci:ByteArray,∃ cj:Int,∃ cl:Int,∃ cm:Int,∃ cn:Int,∃ co:Int,∃ u:Sl,∃ v:Sl,(At (fun b=>b=dp) ⟨c,0,none⟩ [.int .i64 ch,.string ci,.int .i64 cj,.int .i64 cl,.int .i64 cm,.int .i64 cn,.int .i64 co,.slice u.a u.len u.cap,.slice v.a v.len v.cap])∧
 K (.agg #[.int .i64 ch,.string ci,.int .i64 cj,.int .i64 cl,.int .i64 cm,.int .i64 cn,.int .i64 co,.slice u.a u.len u.cap,.slice v.a v.len v.cap]) dp) dn)∨
 (∃ ad:List PanicEntry,(al=.panicked ad)∧LeaveF Tryz.prog 39 [.pointer ((some ⟨c,0,none⟩))] (.panicking ad) (fun dq=>∃ cp:Int,∃ cq:ByteArray,∃ cr:Int,∃ cs:Int,∃ cu:Int,∃ cv:Int,∃ cw:Int,∃ x:Sl,∃ y:Sl,(At (fun b=>b=dq) ⟨c,0,none⟩ [.int .i64 cp,.string cq,.int .i64 cr,.int .i64 cs,.int .i64 cu,.int .i64 cv,.int .i64 cw,.slice x.a x.len x.cap,.slice y.a y.len y.cap])∧
 K (.agg #[.int .i64 cp,.string cq,.int .i64 cr,.int .i64 cs,.int .i64 cu,.int .i64 cv,.int .i64 cw,.slice x.a x.len x.cap,.slice y.a y.len y.cap]) dq) U))∨
 (∃ ac:List PanicEntry,(ak=.panicked ac)∧LeaveF Tryz.prog 39 [.pointer ((some ⟨c,0,none⟩))] (.panicking ac) (fun dr=>∃ cx:Int,∃ cy:ByteArray,∃ cz:Int,∃ c0:Int,∃ c1:Int,∃ c3:Int,∃ c4:Int,∃ z:Sl,∃ A:Sl,(At (fun b=>b=dr) ⟨c,0,none⟩ [.int .i64 cx,.string cy,.int .i64 cz,.int .i64 c0,.int .i64 c1,.int .i64 c3,.int .i64 c4,.slice z.a z.len z.cap,.slice A.a A.len A.cap])∧
 K (.agg #[.int .i64 cx,.string cy,.int .i64 cz,.int .i64 c0,.int .i64 c1,.int .i64 c3,.int .i64 c4,.slice z.a z.len z.cap,.slice A.a A.len A.cap]) dr) T)) dk)∨
 (∃ ab:List PanicEntry,(aj=.panicked ab)∧LeaveF Tryz.prog 39 [.pointer ((some ⟨c,0,none⟩))] (.panicking ab) (fun ds=>∃ c5:Int,∃ c6:ByteArray,∃ c7:Int,∃ c8:Int,∃ c9:Int,∃ da:Int,∃ dc:Int,∃ C:Sl,∃ D:Sl,(At (fun b=>b=ds) ⟨c,0,none⟩ [.int .i64 c5,.string c6,.int .i64 c7,.int .i64 c8,.int .i64 c9,.int .i64 da,.int .i64 dc,.slice C.a C.len C.cap,.slice D.a D.len D.cap])∧
 K (.agg #[.int .i64 c5,.string c6,.int .i64 c7,.int .i64 c8,.int .i64 c9,.int .i64 da,.int .i64 dc,.slice C.a C.len C.cap,.slice D.a D.len D.cap]) ds) dk))) d7) w
def sk19:Sk:=(.cut [] [] [6,7,8,9,10,11,12,13] .leaf .leaf)
theorem call19 (d:Option Addr) (e:Int) (f:ByteArray) (g:Int) (i:Int) (j:Int) (k:Int) (l:Nat) (m:ByteArray) (n:Int) (c:Sl) (b:Sl) (K:Value→World→Prop) (w:World) (h:B19 d e f g i j k l m n c b K w):Gets Tryz.prog 19 #[.pointer d,.agg #[.int .i64 e,.string f,.int .i64 g,.int .i64 i,.int .i64 j,.int .i64 k,.float .f64 l,.string m,.int .i64 n,.slice c.a c.len c.cap,.slice b.a b.len b.cap]] w K:=cqd (sk:=sk19) Tryz.func19 (by kernel_rfl) (by kernel_rfl) (by kernel_rfl) h
end Go.Proofs.YtfgbbckfikiomaaGreatDoor
/- The formulas of functions of this seat's translation, printed by a program of mine off the translation; each is proved equal to 'fnF' of the function's body, so it is enough for the call. No condition. -/
namespace Go.Proofs.YtfgbbckfikiomaaGreatDoor
open Go Go.VC
set_option linter.unusedVariables false
set_option maxRecDepth 10000
def B47 (f:Int) (K:Value→World→Prop) (w:World):Prop:=
 ∃ (c:Int→World→Prop) (e:Int→World→Nat),(c 0 w)∧∀ (g:Env) (a:Int) (b:World),c a b→
 Br (decide (a<31))
 (∃ d:UInt8,((0:Int)≤a)∧
 ((ByteArray.mk #[65,66,67,68,69,70,71,72,74,75,76,77,78,80,81,82,84,85,86,87,88,89,90,50,51,52,53,54,55,56,57])[a.toNat]? =some d)∧
 Br ((↑d.toNat:Int)==f)
 (K (.int .i64 a) b)
 ((c (IntKind.i64.wrap (a + 1)) b)∧e (IntKind.i64.wrap (a + 1)) b<e a b))
 (K (.int .i64 ((-1))) b)
def sk47:Sk:=(.seq .leaf (.seq (.seq .leaf (.block (.loop [3] [(.int .i64)] [2,3,4,5,6,7,8,9,10,11,12] .leaf))) .leaf))
theorem call47 (a:Int) (K:Value→World→Prop) (w:World) (h:B47 a K w):Gets Tryz.prog 47 #[.int .u8 a] w K:=cq (sk:=sk47) Tryz.func47 (by kernel_rfl) (by kernel_rfl) (by kernel_rfl) h
def B48 (k:Value) (K:Value→World→Prop) (w:World):Prop:=
 New (.cells (Value.cells k) 88 (0,0)) (fun c b=>
 ∃ i:Int,(At (fun a=>a=b) (Addr.add ⟨c,0,none⟩ 0) [.int .i64 i])∧
 ∃ j:Int,(At (fun a=>a=b) (Addr.add ⟨c,0,none⟩ 1) [.int .i64 j])∧
 ∃ d:Int,(At (fun a=>a=b) (Addr.add ⟨c,0,none⟩ 2) [.int .i64 d])∧
 ∃ e:Int,(At (fun a=>a=b) (Addr.add ⟨c,0,none⟩ 3) [.int .i64 e])∧
 ∃ f:Int,(At (fun a=>a=b) (Addr.add ⟨c,0,none⟩ 4) [.int .i64 f])∧
 ∃ g:Int,(At (fun a=>a=b) (Addr.add ⟨c,0,none⟩ 5) [.int .i64 g])∧
 K (.int .i64 (IntKind.i64.wrap (IntKind.i64.wrap (IntKind.i64.wrap (IntKind.i64.wrap (IntKind.i64.wrap (IntKind.i64.wrap (2 * i) + IntKind.i64.wrap (3 * j)) + IntKind.i64.wrap (4 * d)) + IntKind.i64.wrap (5 * e)) + IntKind.i64.wrap (6 * f)) + g))) b) w
theorem call48 (a:Value) (K:Value→World→Prop) (w:World) (h:B48 a K w):Gets Tryz.prog 48 #[a] w K:=cq (sk:=.leaf) Tryz.func48 (by kernel_rfl) (by kernel_rfl) (by kernel_rfl) h
def B16 (l:ByteArray) (K:Value→World→Prop) (w:World):Prop:=
 Br ((↑l.size:Int) !=6)
 (K (.tuple #[.int .i64 0,.int .i64 6]) w)
 (New (.cells #[.int .i64 0,.int .i64 0,.int .i64 0,.int .i64 0,.int .i64 0,.int .i64 0] 88 (0,0)) (fun g t=>
 ∃ (f:Int→Int→World→Prop) (i:Int→Int→World→Nat),(f 0 0 t)∧∀ (v:Env) (b:Int) (a:Int) (d:World),f b a d→
 Br (decide (a<6))
 (∃ m:UInt8,((0:Int)≤a)∧
 (l[a.toNat]? =some m)∧
 Calls Tryz.prog 47 #[.int .u8 ((↑m.toNat:Int))] d fun r u=>
 ∃ n:Int,(r=.returned (.int .i64 n))∧
 Rng a 6 (∃ c:World,((Instr.storeAt 3 (.pointer ((some (Addr.add ⟨g,0,none⟩ a.toNat)))) (.int .i64 n)).run Tryz.prog u=.ok () c)∧
 Rng a 6 (∃ o:Int,(At (fun e=>e=c) (Addr.add ⟨g,0,none⟩ a.toNat) [.int .i64 o])∧
 Br (decide (o<0))
 (K (.tuple #[.int .i64 0,.int .i64 6]) c)
 (Br (decide (a<5))
 (Rng a 6 (∃ j:Int,(At (fun e=>e=c) (Addr.add ⟨g,0,none⟩ a.toNat) [.int .i64 j])∧
 (f (IntKind.i64.wrap (IntKind.i64.wrap (b * 31) + j)) (IntKind.i64.wrap (a + 1)) c)∧i (IntKind.i64.wrap (IntKind.i64.wrap (b * 31) + j)) (IntKind.i64.wrap (a + 1)) c<i b a d))
 ((f b (IntKind.i64.wrap (a + 1)) c)∧i b (IntKind.i64.wrap (a + 1)) c<i b a d)))))
 (∃ k:List Value,(k.length=6)∧
 (At (fun e=>e=d) ⟨g,0,none⟩ k)∧
 Calls Tryz.prog 48 #[.agg k.toArray] d fun s q=>
 ∃ p:Int,(s=.returned (.int .i64 p))∧
 Br (p.tmod 31 !=0)
 (K (.tuple #[.int .i64 0,.int .i64 6]) q)
 (K (.tuple #[.int .i64 b,.int .i64 0]) q))) w)
def sk16:Sk:=(.seq .leaf (.seq .leaf (.seq .leaf (.seq .leaf (.seq (.seq .leaf (.block (.loop [5,6] [(.int .i64),(.int .i64)] [2,3,5,6,10,11,12,13,14,15,16,17,18,19,20,21,22,23,24,25,26,27,28,29,30,31] .leaf))) .leaf)))))
theorem call16 (a:ByteArray) (K:Value→World→Prop) (w:World) (h:B16 a K w):Gets Tryz.prog 16 #[.string a] w K:=cq (sk:=sk16) Tryz.func16 (by kernel_rfl) (by kernel_rfl) (by kernel_rfl) h
end Go.Proofs.YtfgbbckfikiomaaGreatDoor

/- Packages fare, cmp: floats in order, their places. Condition: words. -/
namespace Go.Proofs.YtfgbbckfikiomaaGreatDoor
set_option linter.unusedVariables false
open Go Go.VC Ieee
variable {R:Cx} {Hs Rest:List HP} {w:World}
theorem cmpF_lt (t1 t2:Operand) (T:TypeId) (x y:Nat) (w:World):((do eqGuard BinOp.lss T t1 t2 (.float .f64 x) (.float .f64 y);binOp BinOp.lss T (.float .f64 x) (.float .f64 y):Sem Value)).run Tryz.prog w=.ok (.bool (double.order x y==some .lt)) w:=by
 simp [eqGuard,binOp,Op.floatCmp,FloatKind.format]
theorem nan_spec {x:Nat} (hw:Sat R Hs w):Gets Tryz.prog 273 #[.float .f64 x] w fun v w'=>v=.bool (nanF x)∧Sat R Hs w':=by
 apply call273
 refine ⟨_,fun w' _=>cmp_ne _ _ _ _ _ w',?_,hw⟩
 have h:=ord_self x
 rw [bne,h,Bool.not_not]
theorem compareF_spec {x y:Nat} (hw:Sat R Hs w):Gets Tryz.prog 258 #[.float .f64 x,.float .f64 y] w fun v w'=>v=.int .i64 (rankF x y)∧Sat R Hs w':=by
 apply call258
 refine (nan_spec hw).use ?_
 clear hw
 rintro _ w ⟨rfl,hw⟩
 refine ⟨_,rfl,?_⟩
 refine (nan_spec hw).use ?_
 clear hw
 rintro _ w ⟨rfl,hw⟩
 refine ⟨_,rfl,?_⟩
 unfold rankF
 refine Br.mk (fun hx=>?_) (fun hx=>?_)
 ·refine Br.mk (fun hy=>⟨?_,hw⟩) (fun hy=>⟨?_,hw⟩)
  ·rw [kv_nan hx,kv_nan hy,if_neg (by omega),if_pos rfl]
  ·have:=kv_bd hy
   rw [kv_nan hx,if_pos (by omega)]
 ·refine Br.mk (fun hy=>⟨?_,hw⟩) (fun hy=>?_)
  ·have:=kv_bd hx
   rw [kv_nan hy,if_neg (by omega),if_neg (by omega)]
  ·obtain ⟨o1,o2,o3⟩:=ord_lt hx hy
   refine ⟨_,fun w' _=>cmpF_lt _ _ _ _ _ w',?_⟩
   rw [o1]
   refine Br.d (fun h=>⟨by rw [if_pos h],hw⟩) (fun h=>?_)
   refine ⟨_,fun w' _=>cmp_gt _ _ _ _ _ w',?_⟩
   rw [o3]
   refine Br.d (fun h2=>⟨by rw [if_neg h,if_neg (by omega)],hw⟩) (fun h2=>⟨by rw [if_neg h,if_pos (by omega)],hw⟩)
theorem rank_spec {x y:Nat} (hw:Sat R Hs w):Gets Tryz.prog 221 #[.float .f64 x,.float .f64 y] w fun v w'=>v=.int .i64 (rankF x y)∧Sat R Hs w':=by
 apply call221
 refine (compareF_spec hw).use ?_
 rintro _ w ⟨rfl,hw⟩
 exact ⟨_,rfl,rfl,hw⟩
def cmpI (x y:Int):Int:=if x<y then -1 else if y<x then 1 else 0
theorem compareI_spec {x y:Int} (hw:Sat R Hs w):Gets Tryz.prog 222 #[.int .i64 x,.int .i64 y] w fun v w'=>v=.int .i64 (cmpI x y)∧Sat R Hs w':=by
 apply call222
 have nan:∀ {z:Int} {w:World},Sat R Hs w→Gets Tryz.prog 259 #[.int .i64 z] w fun v w'=>v=.bool false∧Sat R Hs w':=fun {z w} hw=>by
  apply call259
  exact ⟨by simp,hw⟩
 refine (nan hw).use ?_
 clear hw
 rintro _ w ⟨rfl,hw⟩
 refine ⟨_,rfl,?_⟩
 refine (nan hw).use ?_
 clear hw
 rintro _ w ⟨rfl,hw⟩
 refine ⟨_,rfl,Br.f rfl (Br.f rfl ?_)⟩
 unfold cmpI
 refine Br.d (fun h=>⟨by rw [if_pos h],hw⟩) (fun h=>Br.d (fun h2=>⟨by rw [if_neg h,if_pos (by omega)],hw⟩) (fun h2=>⟨by rw [if_neg h,if_neg (by omega)],hw⟩))
end Go.Proofs.YtfgbbckfikiomaaGreatDoor

/- Package booking: whether a command may be. Condition: bounds on lengths. -/
namespace Go.Proofs.YtfgbbckfikiomaaGreatDoor
set_option linter.unusedVariables false
open Go Go.VC
open Classical
variable {R:Cx} {Hs Rest:List HP} {w:World}
abbrev cmV (c:Cm) (sg sp:Sl):List Value:=[.int .i64 c.kind,.string c.pnr,.int .i64 c.flt,.int .i64 c.cls,.int .i64 c.many,.int .i64 c.time,.float .f64 c.sc,.string c.lab,.int .i64 c.rows,.slice sg.a sg.len sg.cap,.slice sp.a sp.len sp.cap]
abbrev cmC (b:Nat) (c:Cm) (sg sp:Sl):HP:=pts b (.cells (cmV c sg sp).toArray 38 (0,0))
theorem right_iff {c:Cm}:RightC c↔(∀ n∈[c.flt,c.cls,c.many,c.rows]++c.grps,numOk n)∧(c.pnr.size≤16∧c.lab.size≤16)∧(c.grps.length≤16∧c.parts.length≤16)∧1≤c.kind∧c.kind≤9∧0≤c.time∧c.time≤1099511627776:=by
 constructor
 ·intro h
  refine ⟨fun n hn=>?_,⟨h.pnr,h.lab⟩,⟨h.gl,h.pl⟩,h.kind.1,h.kind.2,h.time.1,h.time.2⟩
  simp only [List.cons_append,List.nil_append,List.mem_cons] at hn
  rcases hn with rfl|rfl|rfl|rfl|hn
  ·exact h.flt
  ·exact h.cls
  ·exact h.many
  ·exact h.rows
  ·exact h.grps n hn
 ·rintro ⟨h1,⟨h2,h3⟩,⟨h4,h5⟩,h6,h7,h8,h9⟩
  exact ⟨h1 _ (by simp),h1 _ (by simp),h1 _ (by simp),h1 _ (by simp),fun n hn=>h1 n (by simp [hn]),h2,h3,h4,h5,⟨h6,h7⟩,h8,h9⟩
theorem bodd_spec {n:Int}:Gets Tryz.prog 108 #[.int .i64 n] w fun v w'=>v=.bool (decide (n<0∨n>9999))∧w'=w:=by
 apply call108
 refine Br.d (fun h=>⟨by rw [decide_eq_true (by omega)],rfl⟩) (fun h=>⟨?_,rfl⟩)
 congr 1
 exact decide_eq_decide.2 (by omega)
set_option maxHeartbeats 400000 in
theorem bright_spec {c:Cm} {sg sp:Sl} (hg:RoI R sg c.grps) (hgl:c.grps.length≤17592186043904) (hp:sp.len=c.parts.length) (hw:Sat R Hs w):
  Gets Tryz.prog 41 #[.agg #[.int .i64 c.kind,.string c.pnr,.int .i64 c.flt,.int .i64 c.cls,.int .i64 c.many,.int .i64 c.time,.float .f64 c.sc,.string c.lab,.int .i64 c.rows,.slice sg.a sg.len sg.cap,.slice sp.a sp.len sp.cap]] w fun v w'=>v=.bool (decide (RightC c))∧Sat R Hs w':=by
 have hglen:=hg.len
 apply call41
 refine new_rule hw fun b w hw=>?_
 have hw:Sat R (cmC b c sg sp::Hs) w:=hw
 repeat (first|refine NilP.mk rfl ?_|refine ⟨_,At.own selfS (by exact ⟨rfl,trivial⟩),?_⟩|refine ⟨_,At.own (eqS hw) (by exact ⟨rfl,trivial⟩),?_⟩|refine ⟨_,(by rw [add_off];exact At.own selfS (by exact ⟨rfl,trivial⟩)),?_⟩|refine ⟨_,(by rw [add_off];exact At.own (eqS hw) (by exact ⟨rfl,trivial⟩)),?_⟩)
 refine new_rule hw fun b2 w hw=>?_
 have hw:Sat R (Own ⟨some ⟨b2,0,none⟩,4,4⟩ 3 (intsI [c.flt,c.cls,c.many,c.rows])::cmC b c sg sp::Hs) w:=own_lit hw
 refine ⟨sg,At.own (eqS hw) (by exact ⟨rfl,trivial⟩),?_⟩
 refine appendRI (n:=17592186044416) (s:=⟨some ⟨b2,0,none⟩,4,4⟩) (ty:=28) elI8 Tryz.underlying28 hw hg (by simp;omega) (by omega) (by omega) fun t w hw=>?_
 obtain ⟨L,hL⟩:∃ L,L=[c.flt,c.cls,c.many,c.rows]++c.grps:=⟨_,rfl⟩
 have hLl:L.length=4 + c.grps.length:=by rw [hL];simp;omega
 rw [←hL] at hw
 have htl:t.len=L.length:=by have:=Own.len hw;simpa using this
 refine ⟨fun i w=>∃ k:Nat,i=k∧k≤L.length∧(∀ n∈L.take k,numOk n)∧Sat R (Own t 3 (intsI L)::cmC b c sg sp::Hs) w,fun i _=>L.length - i.toNat,⟨0,rfl,by omega,by simp,hw⟩,?_⟩
 clear hw
 rintro _ _ w ⟨k,rfl,hk,hok,hw⟩
 have no:¬ RightC c→∀ {w},Sat R (Own t 3 (intsI L)::cmC b c sg sp::Hs) w→(Value.bool false=.bool (decide (RightC c))∧Sat R Hs w):=fun h w hw=>⟨by rw [decide_eq_false h],hw.drop.drop⟩
 refine Br.d (fun h=>?_) (fun h=>?_)
 ·have hkx:k<L.length:=by omega
  refine Own.ix hw (eqS hw) k rfl hkx ?_
  refine bodd_spec.use ?_
  rintro _ w2 ⟨rfl,rfl⟩
  refine ⟨_,rfl,Br.mk (fun h2=>no (fun hr=>?_) hw) (fun h2=>?_)⟩
  ·have h3:=(right_iff.1 hr).1 L[k] (by rw [←hL];exact List.getElem_mem hkx)
   have h4:=of_decide_eq_true h2
   unfold numOk at h3
   omega
  ·rw [wrap64 (by omega) (by omega)]
   refine ⟨⟨k + 1,by omega,by omega,fun n hn=>?_,hw⟩,by dsimp only;omega⟩
   rw [List.take_add_one,List.getElem?_eq_getElem hkx] at hn
   rcases List.mem_append.1 hn with hn|hn
   ·exact hok n hn
   ·rw [show n=L[k] by simpa using hn]
    have h4:=of_decide_eq_false h2
    unfold numOk
    omega
 ·have hall:∀ n∈L,numOk n:=by rw [List.take_of_length_le (by omega)] at hok;exact hok
  refine ⟨fun t6 w=>t6=decide (c.pnr.size≤16∧c.lab.size≤16)∧Sat R (Own t 3 (intsI L)::cmC b c sg sp::Hs) w,⟨c.pnr,At.own (eqS hw) (by exact ⟨rfl,trivial⟩),Br.d (fun h=>?_) (fun h=>?_)⟩,?_⟩
  ·refine ⟨c.lab,At.own (eqS hw) (by exact ⟨rfl,trivial⟩),?_,hw⟩
   exact decide_eq_decide.2 (by omega)
  ·exact ⟨by rw [decide_eq_false (by omega)],hw⟩
  clear hw
  rintro _ _ w ⟨rfl,hw⟩
  refine ⟨fun t7 w=>t7=decide (c.grps.length≤16∧c.parts.length≤16)∧Sat R (Own t 3 (intsI L)::cmC b c sg sp::Hs) w,⟨sg,At.own (eqS hw) (by exact ⟨rfl,trivial⟩),Br.d (fun h=>?_) (fun h=>?_)⟩,?_⟩
  ·refine ⟨sp,At.own (eqS hw) (by exact ⟨rfl,trivial⟩),?_,hw⟩
   exact decide_eq_decide.2 (by omega)
  ·exact ⟨by rw [decide_eq_false (by omega)],hw⟩
  clear hw
  rintro _ _ w ⟨rfl,hw⟩
  have no2:¬ RightC c→(Value.bool false=.bool (decide (RightC c))∧Sat R Hs w):=fun h=>no h hw
  refine Br.d (fun h1=>?_) (fun h1=>no2 fun hr=>h1 (right_iff.1 hr).2.1)
  refine Br.d (fun h2=>?_) (fun h2=>no2 fun hr=>h2 (right_iff.1 hr).2.2.1)
  refine ⟨c.kind,At.own (eqS hw) (by exact ⟨rfl,trivial⟩),Br.d (fun h3=>?_) (fun h3=>no2 fun hr=>h3 (right_iff.1 hr).2.2.2.1)⟩
  refine ⟨c.kind,At.own (eqS hw) (by exact ⟨rfl,trivial⟩),Br.d (fun h4=>?_) (fun h4=>no2 fun hr=>h4 (right_iff.1 hr).2.2.2.2.1)⟩
  refine ⟨c.time,At.own (eqS hw) (by exact ⟨rfl,trivial⟩),Br.d (fun h5=>?_) (fun h5=>no2 fun hr=>h5 (right_iff.1 hr).2.2.2.2.2.1)⟩
  refine ⟨c.time,At.own (eqS hw) (by exact ⟨rfl,trivial⟩),?_,hw.drop.drop⟩
  congr 1
  refine decide_eq_decide.2 ?_
  rw [right_iff,←hL]
  exact ⟨fun h6=>⟨hall,h1,h2,h3,h4,h5,h6⟩,fun h6=>h6.2.2.2.2.2.2⟩
end Go.Proofs.YtfgbbckfikiomaaGreatDoor


/- Package booking: Answer. Condition: bounds on lengths. -/
namespace Go.Proofs.YtfgbbckfikiomaaGreatDoor
set_option linter.unusedVariables false
open Go Go.VC
variable {R:Cx} {Hs Rest:List HP} {w:World}
abbrev rpV (r:Rp) (sl sb:Sl):List Value:=[.int .i64 r.code,.string r.pnr,.int .i64 r.state,.int .i64 r.flt,.int .i64 r.cls,.int .i64 r.many,.int .i64 r.time,.slice sl.a sl.len sl.cap,.slice sb.a sb.len sb.cap]
abbrev rpC (b:Nat) (r:Rp) (sl sb:Sl):HP:=pts b (.cells (rpV r sl sb).toArray 31 (0,0))
structure RpW (r:Rp):Prop where
 ints:∀ x∈[r.code,r.state,r.flt,r.cls,r.many,r.time]++r.left,x<9223372036854775808
 pnr:r.pnr.size≤100000
 ll:r.left.length≤100000
 bl:r.labs.length≤100000
 labs:∀ s∈r.labs,s.size≤100000
end Go.Proofs.YtfgbbckfikiomaaGreatDoor





/- Package booking: Decode. Condition: bounds on lengths. -/
namespace Go.Proofs.YtfgbbckfikiomaaGreatDoor
set_option linter.unusedVariables false
open Go Go.VC
open Classical
variable {R:Cx} {Hs Rest:List HP} {w:World}
abbrev nilSl:Sl:=⟨none,0,0⟩
abbrev cmHead (k:Int) (p:ByteArray) (f c m t:Int):Cm:=⟨k,p,f,c,m,t,0,ByteArray.mk #[],0,[],[]⟩
abbrev cmNew (b:Nat):HP:=cmC b (cmHead 0 (ByteArray.mk #[]) 0 0 0 0) nilSl nilSl
section
variable (S:World→Prop) (J:Option Addr→World→Prop) (b4 b:Nat) (r:Option Addr)
end
section
variable {J:Option Addr→World→Prop} {b4 b r:Nat} {rd:Rd} {k f c m t:Int} {p:ByteArray}
def hd2 (rd:Rd):(Int × Int × Int × Int) × Rd:=
 let f:=rdNum 9999 rd
 let c:=rdNum 9999 f.2
 let m:=rdNum 9999 c.2
 let t:=rdNum 1099511627776 m.2
 ((f.1,c.1,m.1,t.1),t.2)
end
end Go.Proofs.YtfgbbckfikiomaaGreatDoor

/- Package booking: Read. Condition: bounds on lengths. -/
namespace Go.Proofs.YtfgbbckfikiomaaGreatDoor
set_option linter.unusedVariables false
open Go Go.VC
open Classical
variable {R:Cx} {Hs Rest:List HP} {w:World}
abbrev rpHead (k:Int) (p:ByteArray) (s f c m t:Int):Rp:=⟨k,p,s,f,c,m,t,[],[]⟩
abbrev rpNew (b:Nat):HP:=rpC b (rpHead 0 (ByteArray.mk #[]) 0 0 0 0 0) nilSl nilSl
section
variable (S:World→Prop) (J:Option Addr→World→Prop) (b4 b:Nat) (r:Option Addr)
end
section
variable {J:Option Addr→World→Prop} {b4 b r:Nat} {rd:Rd} {k s f c m t:Int} {p:ByteArray}
end
end Go.Proofs.YtfgbbckfikiomaaGreatDoor





/- The formulas of functions of this seat's translation, printed by a program of mine off the translation; each is proved equal to 'fnF' of the function's body, so it is enough for the call. No condition. -/
namespace Go.Proofs.YtfgbbckfikiomaaGreatDoor
open Go Go.VC
set_option linter.unusedVariables false
set_option maxRecDepth 10000
def B12  (K:Value→World→Prop) (w:World):Prop:=
 Calls Tryz.prog 14 #[] w fun I G=>
 ∃ l:Option Addr,(I=.returned (.pointer l))∧
 Br l.isNone
 (K (.bool false) G)
 (Calls Tryz.prog 38 #[] G fun J M=>
 ∃ o:Int,∃ p:ByteArray,∃ q:Int,∃ r:Int,∃ s:Int,∃ t:Int,∃ u:Nat,∃ v:ByteArray,∃ x:Int,∃ e:Sl,∃ d:Sl,(J=.returned (.agg #[.int .i64 o,.string p,.int .i64 q,.int .i64 r,.int .i64 s,.int .i64 t,.float .f64 u,.string v,.int .i64 x,.slice e.a e.len e.cap,.slice d.a d.len d.cap]))∧
 Calls Tryz.prog 15 #[.pointer l,.agg #[.int .i64 o,.string p,.int .i64 q,.int .i64 r,.int .i64 s,.int .i64 t,.float .f64 u,.string v,.int .i64 x,.slice e.a e.len e.cap,.slice d.a d.len d.cap]] M fun L N=>
 ∃ y:Int,∃ z:ByteArray,∃ A:Int,∃ C:Int,∃ D:Int,∃ E:Int,∃ F:Int,∃ f:Sl,∃ g:Sl,(L=.returned (.agg #[.int .i64 y,.string z,.int .i64 A,.int .i64 C,.int .i64 D,.int .i64 E,.int .i64 F,.slice f.a f.len f.cap,.slice g.a g.len g.cap]))∧
 New (.cells #[.int .i64 0,.string (ByteArray.mk #[]),.int .i64 0,.int .i64 0,.int .i64 0,.int .i64 0,.int .i64 0,.slice none 0 0,.slice none 0 0] 31 (0,0)) (fun j O=>
 ∃ b:World,((Instr.storeAt 31 (.pointer ((some ⟨j,0,none⟩))) (.agg #[.int .i64 y,.string z,.int .i64 A,.int .i64 C,.int .i64 D,.int .i64 E,.int .i64 F,.slice f.a f.len f.cap,.slice g.a g.len g.cap])).run Tryz.prog O=.ok () b)∧
 ∃ m:Int,(At (fun c=>c=b) ⟨j,0,none⟩ [.int .i64 m])∧
 Br (m==0)
 (∃ k:Sl,(At (fun c=>c=b) ⟨j,0 + 7,none⟩ [.slice k.a k.len k.cap])∧
 Br ((↑k.len:Int)==1)
 (∃ i:Sl,(At (fun c=>c=b) ⟨j,0 + 7,none⟩ [.slice i.a i.len i.cap])∧
 Rng 0 i.len (NilP i.a fun H=>
 ∃ n:Int,(At (fun c=>c=b) (Addr.add H 0) [.int .i64 n])∧
 K (.bool (n==2)) b))
 (K (.bool false) b))
 (K (.bool false) b)) N)
theorem call12  (K:Value→World→Prop) (w:World) (h:B12  K w):Gets Tryz.prog 12 #[] w K:=cq (sk:=.leaf) Tryz.func12 (by kernel_rfl) (by kernel_rfl) (by kernel_rfl) h
def B38  (K:Value→World→Prop) (w:World):Prop:=
 New (.cells #[.int .i64 0,.string (ByteArray.mk #[]),.int .i64 0,.int .i64 0,.int .i64 0,.int .i64 0,.float .f64 0,.string (ByteArray.mk #[]),.int .i64 0,.slice none 0 0,.slice none 0 0] 38 (0,0)) (fun e s=>
 New (.cells #[.int .i64 2] 3 (0,0)) (fun p t=>
 New (.cells #[.float .f64 4607182418800017408] 33 (0,0)) (fun q u=>
 ∃ d:World,((Instr.storeAt 38 (.pointer ((some ⟨e,0,none⟩))) (.agg #[.int .i64 1,.string (ByteArray.mk #[]),.int .i64 7,.int .i64 0,.int .i64 0,.int .i64 0,.float .f64 0,.string (ByteArray.mk #[]),.int .i64 1,.slice ((some ⟨p,0,none⟩)) 1 1,.slice ((some ⟨q,0,none⟩)) 1 1])).run Tryz.prog u=.ok () d)∧
 ∃ f:Int,∃ g:ByteArray,∃ i:Int,∃ j:Int,∃ k:Int,∃ l:Int,∃ m:Nat,∃ n:ByteArray,∃ o:Int,∃ c:Sl,∃ b:Sl,(At (fun r=>r=d) ⟨e,0,none⟩ [.int .i64 f,.string g,.int .i64 i,.int .i64 j,.int .i64 k,.int .i64 l,.float .f64 m,.string n,.int .i64 o,.slice c.a c.len c.cap,.slice b.a b.len b.cap])∧
 K (.agg #[.int .i64 f,.string g,.int .i64 i,.int .i64 j,.int .i64 k,.int .i64 l,.float .f64 m,.string n,.int .i64 o,.slice c.a c.len c.cap,.slice b.a b.len b.cap]) d) t) s) w
theorem call38  (K:Value→World→Prop) (w:World) (h:B38  K w):Gets Tryz.prog 38 #[] w K:=cq (sk:=.leaf) Tryz.func38 (by kernel_rfl) (by kernel_rfl) (by kernel_rfl) h
def B13 (d:Sl) (K:Value→World→Prop) (w:World):Prop:=
 ∃ (j:Int→World→Prop) (r:Int→World→Nat),(j 0 w)∧∀ (s:Env) (b:Int) (f:World),j b f→
 ∃ (k:World→Prop),(Br (decide (b<(↑d.len:Int)))
 (Br (decide (b<400))
 (k  f)
 (K (.bool false) f))
 (K (.bool false) f))∧
 ∀ (t:Env)  (c:World),k  c→
 Rng b d.len (NilP d.a fun l=>
 ∃ g:Sl,(At (fun e=>e=c) ⟨(l.add (mulS b.toNat 11)).block,(l.add (mulS b.toNat 11)).off + 8 + 1,none⟩ [.slice g.a g.len g.cap])∧
 Br (decide ((↑g.len:Int)>100))
 (K (.bool true) c)
 (Rng b d.len (NilP d.a fun m=>
 ∃ i:Sl,(At (fun e=>e=c) ⟨(m.add (mulS b.toNat 11)).block,(m.add (mulS b.toNat 11)).off + 10,none⟩ [.slice i.a i.len i.cap])∧
 Br (decide ((↑i.len:Int)>100))
 (K (.bool true) c)
 (Rng b d.len (NilP d.a fun n=>
 ∃ p:ByteArray,(At (fun e=>e=c) ⟨(n.add (mulS b.toNat 11)).block,(n.add (mulS b.toNat 11)).off + 1,none⟩ [.string p])∧
 Br (decide ((↑p.size:Int)>1000))
 (K (.bool true) c)
 (Rng b d.len (NilP d.a fun o=>
 ∃ q:ByteArray,(At (fun e=>e=c) ⟨(o.add (mulS b.toNat 11)).block,(o.add (mulS b.toNat 11)).off + 7,none⟩ [.string q])∧
 Br (decide ((↑q.size:Int)>1000))
 (K (.bool true) c)
 ((j (IntKind.i64.wrap (b + 1)) c)∧r (IntKind.i64.wrap (b + 1)) c<r b f))))))))
def sk13:Sk:=(.seq .leaf (.seq (.seq .leaf (.block (.loop [3] [(.int .i64)] [2,3,4,5,6,7,8,9,10,11,12,13,14,15,16,17,18,19,20,21,22,23,24,25,26,27,28,29,30,31,32,33,34,35,36,37,38,39,40,41,42,43,44,45,46,47,48] (.cut [] [] [4,5,6,7,8,9,10,11] .leaf .leaf)))) .leaf))
theorem call13 (b:Sl) (K:Value→World→Prop) (w:World) (h:B13 b K w):Gets Tryz.prog 13 #[.slice b.a b.len b.cap] w K:=cq (sk:=sk13) Tryz.func13 (by kernel_rfl) (by kernel_rfl) (by kernel_rfl) h
def B3 (c:Sl) (K:Value→World→Prop) (w:World):Prop:=
 Calls Tryz.prog 12 #[] w fun aq ax=>
 ∃ r:Bool,(aq=.returned (.bool r))∧
 Calls Tryz.prog 13 #[.slice c.a c.len c.cap] ax fun ar v=>
 ∃ E:Bool,(ar=.returned (.bool E))∧
 ∃ (y:World→Prop),(Br (!r)
 (K (.bool r) v)
 (Br E
 (K (.bool r) v)
 (y  v)))∧
 ∀ (a2:Env)  (am:World),y  am→
 Calls Tryz.prog 14 #[] am fun au az=>
 ∃ F:Option Addr,(au=.returned (.pointer F))∧
 ∃ (q:Int→Int→World→Prop) (p:Int→Int→World→Nat),(q 0 0 az)∧∀ (a3:Env) (e:Int) (b:Int) (i:World),q e b i→
 ∃ (z:World→Prop),(Br (decide (b<(↑c.len:Int)))
 (Br (decide (b<120))
 (z  i)
 (K (.bool true) i))
 (K (.bool true) i))∧
 ∀ (a4:Env)  (x:World),z  x→
 Rng b c.len (NilP c.a fun an=>
 ∃ G:Int,∃ H:ByteArray,∃ I:Int,∃ J:Int,∃ L:Int,∃ M:Int,∃ N:Nat,∃ O:ByteArray,∃ Q:Int,∃ m:Sl,∃ l:Sl,(At (fun f=>f=x) (Addr.add an (mulS b.toNat 11)) [.int .i64 G,.string H,.int .i64 I,.int .i64 J,.int .i64 L,.int .i64 M,.float .f64 N,.string O,.int .i64 Q,.slice m.a m.len m.cap,.slice l.a l.len l.cap])∧
 Calls Tryz.prog 15 #[.pointer F,.agg #[.int .i64 G,.string H,.int .i64 I,.int .i64 J,.int .i64 L,.int .i64 M,.float .f64 N,.string O,.int .i64 Q,.slice m.a m.len m.cap,.slice l.a l.len l.cap]] x fun av a0=>
 ∃ T:Int,∃ U:ByteArray,∃ V:Int,∃ X:Int,∃ Y:Int,∃ Z:Int,∃ aa:Int,∃ n:Sl,∃ o:Sl,(av=.returned (.agg #[.int .i64 T,.string U,.int .i64 V,.int .i64 X,.int .i64 Y,.int .i64 Z,.int .i64 aa,.slice n.a n.len n.cap,.slice o.a o.len o.cap]))∧
 New (.cells #[.int .i64 0,.string (ByteArray.mk #[]),.int .i64 0,.int .i64 0,.int .i64 0,.int .i64 0,.int .i64 0,.slice none 0 0,.slice none 0 0] 31 (0,0)) (fun k a1=>
 ∃ d:World,((Instr.storeAt 31 (.pointer ((some ⟨k,0,none⟩))) (.agg #[.int .i64 T,.string U,.int .i64 V,.int .i64 X,.int .i64 Y,.int .i64 Z,.int .i64 aa,.slice n.a n.len n.cap,.slice o.a o.len o.cap])).run Tryz.prog a1=.ok () d)∧
 ∃ (t:World→Prop),(∃ ab:Int,(At (fun f=>f=d) ⟨k,0,none⟩ [.int .i64 ab])∧
 Br (ab !=0)
 ((q e (IntKind.i64.wrap (b + 1)) d)∧p e (IntKind.i64.wrap (b + 1)) d<p e b i)
 (Rng b c.len (NilP c.a fun ao=>
 ∃ ac:Int,(At (fun f=>f=d) (Addr.add (Addr.add ao (mulS b.toNat 11)) 0) [.int .i64 ac])∧
 Br (ac !=2)
 (Rng b c.len (NilP c.a fun ap=>
 ∃ ad:Int,(At (fun f=>f=d) (Addr.add (Addr.add ap (mulS b.toNat 11)) 0) [.int .i64 ad])∧
 Br (ad !=7)
 ((q e (IntKind.i64.wrap (b + 1)) d)∧p e (IntKind.i64.wrap (b + 1)) d<p e b i)
 (t  d)))
 (t  d))))∧
 ∀ (a5:Env)  (u:World),t  u→
 ∃ ae:ByteArray,(At (fun f=>f=u) ⟨k,0 + 1,none⟩ [.string ae])∧
 Calls Tryz.prog 16 #[.string ae] u fun aw ay=>
 ∃ s:Int,∃ af:Int,(aw=.returned (.tuple #[.int .i64 s,.int .i64 af]))∧
 Drw ay fun j g=>
 Br (af !=0)
 (K (.bool false) g)
 (Br (decide (s≤e))
 (K (.bool false) g)
 (∃ ag:Int,(At j ⟨k,0 + 3,none⟩ [.int .i64 ag])∧
 Rng b c.len (NilP c.a fun A=>
 ∃ ah:Int,(At j ⟨(A.add (mulS b.toNat 11)).block,(A.add (mulS b.toNat 11)).off + 2,none⟩ [.int .i64 ah])∧
 Br (ag !=ah)
 (K (.bool false) g)
 (∃ ai:Int,(At j ⟨k,0 + 5,none⟩ [.int .i64 ai])∧
 Rng b c.len (NilP c.a fun C=>
 ∃ aj:Int,(At j ⟨(C.add (mulS b.toNat 11)).block,(C.add (mulS b.toNat 11)).off + 4,none⟩ [.int .i64 aj])∧
 Br (ai !=aj)
 (K (.bool false) g)
 (∃ ak:Int,(At j ⟨k,0 + 4,none⟩ [.int .i64 ak])∧
 Rng b c.len (NilP c.a fun D=>
 ∃ al:Int,(At j ⟨(D.add (mulS b.toNat 11)).block,(D.add (mulS b.toNat 11)).off + 3,none⟩ [.int .i64 al])∧
 Br (ak !=al)
 (K (.bool false) g)
 ((q s (IntKind.i64.wrap (b + 1)) g)∧p s (IntKind.i64.wrap (b + 1)) g<p e b i))))))))) a0)
def sk3:Sk:=(.seq .leaf (.seq .leaf (.seq .leaf (.cut [] [] [2,14,15,16,17,18,19] .leaf (.seq .leaf (.seq .leaf (.seq (.seq .leaf (.block (.loop [6,7] [(.int .i64),(.int .i64)] [2,6,7,8,9,10,21,22,23,24,25,26,27,28,29,30,31,32,33,34,35,36,37,38,39,40,41,42,43,44,45,46,47,48,49,50,51,52,53,54,55,56,57,58,59,60,61,62,63,64,65,66,67,68,69,70,71,72,73,74,75,76,77,78,79,80,81,82,83,84,85,86,87,88,89,90,91,92,93,94,95,96,97,98,99] (.cut [] [] [21,22,23,24,25,26,27,28] .leaf (.seq (.block (.seq .leaf (.cut [] [] [37,38,39,40,41,42,43,44,45,46,47,48,49,50,51,52,53,54,55] .leaf .leaf))) .leaf))))) .leaf)))))))
theorem call3 (b:Sl) (K:Value→World→Prop) (w:World) (h:B3 b K w):Gets Tryz.prog 3 #[.slice b.a b.len b.cap] w K:=cq (sk:=sk3) Tryz.func3 (by kernel_rfl) (by kernel_rfl) (by kernel_rfl) h
end Go.Proofs.YtfgbbckfikiomaaGreatDoor
/- The laws of chapter 18: two replies, two commands; many commands. Condition: bounds on lengths. -/
namespace Go.Proofs.YtfgbbckfikiomaaGreatDoor
set_option linter.unusedVariables false
open Go Go.VC
open Classical
variable {R:Cx} {Hs Rest:List HP} {w:World}
abbrev CmS:=Cm × Sl × Sl
abbrev cmRow (c:CmS):List Value:=cmV c.1 c.2.1 c.2.2
def Much (c:CmS):Prop:=100<c.2.1.len∨100<c.2.2.len∨1000<c.1.pnr.size∨1000<c.1.lab.size
theorem much_spec {l:Sl} {cs:List CmS} (hr:∀ S:World→Prop,(∀ w,S w→Sat R Hs w)→ReadsN 11 l (cs.map cmRow) S) (hw:Sat R Hs w):
  Gets Tryz.prog 13 #[.slice l.a l.len l.cap] w fun v w'=>∃ b:Bool,v=.bool b∧(b=false→∀ c∈cs.take 400,¬ Much c)∧Sat R Hs w':=by
 have hlen:=(hr _ (eqS hw)).1
 rw [List.length_map] at hlen
 apply call13
 refine ⟨fun i w=>∃ k:Nat,i=k∧k≤400∧k≤cs.length∧(∀ c∈cs.take k,¬ Much c)∧Sat R Hs w,fun i _=>400 - i.toNat,⟨0,rfl,by omega,by omega,by simp,hw⟩,?_⟩
 clear hw
 rintro _ _ w ⟨k,rfl,hk,hkc,hm,hw⟩
 have fin:(cs.take k=cs.take 400)→∃ b:Bool,Value.bool false=.bool b∧(b=false→∀ c∈cs.take 400,¬ Much c)∧Sat R Hs w:=fun e=>⟨false,rfl,fun _=>by rw [←e];exact hm,hw⟩
 refine ⟨fun w=>(k<400∧k<cs.length)∧Sat R Hs w,?_,?_⟩
 ·with_reducible refine Br.d (fun h=>?_) (fun h=>fin ?_)
  ·with_reducible refine Br.d (fun h2=>?_) (fun h2=>fin ?_)
   ·exact ⟨⟨by omega,by omega⟩,hw⟩
   ·rw [show k=400 by omega]
  ·rw [List.take_of_length_le (by omega),List.take_of_length_le (by omega)]
 clear hw
 rintro _ w ⟨⟨h1,h2⟩,hw⟩
 have hS:=hr _ (eqS hw)
 have yes:∀ {b:Bool},b=true→∃ b2:Bool,Value.bool b=.bool b2∧(b2=false→∀ c∈cs.take 400,¬ Much c)∧Sat R Hs w:=fun {b} e=>⟨b,rfl,fun h=>(by rw [e] at h;cases h),hw⟩
 refine hS.rngM h2 fun a _ he=>⟨cs[k].2.1,he.f 9 (by exact ⟨rfl,trivial⟩),Br.d (fun _=>yes rfl) (fun g1=>?_)⟩
 refine hS.rngM h2 fun a _ he=>⟨cs[k].2.2,he.f 10 (by exact ⟨rfl,trivial⟩),Br.d (fun _=>yes rfl) (fun g2=>?_)⟩
 refine hS.rngM h2 fun a _ he=>⟨cs[k].1.pnr,he.f 1 (by exact ⟨rfl,trivial⟩),Br.d (fun _=>yes rfl) (fun g3=>?_)⟩
 refine hS.rngM h2 fun a _ he=>⟨cs[k].1.lab,he.f 7 (by exact ⟨rfl,trivial⟩),Br.d (fun _=>yes rfl) (fun g4=>?_)⟩
 rw [wrap64 (by omega) (by omega)]
 refine ⟨⟨k + 1,by omega,by omega,by omega,fun c hc=>?_,hw⟩,by dsimp only;omega⟩
 rw [List.take_add_one,List.getElem?_eq_getElem h2] at hc
 rcases List.mem_append.1 hc with hc|hc
 ·exact hm c hc
 ·rw [show c=cs[k] by simpa using hc]
  unfold Much
  omega
end Go.Proofs.YtfgbbckfikiomaaGreatDoor
/- Package booking: the book in memory; errors that are thrown and caught. Condition: none. -/
namespace Go.Proofs.YtfgbbckfikiomaaGreatDoor
set_option linter.unusedVariables false
open Go Go.VC
open Classical
variable {R:Cx} {Hs Rest:List HP} {w:World}
def wtV (w:Wt):List Value:=[.int .i64 w.id,.int .i64 w.cls,.int .i64 w.many,.int .i64 w.time,.float .f64 w.sc]
abbrev quCell (s:Sl):Obj:=.cells [.slice s.a s.len s.cap].toArray 179 (0,0)
def QuAt (q:Nat) (l:List Wt):HP:=exs fun s:Sl=>Star [pts q (quCell s),OwnN 5 s 181 (l.map wtV)]
theorem Sat.qu {q:Nat} {l:List Wt}:Sat R (QuAt q l::Hs) w↔∃ s:Sl,Sat R (pts q (quCell s)::OwnN 5 s 181 (l.map wtV)::Hs) w:=by
 unfold QuAt
 rw [Sat.exs]
 exact ⟨fun ⟨s,h⟩=>⟨s,Sat.star.1 h⟩,fun ⟨s,h⟩=>⟨s,Sat.star.2 h⟩⟩
abbrev FE:=Nat × Nat × Pl
abbrev BE:=Nat × Bk
def plAt (e:FE):HP:=Star [LoneAt e.1 e.2.2.r,QuAt e.2.1 e.2.2.q]
abbrev bkObj (x:Bk):Obj:=.cells [.int .i64 x.id,.int .i64 x.flt,.int .i64 x.cls,.int .i64 x.many,.int .i64 x.state,.int .i64 x.till].toArray 106 (0,0)
def bkAt (e:BE):HP:=pts e.1 (bkObj e.2)
def FlsAt (fs:List FE):HP:=Star (fs.map plAt)
def BksAt (xs:List BE):HP:=Star (xs.map bkAt)
def flV (e:FE):Int × Value:=(e.2.2.n,.agg #[.pointer (some ⟨e.1,0,none⟩),.pointer (some ⟨e.2.1,0,none⟩)])
def bkV (e:BE):Int × Value:=(e.2.id,.pointer (some ⟨e.1,0,none⟩))
abbrev bookC (b:Book) (m1 m2:Nat):Obj:=.cells [.int .i64 b.now,.int .i64 b.next,.map (some m1),.map (some m2)].toArray 80 (0,0)
structure BookL (b:Book) (fs:List FE) (xs:List BE):Prop where
 fl:(fs.map fun e=>e.2.2).Perm b.fl
 bk:xs.map (fun e=>e.2)=b.L
def BookAt (p:Nat) (b:Book):HP:=exs fun m1:Nat=>exs fun m2:Nat=>exs fun fs:List FE=>exs fun xs:List BE=>
 Star [pur (BookL b fs xs),pts p (bookC b m1 m2),MapAt m1 (fs.map flV),MapAt m2 (xs.map bkV),FlsAt fs,BksAt xs]
theorem Sat.book {p:Nat} {b:Book}:Sat R (BookAt p b::Hs) w↔∃ m1 m2 fs xs,BookL b fs xs∧Sat R (pts p (bookC b m1 m2)::MapAt m1 (fs.map flV)::MapAt m2 (xs.map bkV)::FlsAt fs::BksAt xs::Hs) w:=by
 unfold BookAt
 simp only [Sat.exs]
 constructor
 ·rintro ⟨m1,m2,fs,xs,h⟩
  obtain ⟨h1,h2⟩:=Sat.pur.1 (Sat.star.1 h)
  exact ⟨m1,m2,fs,xs,h1,h2⟩
 ·rintro ⟨m1,m2,fs,xs,h1,h2⟩
  exact ⟨m1,m2,fs,xs,Sat.star.2 (Sat.pur.2 ⟨h1,h2⟩)⟩
abbrev pMap:MapT Tryz.prog 77 Int 3 102 (.agg #[.pointer none,.pointer none]):=⟨Tryz.underlying77,Tryz.underlying3,Tryz.zeroValue102⟩
abbrev bMap:MapT Tryz.prog 78 Int 3 86 (.pointer none):=⟨Tryz.underlying78,Tryz.underlying3,Tryz.zeroValue86⟩
theorem FlsAt.snoc {fs:List FE} {f q:Nat} {p:Pl} (hw:Sat R (LoneAt f p.r::QuAt q p.q::FlsAt fs::Hs) w):Sat R (FlsAt (fs++[(f,q,p)])::Hs) w:=by
 unfold FlsAt at hw ⊢
 rw [Sat.star,List.map_append,List.append_assoc]
 have hw:Sat R (Star (fs.map plAt)::LoneAt f p.r::QuAt q p.q::Hs) w:=hw.arr
 rw [Sat.star] at hw
 have key:∀ (L:List HP) {R:Cx},Sat R (L++LoneAt f p.r::QuAt q p.q::Hs) w→Sat R (L++(List.map plAt [(f,q,p)]++Hs)) w:=fun L=>by
  induction L with
  |nil=>exact fun h=>Sat.star.2 h
  |cons A L ih=>exact fun h=>h.cons fun _ h=>ih h
 exact key _ hw
theorem getM_ne {β:Type} {k:Int}:∀ {l:List (Int × β)},getM k l=none↔∀ e∈l,e.1≠k
 |[]=>⟨fun _ _ h=>(by cases h),fun _=>rfl⟩
 |e::l=>by
  rw [getM]
  by_cases h:k=e.1
  ·rw [if_pos (by simpa using h)]
   exact ⟨fun h2=>(by cases h2),fun h2=>absurd h.symm (h2 e (by simp))⟩
  ·rw [if_neg (by simpa using h),getM_ne]
   exact ⟨fun h2 x hx=>by
    rcases List.mem_cons.1 hx with h1|h1
    ·rw [h1];exact fun e=>h e.symm
    ·exact h2 x h1,fun h2 x hx=>h2 x (by simp [hx])⟩
theorem fl_none {b:Book} {fs:List FE} {xs:List BE} (hl:BookL b fs xs) {n:Int}:getM n (fs.map flV)=none↔b.at n=none:=by
 unfold Book.at
 rw [getM_ne,kget_none]
 constructor
 ·intro h p hp
  obtain ⟨e,he,rfl⟩:=List.mem_map.1 (hl.fl.mem_iff.2 hp)
  exact h (flV e) (List.mem_map.2 ⟨e,he,rfl⟩)
 ·rintro h _ he
  obtain ⟨e,h1,rfl⟩:=List.mem_map.1 he
  exact h e.2.2 (hl.fl.mem_iff.1 (List.mem_map.2 ⟨e,h1,rfl⟩))
theorem fl_len {b:Book} {fs:List FE} {xs:List BE} (hl:BookL b fs xs):fs.length=b.fl.length:=by
 have:=hl.fl.length_eq
 rwa [List.length_map] at this
abbrev errP (e:Int):List PanicEntry:=[⟨.iface 27 (.int .i64 e),false,false⟩]
theorem need_c {b:Bool} {e:Int} {Q:Ending→World→Prop} (h1:b=true→Q (.returned (.tuple #[])) w) (h2:b=false→Q (.panicked (errP e)) w):Calls Tryz.prog 40 #[.bool b,.int .i64 e] w Q:=by
 have h:GetsX Tryz.prog 40 #[.bool b,.int .i64 e] w (fun ch w'=>b=false∧ch=errP e∧w'=w) (fun v w'=>b=true∧v=.tuple #[]∧w'=w):=by
  apply call40
  exact Br.nb (fun h=>⟨h,rfl,rfl⟩) (fun h=>⟨h,rfl,rfl⟩)
 refine h.use ?_ ?_
 ·rintro v w' ⟨hb,rfl,e⟩;rw [e];exact h1 hb
 ·rintro v w' ⟨hb,rfl,e⟩;rw [e];exact h2 hb
theorem mustE_c {e:Int} {Q:Ending→World→Prop} (h1:e=0→Q (.returned (.tuple #[])) w) (h2:¬ e=0→Q (.panicked (errP e)) w):Calls Tryz.prog 110 #[.int .i64 e] w Q:=by
 have h:GetsX Tryz.prog 110 #[.int .i64 e] w (fun ch w'=>¬ e=0∧ch=errP e∧w'=w) (fun v w'=>e=0∧v=.tuple #[]∧w'=w):=by
  apply call110
  exact Br.ne (fun h=>⟨h,rfl,rfl⟩) (fun h=>⟨h,rfl,rfl⟩)
 refine h.use ?_ ?_
 ·rintro v w' ⟨hb,rfl,e⟩;rw [e];exact h1 hb
 ·rintro v w' ⟨hb,rfl,e⟩;rw [e];exact h2 hb
theorem caughtP {r:Nat} {x:Rp} {sl sb:Sl} {e:Int} {Kr:World→Prop} (hw:Sat R (rpC r x sl sb::Hs) w) (k:∀ w,Sat R (rpC r (errR e) nilSl nilSl::Hs) w→Kr w):
  LeaveF Tryz.prog 39 [.pointer (some ⟨r,0,none⟩)] (.panicking (errP e)) Kr w:=by
 unfold LeaveF
 refine CallsD.mono (callP39 (some ⟨r,0,none⟩) (.iface 27 (.int .i64 e)) Kr w ?_) ?_
 ·refine ⟨true,fun w' _=>by kernel_rfl,Br.t rfl ?_⟩
  refine ⟨e,fun w' _=>by kernel_rfl,NilP.mk rfl ?_⟩
  refine store_rule hw (by kernel_rfl) rfl (by simp [Value.cells]) fun w hw=>?_
  exact k w (hw.re (rpC r (errR e) nilSl nilSl))
 ·rintro e v w' ⟨hy,rfl,hk⟩
  exact ⟨hy,rfl,hk⟩
theorem caughtR {r:Nat} {Kr:World→Prop} (k:Kr w):LeaveF Tryz.prog 39 [.pointer (some ⟨r,0,none⟩)] .returning Kr w:=by
 unfold LeaveF
 refine CallsD.mono (callR39 (some ⟨r,0,none⟩) Kr w ?_) ?_
 ·exact ⟨false,fun w' _=>by kernel_rfl,Br.f rfl k⟩
 ·rintro e v w' ⟨hy,rfl,hk⟩
  exact ⟨hy,rfl,hk⟩
theorem qnew_spec (hw:Sat R Hs w):Gets Tryz.prog 111 #[] w fun v w'=>∃ q,v=.pointer (some ⟨q,0,none⟩)∧Sat R (QuAt q []::Hs) w':=by
 apply call111
 refine new_rule hw fun q w hw=>⟨q,rfl,Sat.qu.2 ⟨nilSl,?_⟩⟩
 exact (OwnN.nil hw).swap
theorem bnew_spec (hw:Sat R Hs w):Gets Tryz.prog 14 #[] w fun v w'=>∃ p,v=.pointer (some ⟨p,0,none⟩)∧Sat R (BookAt p newBook::Hs) w':=by
 apply call14
 refine new_rule hw fun m1 w hw=>?_
 have hw:=MapAt.new (α:=Int) rfl hw
 refine new_rule hw fun m2 w hw=>?_
 have hw:=MapAt.new (α:=Int) rfl hw
 refine new_rule hw fun p w hw=>⟨p,rfl,Sat.book.2 ⟨m1,m2,[],[],⟨List.Perm.refl _,rfl⟩,?_⟩⟩
 have hw:Sat R (pts p (bookC newBook m1 m2)::MapAt (α:=Int) m2 []::MapAt (α:=Int) m1 []::Hs) w:=hw
 have hw:Sat R (pts p (bookC newBook m1 m2)::MapAt (α:=Int) m1 []::MapAt (α:=Int) m2 []::Hs) w:=hw.arr
 exact hw.cons fun _ h=>h.cons fun _ h=>h.cons fun _ h=>Sat.star.2 (Sat.star.2 h)
end Go.Proofs.YtfgbbckfikiomaaGreatDoor
/- Package booking: a flight is opened. Condition: bounds. -/
namespace Go.Proofs.YtfgbbckfikiomaaGreatDoor
set_option linter.unusedVariables false
open Go Go.VC
open Classical
variable {R:Cx} {Hs Rest:List HP} {w:World}
abbrev openR (c:Cm):Rp:=⟨0,emS,0,c.flt,0,0,0,rleftsF (rnewF c.flt c.rows c.grps (limitsT (layN c.rows c.grps) c.parts).1),[]⟩
set_option maxHeartbeats 1000000 in
theorem bopen_spec {p:Nat} {b:Book} {c:Cm} {sg sp:Sl} (hfl:b.fl.length≤1000000) (hg:RoI R sg c.grps) (hp:SlR R.m sp (flts c.parts)) (hw:Sat R (BookAt p b::Hs) w):
  GetsX Tryz.prog 42 #[.pointer (some ⟨p,0,none⟩),.agg #[.int .i64 c.kind,.string c.pnr,.int .i64 c.flt,.int .i64 c.cls,.int .i64 c.many,.int .i64 c.time,.float .f64 c.sc,.string c.lab,.int .i64 c.rows,.slice sg.a sg.len sg.cap,.slice sp.a sp.len sp.cap]] w
   (fun ch w'=>∃ e,ch=errP e∧openB b c=(b,errR e)∧Sat R (BookAt p b::Hs) w')
   (fun v w'=>(openB b c).2=openR c∧∃ sl:Sl,v=.agg (rpV (openR c) sl nilSl).toArray∧Sat R (Own sl 3 (intsI (openR c).left)::BookAt p (openB b c).1::Hs) w'):=by
 apply call42
 suffices H:∀ (X:List PanicEntry→World→Prop) (K:Value→World→Prop),(∀ e w',openB b c=(b,errR e)→Sat R (BookAt p b::Hs) w'→X (errP e) w')→
   (∀ sl w',(openB b c).2=openR c→Sat R (Own sl 3 (intsI (openR c).left)::BookAt p (openB b c).1::Hs) w'→K (.agg (rpV (openR c) sl nilSl).toArray) w')→B42 (some ⟨p,0,none⟩) c.kind c.pnr c.flt c.cls c.many c.time c.sc c.lab c.rows sg sp X K w from
  H _ _ (fun e w' h1 h2=>⟨e,rfl,h1,h2⟩) (fun sl w' h1 h2=>⟨h1,sl,rfl,h2⟩)
 intro X K hX hK
 obtain ⟨m1,m2,fs,xs,hl,hw⟩:=Sat.book.1 hw
 have hlen:=fl_len hl
 refine new_rule hw fun b3 w hw=>new_rule hw fun b4 w hw=>?_
 have hw:Sat R (MapAt m1 (fs.map flV)::pts p (bookC b m1 m2)::cmC b3 c sg sp::rpNew b4::MapAt m2 (xs.map bkV)::FlsAt fs::BksAt xs::Hs) w:=by
  have hw:Sat R (rpNew b4::cmC b3 c sg sp::pts p (bookC b m1 m2)::MapAt m1 (fs.map flV)::MapAt m2 (xs.map bkV)::FlsAt fs::BksAt xs::Hs) w:=hw
  exact hw.arr
 have close:∀ {w},Sat R (MapAt m1 (fs.map flV)::pts p (bookC b m1 m2)::cmC b3 c sg sp::rpNew b4::MapAt m2 (xs.map bkV)::FlsAt fs::BksAt xs::Hs) w→Sat R (BookAt p b::Hs) w:=fun {w} hw=>by
  have hw:Sat R (cmC b3 c sg sp::rpNew b4::pts p (bookC b m1 m2)::MapAt m1 (fs.map flV)::MapAt m2 (xs.map bkV)::FlsAt fs::BksAt xs::Hs) w:=hw.arr
  exact Sat.book.2 ⟨m1,m2,fs,xs,hl,hw.drop.drop⟩
 refine drw_ruleT hw fun w hw=>?_
 refine NilP.mk rfl ⟨some m1,At.own (fun _ h=>h) (by exact ⟨rfl,trivial⟩),c.flt,At.own (fun _ h=>h) (by exact ⟨rfl,trivial⟩),?_⟩
 have look:∀ w',Sat R (VC.tru::MapAt m1 (fs.map flV)::pts p (bookC b m1 m2)::cmC b3 c sg sp::rpNew b4::MapAt m2 (xs.map bkV)::FlsAt fs::BksAt xs::Hs) w'→
   (Instr.lookup 77 (.map (some m1)) (.int .i64 c.flt) true).run Tryz.prog w'=.ok (.tuple #[(getM c.flt (fs.map flV)).getD (.agg #[.pointer none,.pointer none]),.bool (getM c.flt (fs.map flV)).isSome]) w':=fun w' h=>
  MapAt.look pMap h.swap c.flt true
 obtain ⟨v1,v2,hv⟩:∃ v1 v2:Option Addr,(getM c.flt (fs.map flV)).getD (.agg #[.pointer none,.pointer none])=.agg #[.pointer v1,.pointer v2]:=by
  cases hgm:getM c.flt (fs.map flV) with
  |none=>exact ⟨none,none,rfl⟩
  |some v=>
   obtain ⟨A,C,e,_⟩:=getM_split hgm
   have:(c.flt,v)∈fs.map flV:=by rw [e];simp
   obtain ⟨x,_,hx⟩:=List.mem_map.1 this
   have hx2:=congrArg Prod.snd hx
   exact ⟨_,_,hx2.symm⟩
 rw [hv] at look
 refine ⟨v1,v2,_,look,?_⟩
 refine new_rule hw fun b5 w hw=>⟨hw.absorb,?_⟩
 refine store_rule hw (by kernel_rfl) rfl (by simp [Value.cells]) fun w hw=>?_
 have hw:=hw.drop.drop
 have hat:=fl_none hl (n:=c.flt)
 refine need_c (fun hn=>.inl ⟨rfl,?_⟩) (fun hn=>.inr ⟨_,rfl,hX 7 w ?_ (close hw)⟩)
 rotate_left
 ·unfold openB
  rw [if_pos]
  cases hba:b.at c.flt with
  |none=>rw [hat.2 hba] at hn;cases hn
  |some _=>rfl
 have hno:getM c.flt (fs.map flV)=none:=by
  cases hgm:getM c.flt (fs.map flV) with
  |none=>rfl
  |some v=>rw [hgm] at hn;cases hn
 have hba:=hat.1 hno
 have o1:¬ (b.at c.flt).isSome=true:=by rw [hba];simp
 refine NilP.mk rfl ⟨some m1,At.own (eqS hw) (by exact ⟨rfl,trivial⟩),((fs.map flV).length:Int),fun w' e=>?_,?_⟩
 ·rw [show w'=w from e]
  exact MapAt.len (by kernel_rfl) hw
 rw [List.length_map,hlen]
 refine need_c (fun hn8=>.inl ⟨rfl,?_⟩) (fun hn8=>.inr ⟨_,rfl,hX 3 w ?_ (close hw)⟩)
 rotate_left
 ·have:=of_decide_eq_false hn8
  unfold openB
  rw [if_neg o1,if_pos (by omega)]
 have h8:=of_decide_eq_true hn8
 have o2:¬ 8≤b.fl.length:=by omega
 refine ⟨c.flt,At.own (eqS hw) (by exact ⟨rfl,trivial⟩),c.rows,sg,At.own (eqS hw) (by exact ⟨rfl,rfl,trivial⟩),sp,At.own (eqS hw) (by exact ⟨rfl,trivial⟩),?_⟩
 refine (fnew_spec' hg hp hw).use ?_
 clear hw
 rintro _ w (⟨hn,rfl,hw⟩|⟨hn,f,rfl,hw⟩)
 ·refine .inl ⟨none,1,rfl,mustE_c (fun h=>by cases h) (fun _=>.inr ⟨_,rfl,hX 1 w ?_ (close hw)⟩)⟩
  unfold openB
  rw [if_neg o1,if_neg o2,if_pos hn]
 have hopen:openB b c=({ b with fl:=kins Pl.n ⟨rnewF c.flt c.rows c.grps (limitsT (layN c.rows c.grps) c.parts).1,[]⟩ b.fl },openR c):=by
  unfold openB
  rw [if_neg o1,if_neg o2,if_neg (fun h=>h hn)]
 obtain ⟨r,hr⟩:∃ r,r=rnewF c.flt c.rows c.grps (limitsT (layN c.rows c.grps) c.parts).1:=⟨_,rfl⟩
 have hw:Sat R (LoneAt f r::MapAt m1 (fs.map flV)::pts p (bookC b m1 m2)::cmC b3 c sg sp::rpNew b4::MapAt m2 (xs.map bkV)::FlsAt fs::BksAt xs::Hs) w:=by
  rw [hr]
  exact Sat.lone.2 ⟨_,⟨tie_new,good_new hn⟩,hw⟩
 rw [←hr] at hopen
 refine .inl ⟨some ⟨f,0,none⟩,0,rfl,mustE_c (fun _=>.inl ⟨rfl,?_⟩) (fun h=>absurd rfl h)⟩
 refine drw_rule' (Sat R [cmC b3 c sg sp,pts p (bookC b m1 m2),VC.tru]) hw (fun w hw=>?_) fun w hw=>?_
 ·exact (hw.arr (Hs':=cmC b3 c sg sp::pts p (bookC b m1 m2)::LoneAt f r::MapAt m1 (fs.map flV)::rpNew b4::MapAt m2 (xs.map bkV)::FlsAt fs::BksAt xs::Hs)).cons fun _ h=>h.restTru2
 refine NilP.mk rfl ⟨some m1,At.own (fun _ h=>h) (by exact ⟨rfl,trivial⟩),c.flt,At.own (fun _ h=>h) (by exact ⟨rfl,trivial⟩),?_⟩
 refine (qnew_spec hw).use ?_
 clear hw
 rintro _ w ⟨q,rfl,hw⟩
 refine .inl ⟨_,rfl,?_,?_⟩
 ·exact (hw.arr (Hs':=cmC b3 c sg sp::pts p (bookC b m1 m2)::QuAt q []::LoneAt f r::MapAt m1 (fs.map flV)::rpNew b4::MapAt m2 (xs.map bkV)::FlsAt fs::BksAt xs::Hs)).cons fun _ h=>h.restTru2
 have hw:Sat R (MapAt m1 (fs.map flV)::LoneAt f r::QuAt q []::FlsAt fs::pts p (bookC b m1 m2)::cmC b3 c sg sp::rpNew b4::MapAt m2 (xs.map bkV)::BksAt xs::Hs) w:=hw.arr
 refine MapAt.put pMap hw c.flt (.agg #[.pointer (some ⟨f,0,none⟩),.pointer (some ⟨q,0,none⟩)]) fun w hw=>?_
 have hput:putM c.flt (.agg #[.pointer (some ⟨f,0,none⟩),.pointer (some ⟨q,0,none⟩)]) (fs.map flV)=(fs++[((f,q,⟨r,[]⟩):FE)]).map flV:=by
  unfold putM
  rw [hno]
  have:r.num=c.flt:=by rw [hr];rfl
  simp only [Option.isSome_none,Bool.false_eq_true,if_false,List.map_append,List.map_cons,List.map_nil,flV,Pl.n,this]
 rw [hput] at hw
 refine drw_rule' (Sat R [cmC b3 c sg sp,VC.tru]) hw (fun w hw=>?_) fun w hw=>?_
 ·exact (hw.arr (Hs':=cmC b3 c sg sp::MapAt m1 ((fs++[((f,q,⟨r,[]⟩):FE)]).map flV)::LoneAt f r::QuAt q []::FlsAt fs::pts p (bookC b m1 m2)::rpNew b4::MapAt m2 (xs.map bkV)::BksAt xs::Hs)).restTru2
 refine ⟨c.flt,At.own (fun _ h=>h) (by exact ⟨rfl,trivial⟩),?_⟩
 have hw:Sat R (LoneAt f r::MapAt m1 ((fs++[((f,q,⟨r,[]⟩):FE)]).map flV)::QuAt q []::FlsAt fs::pts p (bookC b m1 m2)::cmC b3 c sg sp::rpNew b4::MapAt m2 (xs.map bkV)::BksAt xs::Hs) w:=hw.swap
 refine (lone_left hw).use ?_
 clear hw
 rintro _ w ⟨sl,rfl,hw⟩
 refine .inl ⟨sl,rfl,?_,?_⟩
 ·exact (hw.arr (Hs':=cmC b3 c sg sp::Own sl 3 (intsI (rleftsF r))::LoneAt f r::MapAt m1 ((fs++[((f,q,⟨r,[]⟩):FE)]).map flV)::QuAt q []::FlsAt fs::pts p (bookC b m1 m2)::rpNew b4::MapAt m2 (xs.map bkV)::BksAt xs::Hs)).restTru2
 refine store_rule hw (by kernel_rfl) rfl (by simp [Value.cells]) fun w hw=>?_
 have hw:=hw.re (rpC b4 (openR c) sl nilSl)
 refine ⟨0,emS,0,c.flt,0,0,0,sl,nilSl,At.own (eqS hw) (by exact ⟨rfl,rfl,rfl,rfl,rfl,rfl,rfl,rfl,rfl,trivial⟩),?_⟩
 have hw:Sat R (Own sl 3 (intsI (rleftsF r))::pts p (bookC b m1 m2)::MapAt m1 ((fs++[((f,q,⟨r,[]⟩):FE)]).map flV)::MapAt m2 (xs.map bkV)::LoneAt f r::QuAt q []::FlsAt fs::BksAt xs::rpC b4 (openR c) sl nilSl::cmC b3 c sg sp::Hs) w:=hw.arr
 refine hK sl w (by rw [hopen]) ?_
 rw [hopen]
 dsimp only
 rw [←hr]
 refine hw.cons fun _ hw=>Sat.book.2 ⟨m1,m2,fs++[((f,q,⟨r,[]⟩):FE)],xs,⟨?_,hl.bk⟩,?_⟩
 ·rw [List.map_append]
  refine (List.perm_append_singleton _ _).trans (List.Perm.trans (hl.fl.cons _) kins_perm.symm)
 ·refine hw.cons fun _ h=>h.cons fun _ h=>h.cons fun _ h=>?_
  exact (FlsAt.snoc h).cons fun _ h=>h.cons fun _ h=>h.drop.drop
end Go.Proofs.YtfgbbckfikiomaaGreatDoor
/- Chapter 18: a flight is opened in a book of nothing: awake. Condition: none. -/
namespace Go.Proofs.YtfgbbckfikiomaaGreatDoor
set_option linter.unusedVariables false
open Go Go.VC
open Classical
variable {R:Cx} {Hs Rest:List HP} {w:World}
set_option maxHeartbeats 1000000 in
theorem bapply1_spec {p:Nat} {b:Book} {c:Cm} {sg sp:Sl} (hk:c.kind=1) (hr:RightC c) (hfl:b.fl.length≤1000000) (hg:RoI R sg c.grps) (hp:SlR R.m sp (flts c.parts)) (hw:Sat R (BookAt p b::Hs) w):
  Gets Tryz.prog 15 #[.pointer (some ⟨p,0,none⟩),.agg #[.int .i64 c.kind,.string c.pnr,.int .i64 c.flt,.int .i64 c.cls,.int .i64 c.many,.int .i64 c.time,.float .f64 c.sc,.string c.lab,.int .i64 c.rows,.slice sg.a sg.len sg.cap,.slice sp.a sp.len sp.cap]] w
   fun v w'=>∃ sl:Sl,v=.agg (rpV (openB b c).2 sl nilSl).toArray∧Sat R (Own sl 3 (intsI (openB b c).2.left)::BookAt p (openB b c).1::Hs) w':=by
 have hplen:sp.len=c.parts.length:=by have:=hp.len;simpa using this
 have hgl:c.grps.length≤17592186043904:=by have:=hr.gl;omega
 apply call15
 refine new_rule hw fun b3 w hw=>new_rule hw fun b4 w hw=>?_
 have hw:Sat R (rpNew b4::cmC b3 c sg sp::BookAt p b::Hs) w:=hw
 refine ⟨c.kind,c.pnr,c.flt,c.cls,c.many,c.time,c.sc,c.lab,c.rows,sg,sp,At.own (eqS hw) (by exact ⟨rfl,rfl,rfl,rfl,rfl,rfl,rfl,rfl,rfl,rfl,rfl,trivial⟩),?_⟩
 refine (bright_spec hg hgl hplen hw).use ?_
 clear hw
 rintro _ w ⟨rfl,hw⟩
 refine .inl ⟨_,rfl,need_c (fun _=>.inl ⟨rfl,?_⟩) (fun h=>absurd hr (of_decide_eq_false h))⟩
 refine ⟨c.kind,At.own (eqS hw) (by exact ⟨rfl,trivial⟩),Br.e (fun _=>?_) (fun h=>absurd hk h)⟩
 refine ⟨c.kind,c.pnr,c.flt,c.cls,c.many,c.time,c.sc,c.lab,c.rows,sg,sp,At.own (eqS hw) (by exact ⟨rfl,rfl,rfl,rfl,rfl,rfl,rfl,rfl,rfl,rfl,rfl,trivial⟩),?_⟩
 have hw:Sat R (BookAt p b::rpNew b4::cmC b3 c sg sp::Hs) w:=hw.arr
 refine (bopen_spec hfl hg hp hw).use ?_ ?_
 ·clear hw
  rintro _ w ⟨he,sl,rfl,hw⟩
  refine .inl ⟨0,emS,0,c.flt,0,0,0,sl,nilSl,rfl,?_⟩
  refine store_rule hw (by kernel_rfl) rfl (by simp [Value.cells]) fun w hw=>?_
  have hw:=hw.re (rpC b4 (openR c) sl nilSl)
  refine caughtR ⟨0,emS,0,c.flt,0,0,0,sl,nilSl,At.own (eqS hw) (by exact ⟨rfl,rfl,rfl,rfl,rfl,rfl,rfl,rfl,rfl,trivial⟩),sl,?_,?_⟩
  ·rw [he]
  ·rw [he]
   have hw:Sat R (Own sl 3 (intsI (openR c).left)::BookAt p (openB b c).1::rpC b4 (openR c) sl nilSl::cmC b3 c sg sp::Hs) w:=hw.arr
   exact hw.cons fun _ h=>h.cons fun _ h=>h.drop.drop
 ·clear hw
  rintro _ w ⟨e,rfl,he,hw⟩
  refine .inr ⟨_,rfl,?_⟩
  have hw:Sat R (rpNew b4::BookAt p b::cmC b3 c sg sp::Hs) w:=hw.swap
  refine caughtP hw fun w hw=>⟨e,emS,0,0,0,0,0,nilSl,nilSl,At.own (eqS hw) (by exact ⟨rfl,rfl,rfl,rfl,rfl,rfl,rfl,rfl,rfl,trivial⟩),nilSl,?_,?_⟩
  ·rw [he];rfl
  ·rw [he]
   exact Own.nil (hw.drop.cons fun _ h=>h.drop)
def aw18:Cm:=⟨1,ByteArray.mk #[],7,0,0,0,0,ByteArray.mk #[],1,[2],[4607182418800017408]⟩
theorem aw18_lims:limitsT (layN 1 [2]) [4607182418800017408]=([2],0):=by kernel_rfl
theorem aw18_left:rleftsF (rnewF 7 1 [2] [2])=[2]:=by kernel_rfl
theorem aw18_ok:newOk 7 1 [2] [4607182418800017408]:=⟨by omega,by omega,by kernel_rfl,by rw [aw18_lims]⟩
theorem aw18_right:RightC aw18:=by
 refine ⟨?_,?_,?_,?_,?_,?_,?_,?_,?_,?_,?_⟩<;>unfold aw18<;>try (unfold numOk)<;>try (simp only;omega)
 ·intro n hn
  simp only [List.mem_singleton] at hn
  subst hn;omega
 all_goals first|(show (0:Nat)≤16;omega)|simp
theorem aw18_open:(openB newBook aw18).2=⟨0,emS,0,7,0,0,0,[2],[]⟩:=by
 have h1:¬ (newBook.at aw18.flt).isSome=true:=by
  show ¬ (kget Pl.n 7 []).isSome=true
  unfold kget
  simp
 unfold openB
 rw [if_neg h1,if_neg (by show ¬ 8≤0;omega),if_neg (fun h=>h aw18_ok)]
 show (⟨0,emS,0,7,0,0,0,rleftsF (rnewF 7 1 [2] (limitsT (layN 1 [2]) [4607182418800017408]).1),[]⟩:Rp)=_
 rw [aw18_lims,aw18_left]
theorem lopen_spec (hw:Sat R Hs w):Gets Tryz.prog 38 #[] w fun v w'=>∃ sg sp:Sl,v=.agg (cmV aw18 sg sp).toArray∧Sat R (Own sg 3 (intsI aw18.grps)::Own sp 33 (flts aw18.parts)::Hs) w':=by
 apply call38
 refine new_rule hw fun b w hw=>new_rule hw fun x w hw=>new_rule hw fun y w hw=>?_
 have hw:Sat R (pts y (.cells (flts [4607182418800017408]).toArray 33 (0,0))::pts x (.cells (intsI [2]).toArray 3 (0,0))::cmNew b::Hs) w:=hw
 have hw:Sat R (cmNew b::pts y (.cells (flts [4607182418800017408]).toArray 33 (0,0))::pts x (.cells (intsI [2]).toArray 3 (0,0))::Hs) w:=hw.arr
 refine store_rule hw (by kernel_rfl) rfl (by simp [Value.cells]) fun w hw=>?_
 have hw:=hw.re (cmC b aw18 ⟨some ⟨x,0,none⟩,1,1⟩ ⟨some ⟨y,0,none⟩,1,1⟩)
 refine ⟨_,_,_,_,_,_,_,_,_,⟨some ⟨x,0,none⟩,1,1⟩,⟨some ⟨y,0,none⟩,1,1⟩,At.own (eqS hw) (by exact ⟨rfl,rfl,rfl,rfl,rfl,rfl,rfl,rfl,rfl,rfl,rfl,trivial⟩),⟨some ⟨x,0,none⟩,1,1⟩,⟨some ⟨y,0,none⟩,1,1⟩,rfl,?_⟩
 exact (own_lit (n:=1) (hw.drop.swap)).cons fun _ h=>own_lit (n:=1) h
theorem aw18_spec (hw:Sat R Hs w):Gets Tryz.prog 12 #[] w fun v w'=>v=.bool true∧Sat R Hs w':=by
 apply call12
 refine (bnew_spec hw).use ?_
 clear hw
 rintro _ w ⟨p,rfl,hw⟩
 refine ⟨_,rfl,Br.f rfl ?_⟩
 refine (lopen_spec hw).use ?_
 clear hw
 rintro _ w ⟨sg,sp,rfl,hw⟩
 obtain ⟨R1,e1,g1,hw⟩:=Own.leak hw
 obtain ⟨R2,e2,g2,hw⟩:=Own.leak hw
 refine ⟨_,_,_,_,_,_,_,_,_,sg,sp,rfl,?_⟩
 refine (bapply1_spec (c:=aw18) rfl aw18_right (by show 0≤1000000;omega) (e2.ro (g1.ro (by unfold aw18;simp))) g2 hw).use ?_
 clear hw
 rintro _ w ⟨sl,rfl,hw⟩
 rw [aw18_open] at hw ⊢
 refine ⟨_,_,_,_,_,_,_,sl,nilSl,rfl,?_⟩
 refine new_rule hw fun b w hw=>?_
 refine store_rule hw (by kernel_rfl) rfl (by simp [Value.cells]) fun w hw=>?_
 have hw:=hw.re (rpC b ⟨0,emS,0,7,0,0,0,[2],[]⟩ sl nilSl)
 refine ⟨0,At.own (eqS hw) (by exact ⟨rfl,trivial⟩),Br.e (fun _=>?_) (fun h=>absurd rfl h)⟩
 have hw:=hw.swap
 have hsl:=Own.len hw
 have hsl:sl.len=1:=hsl
 refine ⟨sl,At.own (eqS hw) (by exact ⟨rfl,trivial⟩),Br.e (fun _=>?_) (fun h=>absurd (by rw [hsl];rfl) h)⟩
 refine ⟨sl,At.own (eqS hw) (by exact ⟨rfl,trivial⟩),Own.ix (xs:=[2]) hw (eqS hw) 0 rfl (by simp) ⟨rfl,?_⟩⟩
 exact e1.back (e2.back hw.drop.drop.drop)
end Go.Proofs.YtfgbbckfikiomaaGreatDoor


/- ROW: from a reading of an argument to what the contracts ask; from a walk's end to 'Below'. No condition. -/
namespace Go.VC
set_option linter.unusedVariables false
open Go.ChangeShapes Go.WideShapes Go.ChangeAt Go.RowKit
theorem below_of {W W':World} {Hs:List HP} (h:Sat (Cx.of W) Hs W'):Below W.heap.size W W':=by
 obtain ⟨h1,h2,h3⟩:=h.streams
 have hb:∀ k,k<W.heap.size→W'.heap[k]? =W.heap[k]?:=fun k hk=>by
  have:(Cx.of W).m k=some W.heap[k]:=by simp [Cx.of,hk]
  rw [h.of_ro this];simp [hk]
 refine ⟨h1,h2,h3,?_,hb⟩
 rcases Nat.lt_or_ge W'.heap.size W.heap.size with hl|hl
 ·have:=hb W'.heap.size hl
  rw [Array.getElem?_eq_none (Nat.le_refl _)] at this
  simp [hl] at this
 ·exact hl
theorem block_of_cell {w:World} {a:Addr} {v:Value} (h:w.cell? a=some v):a.spot=none∧∃ l T fr,w.heap[a.block]? =some (.cells l T fr)∧l[a.off]? =some v:=by
 unfold World.cell? at h
 split at h
 ·rename_i c T fr hb
  split at h
  ·cases h
  ·rename_i hs
   exact ⟨by simpa using hs,c,T,fr,hb,h⟩
 ·cases h
section
variable {H:Type} {enc:TypeId × Value→H} {P:Program} {W:World} {base:Nat} {spare:Nat→Bool} {held:Bool}
end
end Go.VC

/- ROW, part 3: arguments of any plain type (integers, bools, floats, strings, slices, structs, arrays of such), read as trees. No condition. -/
namespace Go.VC
set_option linter.unusedVariables false
open Go.ChangeShapes Go.WideShapes Go.ChangeAt Go.RowKit
inductive Tr where
 |int (k:IntKind) (n:Int)|bool (b:Bool)|flt (n:Nat)|str (s:ByteArray)|sl (s:Sl) (xs:List Tr)|st (xs:List Tr)
mutual
def Tr.cells:Tr→List Value
 | .int k n=>[.int k n]
 | .bool b=>[.bool b]
 | .flt n=>[.float .f64 n]
 | .str s=>[.string s]
 | .sl s _=>[.slice s.a s.len s.cap]
 | .st xs=>Tr.cellsL xs
def Tr.cellsL:List Tr→List Value
 |[]=>[]
 |x::xs=>x.cells++Tr.cellsL xs
end
inductive U where
 |int (k:IntKind)|bool|flt|str|sl (u:U)|st (us:List U)
mutual
def U.size:U→Nat
 | .st us=>U.sizeL us
 |_=>1
def U.sizeL:List U→Nat
 |[]=>0
 |u::us=>u.size + U.sizeL us
end
mutual
def Tr.Ok (R:Cx):U→Tr→Prop
 | .int k,.int k' n=>k'=k∧(Lit.int k n).wf=true
 | .bool,.bool _=>True
 | .flt,.flt n=>(Lit.float .f64 n).wf=true
 | .str,.str s=>s.size≤maxLen
 | .sl u,.sl s xs=>(RoN u.size R s (xs.map Tr.cells)∧s.len≤s.cap)∧xs.length≤maxLen∧Tr.OkA R u xs
 | .st us,.st xs=>Tr.OkL R us xs
 |_,_=>False
def Tr.OkA (R:Cx) (u:U):List Tr→Prop
 |[]=>True
 |x::xs=>Tr.Ok R u x∧Tr.OkA R u xs
def Tr.OkL (R:Cx):List U→List Tr→Prop
 |[],[]=>True
 |u::us,x::xs=>Tr.Ok R u x∧Tr.OkL R us xs
 |_,_=>False
end
theorem Tr.okA {R:Cx} {u:U}:∀ {xs:List Tr},Tr.OkA R u xs→∀ x∈xs,Tr.Ok R u x
 |[],_,x,hx=>by cases hx
 |y::ys,h,x,hx=>by
  unfold Tr.OkA at h
  rcases List.mem_cons.1 hx with rfl|hx
  ·exact h.1
  ·exact Tr.okA h.2 x hx
theorem Tr.okA_mk {R:Cx} {u:U}:∀ {xs:List Tr},(∀ x∈xs,Tr.Ok R u x)→Tr.OkA R u xs
 |[],_=>by unfold Tr.OkA;trivial
 |y::ys,h=>by
  unfold Tr.OkA
  exact ⟨h y List.mem_cons_self,Tr.okA_mk fun x hx=>h x (List.mem_cons_of_mem _ hx)⟩
def fieldsU (P:Program) (f:TypeId→Option U):Nat→List Field→Option (List U)
 |_,[]=>some []
 |off,x::xs=>match Nat.beq x.offset off with
  |false=>none
  |true=>match f x.type with
   |none=>none
   |some u=>match Nat.beq (P.cellsOf x.type) u.size with
    |false=>none
    |true=>match fieldsU P f (off + u.size) xs with
     |none=>none
     |some us=>some (u::us)
def uOf (P:Program):Nat→TypeId→Option U
 |0,_=>none
 |d + 1,t=>match P.underlying t with
  |some (.int k)=>some (.int k)
  |some .bool=>some .bool
  |some (.float .f64)=>some .flt
  |some .string=>some .str
  |some (.slice e)=>match uOf P d e with
   |some u=>(match Nat.beq (P.cellsOf e) u.size && Nat.blt 0 u.size with|true=>some (.sl u)|false=>none)
   |none=>none
  |some (.struct fs)=>match fieldsU P (uOf P d) 0 fs.toList with
   |some us=>(match Nat.beq (P.cellsOf t) (U.sizeL us) with|true=>some (.st us)|false=>none)
   |none=>none
  |some (.array n e)=>match uOf P d e with
   |some u=>(match Nat.beq (P.cellsOf e) u.size && Nat.beq (P.cellsOf t) (n * u.size) with|true=>some (.st (List.replicate n u))|false=>none)
   |none=>none
  |_=>none
section
variable {H:Type} {enc:TypeId × Value→H} {P:Program} {W:World} {base:Nat} {spare:Nat→Bool} {held:Bool}
def IsTr (R:Cx) (u:U) (cs:List Value):Prop:=∃ x:Tr,x.cells=cs∧x.Ok R u
theorem cells?_cell {w:World} {base:Nat} {a:Addr} {n:Nat} {cs:List Value} (h:w.cells? base a n=some cs):cs.length=n∧∀ i,i<n→w.cell? (a.add i)=cs[i]?:=by
 unfold World.cells? at h
 split at h
 ·refine ⟨by have:=mapM_some_length h;simpa using this,fun i hi=>mapM_some_get h i i (by simp [hi])⟩
 ·cases h
theorem add_add (a:Addr) (i j:Nat) (hs:a.spot=none):(a.add i).add j=⟨a.block,a.off + (i + j),none⟩:=by
 obtain ⟨b,o,s⟩:=a
 simp only at hs
 subst hs
 rw [add_off,add_off,Nat.add_assoc]
theorem fields_read {d:Nat} (ih:∀ {fuel:Nat} {t:TypeId} {cs:List Value} {y:DataW H × List MemPlace} {u:U},uOf P d t=some u→DataW.trod enc P W base spare held fuel t cs=some y→IsTr (Cx.of W) u cs) {n:Nat} {cs:List Value} {xs:List (DataW H × List MemPlace)}:
  ∀ (fs:List Field) (off:Nat) (us:List U),fieldsU P (uOf P d) off fs=some us→(∀ (i:Nat) (f:Field),fs[i]? =some f→∃ y,DataW.trod enc P W base spare held n f.type ((cs.drop f.offset).take (P.cellsOf f.type))=some y)→
   off + U.sizeL us≤cs.length→∃ ts:List Tr,Tr.cellsL ts=(cs.drop off).take (U.sizeL us)∧Tr.OkL (Cx.of W) us ts
 |[],off,us,h,_,_=>by
  simp only [fieldsU,Option.some.injEq] at h
  subst h
  exact ⟨[],by simp [Tr.cellsL,U.sizeL],by unfold Tr.OkL;trivial⟩
 |f::fs,off,us,h,hf,hl=>by
  unfold fieldsU at h
  split at h
  ·cases h
  rename_i hoff
  have hoff:=Nat.eq_of_beq_eq_true hoff
  split at h
  ·cases h
  rename_i u hu
  split at h
  ·cases h
  rename_i hc
  have hc:=Nat.eq_of_beq_eq_true hc
  split at h
  ·cases h
  rename_i us' hus
  cases h
  simp only [U.sizeL] at hl ⊢
  obtain ⟨y,hy⟩:=hf 0 f rfl
  obtain ⟨x,hx,hxo⟩:=ih hu hy
  obtain ⟨ts,hts,htso⟩:=fields_read ih (n:=n) (xs:=xs) fs (off + u.size) us' hus (fun i g hg=>hf (i + 1) g (by simpa using hg)) (by omega)
  refine ⟨x::ts,?_,by unfold Tr.OkL;exact ⟨hxo,htso⟩⟩
  simp only [Tr.cellsL]
  rw [hx,hts,hoff,hc,List.take_add,List.drop_drop]
theorem reps_read {u:U} {n s:Nat}:∀ {m:Nat} {cs:List Value},cs.length=m * s→u.size=s→(∀ i,i<m→IsTr (Cx.of W) u ((cs.drop (i * s)).take s))→∃ ts:List Tr,Tr.cellsL ts=cs∧Tr.OkL (Cx.of W) (List.replicate m u) ts
 |0,cs,hl,_,_=>by
  have:cs=[]:=List.length_eq_zero_iff.1 (by simpa using hl)
  subst this
  exact ⟨[],rfl,by unfold Tr.OkL;trivial⟩
 |m + 1,cs,hl,hs,h=>by
  obtain ⟨x,hx,hxo⟩:=h 0 (by omega)
  obtain ⟨ts,hts,htso⟩:=reps_read (n:=n) (m:=m) (cs:=cs.drop s) (by rw [List.length_drop,hl,Nat.add_mul];omega) hs (fun i hi=>by
   have:=h (i + 1) (by omega)
   rw [Nat.add_mul,Nat.one_mul,Nat.add_comm,←List.drop_drop] at this
   exact this)
  refine ⟨x::ts,?_,by rw [List.replicate_succ];unfold Tr.OkL;exact ⟨hxo,htso⟩⟩
  simp only [Tr.cellsL]
  rw [hx,hts]
  simp
theorem choose_list {α β:Type} {p:Nat→α→Prop}:∀ {n:Nat},(∀ i,i<n→∃ x:α,p i x)→∃ xs:List α,xs.length=n∧∀ i (hi:i<xs.length),p i xs[i]
 |0,_=>⟨[],rfl,fun i hi=>by simp at hi⟩
 |n + 1,h=>by
  obtain ⟨xs,hl,hp⟩:=choose_list (β:=β) (n:=n) fun i hi=>h i (by omega)
  obtain ⟨x,hx⟩:=h n (by omega)
  refine ⟨xs++[x],by simp [hl],fun i hi=>?_⟩
  by_cases h2:i<xs.length
  ·rw [List.getElem_append_left h2];exact hp i h2
  ·have:i=n:=by simp at hi;omega
   subst this
   rw [List.getElem_append_right (by omega)]
   simpa using hx
theorem trod_f64 {fuel:Nat} {t:TypeId} {cs:List Value} {x:DataW H × List MemPlace} (ht:P.underlying t=some (.float .f64)) (h:DataW.trod enc P W base spare held fuel t cs=some x):∃ n,cs=[.float .f64 n]∧(Lit.float .f64 n).wf=true:=by
 cases fuel with
 |zero=>simp [DataW.trod] at h
 |succ n=>
  unfold DataW.trod at h
  rw [ht] at h
  split at h<;>simp_all
theorem tr_read:∀ {d fuel:Nat} {t:TypeId} {cs:List Value} {y:DataW H × List MemPlace} {u:U},uOf P d t=some u→DataW.trod enc P W base spare held fuel t cs=some y→IsTr (Cx.of W) u cs
 |0,_,_,_,_,_,h,_=>by cases h
 |d + 1,fuel,t,cs,y,u,h,hy=>by
  unfold uOf at h
  split at h
  ·rename_i k ht
   cases h
   obtain ⟨n,rfl,_,hw⟩:=DataW.trod_int ht hy
   exact ⟨.int k n,rfl,rfl,hw⟩
  ·rename_i ht
   cases h
   obtain ⟨b,rfl,_⟩:=DataW.trod_bool ht hy
   exact ⟨.bool b,rfl,by unfold Tr.Ok;trivial⟩
  ·rename_i ht
   cases h
   obtain ⟨n,rfl,hn⟩:=trod_f64 ht hy
   exact ⟨.flt n,rfl,by unfold Tr.Ok;exact hn⟩
  ·rename_i ht
   cases h
   obtain ⟨s,rfl,_,hs⟩:=DataW.trod_string ht hy
   exact ⟨.str s,rfl,hs⟩
  ·rename_i e ht
   split at h
   case h_2=>cases h
   rename_i ue hue
   split at h
   case h_2=>cases h
   rename_i hc
   simp only [Bool.and_eq_true] at hc
   have hpos:0<ue.size:=Nat.blt_eq.mp hc.2
   have hc:=Nat.eq_of_beq_eq_true hc.1
   cases h
   rcases DataW.trod_slice ht hy with ⟨rfl,_⟩|⟨a,len,cap,elems,rest,n,_,rfl,_,_,hlc,hcm,hel,helem,_,_⟩
   ·refine ⟨.sl ⟨none,0,0⟩ [],rfl,?_⟩
    unfold Tr.Ok
    exact ⟨⟨⟨Wid.nil,rfl,fun h=>absurd rfl h⟩,Nat.le_refl _⟩,Nat.zero_le _,by unfold Tr.OkA;trivial⟩
   ·obtain ⟨xs,hxl,hxs⟩:=choose_list (β:=Unit) (p:=fun i (x:Tr)=>W.cells? base (a.add (i * P.cellsOf e)) (P.cellsOf e)=some x.cells∧x.Ok (Cx.of W) ue) (n:=len) fun i hi=>by
     have h1:=helem i hi
     rw [List.getElem?_eq_getElem (by omega)] at h1
     obtain ⟨ce,hce,hte⟩:=Option.bind_eq_some_iff.1 h1
     obtain ⟨x,rfl,hx⟩:=tr_read hue hte
     exact ⟨x,hce,hx⟩
    refine ⟨.sl ⟨some a,len,cap⟩ xs,rfl,?_⟩
    unfold Tr.Ok
    have hwid:Wid ue.size (xs.map Tr.cells):=fun r hr=>by
     obtain ⟨x,hx,rfl⟩:=List.mem_map.1 hr
     obtain ⟨i,hi,rfl⟩:=List.getElem_of_mem hx
     have:=(cells?_cell (hxs i hi).1).1
     rw [this,hc]
    refine ⟨⟨⟨hwid,by simp [hxl],fun hne=>?_⟩,hlc⟩,by omega,Tr.okA_mk fun x hx=>by obtain ⟨i,hi,rfl⟩:=List.getElem_of_mem hx;exact (hxs i hi).2⟩
    -- the block
    have h0:0<xs.length:=by
     have:0<(xs.map Tr.cells).length:=List.length_pos_iff.2 hne
     simpa using this
    have hcell:∀ i (hi:i<xs.length) j,j<ue.size→W.cell? ((a.add (i * ue.size)).add j)=(xs[i].cells)[j]?:=fun i hi j hj=>by
     have:=(cells?_cell (hxs i hi).1).2 j (by rw [hc];exact hj)
     rw [hc] at this;exact this
    have hxl0:∀ i (hi:i<xs.length),(xs[i].cells).length=ue.size:=fun i hi=>by rw [(cells?_cell (hxs i hi).1).1,hc]
    have hc0:=hcell 0 h0 0 (by omega)
    rw [List.getElem?_eq_getElem (by rw [hxl0 0 h0];omega)] at hc0
    have hz0:(a.add (0 * ue.size)).add 0=a:=by rw [Nat.zero_mul];simp [Addr.add]
    rw [hz0] at hc0
    obtain ⟨hs,l,T,fr,hl,_⟩:=block_of_cell hc0
    refine ⟨a.block,a.off,l,T,fr,by cases a;simp_all,hl,fun i v hv=>?_⟩
    -- which row, which place
    have hlen:=hwid.len
    rw [List.length_map] at hlen
    have hi:i<(xs.map Tr.cells).flatten.length:=(List.getElem?_eq_some_iff.1 hv).1
    have hq:i / ue.size<xs.length:=by
     rw [hlen] at hi;exact Nat.div_lt_of_lt_mul (by rwa [Nat.mul_comm])
    have hm:i % ue.size<ue.size:=Nat.mod_lt _ (by omega)
    have hcc:=hcell (i / ue.size) hq (i % ue.size) hm
    rw [add_add a _ _ hs,show i / ue.size * ue.size + i % ue.size=i by rw [Nat.mul_comm];exact Nat.div_add_mod _ _] at hcc
    have e1:(xs.map Tr.cells).flatten[i]? =(xs[i / ue.size].cells)[i % ue.size]?:=by
     have h1:i=i / ue.size * ue.size + i % ue.size:=by rw [Nat.mul_comm];exact (Nat.div_add_mod _ _).symm
     conv=>lhs;rw [h1]
     rw [←List.getElem?_drop,hwid.drop_flat,List.drop_eq_getElem_cons (by simpa using hq),List.flatten_cons,List.getElem?_append_left (by rw [List.getElem_map,hxl0 _ hq];exact hm),List.getElem_map]
    rw [←e1,hv] at hcc
    simp only [World.cell?,hl,Option.isSome_none,Bool.false_eq_true,if_false] at hcc
    exact hcc
  ·rename_i fs ht
   split at h
   case h_2=>cases h
   rename_i us hus
   split at h
   case h_2=>cases h
   rename_i hc
   have hc:=Nat.eq_of_beq_eq_true hc
   cases h
   obtain ⟨xs,n,_,_,hl,hxl,hf⟩:=DataW.trod_struct ht hy
   obtain ⟨ts,hts,hto⟩:=fields_read (d:=d) (fun h h2=>tr_read h h2) (n:=n) (cs:=cs) (xs:=xs) fs.toList 0 us hus (fun i f hfi=>by
    have hfi2:fs[i]? =some f:=by simpa using hfi
    have hlt:i<xs.length:=by rw [hxl];exact (Array.getElem?_eq_some_iff.1 hfi2).1
    exact ⟨xs[i],by rw [hf i f hfi2];exact List.getElem?_eq_getElem hlt⟩) (by omega)
   refine ⟨.st ts,?_,by unfold Tr.Ok;exact hto⟩
   unfold Tr.cells
   rw [hts,List.drop_zero,List.take_of_length_le (by omega)]
  ·rename_i m e ht
   split at h
   case h_2=>cases h
   rename_i ue hue
   split at h
   case h_2=>cases h
   rename_i hc
   simp only [Bool.and_eq_true] at hc
   have hc1:=Nat.eq_of_beq_eq_true hc.1
   have hc2:=Nat.eq_of_beq_eq_true hc.2
   cases h
   obtain ⟨xs,n,_,_,hl,hxl,hf⟩:=DataW.trod_array ht hy
   obtain ⟨ts,hts,hto⟩:=reps_read (n:=n) (u:=ue) (s:=ue.size) (m:=m) (cs:=cs) (by rw [hl,hc2]) rfl (fun i hi=>by
    have:=hf i hi
    rw [hc1,List.getElem?_eq_getElem (by omega)] at this
    exact tr_read hue this)
   exact ⟨.st ts,by unfold Tr.cells;exact hts,by unfold Tr.Ok;exact hto⟩
  ·cases h
theorem tr_arg {d:Nat} {t:TypeId} {v:Value} {dt:DataW H} {p:List MemPlace} {u:U} (hu:uOf P d t=some u) (h:DataW.Trod enc P W base spare held t v dt p):IsTr (Cx.of W) u v.cells.toList:=by
 obtain ⟨fuel,hf⟩:=h
 exact tr_read hu hf
theorem sl_form {α:Type} {R:Cx} {u:U} {s:Sl} {xs:List Tr} (g:α→List Value) (Q:α→Prop) (ho:Tr.Ok R (.sl u) (.sl s xs)) (h:∀ x:Tr,x.Ok R u→∃ e:α,x.cells=g e∧Q e):
  ∃ es:List α,RoN u.size R s (es.map g)∧es.length≤maxLen∧∀ e∈es,Q e:=by
 unfold Tr.Ok at ho
 obtain ⟨⟨h1,_⟩,h2,h3⟩:=ho
 have key:∀ l:List Tr,(∀ x∈l,x.Ok R u)→∃ es:List α,l.map Tr.cells=es.map g∧es.length=l.length∧∀ e∈es,Q e:=fun l=>by
  induction l with
  |nil=>exact fun _=>⟨[],rfl,rfl,fun _ h=>by cases h⟩
  |cons x l ih=>
   intro hl
   obtain ⟨es,h1,h2,h3⟩:=ih fun y hy=>hl y (List.mem_cons_of_mem _ hy)
   obtain ⟨e,he,hq⟩:=h x (hl x List.mem_cons_self)
   exact ⟨e::es,by rw [List.map_cons,List.map_cons,he,h1],by simp [h2],fun y hy=>by
    rcases List.mem_cons.1 hy with rfl|hy
    ·exact hq
    ·exact h3 y hy⟩
 obtain ⟨es,e1,e2,e3⟩:=key xs (Tr.okA h3)
 rw [e1] at h1
 exact ⟨es,h1,by omega,e3⟩
theorem sl_cap {R:Cx} {u:U} {s:Sl} {xs:List Tr} (ho:Tr.Ok R (.sl u) (.sl s xs)):s.len≤s.cap:=by
 unfold Tr.Ok at ho
 exact ho.1.2
theorem RoN.one {R:Cx} {s:Sl} {vs:List Value} (h:RoN 1 R s (vs.map fun v=>[v])) (hb:vs.length≤maxLen):Ro R s vs:=by
 refine ⟨by have:=h.len;simpa using this,by unfold maxLen at hb;omega,fun hne=>?_⟩
 obtain ⟨b,off,l,T,fr,h1,h2,h3⟩:=h.mem (by simpa using hne)
 refine ⟨b,off,l,T,fr,h1,h2,fun i v hv=>h3 i v ?_⟩
 have:(vs.map fun v=>[v]).flatten=vs:=by
  clear h3 h hb hne hv
  induction vs with
  |nil=>rfl
  |cons v vs ih=>simp [ih]
 rw [this];exact hv
theorem ints_form {R:Cx} {k:IntKind} {s:Sl} {xs:List Tr} (ho:Tr.Ok R (.sl (.int k)) (.sl s xs)):∃ zs:List Int,Ro R s (zs.map (Value.int k))∧zs.length≤maxLen∧∀ z∈zs,(Lit.int k z).wf=true:=by
 obtain ⟨zs,h1,h2,h3⟩:=sl_form (fun z:Int=>[Value.int k z]) (fun z=>(Lit.int k z).wf=true) ho fun x hx=>by
  cases x<;>simp only [Tr.Ok] at hx
  rename_i k' z
  obtain ⟨rfl,hw⟩:=hx
  exact ⟨z,rfl,hw⟩
 refine ⟨zs,RoN.one ?_ (by simpa using h2),h2,h3⟩
 rw [List.map_map]
 exact h1
theorem flts_form2 {R:Cx} {s:Sl} {xs:List Tr} (ho:Tr.Ok R (.sl .flt) (.sl s xs)):∃ zs:List Nat,Ro R s (zs.map (Value.float .f64))∧zs.length≤maxLen∧s.len≤s.cap∧∀ z∈zs,z<18446744073709551616:=by
 obtain ⟨zs,h1,h2,h3⟩:=sl_form (fun z:Nat=>[Value.float .f64 z]) (fun z=>z<18446744073709551616) ho fun x hx=>by
  cases x<;>simp only [Tr.Ok] at hx
  rename_i z
  exact ⟨z,rfl,of_decide_eq_true hx⟩
 refine ⟨zs,RoN.one ?_ (by simpa using h2),h2,sl_cap ho,h3⟩
 rw [List.map_map]
 exact h1
end
end Go.VC
/- The arguments of chapter 18's laws. No condition. -/
namespace Go.Proofs.YtfgbbckfikiomaaGreatDoor
set_option linter.unusedVariables false
open Go Go.VC Go.ChangeShapes Go.WideShapes Go.ChangeAt Go.RowKit
variable {H:Type} {enc:TypeId × Value→H} {W:World} {r:Reach} {b0:Nat} {v:Value} {d:DataW H} {p:List MemPlace}
abbrev cmdU:U:=.st [.int .i64,.str,.int .i64,.int .i64,.int .i64,.int .i64,.flt,.str,.st [.int .i64,.sl (.int .i64)],.sl .flt]
theorem cmd_form {R:Cx} {x:Tr} (ho:x.Ok R cmdU):∃ (c:Cm) (sg sp:Sl),x.cells=cmV c sg sp∧FltC c∧RoI R sg c.grps∧SlR R.m sp (flts c.parts):=by
 cases x<;>simp only [Tr.Ok] at ho
 rename_i xs
 match xs,ho with
 |[x0,x1,x2,x3,x4,x5,x6,x7,x8,x9],ho=>
  simp only [Tr.OkL,and_true] at ho
  obtain ⟨h0,h1,h2,h3,h4,h5,h6,h7,h8,h9⟩:=ho
  cases x0<;>simp only [Tr.Ok] at h0
  rename_i k0 n0
  obtain ⟨rfl,_⟩:=h0
  cases x1<;>simp only [Tr.Ok] at h1
  rename_i n1
  cases x2<;>simp only [Tr.Ok] at h2
  rename_i k2 n2
  obtain ⟨rfl,_⟩:=h2
  cases x3<;>simp only [Tr.Ok] at h3
  rename_i k3 n3
  obtain ⟨rfl,_⟩:=h3
  cases x4<;>simp only [Tr.Ok] at h4
  rename_i k4 n4
  obtain ⟨rfl,_⟩:=h4
  cases x5<;>simp only [Tr.Ok] at h5
  rename_i k5 n5
  obtain ⟨rfl,_⟩:=h5
  cases x6<;>simp only [Tr.Ok] at h6
  rename_i n6
  cases x7<;>simp only [Tr.Ok] at h7
  rename_i n7
  cases x9<;>simp only [Tr.Ok] at h9
  rename_i sp px
  have h9:Tr.Ok R (.sl .flt) (.sl sp px):=by unfold Tr.Ok;exact h9
  cases x8<;>simp only [Tr.Ok] at h8
  rename_i ys
  match ys,h8 with
  |[y0,y1],h8=>
   simp only [Tr.OkL,and_true] at h8
   obtain ⟨g0,g1⟩:=h8
   cases y0<;>simp only [Tr.Ok] at g0
   rename_i k8 rows
   obtain ⟨rfl,_⟩:=g0
   cases y1<;>simp only [Tr.Ok] at g1
   rename_i sg gx
   have g1:Tr.Ok R (.sl (.int .i64)) (.sl sg gx):=by unfold Tr.Ok;exact g1
   obtain ⟨grps,a1,_,_⟩:=ints_form g1
   obtain ⟨parts,b1,_,b3,b4⟩:=flts_form2 h9
   exact ⟨⟨n0,n1,n2,n3,n4,n5,n6,n7,rows,grps,parts⟩,sg,sp,rfl,⟨of_decide_eq_true h6,b4⟩,a1,⟨b1.len,b3,b1.mem⟩⟩
end Go.Proofs.YtfgbbckfikiomaaGreatDoor
/- SL, part 18: a range over a map of one's own, in whatever order. No condition. -/
namespace Go.VC
set_option linter.unusedVariables false
section
variable {α:Type} [BEq α] [KeyK α] {P:Program} {R:Cx} {Hs:List HP} {w:World}
def ItAt (r m:Nat) (es left:List (α × Value)):HP:=exs fun l:List (En α)=>exs fun c:Nat=>exs fun seen:Array Nat=>
 Star [pur (strip l=es∧StampsOk l c∧strip (l.filter fun e=>!seen.contains e.2.2)=left),pts r (.mapIter (some m) c seen c),pts m (.map (l.map mkE).toArray c)]
theorem ItAt.iff {r m:Nat} {es left:List (α × Value)}:Sat R (ItAt r m es left::Hs) w↔∃ (l:List (En α)) (c:Nat) (seen:Array Nat),(strip l=es∧StampsOk l c∧strip (l.filter fun e=>!seen.contains e.2.2)=left)∧
  Sat R (pts r (.mapIter (some m) c seen c)::pts m (.map (l.map (mkE (α:=α))).toArray c)::Hs) w:=by
 unfold ItAt
 simp only [Sat.exs]
 constructor
 ·rintro ⟨l,c,seen,h⟩
  obtain ⟨h1,h2⟩:=Sat.pur.1 (Sat.star.1 h)
  exact ⟨l,c,seen,h1,h2⟩
 ·rintro ⟨l,c,seen,h1,h2⟩
  exact ⟨l,c,seen,Sat.star.2 (Sat.pur.2 ⟨h1,h2⟩)⟩
theorem ItAt.map {r m:Nat} {es left:List (α × Value)} (hw:Sat R (ItAt r m es left::Hs) w):Sat R (MapAt m es::Hs) w:=by
 obtain ⟨l,c,seen,⟨h1,h2,_⟩,hw⟩:=ItAt.iff.1 hw
 exact MapAt.iff.2 ⟨l,c,h1,h2,hw.drop⟩
end
end Go.VC
/- SL, part 19: rows of n cells: copy, append of zeros where there is no room, taking a part out. Condition: bounds on lengths. -/
namespace Go.VC
set_option linter.unusedVariables false
open Go Go.RowKit
theorem run_copy_n {P:Program} {n:Nat} (w:World) (dT sT ty elem:TypeId) (b o dLen dCap:Nat) (a:Addr) (sLen sCap:Nat) (cs:List Value)
  (hu:P.underlying dT=some (.slice elem)) (hs:(P.info? elem).map (·.size)=some n) (hn:cs.length=Nat.min sLen dLen * n)
  (hsrc:∀ j v,cs[j]? =some v→w.cell? (a.add j)=some v) (hc:∀ j,j<cs.length→(w.cell? ⟨b,o + j,none⟩).isSome=true) (hf:∀ j,j<cs.length→w.frozen? ⟨b,o + j,none⟩=false) (h1:∀ v∈cs,v.oneCell'=true):
  (Builtin.copy_ #[dT,sT] ty #[.slice (some ⟨b,o,none⟩) dLen dCap,.slice (some a) sLen sCap]).run P w=.ok (goInt (Nat.min sLen dLen)) (w.setCells b o cs):=by
 have hl:=run_loadCells_list (P:=P) w a cs hsrc
 have hst:=run_storeCells_cells (P:=P) b o cs 0 w (by simpa using hc) (by simpa using hf) h1
 cases hq:P.info? elem with
 |none=>simp [hq] at hs
 |some i=>
  have hi:i.size=n:=by simpa [hq] using hs
  simp [Builtin.copy_,run_underlying hu,Builtin.lenOf,Builtin.firstCells,sizeOf,typeInfo,hq,hi,←hn,hl,hst]
theorem run_clear_n {P:Program} {n m:Nat} (w:World) (t e ty:TypeId) (z:Value) (ht:P.underlying t=some (.slice e)) (hv:∀ w,(zeroValue e).run P w=.ok z w) (hz:z.cells.size=n) (h1:∀ v∈(Builtin.zeroCells z.cells m).toList,v.oneCell'=true) (b o c:Nat) (hm:0<m)
  (hc:∀ j,j<m * n→(w.cell? ⟨b,o + j,none⟩).isSome=true) (hf:∀ j,j<m * n→w.frozen? ⟨b,o + j,none⟩=false):
  (Builtin.clear_ #[t] ty #[.slice (some ⟨b,o,none⟩) m c]).run P w=.ok (.tuple #[]) (w.setCells b o (Builtin.zeroCells z.cells m).toList):=by
 have hl:(Builtin.zeroCells z.cells m).toList.length=m * n:=by simp [Builtin.zeroCells,hz]
 have hst:=run_storeCells_cells (P:=P) b o (Builtin.zeroCells z.cells m).toList 0 w (by rw [hl];simpa using hc) (by rw [hl];simpa using hf) h1
 simp only [Nat.add_zero] at hst
 obtain ⟨k,rfl⟩:∃ k,m=k + 1:=⟨m - 1,by omega⟩
 simp [Builtin.clear_,run_underlying ht,hv,hst]
theorem rows_of {n:Nat}:∀ (m:Nat) (l:List Value),l.length=m * n→∃ ys:List (List Value),ys.length=m∧Wid n ys∧ys.flatten=l
 |0,l,h=>⟨[],rfl,Wid.nil,by have:l=[]:=List.length_eq_zero_iff.1 (by omega);rw [this];rfl⟩
 |m + 1,l,h=>by
  rw [Nat.add_mul,Nat.one_mul] at h
  obtain ⟨ys,h1,h2,h3⟩:=rows_of (n:=n) m (l.drop n) (by rw [List.length_drop];omega)
  refine ⟨l.take n::ys,by simp [h1],fun x hx=>?_,by simp [h3]⟩
  rcases List.mem_cons.1 hx with rfl|hx
  ·rw [List.length_take];omega
  ·exact h2 x hx
theorem putL_midN {A B C V:List Value} {p:Nat} (hp:A.length=p) (hB:B.length=V.length):putL (A++B++C) p V=A++V++C:=by
 rw [putL_eq _ _ _ (by simp only [List.length_append];omega)]
 have e1:(A++B++C).take p=A:=by rw [List.append_assoc,List.take_left' hp]
 have e2:(A++B++C).drop (p + V.length)=C:=by rw [List.drop_left' (by rw [List.length_append];omega)]
 rw [e1,e2]
theorem putN {A Y D X rest:List Value} {p:Nat} (hA:A.length=p) (hy:Y.length=X.length + D.length):putL (putL ((A++Y)++rest) p X) (p + X.length) D=(A++X++D)++rest:=by
 have h1:putL ((A++Y)++rest) p X=A++X++(Y.drop X.length++rest):=by
  have:=putL_midN (A:=A) (B:=Y.take X.length) (C:=Y.drop X.length++rest) (V:=X) hA (by rw [List.length_take];omega)
  rw [←this]
  congr 1
  rw [List.append_assoc,List.append_assoc,←List.append_assoc (Y.take _),List.take_append_drop]
 have h2:=putL_midN (A:=A++X) (B:=Y.drop X.length) (C:=rest) (V:=D) (p:=p + X.length) (by simp [hA]) (by rw [List.length_drop];omega)
 rw [h1,←List.append_assoc,h2]
theorem putN' {A D X rest:List Value} {p:Nat} (hA:A.length=p) (hr:X.length≤rest.length):putL (putL ((A++D)++rest) (p + X.length) D) p X=(A++X++D)++rest.drop X.length:=by
 have e:(A++D)++rest=(A++(D++rest).take X.length)++((D++rest).drop X.length).take D.length++rest.drop X.length:=by
  have h1:rest.drop X.length=(D++rest).drop (X.length + D.length):=by
   rw [Nat.add_comm,←List.drop_drop,List.drop_left]
  rw [h1,←List.drop_drop,List.append_assoc,List.append_assoc,List.append_assoc,List.take_append_drop,List.take_append_drop]
 have hl:((D++rest).take X.length).length=X.length:=by rw [List.length_take,List.length_append];omega
 rw [e,putL_midN (p:=p + X.length) (by rw [List.length_append,hl,hA]) (by rw [List.length_take,List.length_drop,List.length_append];omega)]
 have:=putL_midN (A:=A) (B:=(D++rest).take X.length) (C:=D++rest.drop X.length) (V:=X) hA (by rw [hl])
 rw [show (A++(D++rest).take X.length)++D++rest.drop X.length=A++(D++rest).take X.length++(D++rest.drop X.length) by simp,this];simp
section
variable {P:Program} {R:Cx} {Hs Rest:List HP} {w:World} {s:Sl} {T:TypeId} {n:Nat}
theorem copyN_rule {dT sT ty elem:TypeId} {b o dLen dCap sLen sCap:Nat} {a:Addr} {cs l:List Value} {fr:Nat × Nat} {K:Int→World→Prop} (hu:P.underlying dT=some (.slice elem)) (hs:(P.info? elem).map (·.size)=some n)
  (hw:Sat R (pts b (.cells l.toArray T fr)::Hs) w) (hfr:okFr l.length fr) (hn:cs.length=Nat.min sLen dLen * n) (hfit:o + cs.length≤l.length) (hsrc:∀ j v,cs[j]? =some v→w.cell? (a.add j)=some v) (h1:oneAll cs=true)
  (k:∀ t w',Sat R (pts b (.cells (putL l o cs).toArray T fr)::Hs) w'→K t w'):
  ∃ w',∃ t:Int,(Builtin.copy_ #[dT,sT] ty #[.slice (some ⟨b,o,none⟩) dLen dCap,.slice (some a) sLen sCap]).run P w=.ok (.int .i64 t) w'∧K t w':=by
 have hat:=hw.at
 have hr:=run_copy_n (P:=P) w dT sT ty elem b o dLen dCap a sLen sCap cs hu hs hn hsrc (fun j hj=>by rw [cell_of hat];simp;omega) (fun j hj=>frozen_no hat hfr (by omega)) (fun v hv=>List.all_eq_true.1 h1 v hv)
 exact ⟨_,_,hr,k _ _ (setCells_sat cs l o w hw)⟩
theorem zerosGrowN_rule {t1 t2 ty:TypeId} {bytes k m:Nat} {kd kn:IntKind} {rows:List (List Value)} {K:Sl→World→Prop} (ht:P.underlying t1=some (.slice T)) (htn:P.underlying t2=some (.int kn)) (hi:elBN P T n bytes=true) (hn1:0<n)
  (h0:0<m) (hk:k<rows.length) (hc:s.cap<k + m) (hb:2 * (k + m) * bytes≤281474976710656) (hb':k + m≤9223372036854775807) (hw:Sat R (OwnN n s T rows::Hs) w)
  (h:∀ t w' ys,ys.length=m→Sat R (OwnN n t T (rows.take k++ys)::OwnN n s T rows::Hs) w'→K t w'):
  ∃ w',∃ t:Sl,(Builtin.append_ #[t1,t2] ty #[.slice s.a k s.cap,.int kd m]).run P w=.ok (.slice t.a t.len t.cap) w'∧K t w':=by
 obtain ⟨i,z,hi,hz,hsize,hbytes,hzc⟩:=elBN_out hi
 obtain ⟨hwid,⟨_,rfl,_⟩|⟨b,rest,fr,cap,rfl,hl,hfr,hp⟩⟩:=OwnN.cases hw
 ·simp at hk
 have hat:=hp.at
 dsimp only at hc ⊢
 have hcap:Builtin.nextslicecap (k + m) cap * i.bytes≤281474976710656:=by
  have h2:Builtin.nextslicecap (k + m) cap≤2 * (k + m):=by
   unfold Builtin.nextslicecap
   split
   ·omega
   ·split
    ·omega
    ·have:=nextslicecap_le_wide hc
     unfold Builtin.nextslicecap at this
     rw [if_neg (by assumption),if_neg (by assumption)] at this
     omega
  rw [hbytes]
  exact Nat.le_trans (Nat.mul_le_mul_right _ h2) hb
 have hkl:(rows.take k).flatten.length=k * n:=by rw [hwid.take.len,List.length_take,Nat.min_eq_left (by omega)]
 have hold:(Builtin.firstCells i.size k (.slice (some ⟨b,0,none⟩) k cap)).run P w.drew=.ok (rows.take k).flatten.toArray w.drew:=by
  refine run_firstCells_some w.drew i.size k ⟨b,0,none⟩ k _ (rows.take k).flatten (by rw [hsize,hkl]) ?_
  intro j u hj
  rw [World.cell?_drew,add_off,cell_of hat,Nat.zero_add]
  obtain ⟨hlt,rfl⟩:=List.getElem?_eq_some_iff.1 hj
  rw [hkl] at hlt
  rw [←hj,←hwid.take_flat,List.getElem?_take,if_pos hlt]
  have:k * n≤rows.length * n:=Nat.mul_le_mul_right _ (by omega)
  rw [List.getElem?_append_left (by rw [hwid.len];omega)]
 have hwr:IntKind.i64.wrap (m:Int)=m:=by rw [IntKind.wrap_i64];omega
 have hn:¬ (k + m≤cap):=by omega
 have h63':¬ (9223372036854775807<((k:Int) + (m:Int))):=by omega
 have h48':¬ (281474976710656<Builtin.nextslicecap (k + m) cap * i.bytes):=by omega
 have h48i:¬ (281474976710656<(m:Int) * (i.bytes:Int)):=by
  rw [←Int.natCast_mul,hbytes]
  have:m * bytes≤2 * (k + m) * bytes:=Nat.mul_le_mul_right _ (by omega)
  omega
 have hneg:¬ ((m:Int)<0):=by omega
 have hn0:m≠0:=by omega
 have hns:¬ (m * i.size=0):=by
  rw [hsize]
  have:=Nat.mul_pos h0 hn1
  omega
 have hg:=grownCap_ge w (k + m) cap T
 have hr:(Builtin.append_ #[t1,t2] ty #[.slice (some ⟨b,0,none⟩) k cap,.int kd m]).run P w=
   .ok (.slice (some ⟨w.heap.size,0,none⟩) (k + m) (grownCap w (k + m) cap T)) (w.drew.alloc (.cells ((rows.take k).flatten.toArray++Builtin.zeroCells z.cells m++Builtin.zeroCells z.cells (grownCap w (k + m) cap T - (k + m))) T)):=by
  simp [Builtin.append_,run_underlying ht,run_underlying htn,sizeOf,typeInfo,zeroValue,hi,hz,asInt,asIntOf,hwr,hn,hneg,hns,h63',h48',h48i,Question.forced,hold,newRow,grownCap]
 have hzs:∀ m,(Builtin.zeroCells z.cells m).size=m * n:=fun m=>by simp [Builtin.zeroCells,hzc]
 obtain ⟨ys,hy1,hy2,hy3⟩:=rows_of m (Builtin.zeroCells z.cells m).toList (by rw [Array.length_toList,hzs])
 refine ⟨_,⟨some ⟨w.heap.size,0,none⟩,k + m,grownCap w (k + m) cap T⟩,hr,h _ _ ys hy1 ?_⟩
 have h3:=Sat.alloc (Obj.cells ((rows.take k).flatten.toArray++Builtin.zeroCells z.cells m++Builtin.zeroCells z.cells (grownCap w (k + m) cap T - (k + m))) T) (Sat.drew hp)
 have e:Obj.cells ((rows.take k).flatten.toArray++Builtin.zeroCells z.cells m++Builtin.zeroCells z.cells (grownCap w (k + m) cap T - (k + m))) T=.cells ((rows.take k++ys).flatten++(Builtin.zeroCells z.cells (grownCap w (k + m) cap T - (k + m))).toList).toArray T (0,0):=by
  congr 1
  apply Array.ext'
  rw [List.flatten_append,hy3]
  simp
 rw [e] at h3 ⊢
 have h4:=OwnN.of_pts hwid hl (Sat.swap h3) hfr
 have hwid2:Wid n (rows.take k++ys):=hwid.take.app hy2
 have hlk:(rows.take k++ys).length=k + m:=by rw [List.length_append,List.length_take,hy1,Nat.min_eq_left (by omega)]
 have h5:=OwnN.of_pts (cap:=grownCap w (k + m) cap T) hwid2 (by rw [List.length_append,hwid2.len,hlk,Array.length_toList,hzs,←Nat.add_mul];congr 1;omega) (Sat.swap h4)
 have e2:(⟨some ⟨w.drew.heap.size,0,none⟩,(rows.take k++ys).length,grownCap w (k + m) cap T⟩:Sl)=⟨some ⟨w.heap.size,0,none⟩,k + m,grownCap w (k + m) cap T⟩:=by
  rw [hlk,World.size_drew]
 rw [e2] at h5
 exact h5
theorem delN_rule {t1 ty ty':TypeId} {bytes i j:Nat} {z:Value} {rows:List (List Value)} {K:Sl→World→Prop} (ht:P.underlying t1=some (.slice T)) (hi:elBN P T n bytes=true) (hv:∀ w,(zeroValue T).run P w=.ok z w) (hzc:z.cells.size=n)
  (hz1:∀ m,∀ v∈(Builtin.zeroCells z.cells m).toList,v.oneCell'=true) (ho:oneAll rows.flatten=true)
  (hn1:0<n) (hij:i<j) (hj:j≤rows.length) (hw:Sat R (OwnN n s T rows::Hs) w) (k:∀ t w',Sat R (OwnN n t T (rows.take i++rows.drop j)::Hs) w'→K t w'):
  ∃ w',∃ t:Sl,(Builtin.append_ #[t1,t1] ty #[.slice s.a i s.cap,.slice (cutA s.a j s.cap n) (s.len - j) (s.cap - j)]).run P w=.ok (.slice t.a t.len t.cap) w'∧
   (0:Int)≤(s.len:Int)∧(s.len:Int)≤(t.cap:Int)∧(0:Int)≤(t.len:Int)∧(t.len:Int)≤(((s.len:Int).toNat:Nat):Int)∧
   ∃ w'',(Builtin.clear_ #[t1] ty' #[.slice (cutA t.a (t.len:Int).toNat t.cap n) ((s.len:Int).toNat - (t.len:Int).toNat) (t.cap - (t.len:Int).toNat)]).run P w'=.ok (.tuple #[]) w''∧K t w'':=by
 obtain ⟨ti,z',hi,hz',hsize,hbytes,hzc'⟩:=elBN_out hi
 obtain ⟨hwid,⟨_,rfl,_⟩|⟨b,rest,fr,cap,rfl,hl,hfr,hp⟩⟩:=OwnN.cases hw
 ·simp at hj;omega
 have hat:=hp.at
 have hl0:=hl
 rw [List.length_append,hwid.len] at hl
 have hcap:rows.length≤cap:=Nat.le_of_mul_le_mul_right (by omega:rows.length * n≤cap * n) hn1
 have hjn:j * n≤rows.length * n:=Nat.mul_le_mul_right _ hj
 have hin:i * n + (rows.length - j) * n + (j - i) * n=rows.length * n:=by
  rw [←Nat.add_mul,←Nat.add_mul]
  congr 1;omega
 have hdl:(rows.drop j).flatten.length=(rows.length - j) * n:=by rw [hwid.drop.len,List.length_drop]
 have hdo:∀ v∈(rows.drop j).flatten,v.oneCell'=true:=fun v hv=>List.all_eq_true.1 ho v (by
  obtain ⟨l,h1,h2⟩:=List.mem_flatten.1 hv
  exact List.mem_flatten.2 ⟨l,List.mem_of_mem_drop h1,h2⟩)
 have hsrc:Src P ti.size t1 (.slice (cutA (some ⟨b,0,none⟩) j cap n) (rows.length - j) (cap - j)) (rows.length - j) (rows.drop j).flatten w:=by
  rw [hsize]
  by_cases hjc:cap=j
  ·have hr:rows.length - j=0:=by omega
   have hd:rows.drop j=[]:=List.drop_eq_nil_of_le (by omega)
   rw [hr,hd]
   unfold cutA
   rw [if_pos hjc]
   exact Go.Src.ofSlice w ht _ 0 _ [] (by simp) (fun j u hj=>by simp at hj) (fun u hu=>by cases hu)
  ·unfold cutA
   rw [if_neg hjc]
   refine Go.Src.ofSlice w ht _ _ _ _ (by rw [hdl]) (fun x u hx=>?_) hdo
   show w.cell? (Addr.add (Addr.add ⟨b,0,none⟩ (j * n)) x)=some u
   rw [add_off,add_off,Nat.zero_add,cell_of hat]
   rw [←hwid.drop_flat,List.getElem?_drop] at hx
   have hlt:=(List.getElem?_eq_some_iff.1 hx).1
   rw [List.getElem?_append_left (by omega)]
   exact hx
 have hroom:i + (rows.length - j)≤cap:=by omega
 have hr:=run_append_room_src w t1 t1 ty T ti ht hi b 0 i cap _ (rows.length - j) (rows.drop j).flatten hsrc hroom
  (fun x hx=>by
   rw [cell_of hat,hsize,List.getElem?_eq_getElem (by rw [hl0];omega)];rfl) (fun x hx=>frozen_no hat hfr (by rw [hsize];omega))
 have h2:=setCells_sat (rows.drop j).flatten (rows.flatten++rest) (i * n) w hp
 rw [hsize,Nat.zero_add] at hr
 have e1:putL (rows.flatten++rest) (i * n) (rows.drop j).flatten=(rows.take i++rows.drop j).flatten++(rows.flatten++rest).drop (i * n + (rows.length - j) * n):=by
  rw [putL_eq _ _ _ (by rw [hdl,hl0];omega),hdl,List.take_append_of_le_length (by rw [hwid.len];omega),hwid.take_flat,List.flatten_append]
 rw [e1] at h2
 have hwid2:Wid n (rows.take i++rows.drop j):=hwid.take.app hwid.drop
 have hll:(rows.take i++rows.drop j).length=i + (rows.length - j):=by rw [List.length_append,List.length_take,List.length_drop,Nat.min_eq_left (by omega)]
 refine ⟨_,⟨some ⟨b,0,none⟩,i + (rows.length - j),cap⟩,hr,by dsimp only;omega,by dsimp only;omega,by dsimp only;omega,by dsimp only;omega,?_⟩
 dsimp only
 rw [Int.toNat_natCast,Int.toNat_natCast]
 have hca:cutA (some ⟨b,0,none⟩) (i + (rows.length - j)) cap n=some ⟨b,(i + (rows.length - j)) * n,none⟩:=by
  unfold cutA
  rw [if_neg (by omega)]
  simp [add_off]
 rw [hca]
 have hat2:=h2.at
 have hml:(rows.length - (i + (rows.length - j))) * n=(j - i) * n:=by congr 1;omega
 have hpos:(i + (rows.length - j)) * n=i * n + (rows.length - j) * n:=Nat.add_mul _ _ _
 have hlen2:((rows.take i++rows.drop j).flatten++(rows.flatten++rest).drop (i * n + (rows.length - j) * n)).length=cap * n:=by
  rw [List.length_append,hwid2.len,hll,List.length_drop,hl0,hpos];omega
 refine ⟨_,run_clear_n _ t1 T ty' z ht hv hzc (hz1 _) b ((i + (rows.length - j)) * n) _ (by omega) (fun x hx=>?_) (fun x hx=>?_),k _ _ ?_⟩
 ·rw [cell_of hat2,List.getElem?_eq_getElem (by rw [hlen2];omega)];rfl
 ·exact frozen_no hat2 hfr (by omega)
 ·have h3:=setCells_sat (Builtin.zeroCells z.cells (rows.length - (i + (rows.length - j)))).toList _ ((i + (rows.length - j)) * n) _ h2
  have hzl:(Builtin.zeroCells z.cells (rows.length - (i + (rows.length - j)))).toList.length=(j - i) * n:=by simp [Builtin.zeroCells,hzc,hml]
  rw [putL_eq _ _ _ (by rw [hzl,hlen2,hpos];omega),List.take_left' (by rw [hwid2.len,hll]),List.append_assoc] at h3
  have h4:=OwnN.of_pts (cap:=cap) hwid2 (by
   rw [List.length_append,List.length_append,hwid2.len,hll,hzl,List.length_drop,hlen2]
   omega) h3 hfr
  rw [hll] at h4
  exact h4
end
end Go.VC
