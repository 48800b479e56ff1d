/- Package session, plain: a table of sessions, and the book. No condition. -/
import Derived.Test.YtflgboncpbmikaaGreatDoorB6
import Derived.Test.YtflgboncpbmikaaGreatDoorB5
namespace Go.Proofs.YtflgboncpbmikaaGreatDoor
set_option linter.unusedVariables false
set_option linter.unusedSimpArgs false
open Go Go.VC
open Classical
structure Cl where
 id:Int
 tok:Int
 last:Int
 rep:List Int
structure Tb where
 next:Int
 cl:List Cl
 bk:Book
def refT (e:Int):Told:=⟨e,0,0,[]⟩
noncomputable def doneT (b:Book) (cmd:List Int):List Int × Book:=
 if (cmDec cmd).2≠0 then (rpB (errR (cmDec cmd).2),b) else (rpB (applyB b (cmDec cmd).1).2,(applyB b (cmDec cmd).1).1)
def Tb.beginT (t:Tb) (tok:Int):Told × Tb:=
 match t.cl.find? (fun c=>c.tok==tok) with
 |some c=>(⟨0,c.id,0,[]⟩,t)
 |none=>if t.cl.length ≥ 64 then (refT 3,t) else (⟨0,t.next,0,[]⟩,{ t with next:=t.next + 1,cl:=t.cl++[⟨t.next,tok,0,[]⟩] })
def clPut (c:Cl) (l:List Cl):List Cl:=l.map fun d=>if d.id==c.id then c else d
noncomputable def Tb.doT (t:Tb) (c:Cl) (q:Rq):Told × Tb:=
 if q.seq>c.last + 1 then (refT 7,t)
 else if q.seq<c.last∨q.seq=0 then (refT 11,t)
 else if q.seq>c.last then (⟨0,q.client,q.seq,(doneT t.bk q.cmd).1⟩,{ t with bk:=(doneT t.bk q.cmd).2,cl:=clPut { c with last:=q.seq,rep:=(doneT t.bk q.cmd).1 } t.cl })
 else (⟨0,q.client,q.seq,c.rep⟩,t)
noncomputable def Tb.askT (t:Tb) (q:Rq):Told × Tb:=
 if q.kind=4 then (refT 1,t)
 else if q.kind=1 then t.beginT q.token
 else match t.cl.find? (fun c=>c.id==q.client) with
  |none=>(if 1≤q.client∧q.client<t.next then refT 10 else refT 2,t)
  |some c=>if q.kind=3 then (⟨0,q.client,0,[]⟩,{ t with cl:=t.cl.filter fun d=>d.id !=q.client }) else t.doT c q
noncomputable def Tb.applyT (t:Tb) (bs:List Int):Told × Tb:=if (rqDec mI bs).2≠0 then (refT (rqDec mI bs).2,t) else t.askT (rqDec mI bs).1
structure TdOk (t:Told):Prop where
 code:0≤t.code∧t.code≤1099511627776
 client:0≤t.client∧t.client≤1099511627776
 seq:0≤t.seq∧t.seq≤1099511627776
 rep:t.reply.length≤65536
 by':Bytes t.reply
structure ClOk (next:Int) (c:Cl):Prop where
 id:1≤c.id∧c.id<next
 tok:0≤c.tok∧c.tok≤1099511627776
 last:0≤c.last∧c.last≤1099511627776
 rep:c.rep.length≤65536
 by':Bytes c.rep
structure TbOk (t:Tb):Prop where
 nx:1≤t.next
 each:∀ c∈t.cl,ClOk t.next c
 ids:(t.cl.map Cl.id).Nodup
 toks:(t.cl.map Cl.tok).Nodup
 few:t.cl.length≤64
 bk:BookOk t.bk
theorem rp_len {r:Rp} (h:RpIn r):(rpB r).length≤65536:=by
 have h1:=h.code
 have h2:=h.pnr
 have h3:=h.state
 have h4:=h.flt
 have h5:=h.cls
 have h6:=h.many
 have h7:=h.time
 have h8:=h.ll
 have h9:=h.left
 have h10:=h.bl
 have hn:∀ {x:Int},0≤x∧x≤1099511627776→0≤nn x∧nn x<18446744073709551616:=fun {x} hx=>by
  rw [nn_id hx.1];omega
 have l1:=nums1_len (hn h1)
 have l2:=textB_len (d:=bytesL r.pnr) (by rw [bytesL_len];omega)
 have l3:=nums1_len (hn h3)
 have l4:=nums1_len (hn h4)
 have l5:=nums1_len (hn h5)
 have l6:=nums1_len (hn h6)
 have l7:=nums1_len (hn h7)
 have l8:=nums1_len (x:=(r.left.length:Int)) (by omega)
 have l9:=numsB_len (l:=r.left.map nn) fun y hy=>by
  obtain ⟨x,hx,rfl⟩:=List.mem_map.1 hy
  exact hn (h9 x hx)
 have l10:=nums1_len (x:=(r.labs.length:Int)) (by omega)
 have l11:∀ l:List ByteArray,(∀ s∈l,s.size≤16)→((l.map strB).flatten).length≤25 * l.length:=fun l=>by
  induction l with
  |nil=>intro _;exact Nat.le_refl _
  |cons s l ih=>
   intro hs
   have i1:=ih fun x hx=>hs x (List.mem_cons_of_mem _ hx)
   have i2:=hs s List.mem_cons_self
   have i3:=textB_len (d:=bytesL s) (by rw [bytesL_len];omega)
   rw [bytesL_len] at i3
   rw [List.map_cons,List.flatten_cons,List.length_append,List.length_cons]
   unfold strB at *
   omega
 have l12:=l11 r.labs h.labs
 rw [bytesL_len] at l2
 rw [List.length_map] at l9
 unfold rpB
 simp only [List.length_append]
 unfold strB at *
 omega
theorem refT_ok {e:Int} (h0:0≤e) (h1:e≤1099511627776):TdOk (refT e):=⟨⟨h0,h1⟩,⟨Int.le_refl 0,by show (0:Int)≤1099511627776;decide⟩,⟨Int.le_refl 0,by show (0:Int)≤1099511627776;decide⟩,Nat.zero_le _,fun y hy=>by cases hy⟩
theorem done_ok {b:Book} {cmd:List Int} (k:BookOk b) (hb:Bytes cmd):(doneT b cmd).1.length≤65536∧Bytes (doneT b cmd).1∧BookOk (doneT b cmd).2:=by
 obtain ⟨hf,_⟩:=cmDec_ok hb
 unfold doneT
 split
 ·rename_i h
  have he:(cmDec cmd).2=6:=by
   unfold cmDec at h ⊢
   split
   ·rename_i h2
    rw [if_pos h2] at h
    exact absurd rfl h
   ·rfl
  have hr:RpIn (errR (cmDec cmd).2):=rpin_err (by rw [he];decide)
  exact ⟨rp_len hr,bytes_rp hr,k⟩
 ·have hr:=rpin_apply (c:=(cmDec cmd).1) k hf.sc
  exact ⟨rp_len hr,bytes_rp hr,ok_apply k hf.sc⟩
theorem find_mem {l:List Cl} {P:Cl→Bool} {c:Cl} (h:l.find? P=some c):c∈l∧P c=true:=⟨List.mem_of_find?_eq_some h,List.find?_some h⟩
theorem rqDec_ok {bs:List Int} (hb:Bytes bs) (h:(rqDec mI bs).2=0):RightQ (rqDec mI bs).1:=by
 unfold rqDec at *
 split
 ·rename_i h1;exact h1.2
 ·rename_i h1
  rw [if_neg h1] at h
  exact absurd h (by show ¬ (6:Int)=0;decide)
theorem clPut_ids (c:Cl) (l:List Cl):(clPut c l).map Cl.id=l.map Cl.id:=by
 unfold clPut
 rw [List.map_map]
 refine List.map_congr_left fun d _=>?_
 show Cl.id (if d.id==c.id then c else d)=d.id
 split
 ·rename_i h;exact (beq_iff_eq.1 h).symm
 ·rfl
theorem clPut_toks {c d:Cl} {l:List Cl} (hd:d∈l) (hid:d.id=c.id) (htok:d.tok=c.tok) (hn:(l.map Cl.id).Nodup):(clPut c l).map Cl.tok=l.map Cl.tok:=by
 unfold clPut
 rw [List.map_map]
 refine List.map_congr_left fun x hx=>?_
 show Cl.tok (if x.id==c.id then c else x)=x.tok
 split
 ·rename_i h
  have h:=beq_iff_eq.1 h
  have:x=d:=by
   obtain ⟨i,hi,rfl⟩:=List.getElem_of_mem hx
   obtain ⟨j,hj,rfl⟩:=List.getElem_of_mem hd
   have h2:(l.map Cl.id)[i]'(by simpa using hi)=(l.map Cl.id)[j]'(by simpa using hj):=by simp only [List.getElem_map];omega
   have:=(List.getElem_inj hn).1 h2
   subst this;rfl
  rw [this,htok]
 ·rfl
theorem TbOk.apply {t:Tb} (k:TbOk t) (hn:t.next<1000000) {bs:List Int} (hb:Bytes bs) (hc:∀ q,(rqDec mI bs).1=q→Bytes q.cmd):TbOk (t.applyT bs).2∧TdOk (t.applyT bs).1∧(t.applyT bs).2.next≤t.next + 1∧t.next≤(t.applyT bs).2.next:=by
 have hnx:=k.nx
 have same:∀ {e:Int},0≤e→e≤1099511627776→TbOk t∧TdOk (refT e)∧t.next≤t.next + 1∧t.next≤t.next:=fun h0 h1=>⟨k,refT_ok h0 h1,by omega,Int.le_refl _⟩
 unfold Tb.applyT
 split
 ·rename_i h
  have he:(rqDec mI bs).2=6:=by
   unfold rqDec at h ⊢
   split
   ·rename_i h2
    rw [if_pos h2] at h
    exact absurd rfl h
   ·rfl
  rw [he]
  exact same (by decide) (by decide)
 ·rename_i h
  have hq:=rqDec_ok hb (by simpa using h)
  have hcb:=hc _ rfl
  generalize (rqDec mI bs).1=q at hq hcb
  obtain ⟨q1,q2⟩:=hq.client
  obtain ⟨q3,q4⟩:=hq.seq
  obtain ⟨q5,q6⟩:=hq.token
  unfold Tb.askT
  split
  ·exact same (by decide) (by decide)
  ·split
   ·unfold Tb.beginT
    split
    ·rename_i c hc
     obtain ⟨hm,_⟩:=find_mem hc
     have:=(k.each c hm).id
     exact ⟨k,⟨⟨Int.le_refl 0,by show (0:Int)≤1099511627776;decide⟩,⟨by show 0≤c.id;omega,by show c.id≤1099511627776;omega⟩,⟨Int.le_refl 0,by show (0:Int)≤1099511627776;decide⟩,Nat.zero_le _,fun y hy=>by cases hy⟩,by show t.next≤t.next + 1;omega,Int.le_refl _⟩
    ·rename_i hno
     split
     ·exact same (by decide) (by decide)
     ·rename_i hfew
      have hno2:∀ c∈t.cl,c.tok≠q.token:=fun c hc e=>by
       have:=List.find?_eq_none.1 hno c hc
       exact this (beq_iff_eq.2 e)
      refine ⟨⟨by show 1≤t.next + 1;omega,fun c hc=>?_,?_,?_,?_,k.bk⟩,⟨⟨Int.le_refl 0,by show (0:Int)≤1099511627776;decide⟩,⟨by show 0≤t.next;omega,by show t.next≤1099511627776;omega⟩,⟨Int.le_refl 0,by show (0:Int)≤1099511627776;decide⟩,Nat.zero_le _,fun y hy=>by cases hy⟩,Int.le_refl _,by show t.next≤t.next + 1;omega⟩
      ·rcases List.mem_append.1 hc with hc|hc
       ·have a:=k.each c hc
        exact ⟨⟨a.id.1,by have:=a.id.2;show c.id<t.next + 1;omega⟩,a.tok,a.last,a.rep,a.by'⟩
       ·rw [List.mem_singleton] at hc
        subst hc
        exact ⟨⟨hnx,by show t.next<t.next + 1;omega⟩,⟨q5,q6⟩,⟨Int.le_refl 0,by show (0:Int)≤1099511627776;decide⟩,Nat.zero_le _,fun y hy=>by cases hy⟩
      ·show ((t.cl++[_]).map Cl.id).Nodup
       rw [List.map_append,List.nodup_append]
       refine ⟨k.ids,by simp,fun x hx y hy e=>?_⟩
       obtain ⟨c,hc,rfl⟩:=List.mem_map.1 hx
       have:=(k.each c hc).id.2
       simp only [List.map_cons,List.map_nil,List.mem_singleton] at hy
       omega
      ·show ((t.cl++[_]).map Cl.tok).Nodup
       rw [List.map_append,List.nodup_append]
       refine ⟨k.toks,by simp,fun x hx y hy e=>?_⟩
       obtain ⟨c,hc,rfl⟩:=List.mem_map.1 hx
       simp only [List.map_cons,List.map_nil,List.mem_singleton] at hy
       exact hno2 c hc (by omega)
      ·show (t.cl++[_]).length≤64
       rw [List.length_append]
       simp only [List.length_cons,List.length_nil]
       omega
   ·split
    ·split
     ·exact same (by decide) (by decide)
     ·exact same (by decide) (by decide)
    ·rename_i c hc
     obtain ⟨hm,hid⟩:=find_mem hc
     have hid:=beq_iff_eq.1 hid
     have a:=k.each c hm
     split
     ·refine ⟨⟨hnx,fun d hd=>k.each d (List.mem_filter.1 hd).1,?_,?_,Nat.le_trans (List.length_filter_le _ _) k.few,k.bk⟩,⟨⟨Int.le_refl 0,by show (0:Int)≤1099511627776;decide⟩,⟨q1,q2⟩,⟨Int.le_refl 0,by show (0:Int)≤1099511627776;decide⟩,Nat.zero_le _,fun y hy=>by cases hy⟩,by show t.next≤t.next + 1;omega,Int.le_refl _⟩
      ·exact (List.filter_sublist.map Cl.id).nodup k.ids
      ·exact (List.filter_sublist.map Cl.tok).nodup k.toks
     ·unfold Tb.doT
      split
      ·exact same (by decide) (by decide)
      ·split
       ·exact same (by decide) (by decide)
       ·split
        ·obtain ⟨d1,d2,d3⟩:=done_ok k.bk hcb
         refine ⟨⟨hnx,fun d hd=>?_,?_,?_,?_,d3⟩,⟨⟨Int.le_refl 0,by show (0:Int)≤1099511627776;decide⟩,⟨q1,q2⟩,⟨q3,q4⟩,d1,d2⟩,by show t.next≤t.next + 1;omega,Int.le_refl _⟩
         ·obtain ⟨x,hx,rfl⟩:=List.mem_map.1 hd
          dsimp only
          split
          ·exact ⟨a.id,a.tok,⟨q3,q4⟩,d1,d2⟩
          ·exact k.each x hx
         ·show ((clPut _ t.cl).map Cl.id).Nodup
          rw [clPut_ids];exact k.ids
         ·show ((clPut _ t.cl).map Cl.tok).Nodup
          rw [clPut_toks (c:={ c with last:=q.seq,rep:=(doneT t.bk q.cmd).1 }) hm rfl rfl k.ids];exact k.toks
         ·show (clPut _ t.cl).length≤64
          unfold clPut
          rw [List.length_map];exact k.few
        ·exact ⟨k,⟨⟨Int.le_refl 0,by show (0:Int)≤1099511627776;decide⟩,⟨q1,q2⟩,⟨q3,q4⟩,a.rep,a.by'⟩,by show t.next≤t.next + 1;omega,Int.le_refl _⟩
end Go.Proofs.YtflgboncpbmikaaGreatDoor
/- Package session: the table in memory with its book; done, begin, New. Condition: bounds. -/
namespace Go.Proofs.YtflgboncpbmikaaGreatDoor
set_option linter.unusedVariables false
set_option linter.unusedSimpArgs false
open Go Go.VC
open Classical
variable {R:Cx} {Hs Rest:List HP} {w:World}
abbrev SE:=Nat × Cl
abbrev cliObj (c:Cl) (s:Sl):Obj:=.cells [.int .i64 c.tok,.int .i64 c.last,.slice s.a s.len s.cap].toArray 65 (0,0)
def cliAt (e:SE):HP:=exs fun s:Sl=>Star [pts e.1 (cliObj e.2 s),Own s 5 (b8 e.2.rep)]
def cliV (e:SE):Int × Value:=(e.2.id,.pointer (some ⟨e.1,0,none⟩))
abbrev tblC (bk:Nat) (next:Int) (m:Nat):Obj:=.cells [.pointer (some ⟨bk,0,none⟩),.int .i64 next,.map (some m)].toArray 59 (0,0)
def TbAt (p:Nat) (t:Tb):HP:=exs fun m:Nat=>exs fun bk:Nat=>exs fun E:List SE=>Star [pur (E.map Prod.snd=t.cl),pts p (tblC bk t.next m),MapAt m (E.map cliV),Star (E.map cliAt),BookAt bk t.bk]
theorem Sat.tb {p:Nat} {t:Tb}:Sat R (TbAt p t::Hs) w↔∃ m bk,∃ E:List SE,E.map Prod.snd=t.cl∧Sat R (pts p (tblC bk t.next m)::MapAt m (E.map cliV)::Star (E.map cliAt)::BookAt bk t.bk::Hs) w:=by
 unfold TbAt
 simp only [Sat.exs]
 constructor
 ·rintro ⟨m,b,E,h⟩
  obtain ⟨h1,h2⟩:=Sat.pur.1 (Sat.star.1 h)
  exact ⟨m,b,E,h1,h2⟩
 ·rintro ⟨m,b,E,h1,h2⟩
  exact ⟨m,b,E,Sat.star.2 (Sat.pur.2 ⟨h1,h2⟩)⟩
theorem Sat.cli {e:SE}:Sat R (cliAt e::Hs) w↔∃ s:Sl,Sat R (pts e.1 (cliObj e.2 s)::Own s 5 (b8 e.2.rep)::Hs) w:=by
 unfold cliAt
 simp only [Sat.exs]
 exact ⟨fun ⟨s,h⟩=>⟨s,Sat.star.1 h⟩,fun ⟨s,h⟩=>⟨s,Sat.star.2 h⟩⟩
theorem cl_mid {A:HP} {B C:List HP}:Sat R (Star (B++A::C)::Hs) w↔Sat R (A::Star (B++C)::Hs) w:=by
 have key:∀ (B:List HP) {R:Cx} {Hs:List HP},Sat R (B++A::Hs) w↔Sat R (A::(B++Hs)) w:=fun B=>by
  induction B with
  |nil=>exact fun {R Hs}=>Iff.rfl
  |cons X B ih=>
   intro R Hs
   constructor
   ·intro h
    have h:Sat R (X::(B++A::Hs)) w:=h
    exact (h.cons fun _ h=>ih.1 h).swap
   ·intro h
    have h:Sat R (A::X::(B++Hs)) w:=h
    exact (h.swap.cons fun _ h=>ih.2 h)
 rw [Sat.star,List.append_assoc,List.cons_append,key B]
 constructor
 ·intro h
  exact h.cons fun _ h=>Sat.star.2 (by rw [List.append_assoc];exact h)
 ·intro h
  refine h.cons fun _ h=>?_
  have:=Sat.star.1 h
  rwa [List.append_assoc] at this
theorem cl_pick {A C:List SE} {e:SE}:Sat R (Star ((A++e::C).map cliAt)::Hs) w↔∃ s:Sl,Sat R (pts e.1 (cliObj e.2 s)::Own s 5 (b8 e.2.rep)::Star (A.map cliAt++C.map cliAt)::Hs) w:=by
 rw [List.map_append,List.map_cons,cl_mid,Sat.cli]
abbrev cMap:MapT Tryz.prog 57 Int 3 62 (.pointer none):=⟨Tryz.underlying57,Tryz.underlying3,Tryz.zeroValue62⟩
theorem cl_get {k:Int}:∀ {E:List SE},getM k (E.map cliV)=(E.find? fun e=>e.2.id==k).map fun e=>.pointer (some ⟨e.1,0,none⟩)
 |[]=>rfl
 |e::E=>by
  rw [List.map_cons,getM,List.find?_cons]
  show (if k==e.2.id then some (Value.pointer (some ⟨e.1,0,none⟩)) else _)=_
  by_cases h:e.2.id=k
  ·rw [if_pos (by rw [h];simp),show (e.2.id==k)=true by simpa using h]
   rfl
  ·rw [if_neg (by simpa using fun h2=>h h2.symm),show (e.2.id==k)=false by simpa using h,cl_get]
theorem cl_find {E:List SE} {P:Cl→Bool}:(E.map Prod.snd).find? P=(E.find? fun e=>P e.2).map Prod.snd:=by
 rw [List.find?_map]
 rfl
theorem find_key {l:List Cl} {f:Cl→Int} (h:(l.map f).Nodup) {c:Cl} (hc:c∈l):l.find? (fun d=>f d==f c)=some c:=by
 induction l with
 |nil=>cases hc
 |cons x l ih=>
  rw [List.map_cons,List.nodup_cons] at h
  rw [List.find?_cons]
  rcases List.mem_cons.1 hc with h1|h1
  ·subst h1
   simp
  ·have:f x≠f c:=fun e=>h.1 (List.mem_map.2 ⟨c,h1,e.symm⟩)
   rw [show (f x==f c)=false by simpa using this]
   exact ih h.2 h1
theorem put_td {b4:Nat} {t4 τ:Told} {s0 s:Sl} {K:Int→Int→Int→Sl→World→Prop} (hw:Sat R (tdC b4 t4 s0::Hs) w) (k:∀ w',Sat R Hs w'→K τ.code τ.client τ.seq s w'):
  ∃ w_6:World,((Instr.storeAt 37 (.pointer ((some ⟨b4,0,none⟩))) (.agg #[.int .i64 τ.code,.int .i64 τ.client,.int .i64 τ.seq,.slice s.a s.len s.cap])).run Tryz.prog w=.ok () w_6)∧
  ∃ u:Int,∃ u_1:Int,∃ u_2:Int,∃ u_3:Sl,(At (fun w'=>w'=w_6) ⟨b4,0,none⟩ [.int .i64 u,.int .i64 u_1,.int .i64 u_2,.slice u_3.a u_3.len u_3.cap])∧
  K u u_1 u_2 u_3 w_6:=by
 refine store_rule hw (by kernel_rfl) rfl (by simp [Value.cells]) fun w hw=>?_
 have hw:=hw.re (tdC b4 τ s)
 exact ⟨τ.code,τ.client,τ.seq,s,At.own (eqS hw) (by exact ⟨rfl,rfl,rfl,rfl,trivial⟩),k _ hw.drop⟩
theorem refused_spec {e:Int} (hw:Sat R Hs w):Gets Tryz.prog 25 #[.int .i64 e] w fun v w'=>v=.agg (tdV (refT e) nilS).toArray∧Sat R Hs w':=by
 apply call25
 refine new_rule hw fun b w hw=>?_
 have hw:Sat R (tdNew b::Hs) w:=hw
 exact put_td (τ:=refT e) (s:=nilS) hw fun w hw=>⟨rfl,hw⟩
theorem CalW.mk2 {g:FuncId} {x y:Value} {Q:Ending→World→Prop} (hc:cl g=true) (h:Calls Tryz.prog g #[x,y] w Q):CalW Tryz.prog cl (.func (.func g) #[x] #[]) [y] w Q:=CalW.mkB hc (by
 have e:((#[x]:Array Value).toList++(([y]:List Value)++(#[]:Array Value).toList)).toArray=#[x,y]:=rfl
 rw [e];exact h)
set_option maxHeartbeats 1000000 in
theorem done_spec {p:Nat} {b:Book} {s:Sl} {cmd:List Int} (k:BookOk b) (hb:Bytes cmd) (hl:cmd.length≤1099511627776) (hs:Ro R s (b8 cmd)) (hw:Sat R (BookAt p b::Hs) w):
  Gets Tryz.prog 27 #[.slice s.a s.len s.cap,.func (.func 28) #[.pointer (some ⟨p,0,none⟩)] #[]] w fun v w'=>
   ∃ t:Sl,v=.slice t.a t.len t.cap∧Sat R (Own t 5 (b8 (doneT b cmd).1)::BookAt p (doneT b cmd).2::Hs) w':=by
 apply call27
 obtain ⟨hf,hgl,hpl⟩:=cmDec_ok hb
 refine (bdec_spec hb hl hs hw).use ?_
 clear hw
 rintro _ w ⟨sg,sp,rfl,hw⟩
 obtain ⟨c,hc⟩:∃ c,c=(cmDec cmd).1:=⟨_,rfl⟩
 obtain ⟨e,he⟩:∃ e,e=(cmDec cmd).2:=⟨_,rfl⟩
 have hd:doneT b cmd=if e≠0 then (rpB (errR e),b) else (rpB (applyB b c).2,(applyB b c).1):=by unfold doneT;rw [←hc,←he]
 have he6:e=0∨e=6:=by
  rw [he];unfold cmDec
  split
  ·exact .inl rfl
  ·exact .inr rfl
 rw [hd]
 rw [←hc] at hw hf hgl hpl
 rw [←hc,←he]
 refine ⟨c.kind,c.pnr,c.flt,c.cls,c.many,c.time,c.sc,c.lab,c.rows,sg,sp,e,rfl,?_⟩
 refine new_rule hw fun b5 w hw=>?_
 refine store_rule hw (by kernel_rfl) rfl (by simp [Value.cells]) fun w hw=>?_
 have hw:=hw.re (cmC b5 c sg sp)
 refine Br.ne (fun h=>?_) (fun h=>?_)
 ·rw [if_pos h]
  have hin:RpIn (errR e):=rpin_err (by omega)
  refine (banswer_spec (r:=errR e) (sl:=nilSl) (sb:=nilSl) (rpin_w hin) ⟨rfl,by show 0≤9223372036854775807;omega,fun h=>absurd rfl h⟩ ⟨rfl,Nat.le_refl _,fun h=>absurd rfl h⟩ hw).use ?_
  clear hw
  rintro _ w ⟨t,rfl,hw⟩
  exact ⟨t,rfl,t,rfl,hw.cons fun _ h=>h.drop.drop.drop⟩
 ·rw [if_neg (by simpa using h)]
  have hw:Sat R (Own sg 3 (intsI c.grps)::Own sp 91 (flts c.parts)::BookAt p b::cmC b5 c sg sp::Hs) w:=hw.arr
  obtain ⟨R1,e1,g1,hw⟩:=Own.leak hw
  obtain ⟨R2,e2,g2,hw⟩:=Own.leak hw
  refine ⟨c.kind,c.pnr,c.flt,c.cls,c.many,c.time,c.sc,c.lab,c.rows,sg,sp,At.own (eqS hw) (by exact ⟨rfl,rfl,rfl,rfl,rfl,rfl,rfl,rfl,rfl,rfl,rfl,trivial⟩),?_⟩
  have hin:=rpin_apply (c:=c) k hf.sc
  refine CalW.mk2 (by kernel_rfl) ((apply_spec k hf.sc (e2.ro (g1.ro (by rw [List.length_map];omega))) (by omega) g2 hw).use ?_)
  clear hw
  rintro _ w ⟨sl,sb,rfl,hw⟩
  obtain ⟨rp,hrp⟩:∃ x,x=(applyB b c).2:=⟨_,rfl⟩
  obtain ⟨nb,hnb⟩:∃ x,x=(applyB b c).1:=⟨_,rfl⟩
  rw [←hrp] at hin hw ⊢
  rw [←hnb] at hw ⊢
  have hll:=hin.ll
  have hbl:=hin.bl
  obtain ⟨R3,e3,r3,hw⟩:=Own.leak hw
  obtain ⟨R4,e4,r4,hw⟩:=Own.leak hw
  refine ⟨rp.code,rp.pnr,rp.state,rp.flt,rp.cls,rp.many,rp.time,sl,sb,rfl,?_⟩
  refine (banswer_spec (rpin_w hin) (e4.ro (r3.ro (by rw [List.length_map];omega))) r4 hw).use ?_
  clear hw
  rintro _ w ⟨t,rfl,hw⟩
  exact ⟨t,rfl,t,rfl,e1.back (e2.back (e3.back (e4.back (hw.cons fun _ h=>h.cons fun _ h=>h.drop))))⟩
set_option maxHeartbeats 1000000 in
theorem sbegin_spec {p:Nat} {t:Tb} {tok:Int} (ok:TbOk t) (hn:t.next<1000000) (hw:Sat R (TbAt p t::Hs) w):
  Gets Tryz.prog 26 #[.pointer (some ⟨p,0,none⟩),.int .i64 tok] w fun v w'=>v=.agg (tdV (t.beginT tok).1 nilS).toArray∧Sat R (TbAt p (t.beginT tok).2::Hs) w':=by
 obtain ⟨m,bk,E,hE,hw⟩:=Sat.tb.1 hw
 have hnx:=ok.nx
 have hlE:E.length=t.cl.length:=by rw [←hE,List.length_map]
 apply call26
 refine new_rule hw fun b4 w hw=>?_
 have hw:Sat R (MapAt m (E.map cliV)::pts p (tblC bk t.next m)::Star (E.map cliAt)::BookAt bk t.bk::tdNew b4::Hs) w:=by
  have hw:Sat R (tdNew b4::pts p (tblC bk t.next m)::MapAt m (E.map cliV)::Star (E.map cliAt)::BookAt bk t.bk::Hs) w:=hw
  exact hw.arr
 refine NilP.mk rfl ⟨some m,At.own (eqS hw) (by exact ⟨rfl,trivial⟩),?_⟩
 refine range_rule Tryz.underlying57 hw fun r w hw=>?_
 refine ⟨fun w=>∃ left:List (Int × Value),(∀ e∈E,e.2.tok=tok→cliV e∈left)∧(∀ x∈left,x∈E.map cliV)∧Sat R (ItAt r m (E.map cliV) left::pts p (tblC bk t.next m)::Star (E.map cliAt)::BookAt bk t.bk::tdNew b4::Hs) w,itLeft r m,⟨_,fun e he _=>List.mem_map.2 ⟨e,he,rfl⟩,fun x hx=>hx,hw⟩,?_⟩
 clear hw
 rintro _ w ⟨left,hall,hin,hw⟩
 have hlen:=itLeft_eq hw
 rcases next_cases (P:=Tryz.prog) (T:=0) hw with ⟨rfl,hrun⟩|⟨a,k,v,b,w',rfl,hrun,hent,hw'⟩
 ·refine ⟨w,.inl ⟨hrun,?_⟩⟩
  have hno:t.cl.find? (fun c=>c.tok==tok)=none:=List.find?_eq_none.2 fun c hc h=>by
   rw [←hE] at hc
   obtain ⟨e,he,rfl⟩:=List.mem_map.1 hc
   have:=hall e he (beq_iff_eq.1 h)
   cases this
  unfold Tb.beginT
  rw [hno]
  dsimp only
  have hw:=ItAt.map hw
  refine NilP.mk rfl ⟨some m,At.own (eqS hw) (by exact ⟨rfl,trivial⟩),((E.map cliV).length:Int),fun w' e=>?_,?_⟩
  ·rw [show w'=w from e]
   exact MapAt.len (by kernel_rfl) hw
  rw [List.length_map]
  refine Br.d (fun h=>?_) (fun h=>?_)
  ·rw [if_pos (by omega)]
   refine (refused_spec (e:=3) hw).use ?_
   clear hw
   rintro _ w ⟨rfl,hw⟩
   refine ⟨3,0,0,nilS,rfl,?_⟩
   have hw:Sat R (tdNew b4::pts p (tblC bk t.next m)::MapAt m (E.map cliV)::Star (E.map cliAt)::BookAt bk t.bk::Hs) w:=hw.arr
   exact put_td (τ:=refT 3) (s:=nilS) hw fun w hw=>⟨rfl,Sat.tb.2 ⟨m,bk,E,hE,hw⟩⟩
  rw [if_neg (by omega)]
  refine drw_rule hw fun w hw=>?_
  refine NilP.mk rfl ⟨some m,At.own selfS (by exact ⟨rfl,trivial⟩),NilP.mk rfl ⟨t.next,At.own selfS (by exact ⟨rfl,trivial⟩),?_⟩⟩
  refine new_rule hw fun c w hw=>⟨hw.drop,?_⟩
  obtain ⟨n,hnc⟩:∃ n:Cl,n=⟨t.next,tok,0,[]⟩:=⟨_,rfl⟩
  have hw:Sat R (pts c (cliObj n nilS)::MapAt m (E.map cliV)::pts p (tblC bk t.next m)::Star (E.map cliAt)::BookAt bk t.bk::tdNew b4::Hs) w:=by rw [hnc];exact hw
  refine MapAt.put cMap hw.swap t.next (.pointer (some ⟨c,0,none⟩)) fun w hw=>?_
  have hput:putM t.next (.pointer (some ⟨c,0,none⟩)) (E.map cliV)=(E++[(c,n)]).map cliV:=by
   unfold putM
   have:getM t.next (E.map cliV)=none:=getM_ne.2 fun x hx=>by
    obtain ⟨e,he,rfl⟩:=List.mem_map.1 hx
    have:=(ok.each e.2 (by rw [←hE];exact List.mem_map.2 ⟨e,he,rfl⟩)).id
    show e.2.id≠t.next
    omega
   rw [this]
   simp [cliV,hnc]
  rw [hput] at hw
  have hw:Sat R (pts p (tblC bk t.next m)::MapAt m ((E++[(c,n)]).map cliV)::pts c (cliObj n nilS)::Star (E.map cliAt)::BookAt bk t.bk::tdNew b4::Hs) w:=hw.arr
  refine NilP.mk rfl ⟨t.next,At.own (eqS hw) (by exact ⟨rfl,trivial⟩),NilP.mk rfl ?_⟩
  rw [wrap64 (by omega) (by omega)]
  refine store_rule hw (by kernel_rfl) rfl (by simp [Value.cells]) fun w hw=>?_
  have hw:=hw.re (pts p (tblC bk (t.next + 1) m))
  refine NilP.mk rfl ⟨t.next + 1,At.own (eqS hw) (by exact ⟨rfl,trivial⟩),?_⟩
  rw [wrap64 (by omega) (by omega),show t.next + 1 - 1=t.next by omega]
  have hw:Sat R (tdNew b4::pts p (tblC bk (t.next + 1) m)::MapAt m ((E++[(c,n)]).map cliV)::pts c (cliObj n nilS)::Star (E.map cliAt)::BookAt bk t.bk::Hs) w:=hw.arr
  refine put_td (τ:=⟨0,t.next,0,[]⟩) (s:=nilS) hw fun w hw=>⟨rfl,?_⟩
  refine Sat.tb.2 ⟨m,bk,E++[(c,n)],by rw [List.map_append,hE,hnc];rfl,?_⟩
  refine hw.cons fun _ h=>h.cons fun _ h=>?_
  refine cl_pick (A:=E) (C:=[])|>.2 ⟨nilS,?_⟩
  refine h.cons fun _ h=>?_
  rw [show b8 (c,n).2.rep=[] by rw [hnc];rfl]
  refine Own.nil ?_
  rw [List.map_nil,List.append_nil]
  exact h
 ·obtain ⟨e,he,hkv⟩:=List.mem_map.1 (hin (k,v) (by simp))
  have hk:e.2.id=k:=congrArg Prod.fst hkv
  have hv:Value.pointer (some ⟨e.1,0,none⟩)=v:=congrArg Prod.snd hkv
  subst hk hv
  have hec:e.2∈t.cl:=by rw [←hE];exact List.mem_map.2 ⟨e,he,rfl⟩
  refine ⟨w',.inr ⟨_,_,hrun,e.2.id,some ⟨e.1,0,none⟩,fun w2 h2=>by rw [show w2=w' from h2];exact hent,NilP.mk rfl ?_⟩⟩
  obtain ⟨A,C,hAC⟩:=List.append_of_mem he
  obtain ⟨s,hp⟩:∃ s:Sl,Sat R (pts e.1 (cliObj e.2 s)::Own s 5 (b8 e.2.rep)::Star (A.map cliAt++C.map cliAt)::ItAt r m (E.map cliV) (a++b)::pts p (tblC bk t.next m)::BookAt bk t.bk::tdNew b4::Hs) w':=by
   have h3:Sat R (Star (E.map cliAt)::ItAt r m (E.map cliV) (a++b)::pts p (tblC bk t.next m)::BookAt bk t.bk::tdNew b4::Hs) w':=hw'.arr
   rw [hAC] at h3
   rw [hAC]
   exact cl_pick.1 h3
  refine ⟨e.2.tok,At.own (b:=e.1) (eqS hp) (by exact ⟨rfl,trivial⟩),Br.e (fun ht=>?_) (fun ht=>?_)⟩
  ·have hw':Sat R (tdNew b4::ItAt r m (E.map cliV) (a++b)::pts p (tblC bk t.next m)::Star (E.map cliAt)::BookAt bk t.bk::Hs) w':=hw'.arr
   have hfd:t.cl.find? (fun c=>c.tok==tok)=some e.2:=by rw [←ht];exact find_key (f:=Cl.tok) ok.toks hec
   unfold Tb.beginT
   rw [hfd]
   refine put_td (τ:=⟨0,e.2.id,0,[]⟩) (s:=nilS) hw' fun w hw=>⟨rfl,?_⟩
   exact Sat.tb.2 ⟨m,bk,E,hE,(ItAt.map hw).swap⟩
  ·have hlen':=itLeft_eq hw'
   refine ⟨⟨a++b,fun e0 he0 h0=>?_,fun x hx=>hin x ?_,hw'⟩,?_⟩
   ·have h1:=hall e0 he0 h0
    rcases List.mem_append.1 h1 with h1|h1
    ·exact List.mem_append.2 (.inl h1)
    ·rcases List.mem_cons.1 h1 with h1|h1
     ·have hid:e0.2.id=e.2.id:=show (cliV e0).1=(cliV e).1 from congrArg Prod.fst h1
      have:e0.2=e.2:=by
       have k1:=find_key (f:=Cl.id) ok.ids hec
       have k2:=find_key (f:=Cl.id) ok.ids (c:=e0.2) (by rw [←hE];exact List.mem_map.2 ⟨e0,he0,rfl⟩)
       rw [hid,k1] at k2
       exact (Option.some.inj k2).symm
      rw [this] at h0
      exact absurd h0 ht
     ·exact List.mem_append.2 (.inr h1)
   ·rcases List.mem_append.1 hx with h1|h1
    ·exact List.mem_append.2 (.inl h1)
    ·exact List.mem_append.2 (.inr (List.mem_cons_of_mem _ h1))
   ·rw [hlen,hlen']
    simp
def newT:Tb:=⟨1,[],newBook⟩
theorem newT_ok:TbOk newT:=⟨Int.le_refl 1,fun _ h=>(by cases h),List.nodup_nil,List.nodup_nil,Nat.zero_le _,ok_new⟩
theorem snew_spec (hw:Sat R Hs w):Gets Tryz.prog 10 #[] w fun v w'=>∃ p,v=.pointer (some ⟨p,0,none⟩)∧Sat R (TbAt p newT::Hs) w':=by
 apply call10
 refine (bnew_spec hw).use ?_
 clear hw
 rintro _ w ⟨p0,rfl,hw⟩
 refine ⟨_,rfl,new_rule hw fun m w hw=>?_⟩
 have hw:=MapAt.new (α:=Int) rfl hw
 refine new_rule hw fun p w hw=>⟨p,rfl,Sat.tb.2 ⟨m,p0,[],rfl,?_⟩⟩
 exact hw.cons fun _ h=>h.cons fun _ h=>Sat.star.2 h
end Go.Proofs.YtflgboncpbmikaaGreatDoor
/- Package session: Apply of any request. Condition: bounds. -/
namespace Go.Proofs.YtflgboncpbmikaaGreatDoor
set_option linter.unusedVariables false
set_option linter.unusedSimpArgs false
open Go Go.VC
open Classical
variable {R:Cx} {Hs Rest:List HP} {w:World}
theorem rq_bytes {m:Int} {bs:List Int} (hb:Bytes bs):Bytes (rqDec m bs).1.cmd:=by
 unfold rqDec
 split
 ·exact (rdText_bd (rdNum_bd (rdNum_bd (rdNum_bd (rdNum_bd (rd:=⟨bs,false⟩) hb))))).1
 ·intro y hy
  cases hy
theorem cl_split {t:Tb} {E:List SE} (ok:TbOk t) (hE:E.map Prod.snd=t.cl) {id:Int} {e:SE} (h:(E.find? fun e=>e.2.id==id)=some e):
  ∃ A C,E=A++e::C∧e.2.id=id∧(∀ x∈A,x.2.id≠id)∧(∀ x∈C,x.2.id≠id):=by
 have h1:=List.mem_of_find?_eq_some h
 have h2:e.2.id=id:=beq_iff_eq.1 (List.find?_some (p:=fun e:SE=>e.2.id==id) h)
 obtain ⟨A,C,hAC⟩:=List.append_of_mem h1
 have hn:((A++e::C).map fun x:SE=>x.2.id).Nodup:=by
  have:=ok.ids
  rw [←hE,List.map_map,hAC] at this
  exact this
 rw [List.map_append,List.map_cons,List.nodup_append] at hn
 obtain ⟨n1,n2,n3⟩:=hn
 rw [List.nodup_cons] at n2
 refine ⟨A,C,hAC,h2,fun x hx e2=>?_,fun x hx e2=>?_⟩
 ·exact n3 _ (List.mem_map.2 ⟨x,hx,rfl⟩) _ List.mem_cons_self (by rw [e2,h2])
 ·exact n2.1 (List.mem_map.2 ⟨x,hx,by rw [e2,h2]⟩)
theorem put_split {A C:List SE} {b:Nat} {c d:Cl} (h:d.id=c.id) (hA:∀ x∈A,x.2.id≠c.id) (hC:∀ x∈C,x.2.id≠c.id):(A++(b,c)::C).map Prod.snd=clPut c ((A++(b,d)::C).map Prod.snd):=by
 have key:∀ l:List SE,(∀ x∈l,x.2.id≠c.id)→clPut c (l.map Prod.snd)=l.map Prod.snd:=fun l hl=>by
  unfold clPut
  rw [List.map_map]
  refine List.map_congr_left fun x hx=>?_
  show (if x.2.id==c.id then c else x.2)=x.2
  rw [if_neg (by simpa using hl x hx)]
 have k1:=key A hA
 have k2:=key C hC
 unfold clPut at *
 rw [List.map_append,List.map_cons,List.map_append,List.map_cons,List.map_append,List.map_cons,k1,k2]
 congr 2
 show c=if d.id==c.id then c else d
 rw [if_pos (by simpa using h)]
theorem del_split {A C:List SE} {e:SE} {id:Int} (h:e.2.id=id) (hA:∀ x∈A,x.2.id≠id) (hC:∀ x∈C,x.2.id≠id):
  delM id ((A++e::C).map cliV)=(A++C).map cliV∧(A++C).map Prod.snd=((A++e::C).map Prod.snd).filter fun d=>d.id !=id:=by
 constructor
 ·rw [List.map_append,List.map_cons,List.map_append,show cliV e=(id,.pointer (some ⟨e.1,0,none⟩)) by unfold cliV;rw [h]]
  refine delM_app (getM_ne.2 fun x hx=>?_) (by simp)
  obtain ⟨y,hy,rfl⟩:=List.mem_map.1 hx
  exact hA y hy
 ·have key:∀ l:List SE,(∀ x∈l,x.2.id≠id)→(l.map Prod.snd).filter (fun d=>d.id !=id)=l.map Prod.snd:=fun l hl=>by
   refine List.filter_eq_self.2 fun x hx=>?_
   obtain ⟨y,hy,rfl⟩:=List.mem_map.1 hx
   simpa using hl y hy
  rw [List.map_append,List.map_append,List.filter_append,List.map_cons,List.filter_cons,if_neg (by simpa using h),key A hA,key C hC]
set_option maxHeartbeats 4000000 in
theorem sapply_spec {p:Nat} {t:Tb} {bs:List Int} {s:Sl} (ok:TbOk t) (hn:t.next<1000000) (hb:Bytes bs) (hl:bs.length≤1099511627776) (hs:Ro R s (b8 bs)) (hw:Sat R (TbAt p t::Hs) w):
  Gets Tryz.prog 11 #[.pointer (some ⟨p,0,none⟩),.slice s.a s.len s.cap] w fun v w'=>
   ∃ x:Sl,v=.agg (tdV (t.applyT bs).1 x).toArray∧Sat R (Own x 5 (b8 (t.applyT bs).1.reply)::TbAt p (t.applyT bs).2::Hs) w':=by
 apply call11
 refine new_rule hw fun b4 w hw=>?_
 have hw:Sat R (tdNew b4::TbAt p t::Hs) w:=hw
 refine (sdec_spec hb hl hs hw).use ?_
 clear hw
 rintro _ w ⟨cs,rfl,hw⟩
 have hcb:=rq_bytes (m:=mI) hb
 have hq0:=rqDec_ok (bs:=bs) hb
 have hcl:(rqDec mI bs).1.cmd.length≤4000:=by
  unfold rqDec
  split
  ·rename_i h
   exact h.2.cmd
  ·exact Nat.zero_le _
 have he6:(rqDec mI bs).2=0∨(rqDec mI bs).2=6:=by
  unfold rqDec
  split
  ·exact .inl rfl
  ·exact .inr rfl
 have hT:t.applyT bs=if (rqDec mI bs).2≠0 then (refT (rqDec mI bs).2,t) else t.askT (rqDec mI bs).1:=rfl
 rw [hT]
 clear hT
 generalize hqe:(rqDec mI bs).1=q at *
 generalize (rqDec mI bs).2=e at *
 clear hqe
 obtain ⟨R1,e1,g1,hw⟩:=Own.leak hw
 have hcs:Ro R1 cs (b8 q.cmd):=g1.ro (by rw [List.length_map];omega)
 refine ⟨q.kind,q.client,q.seq,q.token,cs,e,rfl,?_⟩
 refine new_rule hw fun b5 w hw=>?_
 refine store_rule hw (by kernel_rfl) rfl (by simp [Value.cells]) fun w hw=>?_
 have hw:=hw.re (rqC b5 q cs)
 have hw:Sat R1 (TbAt p t::tdNew b4::rqC b5 q cs::Hs) w:=hw.arr
 have fin:∀ {τ:Told} {x:Sl} {t2:Tb} {w:World},Sat R1 (Own x 5 (b8 τ.reply)::TbAt p t2::rqC b5 q cs::Hs) w→∃ y:Sl,Value.agg (tdV τ x).toArray=.agg (tdV τ y).toArray∧Sat R (Own y 5 (b8 τ.reply)::TbAt p t2::Hs) w:=fun {τ x t2 w} hw=>
  ⟨x,rfl,e1.back (hw.cons fun _ h=>h.cons fun _ h=>h.drop)⟩
 have ref:∀ {n:Int} {t2:Tb} {w:World},Sat R1 (TbAt p t2::rqC b5 q cs::Hs) w→∃ y:Sl,Value.agg (tdV (refT n) nilS).toArray=.agg (tdV (refT n) y).toArray∧Sat R (Own y 5 (b8 (refT n).reply)::TbAt p t2::Hs) w:=fun {n t2 w} hw=>
  fin (τ:=refT n) (x:=nilS) (Own.nil hw)
 refine Br.ne (fun h=>?_) (fun h=>?_)
 ·rw [if_pos h]
  refine (refused_spec (e:=e) hw).use ?_
  clear hw
  rintro _ w ⟨rfl,hw⟩
  refine ⟨e,0,0,nilS,rfl,?_⟩
  exact put_td (τ:=refT e) (s:=nilS) hw.swap fun w hw=>ref hw
 rw [if_neg (by simpa using h)]
 have hq:=hq0 h
 have hk:=hq.kind
 obtain ⟨q1,q2⟩:=hq.client
 obtain ⟨q3,q4⟩:=hq.seq
 unfold Tb.askT
 refine ⟨q.kind,At.own (eqS hw) (by exact ⟨rfl,trivial⟩),Br.e (fun k4=>?_) (fun k4=>?_)⟩
 ·rw [if_pos k4]
  refine (refused_spec (e:=1) hw).use ?_
  clear hw
  rintro _ w ⟨rfl,hw⟩
  refine ⟨1,0,0,nilS,rfl,?_⟩
  exact put_td (τ:=refT 1) (s:=nilS) hw.swap fun w hw=>ref hw
 rw [if_neg k4]
 refine ⟨q.kind,At.own (eqS hw) (by exact ⟨rfl,trivial⟩),Br.e (fun k1=>?_) (fun k1=>?_)⟩
 ·rw [if_pos k1]
  refine ⟨q.token,At.own (eqS hw) (by exact ⟨rfl,trivial⟩),?_⟩
  refine (sbegin_spec (tok:=q.token) ok hn hw).use ?_
  clear hw
  rintro _ w ⟨rfl,hw⟩
  have hr:(t.beginT q.token).1.reply=[]:=by
   unfold Tb.beginT
   split
   ·rfl
   ·split
    ·rfl
    ·rfl
  refine ⟨_,_,_,nilS,rfl,?_⟩
  refine put_td (τ:=(t.beginT q.token).1) (s:=nilS) hw.swap fun w hw=>fin ?_
  rw [hr]
  exact Own.nil hw
 rw [if_neg k1]
 obtain ⟨m,bk,E,hE,hw⟩:=Sat.tb.1 hw
 have hnx:=ok.nx
 refine drw_rule hw fun w hw=>?_
 refine NilP.mk rfl ⟨some m,At.own selfS (by exact ⟨rfl,trivial⟩),q.client,At.own selfS (by exact ⟨rfl,trivial⟩),?_⟩
 have hfE:t.cl.find? (fun c=>c.id==q.client)=(E.find? fun e=>e.2.id==q.client).map Prod.snd:=by rw [←hE];exact cl_find
 have hg:=cl_get (k:=q.client) (E:=E)
 cases hf:E.find? fun e=>e.2.id==q.client with
 |none=>
  rw [hf] at hfE hg
  rw [hfE]
  dsimp only [Option.map_none]
  refine ⟨none,false,fun w' h=>?_,?_⟩
  ·have:=MapAt.look cMap h.swap q.client true
   rw [hg] at this
   exact this
  refine ⟨fun b w=>b=decide (1≤q.client∧q.client<t.next)∧Sat R1 (tdNew b4::pts p (tblC bk t.next m)::MapAt m (E.map cliV)::Star (E.map cliAt)::BookAt bk t.bk::rqC b5 q cs::Hs) w,?_,?_⟩
  ·refine drw_rule hw fun w hw=>?_
   refine Br.t rfl ⟨q.client,At.own selfS (by exact ⟨rfl,trivial⟩),Br.d (fun h1=>?_) (fun h1=>?_)⟩
   ·refine ⟨q.client,At.own selfS (by exact ⟨rfl,trivial⟩),NilP.mk rfl ⟨t.next,At.own selfS (by exact ⟨rfl,trivial⟩),?_,hw.arr⟩⟩
    exact decide_eq_decide.2 ⟨fun h=>⟨h1,h⟩,fun h=>h.2⟩
   ·exact ⟨by rw [decide_eq_false (by omega)],hw.arr⟩
  clear hw
  rintro _ _ w ⟨rfl,hw⟩
  refine Br.d (fun h1=>?_) (fun h1=>?_)
  ·rw [if_pos h1]
   refine (refused_spec (e:=10) hw).use ?_
   clear hw
   rintro _ w ⟨rfl,hw⟩
   refine ⟨10,0,0,nilS,rfl,?_⟩
   exact put_td (τ:=refT 10) (s:=nilS) hw fun w hw=>ref (Sat.tb.2 ⟨m,bk,E,hE,hw⟩)
  ·rw [if_neg h1]
   refine Br.t rfl ?_
   refine (refused_spec (e:=2) hw).use ?_
   clear hw
   rintro _ w ⟨rfl,hw⟩
   refine ⟨2,0,0,nilS,rfl,?_⟩
   exact put_td (τ:=refT 2) (s:=nilS) hw fun w hw=>ref (Sat.tb.2 ⟨m,bk,E,hE,hw⟩)
 |some e=>
  rw [hf] at hfE hg
  rw [hfE]
  dsimp only [Option.map_some]
  obtain ⟨A,C,hAC,hid,hA,hC⟩:=cl_split ok hE hf
  have hec:e.2∈t.cl:=by rw [←hE,hAC];exact List.mem_map.2 ⟨e,by simp,rfl⟩
  have ec:=ok.each _ hec
  have ecl:=ec.last
  have ecr:=ec.rep
  refine ⟨some ⟨e.1,0,none⟩,true,fun w' h=>?_,?_⟩
  ·have:=MapAt.look cMap h.swap q.client true
   rw [hg] at this
   exact this
  refine ⟨fun b w=>b=false∧Sat R1 (tdNew b4::pts p (tblC bk t.next m)::MapAt m (E.map cliV)::Star (E.map cliAt)::BookAt bk t.bk::rqC b5 q cs::Hs) w,?_,?_⟩
  ·refine drw_rule hw fun w hw=>?_
   exact Br.f rfl ⟨rfl,hw.arr⟩
  clear hw
  rintro _ _ w ⟨rfl,hw⟩
  refine Br.f rfl (Br.f rfl ?_)
  refine ⟨q.kind,At.own (eqS hw) (by exact ⟨rfl,trivial⟩),Br.e (fun k3=>?_) (fun k3=>?_)⟩
  ·rw [if_pos k3]
   refine drw_rule hw fun w hw=>?_
   refine NilP.mk rfl ⟨some m,At.own selfS (by exact ⟨rfl,trivial⟩),q.client,At.own selfS (by exact ⟨rfl,trivial⟩),?_⟩
   have hw:Sat R1 (MapAt m (E.map cliV)::tdNew b4::pts p (tblC bk t.next m)::Star (E.map cliAt)::BookAt bk t.bk::rqC b5 q cs::Hs) w:=hw.arr
   obtain ⟨d1,d2⟩:=del_split hid hA hC
   refine MapAt.del cMap hw q.client fun w hw=>?_
   rw [hAC,d1] at hw
   refine ⟨q.client,At.own (eqS hw) (by exact ⟨rfl,trivial⟩),?_⟩
   have hw:Sat R1 (tdNew b4::pts p (tblC bk t.next m)::MapAt m ((A++C).map cliV)::Star ((A++e::C).map cliAt)::BookAt bk t.bk::rqC b5 q cs::Hs) w:=hw.arr
   refine put_td (τ:=⟨0,q.client,0,[]⟩) (s:=nilS) hw fun w hw=>fin (τ:=⟨0,q.client,0,[]⟩) (x:=nilS) (Own.nil ?_)
   refine Sat.tb.2 ⟨m,bk,A++C,?_,?_⟩
   ·rw [d2,←hE,hAC]
   ·refine hw.cons fun _ h=>h.cons fun _ h=>?_
    obtain ⟨_,h⟩:=cl_pick.1 h
    rw [List.map_append]
    exact h.drop.drop
  rw [if_neg k3]
  unfold Tb.doT
  have hE2:∃ s0:Sl,Sat R1 (pts e.1 (cliObj e.2 s0)::Own s0 5 (b8 e.2.rep)::Star (A.map cliAt++C.map cliAt)::tdNew b4::pts p (tblC bk t.next m)::MapAt m (E.map cliV)::BookAt bk t.bk::rqC b5 q cs::Hs) w:=by
   have h3:Sat R1 (Star (E.map cliAt)::tdNew b4::pts p (tblC bk t.next m)::MapAt m (E.map cliV)::BookAt bk t.bk::rqC b5 q cs::Hs) w:=hw.arr
   rw [hAC] at h3 ⊢
   exact cl_pick.1 h3
  obtain ⟨s0,hw⟩:=hE2
  have close:∀ {R1:Cx} {b:Nat} {c:Cl} {x:Sl} {nb:Book} {w:World},b=e.1→c.id=e.2.id→Sat R1 (pts b (cliObj c x)::Own x 5 (b8 c.rep)::Star (A.map cliAt++C.map cliAt)::pts p (tblC bk t.next m)::MapAt m (E.map cliV)::BookAt bk nb::rqC b5 q cs::Hs) w→Sat R1 (TbAt p { t with bk:=nb,cl:=clPut c t.cl }::rqC b5 q cs::Hs) w:=fun {R1 b c x nb w} hb hc hw=>by
   refine Sat.tb.2 ⟨m,bk,A++(b,c)::C,?_,?_⟩
   ·rw [put_split (d:=e.2) hc.symm (fun x hx=>by rw [hc,hid];exact hA x hx) (fun x hx=>by rw [hc,hid];exact hC x hx),←hE,hAC,hb]
   ·have hm:(A++(b,c)::C).map cliV=E.map cliV:=by
     rw [hAC,List.map_append,List.map_append,List.map_cons,List.map_cons]
     unfold cliV
     rw [hb,hc]
    rw [hm]
    have hw:Sat R1 (pts b (cliObj c x)::Own x 5 (b8 c.rep)::Star (A.map cliAt++C.map cliAt)::pts p (tblC bk t.next m)::MapAt m (E.map cliV)::BookAt bk nb::rqC b5 q cs::Hs) w:=hw
    have hw:=cl_pick (e:=(b,c)).2 ⟨x,hw⟩
    exact hw.arr
  have same:∀ {R1:Cx} {w:World},Sat R1 (pts e.1 (cliObj e.2 s0)::Own s0 5 (b8 e.2.rep)::Star (A.map cliAt++C.map cliAt)::pts p (tblC bk t.next m)::MapAt m (E.map cliV)::BookAt bk t.bk::rqC b5 q cs::Hs) w→Sat R1 (TbAt p t::rqC b5 q cs::Hs) w:=fun {R1 w} hw=>by
   refine Sat.tb.2 ⟨m,bk,E,hE,?_⟩
   have hw:=cl_pick.2 ⟨s0,hw⟩
   rw [←hAC] at hw
   exact hw.arr
  refine drw_rule hw fun w hw=>?_
  refine ⟨q.seq,At.own selfS (by exact ⟨rfl,trivial⟩),NilP.mk rfl ⟨e.2.last,At.own selfS (by exact ⟨rfl,trivial⟩),?_⟩⟩
  rw [wrap64 (by omega) (by omega)]
  refine Br.d (fun h7=>?_) (fun h7=>?_)
  ·rw [if_pos h7]
   refine (refused_spec (e:=7) hw).use ?_
   clear hw
   rintro _ w ⟨rfl,hw⟩
   refine ⟨7,0,0,nilS,rfl,?_⟩
   have hw:Sat R1 (tdNew b4::pts e.1 (cliObj e.2 s0)::Own s0 5 (b8 e.2.rep)::Star (A.map cliAt++C.map cliAt)::pts p (tblC bk t.next m)::MapAt m (E.map cliV)::BookAt bk t.bk::rqC b5 q cs::Hs) w:=hw.arr
   exact put_td (τ:=refT 7) (s:=nilS) hw fun w hw=>ref (same hw)
  rw [if_neg h7]
  refine ⟨fun b w=>b=decide (q.seq<e.2.last∨q.seq=0)∧Sat R1 (pts e.1 (cliObj e.2 s0)::Own s0 5 (b8 e.2.rep)::Star (A.map cliAt++C.map cliAt)::tdNew b4::pts p (tblC bk t.next m)::MapAt m (E.map cliV)::BookAt bk t.bk::rqC b5 q cs::Hs) w,?_,?_⟩
  ·refine drw_rule hw fun w hw=>?_
   refine ⟨q.seq,At.own selfS (by exact ⟨rfl,trivial⟩),NilP.mk rfl ⟨e.2.last,At.own selfS (by exact ⟨rfl,trivial⟩),Br.d (fun h8=>?_) (fun h8=>?_)⟩⟩
   ·exact ⟨by rw [decide_eq_true (.inl h8)],hw⟩
   ·refine ⟨q.seq,At.own selfS (by exact ⟨rfl,trivial⟩),?_,hw⟩
    rw [show (q.seq==0)=decide (q.seq=0) from rfl]
    exact decide_eq_decide.2 ⟨fun h=>.inr h,fun h=>h.resolve_left h8⟩
  clear hw
  rintro _ _ w ⟨rfl,hw⟩
  refine Br.d (fun h8=>?_) (fun h8=>?_)
  ·rw [if_pos h8]
   refine (refused_spec (e:=11) hw).use ?_
   clear hw
   rintro _ w ⟨rfl,hw⟩
   refine ⟨11,0,0,nilS,rfl,?_⟩
   have hw:Sat R1 (tdNew b4::pts e.1 (cliObj e.2 s0)::Own s0 5 (b8 e.2.rep)::Star (A.map cliAt++C.map cliAt)::pts p (tblC bk t.next m)::MapAt m (E.map cliV)::BookAt bk t.bk::rqC b5 q cs::Hs) w:=hw.arr
   exact put_td (τ:=refT 11) (s:=nilS) hw fun w hw=>ref (same hw)
  rw [if_neg h8]
  refine drw_rule hw fun w hw=>?_
  refine ⟨q.seq,At.own selfS (by exact ⟨rfl,trivial⟩),NilP.mk rfl ⟨e.2.last,At.own selfS (by exact ⟨rfl,trivial⟩),Br.d (fun h9=>?_) (fun h9=>?_)⟩⟩
  ·rw [if_pos h9]
   have hw:Sat R1 (rqC b5 q cs::pts p (tblC bk t.next m)::BookAt bk t.bk::pts e.1 (cliObj e.2 s0)::Own s0 5 (b8 e.2.rep)::Star (A.map cliAt++C.map cliAt)::tdNew b4::MapAt m (E.map cliV)::Hs) w:=hw.arr
   refine drw_rule' (Sat R1 [rqC b5 q cs,pts p (tblC bk t.next m),VC.tru]) hw (fun w hw=>hw.cons fun _ h=>h.restTru2) fun w hw=>?_
   refine ⟨q.seq,At.own (fun _ h=>h) (by exact ⟨rfl,trivial⟩),cs,At.own (fun _ h=>h) (by exact ⟨rfl,trivial⟩),NilP.mk rfl ⟨some ⟨bk,0,none⟩,by rw [add_off];exact At.own (fun _ h=>h) (by exact ⟨rfl,trivial⟩),?_⟩⟩
   have hw:Sat R1 (BookAt bk t.bk::rqC b5 q cs::pts p (tblC bk t.next m)::pts e.1 (cliObj e.2 s0)::Own s0 5 (b8 e.2.rep)::Star (A.map cliAt++C.map cliAt)::tdNew b4::MapAt m (E.map cliV)::Hs) w:=hw.arr
   refine (done_spec ok.bk hcb (by omega) hcs hw).use ?_
   clear hw
   rintro _ w ⟨x,rfl,hw⟩
   obtain ⟨o1,_,_⟩:=done_ok ok.bk hcb
   have hw:Sat R1 (rqC b5 q cs::pts p (tblC bk t.next m)::pts e.1 (cliObj e.2 s0)::Own x 5 (b8 (doneT t.bk q.cmd).1)::BookAt bk (doneT t.bk q.cmd).2::Own s0 5 (b8 e.2.rep)::Star (A.map cliAt++C.map cliAt)::tdNew b4::MapAt m (E.map cliV)::Hs) w:=hw.arr
   refine ⟨x,rfl,hw.cons fun _ h=>h.restTru2,NilP.mk rfl ?_⟩
   refine store_rule hw (by kernel_rfl) rfl (by simp [Value.cells]) fun w hw=>?_
   have hw:=hw.re (pts e.1 (cliObj { e.2 with last:=q.seq } s0))
   have hw:Sat R1 (rqC b5 q cs::pts p (tblC bk t.next m)::pts e.1 (cliObj { e.2 with last:=q.seq } s0)::Own x 5 (b8 (doneT t.bk q.cmd).1)::BookAt bk (doneT t.bk q.cmd).2::Own s0 5 (b8 e.2.rep)::Star (A.map cliAt++C.map cliAt)::tdNew b4::MapAt m (E.map cliV)::Hs) w:=hw.arr
   refine ⟨hw.cons fun _ h=>h.restTru2,NilP.mk rfl ?_⟩
   obtain ⟨c,hc⟩:∃ c:Cl,c={ e.2 with last:=q.seq,rep:=(doneT t.bk q.cmd).1 }:=⟨_,rfl⟩
   refine store_rule hw (by kernel_rfl) rfl (by simp [Value.cells]) fun w hw=>?_
   have hw:=hw.re (pts e.1 (cliObj c x)) (by rw [hc];rfl)
   have hw:Sat R1 (rqC b5 q cs::pts e.1 (cliObj c x)::Own x 5 (b8 c.rep)::pts p (tblC bk t.next m)::BookAt bk (doneT t.bk q.cmd).2::Star (A.map cliAt++C.map cliAt)::tdNew b4::MapAt m (E.map cliV)::Hs) w:=by
    have hw:Sat R1 (Own s0 5 (b8 e.2.rep)::rqC b5 q cs::pts e.1 (cliObj c x)::Own x 5 (b8 (doneT t.bk q.cmd).1)::pts p (tblC bk t.next m)::BookAt bk (doneT t.bk q.cmd).2::Star (A.map cliAt++C.map cliAt)::tdNew b4::MapAt m (E.map cliV)::Hs) w:=hw.arr
    rw [hc] at hw ⊢
    exact hw.drop
   refine drw_rule' (Sat R1 [rqC b5 q cs,pts e.1 (cliObj c x),VC.tru]) hw (fun w hw=>hw.cons fun _ h=>h.restTru2) fun w hw=>?_
   refine ⟨q.client,At.own (fun _ h=>h) (by exact ⟨rfl,trivial⟩),q.seq,At.own (fun _ h=>h) (by exact ⟨rfl,trivial⟩),NilP.mk rfl ⟨x,At.own (fun _ h=>h) (by exact ⟨rfl,trivial⟩),?_⟩⟩
   have hcr:c.rep.length≤65536:=by rw [hc];exact o1
   have hw:Sat R1 (Own x 5 (b8 c.rep)::rqC b5 q cs::pts e.1 (cliObj c x)::pts p (tblC bk t.next m)::BookAt bk (doneT t.bk q.cmd).2::Star (A.map cliAt++C.map cliAt)::tdNew b4::MapAt m (E.map cliV)::Hs) w:=hw.arr
   obtain ⟨R2,r2,_,hw,back⟩:=Own.lend hw (by rw [List.length_map];omega)
   refine (clone_spec r2 (by omega) hw).use ?_
   clear hw
   rintro _ w ⟨y,rfl,hw⟩
   have hw:=back hw
   have hw:Sat R1 (rqC b5 q cs::pts e.1 (cliObj c x)::Own x 5 (b8 c.rep)::Own y 5 (b8 c.rep)::pts p (tblC bk t.next m)::BookAt bk (doneT t.bk q.cmd).2::Star (A.map cliAt++C.map cliAt)::tdNew b4::MapAt m (E.map cliV)::Hs) w:=hw.arr
   refine ⟨y,rfl,hw.cons fun _ h=>h.restTru2,?_⟩
   have hw:Sat R1 (tdNew b4::pts e.1 (cliObj c x)::Own x 5 (b8 c.rep)::Star (A.map cliAt++C.map cliAt)::pts p (tblC bk t.next m)::MapAt m (E.map cliV)::BookAt bk (doneT t.bk q.cmd).2::rqC b5 q cs::Own y 5 (b8 c.rep)::Hs) w:=hw.arr
   refine put_td (τ:=⟨0,q.client,q.seq,c.rep⟩) (s:=y) hw fun w hw=>?_
   have hw:Sat R1 (Own y 5 (b8 c.rep)::pts e.1 (cliObj c x)::Own x 5 (b8 c.rep)::Star (A.map cliAt++C.map cliAt)::pts p (tblC bk t.next m)::MapAt m (E.map cliV)::BookAt bk (doneT t.bk q.cmd).2::rqC b5 q cs::Hs) w:=hw.arr
   subst hc
   exact fin (τ:=⟨0,q.client,q.seq,(doneT t.bk q.cmd).1⟩) (x:=y) (hw.cons fun _ h=>close rfl rfl h)
  ·rw [if_neg h9]
   have hw:Sat R1 (rqC b5 q cs::pts e.1 (cliObj e.2 s0)::Own s0 5 (b8 e.2.rep)::pts p (tblC bk t.next m)::BookAt bk t.bk::Star (A.map cliAt++C.map cliAt)::tdNew b4::MapAt m (E.map cliV)::Hs) w:=hw.arr
   refine drw_rule' (Sat R1 [rqC b5 q cs,pts e.1 (cliObj e.2 s0),VC.tru]) hw (fun w hw=>hw.cons fun _ h=>h.restTru2) fun w hw=>?_
   refine ⟨q.client,At.own (fun _ h=>h) (by exact ⟨rfl,trivial⟩),q.seq,At.own (fun _ h=>h) (by exact ⟨rfl,trivial⟩),NilP.mk rfl ⟨s0,At.own (fun _ h=>h) (by exact ⟨rfl,trivial⟩),?_⟩⟩
   have hw:Sat R1 (Own s0 5 (b8 e.2.rep)::rqC b5 q cs::pts e.1 (cliObj e.2 s0)::pts p (tblC bk t.next m)::BookAt bk t.bk::Star (A.map cliAt++C.map cliAt)::tdNew b4::MapAt m (E.map cliV)::Hs) w:=hw.arr
   obtain ⟨R2,r2,_,hw,back⟩:=Own.lend hw (by rw [List.length_map];omega)
   refine (clone_spec r2 (by omega) hw).use ?_
   clear hw
   rintro _ w ⟨y,rfl,hw⟩
   have hw:=back hw
   have hw:Sat R1 (rqC b5 q cs::pts e.1 (cliObj e.2 s0)::Own s0 5 (b8 e.2.rep)::Own y 5 (b8 e.2.rep)::pts p (tblC bk t.next m)::BookAt bk t.bk::Star (A.map cliAt++C.map cliAt)::tdNew b4::MapAt m (E.map cliV)::Hs) w:=hw.arr
   refine ⟨y,rfl,hw.cons fun _ h=>h.restTru2,?_⟩
   have hw:Sat R1 (tdNew b4::Own y 5 (b8 e.2.rep)::pts e.1 (cliObj e.2 s0)::Own s0 5 (b8 e.2.rep)::Star (A.map cliAt++C.map cliAt)::pts p (tblC bk t.next m)::MapAt m (E.map cliV)::BookAt bk t.bk::rqC b5 q cs::Hs) w:=hw.arr
   exact put_td (τ:=⟨0,q.client,q.seq,e.2.rep⟩) (s:=y) hw fun w hw=>fin (τ:=⟨0,q.client,q.seq,e.2.rep⟩) (x:=y) (hw.cons fun _ h=>same h)
end Go.Proofs.YtflgboncpbmikaaGreatDoor

/- Chapter 19: SessionBack: what was encoded is read as it was. Condition: bounds on lengths. -/
namespace Go.Proofs.YtflgboncpbmikaaGreatDoor
set_option linter.unusedVariables false
set_option linter.unusedSimpArgs false
open Go Go.VC
open Classical
variable {R:Cx} {Hs Rest:List HP} {w:World}
def begQ (tok:Int):Rq:=⟨1,0,0,tok,[]⟩
theorem begQ_right {tok:Int} (h:inI tok):RightQ (begQ tok):=⟨⟨Int.le_refl 0,by show (0:Int)≤1099511627776;omega⟩,⟨Int.le_refl 0,by show (0:Int)≤1099511627776;omega⟩,h,by show 0≤4000;omega,.inl ⟨rfl,rfl,rfl,rfl⟩⟩
theorem rqB_bytes {q:Rq} (h:RightQ q) (hc:Bytes q.cmd):Bytes (rqB q):=by
 have h1:=h.k4
 obtain ⟨a1,a2⟩:=h.client
 obtain ⟨a3,a4⟩:=h.seq
 obtain ⟨a5,a6⟩:=h.token
 have h2:=h.cmd
 intro y hy
 unfold rqB at hy
 rcases List.mem_append.1 hy with hy|hy
 ·refine numsB_bd (l:=[q.kind,q.client,q.seq,q.token]) (fun x hx=>?_) y hy
  simp only [List.mem_cons,List.not_mem_nil,or_false] at hx
  rcases hx with rfl|rfl|rfl|rfl<;>omega
 ·unfold textB at hy
  rcases List.mem_append.1 hy with hy|hy
  ·exact numB_bd (n:=q.cmd.length) (by omega) y hy
  ·exact hc y hy
theorem encoded_spec {q:Rq} {s:Sl} (hs:Ro R s (b8 q.cmd)) (hw:Sat R Hs w):
  Gets Tryz.prog 15 #[.agg #[.int .i64 q.kind,.int .i64 q.client,.int .i64 q.seq,.int .i64 q.token,.slice s.a s.len s.cap]] w fun v w'=>∃ t:Sl,v=.slice t.a t.len t.cap∧Sat R (Own t 5 (b8 (encQ q).1)::Hs) w':=by
 apply call15
 refine new_rule hw fun b w hw=>?_
 have hw:Sat R (rqC b q s::Hs) w:=hw
 refine ⟨q.kind,q.client,q.seq,q.token,s,At.own (eqS hw) (by exact ⟨rfl,rfl,rfl,rfl,rfl,trivial⟩),?_⟩
 refine (senc_spec hs hw).use ?_
 clear hw
 rintro _ w ⟨t,rfl,hw⟩
 exact ⟨t,_,rfl,t,rfl,hw.cons fun _ h=>h.drop⟩
theorem beg9:newT.applyT (rqB (begQ 9))=(⟨0,1,0,[]⟩,⟨2,[⟨1,9,0,[]⟩],newBook⟩):=by
 unfold Tb.applyT
 rw [rqDec_back (begQ_right ⟨by omega,by omega⟩),if_neg (by simp)]
 rfl
theorem aw19_spec (hw:Sat R Hs w):Gets Tryz.prog 5 #[] w fun v w'=>v=.bool true∧Sat R Hs w':=by
 apply call5
 refine (snew_spec hw).use ?_
 clear hw
 rintro _ w ⟨p,rfl,hw⟩
 refine ⟨_,rfl,Br.f rfl ?_⟩
 have h9:inI 9:=⟨by omega,by omega⟩
 refine (encoded_spec (q:=begQ 9) (s:=nilS) ⟨rfl,by show 0≤9223372036854775807;omega,fun h=>absurd rfl h⟩ hw).use ?_
 clear hw
 rintro _ w ⟨t,rfl,hw⟩
 have he:(encQ (begQ 9)).1=rqB (begQ 9):=by unfold encQ;rw [if_pos (begQ_right h9)]
 rw [he] at hw
 have hlen:=rqB_len (begQ_right h9)
 obtain ⟨R1,e1,g1,hw⟩:=Own.leak hw
 refine ⟨t,rfl,?_⟩
 refine (sapply_spec newT_ok (by show (1:Int)<1000000;omega) (rqB_bytes (begQ_right h9) (fun _ h=>by cases h)) (by omega) (g1.ro (by rw [List.length_map];omega)) hw).use ?_
 clear hw
 rintro _ w ⟨x,rfl,hw⟩
 rw [beg9] at hw ⊢
 refine ⟨0,1,0,x,rfl,?_⟩
 refine new_rule hw fun b w hw=>?_
 refine store_rule hw (by kernel_rfl) rfl (by simp [Value.cells]) fun w hw=>?_
 have hw:=hw.re (tdC b ⟨0,1,0,[]⟩ x)
 refine ⟨0,At.own (eqS hw) (by exact ⟨rfl,trivial⟩),Br.e (fun _=>?_) (fun h=>absurd rfl h)⟩
 exact ⟨1,At.own (eqS hw) (by exact ⟨rfl,trivial⟩),rfl,e1.back hw.drop.drop.drop⟩
abbrev sls (ps:List (Sl × List Int)):List Sl:=ps.map (·.1)
structure BsIn (R:Cx) (s:Sl) (ps:List (Sl × List Int)):Prop where
 rows:Ro R s ((sls ps).map Sl.v)
 each:∀ e∈ps,SlR R.m e.1 (b8 e.2)
 by':∀ e∈ps,Bytes e.2
theorem BsIn.len {s:Sl} {ps:List (Sl × List Int)} (h:BsIn R s ps):s.len=ps.length:=by have:=h.rows.len;simpa using this
theorem much19_spec {s:Sl} {ps:List (Sl × List Int)} (h:BsIn R s ps) (hw:Sat R Hs w):
  Gets Tryz.prog 6 #[.slice s.a s.len s.cap] w fun v w'=>∃ b,v=.bool b∧(b=false→∀ k (hk:k<ps.length),k<200→ps[k].2.length≤10000)∧Sat R Hs w':=by
 have hsl:=h.len
 apply call6
 refine ⟨fun i w=>∃ k:Nat,i=k∧k≤200∧(∀ j (hj:j<ps.length),j<k→ps[j].2.length≤10000)∧Sat R Hs w,fun i _=>200 - i.toNat,⟨0,rfl,by omega,fun j _ hj=>by omega,hw⟩,?_⟩
 clear hw
 rintro _ _ w ⟨k,rfl,hk,ha,hw⟩
 with_reducible refine Br.d (fun h1=>?_) (fun h1=>?_)
 case refine_2=>exact ⟨false,rfl,fun _ j hj _=>ha j hj (by omega),hw⟩
 with_reducible refine Br.d (fun h2=>?_) (fun h2=>?_)
 case refine_2=>exact ⟨false,rfl,fun _ j hj h3=>ha j hj (by omega),hw⟩
 have hkl:k<(sls ps).length:=by rw [List.length_map];omega
 refine h.rows.idxS (eqS hw) hkl ?_
 have hkp:k<ps.length:=by omega
 have hel:(sls ps)[k].len=ps[k].2.length:=by
  rw [List.getElem_map]
  have:=(h.each _ (List.getElem_mem hkp)).len
  rw [this,List.length_map]
 with_reducible refine Br.d (fun h3=>?_) (fun h3=>?_)
 ·exact ⟨true,rfl,fun h=>(by cases h),hw⟩
 rw [wrap64 (by omega) (by omega)]
 refine ⟨⟨k + 1,by omega,by omega,fun j hj hjk=>?_,hw⟩,by dsimp only;omega⟩
 by_cases e:j=k
 ·subst e;omega
 ·exact ha j hj (by omega)
end Go.Proofs.YtflgboncpbmikaaGreatDoor
/- The arguments of SessionBack and SessionGone. No condition. -/
namespace Go.Proofs.YtflgboncpbmikaaGreatDoor
set_option linter.unusedVariables false
set_option linter.unusedSimpArgs false
open Go Go.VC Go.ChangeShapes Go.WideShapes Go.ChangeAt Go.RowKit
variable {H:Type} {enc:TypeId × Value→H} {W:World} {r:Reach} {b0:Nat} {v:Value} {d:DataW H} {p:List MemPlace}
theorem u8_form {R:Cx} {s:Sl} {xs:List Tr} (ho:Tr.Ok R (.sl (.int .u8)) (.sl s xs)):∃ bs:List Int,SlR R.m s (b8 bs)∧Bytes bs:=by
 obtain ⟨bs,h1,h2,h3⟩:=ints_form ho
 refine ⟨bs,⟨h1.len,sl_cap ho,h1.mem⟩,fun z hz=>?_⟩
 have:=h3 z hz
 simp [Lit.wf,IntKind.min,IntKind.max,IntKind.bits,IntKind.signed] at this
 omega
abbrev askU:U:=.st [.int .i64,.int .i64,.int .i64,.int .i64,.sl (.int .u8)]
theorem ask_form {R:Cx} {x:Tr} (ho:x.Ok R askU):∃ e:Rq × Sl,x.cells=rqV e.1 e.2∧SlR R.m e.2 (b8 e.1.cmd)∧Bytes e.1.cmd:=by
 cases x<;>simp only [Tr.Ok] at ho
 rename_i xs
 match xs,ho with
 |[x0,x1,x2,x3,x4],ho=>
  simp only [Tr.OkL,and_true] at ho
  obtain ⟨h0,h1,h2,h3,h4⟩:=ho
  cases x0<;>simp only [Tr.Ok] at h0
  rename_i k0 n0
  obtain ⟨rfl,_⟩:=h0
  cases x1<;>simp only [Tr.Ok] at h1
  rename_i k1 n1
  obtain ⟨rfl,_⟩:=h1
  cases x2<;>simp only [Tr.Ok] at h2
  rename_i k2 n2
  obtain ⟨rfl,_⟩:=h2
  cases x3<;>simp only [Tr.Ok] at h3
  rename_i k3 n3
  obtain ⟨rfl,_⟩:=h3
  cases x4<;>simp only [Tr.Ok] at h4
  rename_i s sx
  have h4:Tr.Ok R (.sl (.int .u8)) (.sl s sx):=by unfold Tr.Ok;exact h4
  obtain ⟨bs,a1,a2⟩:=u8_form h4
  exact ⟨(⟨n0,n1,n2,n3,bs⟩,s),rfl,a1,a2⟩
theorem piece_form {R:Cx} {x:Tr} (h:x.Ok R (.sl (.int .u8))):∃ e:Sl × List Int,x.cells=[e.1.v]∧SlR R.m e.1 (b8 e.2)∧Bytes e.2:=by
 cases x<;>simp only [Tr.Ok] at h
 rename_i s xs
 have h:Tr.Ok R (.sl (.int .u8)) (.sl s xs):=by unfold Tr.Ok;exact h
 obtain ⟨bl,h1,h2⟩:=u8_form h
 exact ⟨(s,bl),rfl,h1,h2⟩
set_option maxRecDepth 100000 in
theorem pieces_in (hv:Value.okWide Tryz.prog W r b0 25 v) (h:DataW.Trod enc Tryz.prog W 0 (fun _=>true) true 25 v d p):
  ∃ (m:Sl) (ps:List (Sl × List Int)),v=.slice m.a m.len m.cap∧BsIn (Cx.of W) m ps:=by
 obtain ⟨a,n,c,rfl⟩:=okWide_slice Tryz.underlying25 hv
 obtain ⟨x,hx,ho⟩:=tr_arg (d:=6) (u:=.sl (.sl (.int .u8))) (by kernel_rfl) h
 cases x<;>simp only [Tr.Ok] at ho
 rename_i s xs
 obtain ⟨ps,h1,h2,h3⟩:=sl_form (fun e:Sl × List Int=>[e.1.v]) (fun e=>SlR (Cx.of W).m e.1 (b8 e.2)∧Bytes e.2) (show Tr.Ok (Cx.of W) (.sl (.sl (.int .u8))) (.sl s xs) by unfold Tr.Ok;exact ho) fun x hx=>piece_form hx
 have h1:RoN 1 (Cx.of W) s (((sls ps).map Sl.v).map fun v=>[v]):=by rw [List.map_map,List.map_map];exact h1
 refine ⟨s,ps,?_,⟨h1.one (by simpa using h2),fun e he=>(h3 e he).1,fun e he=>(h3 e he).2⟩⟩
 have:[Value.slice s.a s.len s.cap]=[Value.slice a n c]:=by simpa [Tr.cells,Value.cells] using hx
 exact (List.cons.inj this).1.symm
end Go.Proofs.YtflgboncpbmikaaGreatDoor
/- The formulas of functions of this seat's translation, printed by a program of mine off the translation; each is proved equal to 'fnF' of the function's body, so it is enough for the call. No condition. -/
namespace Go.Proofs.YtflgboncpbmikaaGreatDoor
open Go Go.VC
set_option linter.unusedVariables false
set_option maxRecDepth 10000
def B16 (p:Option Addr) (K:Value→World→Prop) (w:World):Prop:=
 Drw w fun o al=>
 NilP p fun G=>
 ∃ H:Int,(At o ⟨G.block,G.off + 1,none⟩ [.int .i64 H])∧
 NilP p fun A=>
 ∃ I:Option Nat,(At o ⟨A.block,A.off + 2,none⟩ [.map I])∧
 ∃ J:Int,(∀ b,o b→((Builtin.len_ #[57] 3 #[.map I])).run Tryz.prog b=.ok (.int .i64 J) b)∧
 New (.cells #[.int .i64 H,.int .i64 J] 3 (0,0)) (fun ac V=>
 (o V)∧
 Calls Tryz.prog 18 #[.slice ((some ⟨ac,0,none⟩)) 2 2] V fun ae z=>
 ∃ s:Sl,(ae=.returned (.slice s.a s.len s.cap))∧
 (o z)∧
 NilP p fun C=>
 ∃ L:Option Nat,(At (fun b=>b=z) ⟨C.block,C.off + 2,none⟩ [.map L])∧
 Calls Tryz.prog 31 #[.map L] z fun af ap=>
 ∃ M:Value,(af=.returned (M))∧
 Calls Tryz.prog 30 #[M] ap fun ag aq=>
 ∃ f:Sl,(ag=.returned (.slice f.a f.len f.cap))∧
 ∃ (v:Sl→Int→World→Prop) (Y:Sl→Int→World→Nat),(v s 0 aq)∧∀ (av:Env) (c:Sl) (e:Int) (d:World),v c e d→
 Br (decide (e<(↑f.len:Int)))
 (Rng e f.len (NilP f.a fun Z=>
 ∃ x:Int,(At (fun b=>b=d) (Addr.add Z e.toNat) [.int .i64 x])∧
 NilP p fun D=>
 ∃ N:Option Nat,(At (fun b=>b=d) ⟨D.block,D.off + 2,none⟩ [.map N])∧
 ∃ t:Option Addr,(∀ b,(fun b=>b=d) b→((Instr.lookup 57 (.map N) (.int .i64 x) false)).run Tryz.prog b=.ok (.pointer t) b)∧
 Drw d fun r ar=>
 NilP t fun aa=>
 ∃ O:Int,(At r (Addr.add aa 0) [.int .i64 O])∧
 NilP t fun E=>
 ∃ Q:Int,(At r ⟨E.block,E.off + 1,none⟩ [.int .i64 Q])∧
 New (.cells #[.int .i64 x,.int .i64 O,.int .i64 Q] 3 (0,0)) (fun ad au=>
 Calls Tryz.prog 18 #[.slice ((some ⟨ad,0,none⟩)) 3 3] au fun ah X=>
 ∃ g:Sl,(ah=.returned (.slice g.a g.len g.cap))∧
 (r X)∧
 ∃ u:World,∃ i:Sl,((Builtin.append_ #[22,22] 22 #[.slice c.a c.len c.cap,.slice g.a g.len g.cap]).run Tryz.prog X=.ok (.slice i.a i.len i.cap) u)∧
 (r u)∧
 NilP t fun F=>
 ∃ j:Sl,(At (fun b=>b=u) ⟨F.block,F.off + 2,none⟩ [.slice j.a j.len j.cap])∧
 Calls Tryz.prog 19 #[.slice j.a j.len j.cap] u fun ai am=>
 ∃ k:Sl,(ai=.returned (.slice k.a k.len k.cap))∧
 ∃ y:World,∃ q:Sl,((Builtin.append_ #[22,22] 22 #[.slice i.a i.len i.cap,.slice k.a k.len k.cap]).run Tryz.prog am=.ok (.slice q.a q.len q.cap) y)∧
 (v q (IntKind.i64.wrap (e + 1)) y)∧Y q (IntKind.i64.wrap (e + 1)) y<Y c e d) ar))
 (NilP p fun ab=>
 ∃ T:Option Addr,(At (fun b=>b=d) (Addr.add ab 0) [.pointer T])∧
 Calls Tryz.prog 32 #[.pointer T] d fun aj an=>
 ∃ l:Sl,(aj=.returned (.slice l.a l.len l.cap))∧
 Calls Tryz.prog 19 #[.slice l.a l.len l.cap] an fun ak ao=>
 ∃ m:Sl,(ak=.returned (.slice m.a m.len m.cap))∧
 ∃ U:World,∃ n:Sl,((Builtin.append_ #[22,22] 22 #[.slice c.a c.len c.cap,.slice m.a m.len m.cap]).run Tryz.prog ao=.ok (.slice n.a n.len n.cap) U)∧
 K (.slice n.a n.len n.cap) U)) al
def sk16:Sk:=(.seq .leaf (.seq .leaf (.seq (.seq .leaf (.block (.loop [3,25] [.sl,(.int .i64)] [3,5,6,25,26,27,28,29,30,31,32,33,34,35,36,37,38,39,40,41,42,43,44,45,46,47,48,49,50,51,52,53,54,55] .leaf))) .leaf)))
theorem call16 (a:Option Addr) (K:Value→World→Prop) (w:World) (h:B16 a K w):Gets Tryz.prog 16 #[.pointer a] w K:=cq (sk:=sk16) Tryz.func16 (by kernel_rfl) (by kernel_rfl) (by kernel_rfl) h
def B4 (l:Sl) (D:Int) (J:Sl) (K:Value→World→Prop) (w:World):Prop:=
 Calls Tryz.prog 5 #[] w fun a1 be=>
 ∃ q:Bool,(a1=.returned (.bool q))∧
 Calls Tryz.prog 6 #[.slice l.a l.len l.cap] be fun a2 z=>
 ∃ ad:Bool,(a2=.returned (.bool ad))∧
 ∃ (O:World→Prop),(Br (!q)
 (K (.bool q) z)
 (Br ad
 (K (.bool q) z)
 (Br (decide (D<1))
 (K (.bool q) z)
 (Br (decide (D>549755813888))
 (K (.bool q) z)
 (O  z)))))∧
 ∀ (bo:Env)  (av:World),O  av→
 Calls Tryz.prog 10 #[] av fun a3 bl=>
 ∃ r:Option Addr,(a3=.returned (.pointer r))∧
 ∃ (H:World→Prop),(∃ (G:Int→World→Prop) (ay:Int→World→Nat),(G 0 bl)∧∀ (bp:Env) (e:Int) (y:World),G e y→
 Br (decide (e<(↑l.len:Int)))
 (Br (decide (e<60))
 (Rng e l.len (NilP l.a fun az=>
 ∃ s:Sl,(At (fun b=>b=y) (Addr.add az e.toNat) [.slice s.a s.len s.cap])∧
 Calls Tryz.prog 11 #[.pointer r,.slice s.a s.len s.cap] y fun a4 aw=>
 ∃ bb:Int,∃ bc:Int,∃ bd:Int,∃ L:Sl,(a4=.returned (.agg #[.int .i64 bb,.int .i64 bc,.int .i64 bd,.slice L.a L.len L.cap]))∧
 (G (IntKind.i64.wrap (e + 1)) aw)∧ay (IntKind.i64.wrap (e + 1)) aw<ay e y))
 (H  y))
 (H  y))∧
 ∀ (bq:Env)  (ax:World),H  ax→
 Calls Tryz.prog 15 #[.agg #[.int .i64 3,.int .i64 D,.int .i64 0,.int .i64 0,.slice none 0 0]] ax fun a5 bm=>
 ∃ t:Sl,(a5=.returned (.slice t.a t.len t.cap))∧
 Calls Tryz.prog 11 #[.pointer r,.slice t.a t.len t.cap] bm fun a6 bn=>
 ∃ ae:Int,∃ af:Int,∃ ag:Int,∃ u:Sl,(a6=.returned (.agg #[.int .i64 ae,.int .i64 af,.int .i64 ag,.slice u.a u.len u.cap]))∧
 New (.cells #[.int .i64 0,.int .i64 0,.int .i64 0,.slice none 0 0] 37 (0,0)) (fun C bf=>
 ∃ i:World,((Instr.storeAt 37 (.pointer ((some ⟨C,0,none⟩))) (.agg #[.int .i64 ae,.int .i64 af,.int .i64 ag,.slice u.a u.len u.cap])).run Tryz.prog bf=.ok () i)∧
 ∃ (I:World→Prop),(∃ ah:Int,(At (fun b=>b=i) ⟨C,0,none⟩ [.int .i64 ah])∧
 Br (ah !=0)
 (∃ ai:Int,(At (fun b=>b=i) ⟨C,0,none⟩ [.int .i64 ai])∧
 Br (ai !=10)
 (∃ aj:Int,(At (fun b=>b=i) ⟨C,0,none⟩ [.int .i64 aj])∧
 K (.bool (aj==2)) i)
 (I  i))
 (I  i))∧
 ∀ (br:Env)  (ar:World),I  ar→
 Calls Tryz.prog 16 #[.pointer r] ar fun a7 bg=>
 ∃ v:Sl,(a7=.returned (.slice v.a v.len v.cap))∧
 ∃ (j:Int→World→Prop) (g:Int→World→Nat),(j 0 bg)∧∀ (bs:Env) (c:Int) (f:World),j c f→
 ∃ (Q:World→Prop),(Br (decide (c<(↑J.len:Int)))
 (Br (decide (c<60))
 (Q  f)
 (K (.bool true) f))
 (K (.bool true) f))∧
 ∀ (bt:Env)  (M:World),Q  M→
 Rng c J.len (NilP J.a fun a0=>
 ∃ ak:Int,∃ al:Int,∃ am:Int,∃ an:Int,∃ x:Sl,(At (fun b=>b=M) (Addr.add a0 (mulS c.toNat 5)) [.int .i64 ak,.int .i64 al,.int .i64 am,.int .i64 an,.slice x.a x.len x.cap])∧
 New (.cells #[.int .i64 0,.int .i64 0,.int .i64 0,.int .i64 0,.slice none 0 0] 24 (0,0)) (fun k bh=>
 ∃ d:World,((Instr.storeAt 24 (.pointer ((some ⟨k,0,none⟩))) (.agg #[.int .i64 ak,.int .i64 al,.int .i64 am,.int .i64 an,.slice x.a x.len x.cap])).run Tryz.prog bh=.ok () d)∧
 ∃ (T:World→Prop),(∃ E:Sl,(At (fun b=>b=d) ⟨k,0 + 4,none⟩ [.slice E.a E.len E.cap])∧
 Br (decide ((↑E.len:Int)>4000))
 ((j (IntKind.i64.wrap (c + 1)) d)∧g (IntKind.i64.wrap (c + 1)) d<g c f)
 (∃ ao:Int,(At (fun b=>b=d) ⟨k,0 + 2,none⟩ [.int .i64 ao])∧
 Br (decide (ao<0))
 ((j (IntKind.i64.wrap (c + 1)) d)∧g (IntKind.i64.wrap (c + 1)) d<g c f)
 (∃ ap:Int,(At (fun b=>b=d) ⟨k,0 + 2,none⟩ [.int .i64 ap])∧
 Br (decide (ap>1099511627776))
 ((j (IntKind.i64.wrap (c + 1)) d)∧g (IntKind.i64.wrap (c + 1)) d<g c f)
 (T  d))))∧
 ∀ (bu:Env)  (F:World),T  F→
 ∃ aq:Int,(At (fun b=>b=F) ⟨k,0 + 2,none⟩ [.int .i64 aq])∧
 ∃ m:Sl,(At (fun b=>b=F) ⟨k,0 + 4,none⟩ [.slice m.a m.len m.cap])∧
 Calls Tryz.prog 15 #[.agg #[.int .i64 2,.int .i64 D,.int .i64 aq,.int .i64 0,.slice m.a m.len m.cap]] F fun a8 bi=>
 ∃ n:Sl,(a8=.returned (.slice n.a n.len n.cap))∧
 Calls Tryz.prog 11 #[.pointer r,.slice n.a n.len n.cap] bi fun a9 bj=>
 ∃ X:Int,∃ Y:Int,∃ Z:Int,∃ o:Sl,(a9=.returned (.agg #[.int .i64 X,.int .i64 Y,.int .i64 Z,.slice o.a o.len o.cap]))∧
 New (.cells #[.int .i64 0,.int .i64 0,.int .i64 0,.slice none 0 0] 37 (0,0)) (fun V bk=>
 ∃ au:World,((Instr.storeAt 37 (.pointer ((some ⟨V,0,none⟩))) (.agg #[.int .i64 X,.int .i64 Y,.int .i64 Z,.slice o.a o.len o.cap])).run Tryz.prog bk=.ok () au)∧
 Drw au fun U N=>
 ∃ aa:Int,(At (fun b=>b=N) ⟨V,0,none⟩ [.int .i64 aa])∧
 Br (aa !=10)
 (K (.bool false) N)
 (∃ ac:ByteArray,(∀ b,U b→((convert 22 9 (.slice v.a v.len v.cap))).run Tryz.prog b=.ok (.string ac) b)∧
 Calls Tryz.prog 16 #[.pointer r] N fun ba A=>
 ∃ p:Sl,(ba=.returned (.slice p.a p.len p.cap))∧
 (U A)∧
 ∃ ab:ByteArray,(∀ b,(fun b=>b=A) b→((convert 22 9 (.slice p.a p.len p.cap))).run Tryz.prog b=.ok (.string ab) b)∧
 Br (!ab.toList==ac.toList)
 (K (.bool false) A)
 ((j (IntKind.i64.wrap (c + 1)) A)∧g (IntKind.i64.wrap (c + 1)) A<g c f))) bj) M)) bn
def sk4:Sk:=(.seq .leaf (.seq .leaf (.seq .leaf (.cut [] [] [6,19,20,21,22,23,24,25,26,27,28,29,30,31,32] .leaf (.seq .leaf (.cut [] [] [10,34,35,36,37,38,39,40,41,42,43,44,45,46,47,48,49] (.seq .leaf (.block (.loop [10] [(.int .i64)] [10,34,35,36,37,38,39,40,41,42,43,44,45,46,47,48,49] .leaf))) (.seq .leaf (.cut [] [] [6,55,56,57,58,59,60,61,62,63,64,65] .leaf (.seq .leaf (.seq (.seq .leaf (.block (.loop [13] [(.int .i64)] [6,13,14,15,68,69,70,71,72,73,74,75,76,77,78,79,80,81,82,83,84,85,86,87,88,89,90,91,92,93,94,95,96,97,98,99,100,101,102,103,104,105,106,107,108,109,110,111,112,113,114,115] (.cut [] [] [68,69,70,71,72,73,74,75] .leaf (.seq (.block (.seq .leaf (.cut [] [] [82,83,84,85,86,87,88,89,90,91,92,93,94,95] .leaf (.seq .leaf (.seq (.block .leaf) .leaf))))) .leaf))))) .leaf))))))))))
theorem call4 (c:Sl) (d:Int) (b:Sl) (K:Value→World→Prop) (w:World) (h:B4 c d b K w):Gets Tryz.prog 4 #[.slice c.a c.len c.cap,.int .i64 d,.slice b.a b.len b.cap] w K:=cq (sk:=sk4) Tryz.func4 (by kernel_rfl) (by kernel_rfl) (by kernel_rfl) h
end Go.Proofs.YtflgboncpbmikaaGreatDoor
/- Package queue: Encode. Condition: bounds. -/
namespace Go.Proofs.YtflgboncpbmikaaGreatDoor
set_option linter.unusedVariables false
set_option linter.unusedSimpArgs false
open Go Go.VC
open Classical
variable {R:Cx} {Hs Rest:List HP} {w:World}
theorem _root_.Go.VC.At.vals {S:World→Prop} {b:Nat} {vs:List Value} {T:TypeId} {fr:Nat × Nat} (hS:∀ w,S w→Sat R Hs w)
  [t:TakeP b Hs (.cells vs.toArray T fr) Rest] {i:Nat} (hi:i<vs.length):At S (Addr.add ⟨b,0,none⟩ i) [vs[i]]:=by
 rw [add_off]
 refine At.own hS ?_
 rw [Nat.zero_add,List.drop_eq_getElem_cons hi]
 exact ⟨rfl,trivial⟩
def wtN (x:Wt):List Nat:=[x.id.toNat,x.cls.toNat,x.many.toNat,x.time.toNat,keyF x.sc]
def numsN (l:List Nat):List Int:=(l.map numB).flatten
theorem wtB_N (x:Wt):wtB x=numsN (wtN x):=by
 simp [wtB,numsN,wtN,numsB,fltB]
theorem numsN_snoc {l:List Nat} {j:Nat} (hj:j<l.length):numsN (l.take (j + 1))=numsN (l.take j)++numB l[j]:=by
 unfold numsN
 rw [List.take_add_one,List.getElem?_eq_getElem hj,List.map_append,List.flatten_append]
 simp
theorem numsN_len {l:List Nat} (h:∀ x∈l,x<18446744073709551616):(numsN l).length≤9 * l.length:=flat_len fun x hx=>numB_len (h x hx)
theorem wtN_lt {x:Wt} (h:x.Ok) (hf:x.sc<18446744073709551616):∀ y∈wtN x,y<18446744073709551616:=by
 obtain ⟨h1,h2,h3,h4⟩:=h
 intro y hy
 simp only [wtN,List.mem_cons,List.not_mem_nil,or_false] at hy
 have:=key_lt hf
 omega
theorem flat_snoc {α β:Type} {f:α→List β} {l:List α} {j:Nat} (hj:j<l.length):((l.take (j + 1)).map f).flatten=((l.take j).map f).flatten++f l[j]:=by
 rw [List.take_add_one,List.getElem?_eq_getElem hj,List.map_append,List.flatten_append]
 simp
set_option maxHeartbeats 1000000 in
theorem qenc_spec {q:Nat} {l:List Wt} (hq:QOk l) (hw:Sat R (QuAt q l::Hs) w):
  Gets Tryz.prog 60 #[.pointer (some ⟨q,0,none⟩)] w fun v w'=>∃ t:Sl,v=.slice t.a t.len t.cap∧Sat R (Own t 5 (b8 (qB l))::QuAt q l::Hs) w':=by
 apply call60
 suffices H:∀ K:Value→World→Prop,(∀ (t:Sl) w',Sat R (Own t 5 (b8 (qB l))::QuAt q l::Hs) w'→K (.slice t.a t.len t.cap) w')→B60 (some ⟨q,0,none⟩) K w from H _ fun t w' h=>⟨t,rfl,h⟩
 intro K hK
 have hlen:=hq.len
 obtain ⟨s,hw⟩:=Sat.qu.1 hw
 have hsl:=OwnN.len hw.swap
 rw [List.length_map] at hsl
 refine NilP.mk rfl ⟨s,At.own (eqS hw) (by exact ⟨rfl,trivial⟩),?_⟩
 rw [wrapU64 (by omega) (by omega)]
 refine (number_spec (by omega) hw).use ?_
 clear hw
 rintro _ w ⟨t0,rfl,hw⟩
 refine ⟨t0,rfl,NilP.mk rfl ⟨s,At.own (eqS hw) (by exact ⟨rfl,trivial⟩),?_⟩⟩
 have e0:numB s.len=numsB [(l.length:Int)]:=by rw [hsl];simp [numsB]
 rw [e0] at hw
 refine ⟨fun t i w=>∃ k:Nat,i=k∧k≤l.length∧Sat R (Own t 5 (b8 (numsB [(l.length:Int)]++((l.take k).map wtB).flatten))::pts q (quCell s)::OwnN 5 s wtT (l.map wtV)::Hs) w,
  fun _ i _=>l.length - i.toNat,⟨0,rfl,by omega,by simpa using hw⟩,?_⟩
 clear hw
 rintro _ t _ w ⟨k,rfl,hk,hw⟩
 refine Br.d (fun h=>?_) (fun h=>?_)
 ·have hk2:k<l.length:=by omega
  have hx:=List.getElem_mem hk2
  have hok:=hq.ok _ hx
  have hfl:=hq.fl _ hx
  have hu:=wtN_lt hok hfl
  obtain ⟨h1,h2,h3,h4⟩:=id hok
  refine (OwnN.readsM (n:=5) (s:=s) (T:=wtT) (rows:=l.map wtV) hw (eqS hw)).rngM (E:=l) (g:=wtV) hk2 fun a _ he=>?_
  refine ⟨_,_,_,_,_,he.z (by exact ⟨rfl,rfl,rfl,rfl,rfl,trivial⟩),?_⟩
  refine new_rule hw fun b2 w hw=>?_
  refine store_rule hw (by kernel_rfl) rfl (by simp [Value.cells]) fun w hw=>?_
  have hw:=hw.re (wtC b2 l[k])
  refine drw_ruleT hw fun w hw=>?_
  refine ⟨l[k].id,At.own selfS (by exact ⟨rfl,trivial⟩),l[k].cls,At.own selfS (by exact ⟨rfl,trivial⟩),l[k].many,At.own selfS (by exact ⟨rfl,trivial⟩),l[k].time,At.own selfS (by exact ⟨rfl,trivial⟩),l[k].sc,At.own selfS (by exact ⟨rfl,trivial⟩),?_⟩
  refine (key_spec hfl hw).use ?_
  clear hw
  rintro _ w ⟨rfl,hw⟩
  refine ⟨_,rfl,hw,?_⟩
  rw [wrapU64 (x:=l[k].id) (by omega) (by omega),wrapU64 (x:=l[k].cls) (by omega) (by omega),wrapU64 (x:=l[k].many) (by omega) (by omega),wrapU64 (x:=l[k].time) (by omega) (by omega)]
  refine new_rule hw fun b5 w hw=>⟨hw.absorb,?_⟩
  obtain ⟨us,hus⟩:∃ us,us=wtN l[k]:=⟨_,rfl⟩
  have hul:us.length=5:=by rw [hus];rfl
  have hw:Sat R (pts b5 (.cells (us.map fun n=>Value.int .u64 (n:Nat)).toArray 76 (0,0))::wtC b2 l[k]::Own t 5 (b8 (numsB [(l.length:Int)]++((l.take k).map wtB).flatten))::pts q (quCell s)::OwnN 5 s wtT (l.map wtV)::Hs) w:=by
   have e:([.int .u64 l[k].id,.int .u64 l[k].cls,.int .u64 l[k].many,.int .u64 l[k].time,.int .u64 ((keyF l[k].sc:Nat):Int)]:List Value)=us.map fun n=>Value.int .u64 (n:Nat):=by
    subst hus
    simp only [wtN,List.map_cons,List.map_nil,Int.toNat_of_nonneg h2.1,Int.toNat_of_nonneg h4.1,Int.toNat_of_nonneg (show 0≤l[k].id by omega),Int.toNat_of_nonneg (show 0≤l[k].many by omega)]
   rw [←e]
   exact hw.cons fun _ h=>h.drop
  rw [←hus] at hu
  have hblen:=flat_len (l:=l.take k) (code:=wtB) (m:=45) fun w hw=>wtB_len (hq.ok w (List.mem_of_mem_take hw)) (hq.fl w (List.mem_of_mem_take hw))
  rw [List.length_take] at hblen
  have h0:=nums1_len (x:=(l.length:Int)) (by omega)
  obtain ⟨bs,hbs⟩:∃ bs,bs=numsB [(l.length:Int)]++((l.take k).map wtB).flatten:=⟨_,rfl⟩
  have hbl:bs.length≤10000:=by rw [hbs,List.length_append];omega
  rw [←hbs] at hw
  refine ⟨fun t i w=>∃ j:Nat,i=j∧j≤5∧Sat R (Own t 5 (b8 (bs++numsN (us.take j)))::pts b5 (.cells (us.map fun n=>Value.int .u64 (n:Nat)).toArray 76 (0,0))::wtC b2 l[k]::pts q (quCell s)::OwnN 5 s wtT (l.map wtV)::Hs) w,
   fun _ i _=>5 - i.toNat,⟨0,rfl,by omega,?_⟩,?_⟩
  ·have hw:Sat R (Own t 5 (b8 bs)::pts b5 (.cells (us.map fun n=>Value.int .u64 (n:Nat)).toArray 76 (0,0))::wtC b2 l[k]::pts q (quCell s)::OwnN 5 s wtT (l.map wtV)::Hs) w:=hw.arr
   simpa [numsN] using hw
  clear hw
  rintro _ t _ w ⟨j,rfl,hj,hw⟩
  refine Br.d (fun hj5=>?_) (fun hj5=>?_)
  ·have hj2:j<us.length:=by omega
   have hul2:=numsN_len (l:=us.take j) fun x hx=>hu x (List.mem_of_mem_take hx)
   rw [List.length_take] at hul2
   have huj:=hu _ (List.getElem_mem hj2)
   refine Rng.mk (by omega) (by omega) ⟨((us[j]:Nat):Int),?_,?_⟩
   ·have hjm:j<(us.map fun n=>Value.int .u64 (n:Nat)).length:=by rw [List.length_map];exact hj2
    have:=At.vals (b:=b5) (vs:=us.map fun n=>Value.int .u64 (n:Nat)) (eqS hw) hjm
    rw [List.getElem_map] at this
    exact this
   refine (number_spec huj hw).use ?_
   clear hw
   rintro _ w ⟨t1,rfl,hw⟩
   refine ⟨t1,rfl,?_⟩
   have hnb:=numB_len huj
   refine appendOO elB8 (s:=t) (n:=1099511627790) Tryz.underlying22 hw.swap (by rw [List.length_append];omega) (by omega) (by omega) fun s2 w hw=>?_
   have hw:=hw.cons fun _ h=>h.drop
   rw [wrap64 (x:=(j:Int) + 1) (by omega) (by omega)]
   refine ⟨⟨j + 1,by omega,by omega,?_⟩,by dsimp only;omega⟩
   rw [numsN_snoc hj2,←List.append_assoc]
   exact hw
  ·rw [List.take_of_length_le (by omega:us.length≤j),hus,←wtB_N,hbs,List.append_assoc,←flat_snoc hk2] at hw
   rw [wrap64 (x:=(k:Int) + 1) (by omega) (by omega)]
   exact ⟨⟨k + 1,by omega,by omega,hw.cons fun _ h=>h.drop.drop⟩,by dsimp only;omega⟩
 ·rw [List.take_of_length_le (by omega:l.length≤k)] at hw
  exact hK t w (hw.cons fun _ h=>Sat.qu.2 ⟨s,h⟩)
end Go.Proofs.YtflgboncpbmikaaGreatDoor
/- Package booking: Save. Condition: bounds. -/
namespace Go.Proofs.YtflgboncpbmikaaGreatDoor
set_option linter.unusedVariables false
set_option linter.unusedSimpArgs false
open Go Go.VC
open Classical
variable {R:Cx} {Hs Rest:List HP} {w:World}
theorem nn3s {a b c:Int} (h0:0≤a) (h1:0≤b) (h2:0≤c):numsB ([a,b,c].map nn)=numsB [a]++(numsB [b]++numsB [c]):=by
 show numsB [nn a,nn b,nn c]=_
 rw [nn_id h0,nn_id h1,nn_id h2,numsB_sp a,numsB_sp b]
theorem nn6s {a b c d e f:Int} (h0:0≤a) (h1:0≤b) (h2:0≤c) (h3:0≤d) (h4:0≤e) (h5:0≤f):numsB ([a,b,c,d,e,f].map nn)=numsB [a]++(numsB [b]++(numsB [c]++(numsB [d]++(numsB [e]++numsB [f])))):=by
 show numsB [nn a,nn b,nn c,nn d,nn e,nn f]=_
 rw [nn_id h0,nn_id h1,nn_id h2,nn_id h3,nn_id h4,nn_id h5,numsB_sp a,numsB_sp b,numsB_sp c,numsB_sp d,numsB_sp e]
theorem wtext_own {p:Nat} {s:Sl} {d bs:List Int} {T:TypeId} (hl:bs.length + d.length≤1099511627776) (hd:d.length≤1099511627776) (hw:Sat R (Own s T (b8 d)::WrB p bs::Hs) w):
  Gets Tryz.prog 58 #[.pointer (some ⟨p,0,none⟩),.slice s.a s.len s.cap] w fun v w'=>v=.tuple #[]∧Sat R (WrB p (bs++textB d)::Hs) w':=by
 obtain ⟨R1,e1,g1,hw⟩:=Own.leak hw
 refine (wtext_spec hl hd (g1.ro (by rw [List.length_map];omega)) hw).mono ?_
 rintro _ w ⟨rfl,hw⟩
 exact ⟨rfl,e1.back hw⟩
set_option maxHeartbeats 2000000 in
theorem bsave_spec {p:Nat} {b:Book} (k:Core b) (hw:Sat R (BookAt p b::Hs) w):
  Gets Tryz.prog 32 #[.pointer (some ⟨p,0,none⟩)] w fun v w'=>∃ t:Sl,v=.slice t.a t.len t.cap∧Sat R (Own t 5 (b8 (saveB b))::BookAt p b::Hs) w':=by
 apply call32
 suffices H:∀ K:Value→World→Prop,(∀ (t:Sl) w',Sat R (Own t 5 (b8 (saveB b))::BookAt p b::Hs) w'→K (.slice t.a t.len t.cap) w')→B32 (some ⟨p,0,none⟩) K w from H _ fun t w' h=>⟨t,rfl,h⟩
 intro K hK
 have k1:=k.now
 have k2:=k.next
 have k3:=k.few
 have k4:=k.many
 have a1:=nums1_len (x:=b.now) (by omega)
 have a2:=nums1_len (x:=b.next) (by omega)
 have a3:=nums1_len (x:=(b.fl.length:Int)) (by omega)
 have a4:=nums1_len (x:=(b.L.length:Int)) (by omega)
 have a5:∀ j,(((b.fl.take j).map plB).flatten).length≤304000:=fun j=>by
  have:=flat_len (l:=b.fl.take j) (code:=plB) (m:=38000) fun p hp=>plB_len (k.good p (List.mem_of_mem_take hp)) (k.qok p (List.mem_of_mem_take hp))
  rw [List.length_take] at this
  omega
 have a6:∀ j,(((b.L.take j).map bkB).flatten).length≤16200:=fun j=>by
  have:=flat_len (l:=b.L.take j) (code:=bkB) (m:=54) fun x hx=>bkB_len k2.2 (k.each x (List.mem_of_mem_take hx))
  rw [List.length_take] at this
  omega
 obtain ⟨m1,m2,fs,xs,hl,hw⟩:=Sat.book.1 hw
 have hfl:=fl_len hl
 have hbl:=bk_len hl
 refine new_rule hw fun pw w hw=>?_
 have hw:Sat R (WrB pw []::pts p (bookC b m1 m2)::MapAt m1 (fs.map flV)::MapAt m2 (xs.map bkV)::FlsAt fs::BksAt xs::Hs) w:=Sat.wrB.2 ⟨nilSl,(Own.nil hw).swap⟩
 have toS:∀ {A:List HP} {R:Cx} {w:World},Sat R (pts p (bookC b m1 m2)::MapAt m1 (fs.map flV)::A) w→Sat R [pts p (bookC b m1 m2),MapAt m1 (fs.map flV),VC.tru] w:=fun h=>h.cons fun _ h=>h.restTru2
 refine drw_rule' (Sat R [pts p (bookC b m1 m2),MapAt m1 (fs.map flV),VC.tru]) hw (fun w hw=>?_) fun w hw=>?_
 ·exact toS (hw.arr (Hs':=pts p (bookC b m1 m2)::MapAt m1 (fs.map flV)::WrB pw []::MapAt m2 (xs.map bkV)::FlsAt fs::BksAt xs::Hs))
 refine NilP.mk rfl ⟨b.now,At.own (fun _ h=>h) (by exact ⟨rfl,trivial⟩),NilP.mk rfl ⟨b.next,At.own (fun _ h=>h) (by exact ⟨rfl,trivial⟩),NilP.mk rfl ⟨some m1,At.own (fun _ h=>h) (by exact ⟨rfl,trivial⟩),((fs.map flV).length:Int),fun w' h=>MapAt.len (by kernel_rfl) h.swap,?_⟩⟩⟩
 rw [List.length_map,hfl]
 refine new_rule hw fun b26 w hw=>⟨?_,?_⟩
 ·exact toS (hw.arr (Hs':=pts p (bookC b m1 m2)::MapAt m1 (fs.map flV)::pts b26 (.cells #[.int .i64 b.now,.int .i64 b.next,.int .i64 (b.fl.length:Int)] 3 (0,0))::WrB pw []::MapAt m2 (xs.map bkV)::FlsAt fs::BksAt xs::Hs))
 refine (wlit_spec (xs:=[b.now,b.next,(b.fl.length:Int)]) rfl (by simp;omega) (by simp) hw).use ?_
 clear hw
 rintro _ w ⟨rfl,hw⟩
 refine ⟨rfl,?_,?_⟩
 ·exact toS (hw.arr (Hs':=pts p (bookC b m1 m2)::MapAt m1 (fs.map flV)::WrB pw ([]++numsB ([b.now,b.next,(b.fl.length:Int)].map nn))::MapAt m2 (xs.map bkV)::FlsAt fs::BksAt xs::Hs))
 rw [nn3s (by omega) (by omega) (by omega),List.nil_append] at hw
 obtain ⟨h0,hh0⟩:∃ h,h=numsB [b.now]++(numsB [b.next]++numsB [(b.fl.length:Int)]):=⟨_,rfl⟩
 have hl0:h0.length≤27:=by rw [hh0];simp only [List.length_append];omega
 rw [←hh0] at hw
 have hw:Sat R (pts p (bookC b m1 m2)::MapAt m1 (fs.map flV)::WrB pw h0::MapAt m2 (xs.map bkV)::FlsAt fs::BksAt xs::Hs) w:=hw.arr
 refine NilP.mk rfl ⟨some m1,At.own (eqS hw) (by exact ⟨rfl,trivial⟩),?_⟩
 refine sortF_rule k hl hw.swap ?_
 clear hw
 intro s w hw
 have hsl:=Own.len hw
 rw [List.length_map,List.length_map] at hsl
 obtain ⟨MF,hMF⟩:∃ M,M=fs.map flV:=⟨_,rfl⟩
 obtain ⟨MB,hMB⟩:∃ M,M=xs.map bkV:=⟨_,rfl⟩
 obtain ⟨nums,hnums⟩:∃ n,n=b.fl.map Pl.n:=⟨_,rfl⟩
 have hnl:nums.length=b.fl.length:=by rw [hnums,List.length_map]
 rw [←hMF,←hMB,←hnums] at hw
 have hw:Sat R (WrB pw h0::Own s 3 (intsI nums)::pts p (bookC b m1 m2)::MapAt m1 MF::MapAt m2 MB::FlsAt fs::BksAt xs::Hs) w:=hw.arr
 refine ⟨fun i w=>∃ j:Nat,i=j∧j≤b.fl.length∧Sat R (WrB pw (h0++((b.fl.take j).map plB).flatten)::Own s 3 (intsI nums)::pts p (bookC b m1 m2)::MapAt m1 MF::MapAt m2 MB::FlsAt fs::BksAt xs::Hs) w,
  fun i _=>b.fl.length - i.toNat,⟨0,rfl,by omega,by simpa using hw⟩,?_⟩
 clear hw
 rintro _ _ w ⟨j,rfl,hj,hw⟩
 have hla:=a5 j
 refine Br.d (fun h=>?_) (fun h=>?_)
 ·have hj2:j<b.fl.length:=by omega
  obtain ⟨pl,hpl⟩:∃ pl,pl=b.fl[j]:=⟨_,rfl⟩
  have hmem:pl∈b.fl:=by rw [hpl];exact List.getElem_mem _
  have hat:b.at pl.n=some pl:=(at_iff k).2 ⟨hmem,rfl⟩
  have hnj:nums[j]'(by omega)=pl.n:=by subst hnums;rw [List.getElem_map,hpl]
  have hg:=k.good pl hmem
  have hq:=k.qok pl hmem
  have e1:=renc_tight hg
  have e2:=qB_len hq
  have hw2:Sat R (Own s 3 (intsI nums)::WrB pw (h0++((b.fl.take j).map plB).flatten)::pts p (bookC b m1 m2)::MapAt m1 MF::MapAt m2 MB::FlsAt fs::BksAt xs::Hs) w:=hw.swap
  refine Own.ix hw2 (eqS hw2) j rfl (by omega) ?_
  rw [hnj]
  refine NilP.mk rfl ⟨some m1,At.own (eqS hw) (by exact ⟨rfl,trivial⟩),?_⟩
  obtain ⟨A,f,q,C,hfs,hm⟩:=fl_split hl k.nums hat
  have hgm:getM pl.n MF=some (.agg #[.pointer (some ⟨f,0,none⟩),.pointer (some ⟨q,0,none⟩)]):=by rw [hMF,hfs];exact fl_get hm
  refine ⟨some ⟨f,0,none⟩,some ⟨q,0,none⟩,fun w' e=>?_,?_⟩
  ·rw [show w'=w from e]
   have hm1:Sat R (MapAt m1 MF::WrB pw (h0++((b.fl.take j).map plB).flatten)::Own s 3 (intsI nums)::pts p (bookC b m1 m2)::MapAt m2 MB::FlsAt fs::BksAt xs::Hs) w:=hw.arr
   have:=MapAt.look pMap hm1 pl.n false
   rw [hgm] at this
   exact this
  clear hw2
  refine new_rule hw fun b6 w hw=>?_
  refine store_rule hw (by kernel_rfl) rfl (by simp [Value.cells]) fun w hw=>?_
  have hw:=hw.re (fqC b6 f q)
  rw [hfs] at hw
  have hw:Sat R (FlsAt (A++(f,q,pl)::C)::fqC b6 f q::WrB pw (h0++((b.fl.take j).map plB).flatten)::Own s 3 (intsI nums)::pts p (bookC b m1 m2)::MapAt m1 MF::MapAt m2 MB::BksAt xs::Hs) w:=hw.arr
  have hw:=fls_mid.1 hw
  refine ⟨some ⟨f,0,none⟩,At.own (eqS hw) (by exact ⟨rfl,trivial⟩),?_⟩
  refine (lone_encode hw).use ?_
  clear hw
  rintro _ w ⟨t1,rfl,hw⟩
  refine ⟨t1,rfl,?_⟩
  have hw:Sat R (Own t1 5 (b8 (rencB pl.r))::WrB pw (h0++((b.fl.take j).map plB).flatten)::QuAt q pl.q::LoneAt f pl.r::FlsAt (A++C)::fqC b6 f q::Own s 3 (intsI nums)::pts p (bookC b m1 m2)::MapAt m1 MF::MapAt m2 MB::BksAt xs::Hs) w:=hw.arr
  refine (wtext_own (by rw [List.length_append];omega) (by omega) hw).use ?_
  clear hw
  rintro _ w ⟨rfl,hw⟩
  refine ⟨rfl,some ⟨q,0,none⟩,At.own (eqS hw) (by exact ⟨rfl,trivial⟩),?_⟩
  refine (qenc_spec hq hw.swap).use ?_
  clear hw
  rintro _ w ⟨t2,rfl,hw⟩
  refine ⟨t2,rfl,?_⟩
  have e3:=textB_len (d:=rencB pl.r) (by omega)
  have hw:Sat R (Own t2 5 (b8 (qB pl.q))::WrB pw (h0++((b.fl.take j).map plB).flatten++textB (rencB pl.r))::QuAt q pl.q::LoneAt f pl.r::FlsAt (A++C)::fqC b6 f q::Own s 3 (intsI nums)::pts p (bookC b m1 m2)::MapAt m1 MF::MapAt m2 MB::BksAt xs::Hs) w:=hw.arr
  refine (wtext_own (by simp only [List.length_append];omega) (by omega) hw).use ?_
  clear hw
  rintro _ w ⟨rfl,hw⟩
  rw [wrap64 (x:=(j:Int) + 1) (by omega) (by omega)]
  refine ⟨rfl,⟨j + 1,by omega,by omega,?_⟩,by dsimp only;omega⟩
  have ebs:h0++((b.fl.take j).map plB).flatten++textB (rencB pl.r)++textB (qB pl.q)=h0++((b.fl.take (j + 1)).map plB).flatten:=by
   rw [flat_snoc hj2,←hpl]
   unfold plB
   simp only [List.append_assoc]
  rw [ebs] at hw
  have hw:Sat R (LoneAt f pl.r::QuAt q pl.q::FlsAt (A++C)::WrB pw (h0++((b.fl.take (j + 1)).map plB).flatten)::fqC b6 f q::Own s 3 (intsI nums)::pts p (bookC b m1 m2)::MapAt m1 MF::MapAt m2 MB::BksAt xs::Hs) w:=hw.arr
  have hw:=fls_mid.2 hw
  rw [←hfs] at hw
  have hw:Sat R (fqC b6 f q::WrB pw (h0++((b.fl.take (j + 1)).map plB).flatten)::Own s 3 (intsI nums)::pts p (bookC b m1 m2)::MapAt m1 MF::MapAt m2 MB::FlsAt fs::BksAt xs::Hs) w:=hw.arr
  exact hw.drop
 ·have hjf:j=b.fl.length:=by omega
  rw [hjf,List.take_length] at hw
  have a50:=a5 b.fl.length
  rw [List.take_length] at a50
  refine NilP.mk rfl ⟨some m2,At.own (eqS hw) (by exact ⟨rfl,trivial⟩),(MB.length:Int),fun w' e=>?_,?_⟩
  ·rw [show w'=w from e]
   have hm2:Sat R (MapAt m2 MB::WrB pw (h0++(b.fl.map plB).flatten)::Own s 3 (intsI nums)::pts p (bookC b m1 m2)::MapAt m1 MF::FlsAt fs::BksAt xs::Hs) w:=hw.arr
   exact MapAt.len (by kernel_rfl) hm2
  rw [show MB.length=b.L.length by rw [hMB,List.length_map,hbl]]
  refine new_rule hw fun b62 w hw=>?_
  refine (wlit_spec (xs:=[(b.L.length:Int)]) rfl (by simp;omega) (by simp only [List.length_append,List.length_cons,List.length_nil];omega) hw).use ?_
  clear hw
  rintro _ w ⟨rfl,hw⟩
  rw [nn1 (by omega)] at hw
  obtain ⟨h1,hh1⟩:∃ h,h=h0++(b.fl.map plB).flatten++numsB [(b.L.length:Int)]:=⟨_,rfl⟩
  have hl1:h1.length≤305000:=by rw [hh1];simp only [List.length_append];omega
  rw [←hh1] at hw
  refine ⟨rfl,NilP.mk rfl ⟨some m2,At.own (eqS hw) (by exact ⟨rfl,trivial⟩),?_⟩⟩
  have hw:Sat R (MapAt m2 MB::WrB pw h1::pts p (bookC b m1 m2)::MapAt m1 MF::FlsAt fs::BksAt xs::Own s 3 (intsI nums)::Hs) w:=hw.arr
  rw [hMB] at hw
  refine sortB_rule k hl hw ?_
  clear hw
  intro s2 w hw
  have hsl2:=Own.len hw
  rw [List.length_map,List.length_map] at hsl2
  obtain ⟨ids,hids⟩:∃ n,n=b.L.map Bk.id:=⟨_,rfl⟩
  have hil:ids.length=b.L.length:=by rw [hids,List.length_map]
  rw [←hMB,←hids] at hw
  have hw:Sat R (WrB pw h1::Own s2 3 (intsI ids)::pts p (bookC b m1 m2)::MapAt m1 MF::MapAt m2 MB::FlsAt fs::BksAt xs::Hs) w:=by
   have h:Sat R (Own s 3 (intsI nums)::WrB pw h1::Own s2 3 (intsI ids)::pts p (bookC b m1 m2)::MapAt m1 MF::MapAt m2 MB::FlsAt fs::BksAt xs::Hs) w:=hw.arr
   exact h.drop
  refine ⟨fun i w=>∃ j:Nat,i=j∧j≤b.L.length∧Sat R (WrB pw (h1++((b.L.take j).map bkB).flatten)::Own s2 3 (intsI ids)::pts p (bookC b m1 m2)::MapAt m1 MF::MapAt m2 MB::FlsAt fs::BksAt xs::Hs) w,
   fun i _=>b.L.length - i.toNat,⟨0,rfl,by omega,by simpa using hw⟩,?_⟩
  clear hw
  rintro _ _ w ⟨j,rfl,hj,hw⟩
  have hlb:=a6 j
  refine Br.d (fun h=>?_) (fun h=>?_)
  ·have hj2:j<b.L.length:=by omega
   obtain ⟨x,hx⟩:∃ x,x=b.L[j]:=⟨_,rfl⟩
   have hmem:x∈b.L:=by rw [hx];exact List.getElem_mem _
   have hnj:ids[j]'(by omega)=x.id:=by subst hids;rw [List.getElem_map,hx]
   obtain ⟨A,a,C,hxs,hm⟩:=bk_split hl k.ids hmem
   have hgm:getM x.id MB=some (.pointer (some ⟨a,0,none⟩)):=by rw [hMB,hxs];exact bk_get hm
   have ke:=k.each x hmem
   have x1:=ke.id
   have x2:=ke.flt
   have x3:=ke.cls
   have x4:=ke.many
   have x5:=ke.state
   have x6:=ke.till
   have hw2:Sat R (Own s2 3 (intsI ids)::WrB pw (h1++((b.L.take j).map bkB).flatten)::pts p (bookC b m1 m2)::MapAt m1 MF::MapAt m2 MB::FlsAt fs::BksAt xs::Hs) w:=hw.swap
   refine Own.ix hw2 (eqS hw2) j rfl (by omega) ?_
   rw [hnj]
   refine NilP.mk rfl ⟨some m2,At.own (eqS hw) (by exact ⟨rfl,trivial⟩),?_⟩
   refine ⟨some ⟨a,0,none⟩,fun w' e=>?_,?_⟩
   ·rw [show w'=w from e]
    have hm1:Sat R (MapAt m2 MB::WrB pw (h1++((b.L.take j).map bkB).flatten)::Own s2 3 (intsI ids)::pts p (bookC b m1 m2)::MapAt m1 MF::FlsAt fs::BksAt xs::Hs) w:=hw.arr
    have:=MapAt.look bMap hm1 x.id false
    rw [hgm] at this
    exact this
   clear hw2
   rw [hxs] at hw
   have hw:Sat R (BksAt (A++(a,x)::C)::WrB pw (h1++((b.L.take j).map bkB).flatten)::Own s2 3 (intsI ids)::pts p (bookC b m1 m2)::MapAt m1 MF::MapAt m2 MB::FlsAt fs::Hs) w:=hw.arr
   have hw:=bks_mid.1 hw
   have toS2:∀ {A:List HP} {R:Cx} {w:World},Sat R (pts a (bkObj x)::A) w→Sat R [pts a (bkObj x),VC.tru] w:=fun h=>h.restTru2
   refine drw_rule' (Sat R [pts a (bkObj x),VC.tru]) hw (fun w hw=>toS2 hw) fun w hw=>?_
   refine NilP.mk rfl ⟨x.flt,At.own (fun _ h=>h) (by exact ⟨rfl,trivial⟩),NilP.mk rfl ⟨x.cls,At.own (fun _ h=>h) (by exact ⟨rfl,trivial⟩),NilP.mk rfl ⟨x.many,At.own (fun _ h=>h) (by exact ⟨rfl,trivial⟩),NilP.mk rfl ⟨x.state,At.own (fun _ h=>h) (by exact ⟨rfl,trivial⟩),NilP.mk rfl ⟨x.till,At.own (fun _ h=>h) (by exact ⟨rfl,trivial⟩),?_⟩⟩⟩⟩⟩
   have hw:Sat R (WrB pw (h1++((b.L.take j).map bkB).flatten)::pts a (bkObj x)::BksAt (A++C)::Own s2 3 (intsI ids)::pts p (bookC b m1 m2)::MapAt m1 MF::MapAt m2 MB::FlsAt fs::Hs) w:=hw.arr
   refine new_rule hw fun b103 w hw=>?_
   refine (wlit_spec (xs:=[x.id,x.flt,x.cls,x.many,x.state,x.till]) rfl (by simp;omega) (by simp only [List.length_append,List.length_cons,List.length_nil];omega) hw).use ?_
   clear hw
   rintro _ w ⟨rfl,hw⟩
   rw [nn6s (by omega) (by omega) (by omega) (by omega) (by omega) (by omega)] at hw
   have ebs:h1++((b.L.take j).map bkB).flatten++(numsB [x.id]++(numsB [x.flt]++(numsB [x.cls]++(numsB [x.many]++(numsB [x.state]++numsB [x.till])))))=h1++((b.L.take (j + 1)).map bkB).flatten:=by
    rw [flat_snoc hj2,←hx,List.append_assoc]
    rfl
   rw [ebs] at hw
   rw [wrap64 (x:=(j:Int) + 1) (by omega) (by omega)]
   have hw:Sat R (pts a (bkObj x)::BksAt (A++C)::WrB pw (h1++((b.L.take (j + 1)).map bkB).flatten)::Own s2 3 (intsI ids)::pts p (bookC b m1 m2)::MapAt m1 MF::MapAt m2 MB::FlsAt fs::Hs) w:=hw.arr
   refine ⟨rfl,toS2 hw,⟨j + 1,by omega,by omega,?_⟩,by dsimp only;omega⟩
   have hw:=bks_mid.2 hw
   rw [←hxs] at hw
   exact hw.arr
  ·have hjf:j=b.L.length:=by omega
   rw [hjf,List.take_length] at hw
   obtain ⟨t,hw⟩:=Sat.wrB.1 hw
   refine ⟨t,At.own (eqS hw) (by exact ⟨rfl,trivial⟩),hK t w ?_⟩
   have e:h1++(b.L.map bkB).flatten=saveB b:=by
    rw [hh1,hh0]
    unfold saveB
    simp only [List.append_assoc]
   rw [e] at hw
   rw [hMF,hMB] at hw
   have hw:=hw.drop
   refine hw.cons fun _ h=>Sat.book.2 ⟨m1,m2,fs,xs,hl,h.drop⟩
end Go.Proofs.YtflgboncpbmikaaGreatDoor
/- Package session: Save. Condition: bounds. -/
namespace Go.Proofs.YtflgboncpbmikaaGreatDoor
set_option linter.unusedVariables false
set_option linter.unusedSimpArgs false
open Go Go.VC
open Classical
variable {R:Cx} {Hs Rest:List HP} {w:World}
def RiseT (t:Tb):Prop:=(t.cl.map Cl.id).Pairwise fun a b=>a<b
theorem RiseT.apply {t:Tb} (k:TbOk t) (h:RiseT t) (bs:List Int):RiseT (t.applyT bs).2:=by
 unfold Tb.applyT
 split
 ·exact h
 ·unfold Tb.askT
  split
  ·exact h
  ·split
   ·unfold Tb.beginT
    split
    ·exact h
    ·split
     ·exact h
     ·show ((t.cl++[_]).map Cl.id).Pairwise _
      rw [List.map_append,List.pairwise_append]
      refine ⟨h,by simp,fun x hx y hy=>?_⟩
      obtain ⟨c,hc,rfl⟩:=List.mem_map.1 hx
      have:=(k.each c hc).id.2
      simp only [List.map_cons,List.map_nil,List.mem_singleton] at hy
      omega
   ·split
    ·split
     ·exact h
     ·exact h
    ·split
     ·exact List.Pairwise.sublist (List.filter_sublist.map Cl.id) h
     ·unfold Tb.doT
      split
      ·exact h
      ·split
       ·exact h
       ·split
        ·show ((clPut _ t.cl).map Cl.id).Pairwise _
         rw [clPut_ids]
         exact h
        ·exact h
def clB (c:Cl):List Int:=numsB ([c.id,c.tok,c.last].map nn)++textB c.rep
def saveT (t:Tb):List Int:=numsB ([t.next,(t.cl.length:Int)].map nn)++(t.cl.map clB).flatten++textB (saveB t.bk)
theorem nnl {l:List Int} (h:∀ x∈l,x<9223372036854775808):(numsB (l.map nn)).length≤9 * l.length:=by
 have:=numsB_len (l:=l.map nn) fun y hy=>by
  obtain ⟨x,hx,rfl⟩:=List.mem_map.1 hy
  have:=nn_bd (h x hx)
  omega
 rwa [List.length_map] at this
theorem clB_len {n:Int} {c:Cl} (h:ClOk n c) (hn:n<1000000):(clB c).length≤66000:=by
 have h1:=h.id
 have h2:=h.tok
 have h3:=h.last
 have h4:=h.rep
 have l1:=nnl (l:=[c.id,c.tok,c.last]) fun x hx=>by
  simp only [List.mem_cons,List.not_mem_nil,or_false] at hx
  rcases hx with rfl|rfl|rfl<;>omega
 have l2:=textB_len (d:=c.rep) (by omega)
 simp only [List.length_cons,List.length_nil] at l1
 unfold clB
 rw [List.length_append]
 omega
theorem find_keyG {α:Type} {l:List α} {f:α→Int} (h:(l.map f).Nodup) {c:α} (hc:c∈l):l.find? (fun d=>f d==f c)=some c:=by
 induction l with
 |nil=>cases hc
 |cons x l ih=>
  rw [List.map_cons,List.nodup_cons] at h
  rw [List.find?_cons]
  rcases List.mem_cons.1 hc with h1|h1
  ·subst h1
   simp
  ·have:f x≠f c:=fun e=>h.1 (List.mem_map.2 ⟨c,h1,e.symm⟩)
   rw [show (f x==f c)=false by simpa using this]
   exact ih h.2 h1
theorem sortC_rule {m:Nat} {t:Tb} {E:List SE} {K:Sl→World→Prop} (k:TbOk t) (hr:RiseT t) (hn:t.next<1000000) (hE:E.map Prod.snd=t.cl) (hw:Sat R (MapAt m (E.map cliV)::Hs) w)
  (kk:∀ s w',Sat R (Own s 3 (intsI (t.cl.map Cl.id))::MapAt m (E.map cliV)::Hs) w'→K s w'):
  Calls Tryz.prog 31 #[.map (some m)] w fun e w1=>∃ t:Value,e=.returned t∧Calls Tryz.prog 30 #[t] w1 fun e w2=>∃ t:Sl,e=.returned (.slice t.a t.len t.cap)∧K t w2:=by
 have hk:(E.map cliV).map (·.1)=t.cl.map Cl.id:=by
  rw [←hE,List.map_map,List.map_map]
  rfl
 obtain ⟨l,c,hs,hst,hp⟩:=MapAt.iff.1 hw
 obtain ⟨D0,hown,hsz,hperm⟩:=keysI_map hs hst (by rw [hk];exact k.ids) (fun i hi=>by
  rw [hk] at hi
  obtain ⟨x,hx,rfl⟩:=List.mem_map.1 hi
  have:=(k.each x hx).id
  omega) (by have:=k.few;rw [←hE,List.length_map] at this;rw [List.length_map];omega) hp.at
 refine (callsIn_wide.1 (Tryz.maps_Keys_31 (some m) w)).mono ?_
 rintro _ _ ⟨rfl,rfl⟩
 refine ⟨_,rfl,?_⟩
 refine (callsIn_wide.1 (Tryz.slices_Sorted_keys_30_31 m _ D0 _ w hown (by unfold maxLen;omega) (by omega))).mono ?_
 rintro _ w' ⟨v,ss,rfl,hS,hrow,hnil,hb⟩
 have hw1:Sat R (MapAt m (E.map cliV)::Hs) (w.alloc (.cells #[.map (some m)] 57)):=(Sat.alloc _ hw).drop
 obtain ⟨s,rfl,h3⟩:=Sat.ownsRow hw1 hb hrow
 refine ⟨s,rfl,kk s _ ?_⟩
 have e:=sortI_eq (List.Perm.of_eq hk) hr
 rw [←sortI_perm (hperm ss hS)] at e
 rw [←e]
 exact h3
theorem cl_flat {j:Nat} {l:List Cl} (h:j<l.length):((l.take (j + 1)).map clB).flatten=((l.take j).map clB).flatten++clB l[j]:=by
 rw [List.take_add_one,List.getElem?_eq_getElem h,List.map_append,List.flatten_append]
 simp
theorem saveT_len {t:Tb} (k:TbOk t) (hn:t.next<1000000):(saveT t).length≤5000000:=by
 have knx:=k.nx
 have kfew:=k.few
 have a5:=flat_len (l:=t.cl) (code:=clB) (m:=66000) fun c hc=>clB_len (k.each c hc) hn
 have h2:=Nat.mul_le_mul_left 66000 kfew
 have l1:=nnl (l:=[t.next,(t.cl.length:Int)]) fun x hx=>by
  simp only [List.mem_cons,List.not_mem_nil,or_false] at hx
  rcases hx with rfl|rfl<;>omega
 have h3:=saveB_len k.bk.core
 have l5:=textB_len (d:=saveB t.bk) (by omega)
 simp only [List.length_cons,List.length_nil] at l1
 unfold saveT
 simp only [List.length_append]
 omega
set_option maxHeartbeats 2000000 in
theorem ssave_spec {p:Nat} {t:Tb} (k:TbOk t) (hr:RiseT t) (hn:t.next<1000000) (hw:Sat R (TbAt p t::Hs) w):
  Gets Tryz.prog 16 #[.pointer (some ⟨p,0,none⟩)] w fun v w'=>∃ s:Sl,v=.slice s.a s.len s.cap∧Sat R (Own s 5 (b8 (saveT t))::TbAt p t::Hs) w':=by
 apply call16
 suffices H:∀ K:Value→World→Prop,(∀ (s:Sl) w',Sat R (Own s 5 (b8 (saveT t))::TbAt p t::Hs) w'→K (.slice s.a s.len s.cap) w')→B16 (some ⟨p,0,none⟩) K w from H _ fun t w' h=>⟨t,rfl,h⟩
 intro K hK
 have knx:=k.nx
 have kfew:=k.few
 obtain ⟨m,bk,E,hE,hw⟩:=Sat.tb.1 hw
 have hlE:E.length=t.cl.length:=by rw [←hE,List.length_map]
 have hnE:(E.map fun e:SE=>e.2.id).Nodup:=by
  have:=k.ids
  rw [←hE,List.map_map] at this
  exact this
 have a5:∀ j,(((t.cl.take j).map clB).flatten).length≤66000 * 64:=fun j=>by
  have:=flat_len (l:=t.cl.take j) (code:=clB) (m:=66000) fun c hc=>clB_len (k.each c (List.mem_of_mem_take hc)) hn
  rw [List.length_take] at this
  have h2:min j t.cl.length≤64:=by omega
  have:=Nat.mul_le_mul_left 66000 h2
  omega
 have hw:Sat R (pts p (tblC bk t.next m)::MapAt m (E.map cliV)::Star (E.map cliAt)::BookAt bk t.bk::Hs) w:=hw
 have toS:∀ {A:List HP} {R:Cx} {w:World},Sat R (pts p (tblC bk t.next m)::MapAt m (E.map cliV)::A) w→Sat R [pts p (tblC bk t.next m),MapAt m (E.map cliV),VC.tru] w:=fun h=>h.cons fun _ h=>h.restTru2
 refine drw_rule' (Sat R [pts p (tblC bk t.next m),MapAt m (E.map cliV),VC.tru]) hw (fun w hw=>toS hw) fun w hw=>?_
 refine NilP.mk rfl ⟨t.next,At.own (fun _ h=>h) (by exact ⟨rfl,trivial⟩),NilP.mk rfl ⟨some m,At.own (fun _ h=>h) (by exact ⟨rfl,trivial⟩),((E.map cliV).length:Int),fun w' h=>MapAt.len (by kernel_rfl) h.swap,?_⟩⟩
 rw [List.length_map,hlE]
 refine new_rule hw fun b16 w hw=>⟨?_,?_⟩
 ·exact toS hw.drop
 refine (slit_spec (xs:=[t.next,(t.cl.length:Int)]) rfl (fun x hx=>by
  simp only [List.mem_cons,List.not_mem_nil,or_false] at hx
  rcases hx with rfl|rfl<;>omega) (by simp) hw).use ?_
 clear hw
 rintro _ w ⟨s1,rfl,hw⟩
 refine ⟨s1,rfl,toS hw.drop,?_⟩
 obtain ⟨h0,hh0⟩:∃ h,h=numsB ([t.next,(t.cl.length:Int)].map nn):=⟨_,rfl⟩
 have hl0:h0.length≤18:=by
  rw [hh0]
  exact nnl (l:=[t.next,(t.cl.length:Int)]) fun x hx=>by
   simp only [List.mem_cons,List.not_mem_nil,or_false] at hx
   rcases hx with rfl|rfl<;>omega
 have hsv:saveT t=h0++(t.cl.map clB).flatten++textB (saveB t.bk):=by rw [hh0];rfl
 rw [←hh0] at hw
 refine NilP.mk rfl ⟨some m,At.own (eqS hw) (by exact ⟨rfl,trivial⟩),?_⟩
 have hw:Sat R (MapAt m (E.map cliV)::Own s1 5 (b8 h0)::pts p (tblC bk t.next m)::Star (E.map cliAt)::BookAt bk t.bk::Hs) w:=hw.arr
 refine sortC_rule k hr hn hE hw ?_
 clear hw
 intro s w hw
 obtain ⟨MC,hMC⟩:∃ M,M=E.map cliV:=⟨_,rfl⟩
 obtain ⟨nums,hnums⟩:∃ n,n=t.cl.map Cl.id:=⟨_,rfl⟩
 have hnl:nums.length=t.cl.length:=by rw [hnums,List.length_map]
 rw [←hMC,←hnums] at hw
 have hsl:=Own.len hw
 rw [List.length_map] at hsl
 have hw:Sat R (Own s1 5 (b8 h0)::Own s 3 (intsI nums)::pts p (tblC bk t.next m)::MapAt m MC::Star (E.map cliAt)::BookAt bk t.bk::Hs) w:=hw.arr
 refine ⟨fun o i w=>∃ j:Nat,i=j∧j≤t.cl.length∧Sat R (Own o 5 (b8 (h0++((t.cl.take j).map clB).flatten))::Own s 3 (intsI nums)::pts p (tblC bk t.next m)::MapAt m MC::Star (E.map cliAt)::BookAt bk t.bk::Hs) w,
  fun _ i _=>t.cl.length - i.toNat,⟨0,rfl,by omega,by simpa using hw⟩,?_⟩
 clear hw
 rintro _ o _ w ⟨j,rfl,hj,hw⟩
 have hla:=a5 j
 refine Br.d (fun h=>?_) (fun h=>?_)
 ·have hj2:j<t.cl.length:=by omega
  have hjE:j<E.length:=by omega
  obtain ⟨e,he⟩:∃ e,e=E[j]:=⟨_,rfl⟩
  have hec:t.cl[j]=e.2:=by
   rw [he]
   have:t.cl[j]? =(E.map Prod.snd)[j]?:=by rw [hE]
   rw [List.getElem?_eq_getElem hj2,List.getElem?_eq_getElem (by rw [List.length_map];omega),List.getElem_map] at this
   exact Option.some.inj this
  have hem:e∈E:=by rw [he];exact List.getElem_mem _
  have hcm:e.2∈t.cl:=by rw [←hec];exact List.getElem_mem _
  have hnj:nums[j]'(by omega)=e.2.id:=by subst hnums;rw [List.getElem_map,hec]
  have hck:=k.each _ hcm
  have c1:=hck.id
  have c2:=hck.tok
  have c3:=hck.last
  have c4:=hck.rep
  obtain ⟨A,C,hAC⟩:=List.append_of_mem hem
  have hgm:getM e.2.id MC=some (.pointer (some ⟨e.1,0,none⟩)):=by
   rw [hMC,cl_get,find_keyG (f:=fun e:SE=>e.2.id) hnE hem]
   rfl
  have hw2:Sat R (Own s 3 (intsI nums)::Own o 5 (b8 (h0++((t.cl.take j).map clB).flatten))::pts p (tblC bk t.next m)::MapAt m MC::Star (E.map cliAt)::BookAt bk t.bk::Hs) w:=hw.swap
  refine Own.ix hw2 (eqS hw2) j rfl (by omega) ?_
  rw [hnj]
  refine NilP.mk rfl ⟨some m,At.own (eqS hw) (by exact ⟨rfl,trivial⟩),some ⟨e.1,0,none⟩,fun w' e2=>?_,?_⟩
  ·rw [show w'=w from e2]
   have hm1:Sat R (MapAt m MC::Own s 3 (intsI nums)::Own o 5 (b8 (h0++((t.cl.take j).map clB).flatten))::pts p (tblC bk t.next m)::Star (E.map cliAt)::BookAt bk t.bk::Hs) w:=hw.arr
   have:=MapAt.look cMap hm1 e.2.id false
   rw [hgm] at this
   exact this
  clear hw2
  obtain ⟨sr,hw⟩:∃ sr:Sl,Sat R (pts e.1 (cliObj e.2 sr)::Own sr 5 (b8 e.2.rep)::Star (A.map cliAt++C.map cliAt)::Own o 5 (b8 (h0++((t.cl.take j).map clB).flatten))::Own s 3 (intsI nums)::pts p (tblC bk t.next m)::MapAt m MC::BookAt bk t.bk::Hs) w:=by
   have h3:Sat R (Star (E.map cliAt)::Own o 5 (b8 (h0++((t.cl.take j).map clB).flatten))::Own s 3 (intsI nums)::pts p (tblC bk t.next m)::MapAt m MC::BookAt bk t.bk::Hs) w:=hw.arr
   rw [hAC] at h3
   exact cl_pick.1 h3
  refine drw_rule' (Sat R [pts e.1 (cliObj e.2 sr),VC.tru]) hw (fun w hw=>hw.restTru2) fun w hw=>?_
  refine NilP.mk rfl ⟨e.2.tok,by rw [add_off];exact At.own (fun _ h=>h) (by exact ⟨rfl,trivial⟩),NilP.mk rfl ⟨e.2.last,At.own (fun _ h=>h) (by exact ⟨rfl,trivial⟩),?_⟩⟩
  refine new_rule hw fun b45 w hw=>?_
  have hb3:∀ x∈[e.2.id,e.2.tok,e.2.last],x<9223372036854775808:=fun x hx=>by
   simp only [List.mem_cons,List.not_mem_nil,or_false] at hx
   rcases hx with rfl|rfl|rfl<;>omega
  refine (slit_spec (xs:=[e.2.id,e.2.tok,e.2.last]) rfl hb3 (by simp) hw).use ?_
  clear hw
  rintro _ w ⟨s2,rfl,hw⟩
  refine ⟨s2,rfl,hw.drop.restTru2,?_⟩
  have l3:=nnl hb3
  simp only [List.length_cons,List.length_nil] at l3
  have hw:Sat R (Own s2 5 (b8 (numsB ([e.2.id,e.2.tok,e.2.last].map nn)))::Own o 5 (b8 (h0++((t.cl.take j).map clB).flatten))::pts e.1 (cliObj e.2 sr)::Own sr 5 (b8 e.2.rep)::Star (A.map cliAt++C.map cliAt)::Own s 3 (intsI nums)::pts p (tblC bk t.next m)::MapAt m MC::BookAt bk t.bk::Hs) w:=hw.arr
  refine app8 (by rw [List.length_append];omega) hw fun o2 w hw=>?_
  have hw:Sat R (pts e.1 (cliObj e.2 sr)::Own sr 5 (b8 e.2.rep)::Own o2 5 (b8 (h0++((t.cl.take j).map clB).flatten++numsB ([e.2.id,e.2.tok,e.2.last].map nn)))::Star (A.map cliAt++C.map cliAt)::Own s 3 (intsI nums)::pts p (tblC bk t.next m)::MapAt m MC::BookAt bk t.bk::Hs) w:=hw.arr
  refine ⟨hw.restTru2,NilP.mk rfl ⟨sr,At.own (eqS hw) (by exact ⟨rfl,trivial⟩),?_⟩⟩
  obtain ⟨R2,r2,_,hw,back⟩:=Own.lend hw.swap (by rw [List.length_map];omega)
  refine (ftext_spec r2 (by omega) hw).use ?_
  clear hw
  rintro _ w ⟨s3,rfl,hw⟩
  have hw:=back hw
  have l4:=textB_len (d:=e.2.rep) (by omega)
  refine ⟨s3,rfl,?_⟩
  have hw:Sat R (Own s3 5 (b8 (textB e.2.rep))::Own o2 5 (b8 (h0++((t.cl.take j).map clB).flatten++numsB ([e.2.id,e.2.tok,e.2.last].map nn)))::pts e.1 (cliObj e.2 sr)::Own sr 5 (b8 e.2.rep)::Star (A.map cliAt++C.map cliAt)::Own s 3 (intsI nums)::pts p (tblC bk t.next m)::MapAt m MC::BookAt bk t.bk::Hs) w:=hw.arr
  refine app8 (by simp only [List.length_append];omega) hw fun o3 w hw=>?_
  rw [wrap64 (x:=(j:Int) + 1) (by omega) (by omega)]
  refine ⟨⟨j + 1,by omega,by omega,?_⟩,by dsimp only;omega⟩
  have ebs:h0++((t.cl.take j).map clB).flatten++numsB ([e.2.id,e.2.tok,e.2.last].map nn)++textB e.2.rep=h0++((t.cl.take (j + 1)).map clB).flatten:=by
   rw [cl_flat hj2,hec]
   unfold clB
   simp only [List.append_assoc]
  rw [ebs] at hw
  have hw:Sat R (pts e.1 (cliObj e.2 sr)::Own sr 5 (b8 e.2.rep)::Star (A.map cliAt++C.map cliAt)::Own o3 5 (b8 (h0++((t.cl.take (j + 1)).map clB).flatten))::Own s 3 (intsI nums)::pts p (tblC bk t.next m)::MapAt m MC::BookAt bk t.bk::Hs) w:=hw.arr
  have hw:=cl_pick.2 ⟨sr,hw⟩
  rw [←hAC] at hw
  exact hw.arr
 ·refine NilP.mk rfl ⟨some ⟨bk,0,none⟩,by rw [add_off];exact At.own (eqS hw) (by exact ⟨rfl,trivial⟩),?_⟩
  have hw:Sat R (BookAt bk t.bk::Own o 5 (b8 (h0++((t.cl.take j).map clB).flatten))::Own s 3 (intsI nums)::pts p (tblC bk t.next m)::MapAt m MC::Star (E.map cliAt)::Hs) w:=hw.arr
  refine (bsave_spec k.bk.core hw).use ?_
  clear hw
  rintro _ w ⟨s4,rfl,hw⟩
  have hsl4:=saveB_len k.bk.core
  refine ⟨s4,rfl,?_⟩
  obtain ⟨R2,r2,_,hw,back⟩:=Own.lend hw (by rw [List.length_map];omega)
  refine (ftext_spec r2 (by omega) hw).use ?_
  clear hw
  rintro _ w ⟨s5,rfl,hw⟩
  have hw:=(back hw).drop
  have l5:=textB_len (d:=saveB t.bk) (by omega)
  refine ⟨s5,rfl,?_⟩
  have hw:Sat R (Own s5 5 (b8 (textB (saveB t.bk)))::Own o 5 (b8 (h0++((t.cl.take j).map clB).flatten))::Own s 3 (intsI nums)::pts p (tblC bk t.next m)::MapAt m MC::Star (E.map cliAt)::BookAt bk t.bk::Hs) w:=hw.arr
  refine app8 (by rw [List.length_append];omega) hw fun o2 w hw=>?_
  rw [List.take_of_length_le (by omega),←hsv] at hw
  rw [hMC] at hw
  refine hK _ _ (hw.cons fun _ h=>Sat.tb.2 ⟨m,bk,E,hE,?_⟩)
  have h:=h.drop
  exact h
end Go.Proofs.YtflgboncpbmikaaGreatDoor
/- Chapter 19: SessionGone: behind its end each request of a client is refused, and changes nothing. Condition: bounds on lengths. -/
namespace Go.Proofs.YtflgboncpbmikaaGreatDoor
set_option linter.unusedVariables false
set_option linter.unusedSimpArgs false
open Go Go.VC
open Classical
variable {R:Cx} {Hs Rest:List HP} {w:World}
structure AsIn (R:Cx) (l:Sl) (al:List (Rq × Sl)):Prop where
 rows:RoN 5 R l (al.map fun e=>rqV e.1 e.2)
 each:∀ e∈al,SlR R.m e.2 (b8 e.1.cmd)
 by':∀ e∈al,Bytes e.1.cmd
theorem AsIn.len {s:Sl} {al:List (Rq × Sl)} (h:AsIn R s al):s.len=al.length:=by have:=h.rows.len;simpa using this
def endQ (id:Int):Rq:=⟨3,id,0,0,[]⟩
def doQ (id seq:Int) (cmd:List Int):Rq:=⟨2,id,seq,0,cmd⟩
theorem endQ_right {id:Int} (h:inI id):RightQ (endQ id):=⟨h,⟨Int.le_refl 0,by show (0:Int)≤1099511627776;omega⟩,⟨Int.le_refl 0,by show (0:Int)≤1099511627776;omega⟩,by show 0≤4000;omega,.inr (.inr (.inl ⟨rfl,rfl,rfl,rfl⟩))⟩
theorem doQ_right {id seq:Int} {cmd:List Int} (h:inI id) (h2:inI seq) (h3:cmd.length≤4000):RightQ (doQ id seq cmd):=⟨h,h2,⟨Int.le_refl 0,by show (0:Int)≤1099511627776;omega⟩,h3,.inr (.inl ⟨rfl,rfl⟩)⟩
structure Gone (t:Tb) (c:Int):Prop where
 no:t.cl.find? (fun d=>d.id==c)=none
 lo:1≤c
 hi:c<t.next
theorem end_gone {t:Tb} {c:Int} (k:TbOk t) (hc:inI c) (h1:1≤c):
  ((t.applyT (rqB (endQ c))).1.code=2)∨(((t.applyT (rqB (endQ c))).1.code=0∨(t.applyT (rqB (endQ c))).1.code=10)∧Gone (t.applyT (rqB (endQ c))).2 c):=by
 have e:t.applyT (rqB (endQ c))=t.askT (endQ c):=by
  unfold Tb.applyT
  rw [rqDec_back (endQ_right hc),if_neg (by simp)]
 rw [e]
 unfold Tb.askT
 rw [if_neg (by show ¬ (3:Int)=4;omega),if_neg (by show ¬ (3:Int)=1;omega)]
 show _∨_
 cases hf:t.cl.find? (fun d=>d.id==(endQ c).client) with
 |none=>
  dsimp only
  by_cases h2:1≤(endQ c).client∧(endQ c).client<t.next
  ·rw [if_pos h2]
   exact .inr ⟨.inr rfl,hf,h2.1,h2.2⟩
  ·rw [if_neg h2]
   exact .inl rfl
 |some d=>
  dsimp only
  rw [if_pos (show (endQ c).kind=3 from rfl)]
  obtain ⟨hm,hid⟩:=find_mem hf
  have hid:d.id=c:=beq_iff_eq.1 hid
  have:=(k.each d hm).id
  refine .inr ⟨.inl rfl,List.find?_eq_none.2 fun x hx h=>?_,h1,by show c<t.next;omega⟩
  have h3:=(List.mem_filter.1 hx).2
  have:x.id=c:=beq_iff_eq.1 h
  rw [this] at h3
  simp [endQ] at h3
theorem do_gone {t:Tb} {c seq:Int} {cmd:List Int} (g:Gone t c) (hc:inI c) (hs:inI seq) (hl:cmd.length≤4000):t.applyT (rqB (doQ c seq cmd))=(refT 10,t):=by
 unfold Tb.applyT
 rw [rqDec_back (doQ_right hc hs hl),if_neg (by simp)]
 show t.askT (doQ c seq cmd)=_
 unfold Tb.askT
 rw [if_neg (by show ¬ (2:Int)=4;omega),if_neg (by show ¬ (2:Int)=1;omega)]
 have h:t.cl.find? (fun d=>d.id==(doQ c seq cmd).client)=none:=g.no
 rw [h]
 dsimp only
 rw [if_pos (show 1≤(doQ c seq cmd).client∧(doQ c seq cmd).client<t.next from ⟨g.lo,g.hi⟩)]
set_option maxHeartbeats 2000000 in
theorem sgone_lspec {s l:Sl} {ps:List (Sl × List Int)} {al:List (Rq × Sl)} {c:Int} (hp:BsIn R s ps) (ha:AsIn R l al) (hw:Sat R Hs w):
  Gets Tryz.prog 4 #[.slice s.a s.len s.cap,.int .i64 c,.slice l.a l.len l.cap] w fun v w'=>v=.bool true∧Sat R Hs w':=by
 have hsl:=hp.len
 have hal:=ha.len
 apply call4
 suffices H:∀ K:Value→World→Prop,(∀ w',Sat R Hs w'→K (.bool true) w')→B4 s c l K w from H _ fun w' h=>⟨rfl,h⟩
 intro K hK
 refine (aw19_spec hw).use ?_
 clear hw
 rintro _ w ⟨rfl,hw⟩
 refine ⟨_,rfl,?_⟩
 refine (much19_spec hp hw).use ?_
 clear hw
 rintro _ w ⟨mb,rfl,hm,hw⟩
 refine ⟨_,rfl,fun w=>(mb=false∧1≤c∧c≤549755813888)∧Sat R Hs w,Br.f rfl (Br.mk (fun _=>hK _ hw) (fun h=>?_)),?_⟩
 ·with_reducible refine Br.d (fun _=>hK _ hw) (fun h1=>?_)
  with_reducible refine Br.d (fun _=>hK _ hw) (fun h2=>?_)
  exact ⟨⟨h,by omega,by omega⟩,hw⟩
 clear hw
 rintro _ w ⟨⟨h0,h1,h2⟩,hw⟩
 have hm:=hm h0
 have hci:inI c:=⟨by omega,by omega⟩
 refine (snew_spec hw).use ?_
 clear hw
 rintro _ w ⟨p,rfl,hw⟩
 refine ⟨_,rfl,fun w=>∃ t,TbOk t∧RiseT t∧t.next≤61∧Sat R (TbAt p t::Hs) w,?_,?_⟩
 ·refine ⟨fun i w=>∃ (k:Nat) (t:Tb),i=k∧k≤60∧TbOk t∧RiseT t∧t.next≤k + 1∧Sat R (TbAt p t::Hs) w,fun i _=>60 - i.toNat,⟨0,_,rfl,by omega,newT_ok,List.Pairwise.nil,Int.le_refl _,hw⟩,?_⟩
  clear hw
  rintro _ _ w ⟨k,t,rfl,hk,ok,hr,hn,hw⟩
  with_reducible refine Br.d (fun h=>?_) (fun h=>?_)
  case refine_2=>exact ⟨t,ok,hr,by omega,hw⟩
  with_reducible refine Br.d (fun h3=>?_) (fun h3=>?_)
  case refine_2=>exact ⟨t,ok,hr,by omega,hw⟩
  rw [wrap64 (x:=(k:Int) + 1) (by omega) (by omega)]
  have hkp:k<ps.length:=by omega
  have hkl:k<(sls ps).length:=by rw [List.length_map];omega
  refine hp.rows.idxS (eqS hw) hkl ?_
  rw [List.getElem_map]
  have hmem:=List.getElem_mem hkp
  have hsd:=hp.each _ hmem
  have hby:=hp.by' _ hmem
  have hlen:=hm k hkp (by omega)
  generalize ps[k]=e at *
  refine (sapply_spec ok (by omega) hby (by omega) (hsd.ro (by rw [List.length_map];omega)) hw).use ?_
  clear hw
  rintro _ w ⟨x,rfl,hw⟩
  obtain ⟨ok2,_,hn2,_⟩:=ok.apply (by omega) hby (fun q hq=>by rw [←hq];exact rq_bytes hby)
  have hr2:=hr.apply ok e.2
  refine ⟨_,_,_,x,rfl,⟨k + 1,_,by omega,by omega,ok2,hr2,by omega,hw.drop⟩,by dsimp only;omega⟩
 clear hw
 rintro _ w ⟨t,ok,hr,hn,hw⟩
 have hrq:=endQ_right hci
 refine (encoded_spec (q:=endQ c) (s:=nilS) ⟨rfl,by show 0≤9223372036854775807;omega,fun h=>absurd rfl h⟩ hw).use ?_
 clear hw
 rintro _ w ⟨u,rfl,hw⟩
 have he:(encQ (endQ c)).1=rqB (endQ c):=by unfold encQ;rw [if_pos hrq]
 rw [he] at hw
 have hlen:=rqB_len hrq
 obtain ⟨R1,e1,g1,hw⟩:=Own.leak hw
 refine ⟨u,rfl,?_⟩
 have hbe:Bytes (rqB (endQ c)):=rqB_bytes hrq (fun _ h=>by cases h)
 refine (sapply_spec ok (by omega) hbe (by omega) (g1.ro (by rw [List.length_map];omega)) hw).use ?_
 clear hw
 rintro _ w ⟨x,rfl,hw⟩
 have hw:=e1.back hw
 obtain ⟨ok2,_,hn2,_⟩:=ok.apply (by omega) hbe (fun q hq=>by rw [←hq];exact rq_bytes hbe)
 have hr2:=hr.apply ok (rqB (endQ c))
 have hg:=end_gone ok hci h1
 generalize (t.applyT (rqB (endQ c))).1=τ at *
 generalize (t.applyT (rqB (endQ c))).2=t' at *
 have hn3:t'.next≤62:=by omega
 clear hr hn ok
 refine ⟨τ.code,τ.client,τ.seq,x,rfl,?_⟩
 refine new_rule hw fun b11 w hw=>?_
 refine store_rule hw (by kernel_rfl) rfl (by simp [Value.cells]) fun w hw=>?_
 have hw:=hw.re (tdC b11 τ x)
 have hw:Sat R (tdC b11 τ x::Own x 5 (b8 τ.reply)::TbAt p t'::Hs) w:=hw.arr
 refine ⟨fun w=>Gone t' c∧Sat R (TbAt p t'::Hs) w,?_,?_⟩
 ·refine ⟨τ.code,At.own (eqS hw) (by exact ⟨rfl,trivial⟩),Br.ne (fun h3=>?_) (fun h3=>?_)⟩
  ·refine ⟨τ.code,At.own (eqS hw) (by exact ⟨rfl,trivial⟩),Br.ne (fun h4=>?_) (fun h4=>?_)⟩
   ·refine ⟨τ.code,At.own (eqS hw) (by exact ⟨rfl,trivial⟩),?_⟩
    have:τ.code=2:=by
     rcases hg with h|⟨h|h,_⟩
     ·exact h
     ·exact absurd h h3
     ·exact absurd h h4
    rw [this]
    exact hK _ hw.drop.drop.drop
   ·rcases hg with h|⟨_,h⟩
    ·omega
    ·exact ⟨h,hw.drop.drop⟩
  ·rcases hg with h|⟨_,h⟩
   ·omega
   ·exact ⟨h,hw.drop.drop⟩
 clear hw
 rintro _ w ⟨g,hw⟩
 refine (ssave_spec ok2 hr2 (by omega) hw).use ?_
 clear hw
 rintro _ w ⟨sv,rfl,hw⟩
 have hsvl:=saveT_len ok2 (by omega)
 obtain ⟨SV,hSV⟩:∃ x,x=saveT t':=⟨_,rfl⟩
 rw [←hSV] at hw hsvl
 refine ⟨sv,rfl,?_⟩
 refine ⟨fun i w=>∃ (k:Nat),i=k∧k≤60∧Sat R (Own sv 5 (b8 SV)::TbAt p t'::Hs) w,fun i _=>60 - i.toNat,⟨0,rfl,by omega,hw⟩,?_⟩
 clear hw
 rintro _ _ w ⟨k,rfl,hk,hw⟩
 refine ⟨fun w=>(k<60∧k<al.length)∧Sat R (Own sv 5 (b8 SV)::TbAt p t'::Hs) w,?_,?_⟩
 ·with_reducible refine Br.d (fun h=>?_) (fun _=>hK _ hw.drop.drop)
  with_reducible refine Br.d (fun h2=>?_) (fun _=>hK _ hw.drop.drop)
  exact ⟨⟨by omega,by omega⟩,hw⟩
 clear hw
 rintro _ w ⟨⟨hk2,hkl⟩,hw⟩
 rw [wrap64 (x:=(k:Int) + 1) (by omega) (by omega)]
 have hS:=ha.rows.reads (eqS hw)
 refine hS.rngM hkl fun a _ el=>⟨al[k].1.kind,al[k].1.client,al[k].1.seq,al[k].1.token,al[k].2,el.z (by exact ⟨rfl,rfl,rfl,rfl,rfl,trivial⟩),?_⟩
 clear hS
 have hmem:=List.getElem_mem hkl
 have hsd:=ha.each _ hmem
 have hby:=ha.by' _ hmem
 generalize al[k].1=q at *
 generalize al[k].2=sq at *
 have hsq:sq.len=q.cmd.length:=by have:=hsd.len;simpa using this
 refine new_rule hw fun b14 w hw=>?_
 refine store_rule hw (by kernel_rfl) rfl (by simp [Value.cells]) fun w hw=>?_
 have hw:=hw.re (rqC b14 q sq)
 have next:∀ {w:World},Sat R (Own sv 5 (b8 SV)::TbAt p t'::Hs) w→(∃ (k2:Nat),((k:Int) + 1)=k2∧k2≤60∧Sat R (Own sv 5 (b8 SV)::TbAt p t'::Hs) w)∧60 - ((k:Int) + 1).toNat<60 - (k:Int).toNat:=fun hw=>⟨⟨k + 1,by omega,by omega,hw⟩,by omega⟩
 refine ⟨fun w=>(q.cmd.length≤4000∧inI q.seq)∧Sat R (rqC b14 q sq::Own sv 5 (b8 SV)::TbAt p t'::Hs) w,?_,?_⟩
 ·refine ⟨sq,At.own (eqS hw) (by exact ⟨rfl,trivial⟩),?_⟩
  with_reducible refine Br.d (fun h=>?_) (fun h3=>?_)
  ·exact next hw.drop
  refine ⟨q.seq,At.own (eqS hw) (by exact ⟨rfl,trivial⟩),?_⟩
  with_reducible refine Br.d (fun h=>?_) (fun h4=>?_)
  ·exact next hw.drop
  refine ⟨q.seq,At.own (eqS hw) (by exact ⟨rfl,trivial⟩),?_⟩
  with_reducible refine Br.d (fun h=>?_) (fun h5=>?_)
  ·exact next hw.drop
  exact ⟨⟨by omega,by omega,by omega⟩,hw⟩
 clear hw
 rintro _ w ⟨⟨h3,h4⟩,hw⟩
 have hrd:=doQ_right hci h4 h3
 refine ⟨q.seq,At.own (eqS hw) (by exact ⟨rfl,trivial⟩),sq,At.own (eqS hw) (by exact ⟨rfl,trivial⟩),?_⟩
 refine (encoded_spec (q:=doQ c q.seq q.cmd) (s:=sq) (hsd.ro (by show (b8 q.cmd).length≤_;rw [List.length_map];omega)) hw).use ?_
 clear hw
 rintro _ w ⟨u2,rfl,hw⟩
 have he:(encQ (doQ c q.seq q.cmd)).1=rqB (doQ c q.seq q.cmd):=by unfold encQ;rw [if_pos hrd]
 rw [he] at hw
 have hlen2:=rqB_len hrd
 have hw:Sat R (Own u2 5 (b8 (rqB (doQ c q.seq q.cmd)))::TbAt p t'::rqC b14 q sq::Own sv 5 (b8 SV)::Hs) w:=hw.arr
 obtain ⟨R2,e2,g2,hw⟩:=Own.leak hw
 refine ⟨u2,rfl,?_⟩
 refine (sapply_spec ok2 (by omega) (rqB_bytes hrd hby) (by omega) (g2.ro (by rw [List.length_map];omega)) hw).use ?_
 clear hw
 rintro _ w ⟨x2,rfl,hw⟩
 rw [do_gone g hci h4 h3] at hw ⊢
 dsimp only at hw ⊢
 have hw:=e2.back hw
 refine ⟨10,0,0,x2,rfl,?_⟩
 refine new_rule hw fun b15 w hw=>?_
 refine store_rule hw (by kernel_rfl) rfl (by simp [Value.cells]) fun w hw=>?_
 have hw:=hw.re (tdC b15 (refT 10) x2)
 have hw:Sat R (Own sv 5 (b8 SV)::tdC b15 (refT 10) x2::TbAt p t'::Hs) w:=by
  have hw:Sat R (Own sv 5 (b8 SV)::tdC b15 (refT 10) x2::TbAt p t'::Own x2 5 (b8 (refT 10).reply)::rqC b14 q sq::Hs) w:=hw.arr
  exact hw.cons fun _ h=>h.cons fun _ h=>h.cons fun _ h=>h.drop.drop
 refine drw_rule' (Sat R [Own sv 5 (b8 SV),VC.tru]) hw (fun w hw=>hw.restTru2) fun w hw=>?_
 refine ⟨10,At.own (eqS hw) (by exact ⟨rfl,trivial⟩),Br.ne (fun h=>absurd rfl h) (fun _=>?_)⟩
 refine ⟨VC.strOf SV,fun w' h=>?_,?_⟩
 ·obtain ⟨_,q1,_,hw1,_⟩:=Own.lend h (by rw [List.length_map];omega)
  exact convS_ro Tryz.underlying22 Tryz.underlying5 Tryz.underlying9 hw1 q1
 have hw:Sat R (TbAt p t'::Own sv 5 (b8 SV)::tdC b15 (refT 10) x2::Hs) w:=hw.arr
 refine (ssave_spec ok2 hr2 (by omega) hw).use ?_
 clear hw
 rintro _ w ⟨s5,rfl,hw⟩
 rw [←hSV] at hw
 have hw:Sat R (Own sv 5 (b8 SV)::Own s5 5 (b8 SV)::TbAt p t'::tdC b15 (refT 10) x2::Hs) w:=hw.arr
 refine ⟨s5,rfl,hw.restTru2,VC.strOf SV,fun w' e=>?_,?_⟩
 ·rw [show w'=w from e]
  obtain ⟨_,q1,_,hw1,_⟩:=Own.lend hw.swap (by rw [List.length_map];omega)
  exact convS_ro Tryz.underlying22 Tryz.underlying5 Tryz.underlying9 hw1 q1
 refine Br.sne (fun h=>absurd rfl h) (fun _=>next (hw.cons fun _ h=>h.drop.cons fun _ h=>h.drop))
end Go.Proofs.YtflgboncpbmikaaGreatDoor
/- The arguments of SessionGone. No condition. -/
namespace Go.Proofs.YtflgboncpbmikaaGreatDoor
set_option linter.unusedVariables false
set_option linter.unusedSimpArgs false
open Go Go.VC Go.ChangeShapes Go.WideShapes Go.ChangeAt Go.RowKit
variable {H:Type} {enc:TypeId × Value→H} {W:World} {r:Reach} {b0:Nat} {v:Value} {d:DataW H} {p:List MemPlace}
set_option maxRecDepth 100000 in
theorem asks_in (hv:Value.okWide Tryz.prog W r b0 44 v) (h:DataW.Trod enc Tryz.prog W 0 (fun _=>true) true 44 v d p):
  ∃ (s:Sl) (al:List (Rq × Sl)),v=.slice s.a s.len s.cap∧AsIn (Cx.of W) s al:=by
 obtain ⟨a,n,c,rfl⟩:=okWide_slice Tryz.underlying44 hv
 obtain ⟨x,hx,ho⟩:=tr_arg (d:=8) (u:=.sl askU) (by kernel_rfl) h
 cases x<;>simp only [Tr.Ok] at ho
 rename_i s xs
 obtain ⟨al,h1,h2,h3⟩:=sl_form (fun e:Rq × Sl=>rqV e.1 e.2) (fun e=>SlR (Cx.of W).m e.2 (b8 e.1.cmd)∧Bytes e.1.cmd) (show Tr.Ok (Cx.of W) (.sl askU) (.sl s xs) by unfold Tr.Ok;exact ho) fun x hx=>ask_form hx
 refine ⟨s,al,?_,⟨h1,fun e he=>(h3 e he).1,fun e he=>(h3 e he).2⟩⟩
 have:[Value.slice s.a s.len s.cap]=[Value.slice a n c]:=by simpa [Tr.cells,Value.cells] using hx
 exact (List.cons.inj this).1.symm
end Go.Proofs.YtflgboncpbmikaaGreatDoor
