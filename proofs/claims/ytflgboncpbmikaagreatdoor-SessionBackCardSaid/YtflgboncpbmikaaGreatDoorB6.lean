/- Package booking: something is done with one booking. Condition: bounds. -/
import Derived.Test.YtflgboncpbmikaaGreatDoorB5
import Derived.Test.YtflgboncpbmikaaGreatDoorB3
import Derived.SizedLaws
import Derived.Test.YtflgboncpbmikaaGreatDoorB4
namespace Go.Proofs.YtflgboncpbmikaaGreatDoor
set_option linter.unusedVariables false
set_option linter.unusedSimpArgs false
open Go Go.VC
open Classical
variable {R:Cx} {Hs Rest:List HP} {w:World}
theorem open_close {p m1 m2 f q a:Nat} {b:Book} {A C:List FE} {A2 C2:List BE} {pl:Pl} {x:Bk} (hl:BookL b (A++(f,q,pl)::C) (A2++(a,x)::C2)) {MF MB:List (Int × Value)} (hF:MF=(A++(f,q,pl)::C).map flV) (hB:MB=(A2++(a,x)::C2).map bkV)
  (hw:Sat R (LoneAt f pl.r::QuAt q pl.q::pts a (bkObj x)::pts p (bookC b m1 m2)::MapAt m1 MF::MapAt m2 MB::FlsAt (A++C)::BksAt (A2++C2)::Hs) w):Sat R (BookAt p b::Hs) w:=by
 have hw:Sat R (pts a (bkObj x)::BksAt (A2++C2)::LoneAt f pl.r::QuAt q pl.q::pts p (bookC b m1 m2)::MapAt m1 MF::MapAt m2 MB::FlsAt (A++C)::Hs) w:=hw.arr
 have hw:=bks_mid.2 hw
 have hw:Sat R (LoneAt f pl.r::QuAt q pl.q::pts p (bookC b m1 m2)::MapAt m1 MF::MapAt m2 MB::FlsAt (A++C)::BksAt (A2++(a,x)::C2)::Hs) w:=hw.arr
 exact book_close hl hF hB hw
theorem tell_tail {p m1 m2 f q a b6:Nat} {b:Book} {A C:List FE} {A2 C2:List BE} {pl:Pl} {x:Bk} {X:List PanicEntry→World→Prop} {K:Value→World→Prop} (hl:BookL b (A++(f,q,pl)::C) (A2++(a,x)::C2)) {MF MB:List (Int × Value)} (hF:MF=(A++(f,q,pl)::C).map flV) (hB:MB=(A2++(a,x)::C2).map bkV)
  (hid:0≤x.id∧x.id<28629151) (hm:FlMid A C x.flt pl)
  (hK:∀ sl sb w',Sat R (Own sl 3 (intsI (rleftsF pl.r))::Own sb 9 ((rlabelsF pl.r x.id).map Value.string)::BookAt p b::Hs) w'→K (.agg (rpV (tellP pl x) sl sb).toArray) w')
  (hw:Sat R (LoneAt f pl.r::QuAt q pl.q::pts a (bkObj x)::pts p (bookC b m1 m2)::MapAt m1 MF::MapAt m2 MB::FlsAt (A++C)::BksAt (A2++C2)::rpNew b6::Hs) w):
  Calls Tryz.prog 82 #[.pointer (some ⟨p,0,none⟩),.pointer (some ⟨a,0,none⟩)] w fun e w_9=>
   (∃ t0:Int,∃ t1:ByteArray,∃ t2:Int,∃ t3:Int,∃ t4:Int,∃ t5:Int,∃ t6:Int,∃ t7:Sl,∃ t8:Sl,(e=.returned (.agg #[.int .i64 t0,.string t1,.int .i64 t2,.int .i64 t3,.int .i64 t4,.int .i64 t5,.int .i64 t6,.slice t7.a t7.len t7.cap,.slice t8.a t8.len t8.cap]))∧
    ∃ w_10:World,((Instr.storeAt 102 (.pointer ((some ⟨b6,0,none⟩))) (.agg #[.int .i64 t0,.string t1,.int .i64 t2,.int .i64 t3,.int .i64 t4,.int .i64 t5,.int .i64 t6,.slice t7.a t7.len t7.cap,.slice t8.a t8.len t8.cap])).run Tryz.prog w_9=.ok () w_10)∧
    ∃ u0:Int,∃ u1:ByteArray,∃ u2:Int,∃ u3:Int,∃ u4:Int,∃ u5:Int,∃ u6:Int,∃ u7:Sl,∃ u8:Sl,(At (fun w'=>w'=w_10) ⟨b6,0,none⟩ [.int .i64 u0,.string u1,.int .i64 u2,.int .i64 u3,.int .i64 u4,.int .i64 u5,.int .i64 u6,.slice u7.a u7.len u7.cap,.slice u8.a u8.len u8.cap])∧
    K (.agg #[.int .i64 u0,.string u1,.int .i64 u2,.int .i64 u3,.int .i64 u4,.int .i64 u5,.int .i64 u6,.slice u7.a u7.len u7.cap,.slice u8.a u8.len u8.cap]) w_10)∨
   (∃ ch:List PanicEntry,(e=.panicked ch)∧X ch w_9):=by
 subst hF hB
 have hw:Sat R (pts p (bookC b m1 m2)::MapAt m1 ((A++(f,q,pl)::C).map flV)::pts a (bkObj x)::LoneAt f pl.r::QuAt q pl.q::MapAt m2 ((A2++(a,x)::C2).map bkV)::FlsAt (A++C)::BksAt (A2++C2)::rpNew b6::Hs) w:=hw.arr
 refine (told_spec hid hm hw).use ?_
 clear hw
 rintro _ w ⟨sl,sb,rfl,hw⟩
 refine .inl ⟨_,_,_,_,_,_,_,sl,sb,rfl,?_⟩
 have hw:Sat R (rpNew b6::Own sl 3 (intsI (rleftsF pl.r))::Own sb 9 ((rlabelsF pl.r x.id).map Value.string)::LoneAt f pl.r::QuAt q pl.q::pts a (bkObj x)::pts p (bookC b m1 m2)::MapAt m1 ((A++(f,q,pl)::C).map flV)::MapAt m2 ((A2++(a,x)::C2).map bkV)::FlsAt (A++C)::BksAt (A2++C2)::Hs) w:=hw.arr
 refine store_rule hw (by kernel_rfl) rfl (by simp [Value.cells]) fun w hw=>?_
 have hw:=hw.re (rpC b6 (tellP pl x) sl sb)
 refine ⟨_,_,_,_,_,_,_,sl,sb,At.own (eqS hw) (by exact ⟨rfl,rfl,rfl,rfl,rfl,rfl,rfl,rfl,rfl,trivial⟩),hK sl sb w ?_⟩
 exact hw.drop.cons fun _ hw=>hw.cons fun _ hw=>open_close hl rfl rfl hw
theorem delQ_no {id:Int}:∀ {l:List Wt},hasQ id l=false→delQ id l=l
 |[],_=>rfl
 |w::l,h=>by
  have h1:¬ w.id=id∧hasQ id l=false:=by simpa [hasQ] using h
  show (if w.id=id then l else w::delQ id l)=_
  rw [if_neg h1.1,delQ_no h1.2]
theorem qrem_del {id:Int} {l:List Wt}:(qrem l id).1=delQ id l:=by
 unfold qrem
 cases h:hasQ id l with
 |true=>rfl
 |false=>exact (delQ_no h).symm
set_option maxHeartbeats 4000000 in
theorem one_spec {p m1 m2 a:Nat} {b:Book} {c:Cm} {x:Bk} {fs:List FE} {A2 C2:List BE} {sg sp:Sl} (hk:c.kind=3∨c.kind=4∨c.kind=5∨c.kind=6) (k:Core b) (hlab:c.lab.size≤16) (hl:BookL b fs (A2++(a,x)::C2)) (hbm:BkMid A2 C2 x)
  (hw:Sat R (pts p (bookC b m1 m2)::MapAt m1 (fs.map flV)::MapAt m2 ((A2++(a,x)::C2).map bkV)::FlsAt fs::BksAt (A2++(a,x)::C2)::Hs) w):
  GetsX Tryz.prog 51 #[.pointer (some ⟨p,0,none⟩),.pointer (some ⟨a,0,none⟩),.agg #[.int .i64 c.kind,.string c.pnr,.int .i64 c.flt,.int .i64 c.cls,.int .i64 c.many,.int .i64 c.time,.float .f64 c.sc,.string c.lab,.int .i64 c.rows,.slice sg.a sg.len sg.cap,.slice sp.a sp.len sp.cap]] w
   (fun ch w'=>∃ e,ch=errP e∧oneB b x c=(b,errR e)∧Sat R (BookAt p b::Hs) w')
   (fun v w'=>∃ sl sb:Sl,v=.agg (rpV (oneB b x c).2 sl sb).toArray∧Sat R (Own sl 3 (intsI (oneB b x c).2.left)::Own sb 9 ((oneB b x c).2.labs.map Value.string)::BookAt p (oneB b x c).1::Hs) w'):=by
 apply call51
 suffices H:∀ (X:List PanicEntry→World→Prop) (K:Value→World→Prop),(∀ e w',oneB b x c=(b,errR e)→Sat R (BookAt p b::Hs) w'→X (errP e) w')→
   (∀ sl sb w',Sat R (Own sl 3 (intsI (oneB b x c).2.left)::Own sb 9 ((oneB b x c).2.labs.map Value.string)::BookAt p (oneB b x c).1::Hs) w'→K (.agg (rpV (oneB b x c).2 sl sb).toArray) w')→B51 (some ⟨p,0,none⟩) (some ⟨a,0,none⟩) c.kind c.pnr c.flt c.cls c.many c.time c.sc c.lab c.rows sg sp X K w from
  H _ _ (fun e w' h1 h2=>⟨e,rfl,h1,h2⟩) (fun sl sb w' h2=>⟨sl,sb,rfl,h2⟩)
 intro X K hX hK
 have hxL:x∈b.L:=by rw [←hl.bk];exact List.mem_map.2 ⟨(a,x),by simp,rfl⟩
 have hbk:=k.each x hxL
 have hnx:=k.next
 have hid:0≤x.id∧x.id<28629151:=⟨by have:=hbk.id;omega,by have:=hbk.id;omega⟩
 obtain ⟨pl,hat⟩:=k.at_of hxL
 obtain ⟨A,f,q,C,rfl,hm⟩:=fl_split hl k.nums hat
 have hpl:=at_some hat
 have hg:=k.good pl hpl.1
 have hqok:=k.qok pl hpl.1
 obtain ⟨MF,hMF⟩:∃ M,M=(A++(f,q,pl)::C).map flV:=⟨_,rfl⟩
 obtain ⟨MB,hMB⟩:∃ M,M=(A2++(a,x)::C2).map bkV:=⟨_,rfl⟩
 have hget:getM x.flt MF=some (.agg #[.pointer (some ⟨f,0,none⟩),.pointer (some ⟨q,0,none⟩)]):=by rw [hMF];exact fl_get hm
 rw [←hMF,←hMB] at hw
 have hone:∀ {e},oneB b x c=e↔(if c.kind=3 then (if x.state≠1 then (b,errR 7) else ({ b with L:=kset Bk.id x.id sureX b.L },tellP pl (sureX x)))
  else if c.kind=4 then (promote x.flt (gone b x),⟨0,c.pnr,0,0,0,0,0,[],[]⟩)
  else if x.state=3 then (b,errR 7)
  else if c.kind=5 then
   (if (rseatF pl.r x.id c.lab).2≠0 then (b,errR (rseatF pl.r x.id c.lab).2)
    else (b.put x.flt (seatP (rseatF pl.r x.id c.lab).1) b.L,tellP (seatP (rseatF pl.r x.id c.lab).1 pl) x))
  else (if (rautoF pl.r x.id).2.2≠0 then (b,errR (rautoF pl.r x.id).2.2)
    else (b.put x.flt (seatP (rautoF pl.r x.id).1) b.L,tellP (seatP (rautoF pl.r x.id).1 pl) x)))=e:=by
  intro e
  unfold oneB
  rw [hat]
 refine new_rule hw fun b5 w hw=>new_rule hw fun b6 w hw=>?_
 have hw:Sat R (FlsAt (A++(f,q,pl)::C)::BksAt (A2++(a,x)::C2)::pts p (bookC b m1 m2)::MapAt m1 MF::MapAt m2 MB::cmC b5 c sg sp::rpNew b6::Hs) w:=by
  have hw:Sat R (rpNew b6::cmC b5 c sg sp::pts p (bookC b m1 m2)::MapAt m1 MF::MapAt m2 MB::FlsAt (A++(f,q,pl)::C)::BksAt (A2++(a,x)::C2)::Hs) w:=hw
  exact hw.arr
 have hw:=fls_mid.1 hw
 have hw:Sat R (BksAt (A2++(a,x)::C2)::LoneAt f pl.r::QuAt q pl.q::FlsAt (A++C)::pts p (bookC b m1 m2)::MapAt m1 MF::MapAt m2 MB::cmC b5 c sg sp::rpNew b6::Hs) w:=hw.arr
 have hw:=bks_mid.1 hw
 refine drw_ruleT hw fun w hw=>?_
 refine NilP.mk rfl ⟨some m1,At.own (fun _ h=>h) (by exact ⟨rfl,trivial⟩),NilP.mk rfl ⟨x.flt,At.own (fun _ h=>h) (by exact ⟨rfl,trivial⟩),some ⟨f,0,none⟩,some ⟨q,0,none⟩,fun w' h=>?_,?_⟩⟩
 ·have hm1:Sat R (MapAt m1 MF::VC.tru::pts a (bkObj x)::BksAt (A2++C2)::LoneAt f pl.r::QuAt q pl.q::FlsAt (A++C)::pts p (bookC b m1 m2)::MapAt m2 MB::cmC b5 c sg sp::rpNew b6::Hs) w':=Sat.arr h
  have:=MapAt.look pMap hm1 x.flt false
  rw [hget] at this
  exact this
 refine new_rule hw fun b7 w hw=>⟨hw.absorb,?_⟩
 refine store_rule hw (by kernel_rfl) rfl (by simp [Value.cells]) fun w hw=>?_
 have hw:=hw.re (fqC b7 f q)
 have hw:Sat R (LoneAt f pl.r::QuAt q pl.q::pts a (bkObj x)::pts p (bookC b m1 m2)::MapAt m1 MF::MapAt m2 MB::FlsAt (A++C)::BksAt (A2++C2)::rpNew b6::fqC b7 f q::cmC b5 c sg sp::Hs) w:=by
  have hw:Sat R (fqC b7 f q::pts a (bkObj x)::BksAt (A2++C2)::LoneAt f pl.r::QuAt q pl.q::FlsAt (A++C)::pts p (bookC b m1 m2)::MapAt m1 MF::MapAt m2 MB::cmC b5 c sg sp::rpNew b6::Hs) w:=hw.cons fun _ h=>h.drop
  exact hw.arr
 have close:∀ {w},Sat R (LoneAt f pl.r::QuAt q pl.q::pts a (bkObj x)::pts p (bookC b m1 m2)::MapAt m1 MF::MapAt m2 MB::FlsAt (A++C)::BksAt (A2++C2)::rpNew b6::fqC b7 f q::cmC b5 c sg sp::Hs) w→Sat R (BookAt p b::Hs) w:=fun {w} hw=>
  (open_close hl hMF hMB hw).cons fun _ h=>h.drop.drop.drop
 refine NilP.mk rfl ⟨x.state,At.own (eqS hw) (by exact ⟨rfl,trivial⟩),c.kind,At.own (eqS hw) (by exact ⟨rfl,trivial⟩),?_⟩
 refine Br.e (fun h3=>?_) (fun h3=>Br.e (fun h4=>?_) (fun h4=>Br.e (fun h5=>?_) (fun h5=>Br.e (fun h6=>?_) (fun h6=>by omega))))
 ·-- confirmed
  refine NilP.mk rfl ⟨x.state,At.own (eqS hw) (by exact ⟨rfl,trivial⟩),?_⟩
  refine need_c (fun h=>.inl ⟨rfl,?_⟩) (fun h=>.inr ⟨_,rfl,hX 7 w (hone.2 ?_) (close hw)⟩)
  rotate_left
  ·have h1:¬ x.state=1:=by simpa using h
   rw [if_pos h3,if_pos h1]
  have h1:x.state=1:=by simpa using h
  have hres:=hone.2 (by rw [if_pos h3,if_neg (fun h=>h h1)])
  refine NilP.mk rfl ?_
  have hw:Sat R (pts a (bkObj x)::LoneAt f pl.r::QuAt q pl.q::pts p (bookC b m1 m2)::MapAt m1 MF::MapAt m2 MB::FlsAt (A++C)::BksAt (A2++C2)::rpNew b6::fqC b7 f q::cmC b5 c sg sp::Hs) w:=hw.arr
  refine store_rule hw (by kernel_rfl) rfl (by simp [Value.cells]) fun w hw=>NilP.mk rfl ?_
  refine store_rule hw (by kernel_rfl) rfl (by rw [putL_len];simp [Value.cells]) fun w hw=>?_
  have hw:=hw.re (pts a (bkObj (sureX x)))
  have hw:Sat R (LoneAt f pl.r::QuAt q pl.q::pts a (bkObj (sureX x))::pts p (bookC b m1 m2)::MapAt m1 MF::MapAt m2 MB::FlsAt (A++C)::BksAt (A2++C2)::rpNew b6::fqC b7 f q::cmC b5 c sg sp::Hs) w:=hw.arr
  have hl2:BookL { b with L:=kset Bk.id x.id sureX b.L } (A++(f,q,pl)::C) (A2++(a,sureX x)::C2):=⟨hl.fl,hl.bset k.ids sureX⟩
  refine tell_tail (Hs:=fqC b7 f q::cmC b5 c sg sp::Hs) (b:={ b with L:=kset Bk.id x.id sureX b.L }) (x:=sureX x) (MB:=MB) hl2 hMF (by rw [hMB];exact (bk_vals (show (sureX x).id=x.id from rfl)).symm) hid hm (fun sl sb w' hw=>?_) hw
  have hfin:=hK sl sb w'
  rw [hres] at hfin
  exact hfin (hw.cons fun _ h=>h.cons fun _ h=>h.cons fun _ h=>h.drop.drop)
 ·-- cancelled
  have hres:=hone.2 (by rw [if_neg h3,if_pos h4])
  have hcore:=core_gone k hxL
  obtain ⟨pl2,hp2⟩:∃ pl2:Pl,pl2=if x.state=3 then quitP x.id pl else giveP x.id pl:=⟨_,rfl⟩
  refine ⟨fun w=>Sat R (LoneAt f pl2.r::QuAt q pl2.q::pts a (bkObj x)::pts p (bookC b m1 m2)::MapAt m1 MF::MapAt m2 MB::FlsAt (A++C)::BksAt (A2++C2)::rpNew b6::fqC b7 f q::cmC b5 c sg sp::Hs) w,?_,?_⟩
  ·refine Br.e (fun hs=>?_) (fun hs=>?_)
   ·rw [if_pos hs] at hp2
    refine drw_rule hw fun w hw=>⟨some ⟨q,0,none⟩,At.own (fun _ h=>h) (by exact ⟨rfl,trivial⟩),NilP.mk rfl ⟨x.id,At.own (fun _ h=>h) (by exact ⟨rfl,trivial⟩),?_⟩⟩
    refine (qremove_spec (by have:=hqok.len;omega) hw.swap).use ?_
    clear hw
    rintro _ w ⟨rfl,hw⟩
    rw [qrem_del] at hw
    refine .inl ⟨_,rfl,?_⟩
    rw [hp2]
    exact hw.swap
   ·rw [if_neg hs] at hp2
    refine drw_rule hw fun w hw=>⟨some ⟨f,0,none⟩,At.own (fun _ h=>h) (by exact ⟨rfl,trivial⟩),NilP.mk rfl ⟨x.id,At.own (fun _ h=>h) (by exact ⟨rfl,trivial⟩),?_⟩⟩
    refine (lone_give hw).use ?_
    clear hw
    rintro _ w ⟨rfl,hw⟩
    refine .inl ⟨_,rfl,?_⟩
    rw [hp2]
    exact hw
  clear hw
  rintro _ w hw
  have hn2:pl2.n=x.flt:=by
   rw [hp2]
   split
   ·exact hm.num
   ·exact (give_num (r:=pl.r) (o:=x.id)).1.trans hm.num
  have hMF2:MF=(A++(f,q,pl2)::C).map flV:=by rw [hMF];exact fl_vals hn2 hm.num
  have hl2:BookL (gone b x) (A++(f,q,pl2)::C) (A2++C2):=by
   refine ⟨?_,?_⟩
   ·have h1:=hl.fset hm (quitP x.id)
    have h2:=hl.fset hm (giveP x.id)
    unfold gone
    rw [hp2]
    split
    ·exact h1
    ·exact h2
   ·have h1:=hl.bdel k.ids
    unfold gone
    split
    ·exact h1
    ·exact h1
  have hat2:(gone b x).at x.flt=some pl2:=(at_iff hcore).2 ⟨hl2.fl.mem_iff.1 (List.mem_map.2 ⟨(f,q,pl2),by simp,rfl⟩),hn2⟩
  have hgc:bookC (gone b x) m1 m2=bookC b m1 m2:=by
   unfold gone
   split<;>rfl
  refine drw_rule hw fun w hw=>NilP.mk rfl ⟨some m2,At.own (fun _ h=>h) (by exact ⟨rfl,trivial⟩),NilP.mk rfl ⟨x.id,At.own (fun _ h=>h) (by exact ⟨rfl,trivial⟩),?_⟩⟩
  have hw:Sat R (MapAt m2 MB::LoneAt f pl2.r::QuAt q pl2.q::pts a (bkObj x)::pts p (bookC b m1 m2)::MapAt m1 MF::FlsAt (A++C)::BksAt (A2++C2)::rpNew b6::fqC b7 f q::cmC b5 c sg sp::Hs) w:=hw.arr
  refine MapAt.del bMap hw x.id fun w hw=>?_
  rw [hMB,bk_vdel hbm] at hw
  refine NilP.mk rfl ⟨x.flt,At.own (eqS hw) (by exact ⟨rfl,trivial⟩),?_⟩
  have hw:Sat R (LoneAt f pl2.r::QuAt q pl2.q::FlsAt (A++C)::MapAt m2 ((A2++C2).map bkV)::pts a (bkObj x)::pts p (bookC (gone b x) m1 m2)::MapAt m1 ((A++(f,q,pl2)::C).map flV)::BksAt (A2++C2)::rpNew b6::fqC b7 f q::cmC b5 c sg sp::Hs) w:=by
   rw [hgc,←hMF2]
   exact hw.arr
  have hw:=fls_mid.2 hw
  have hw:Sat R (pts p (bookC (gone b x) m1 m2)::MapAt m1 ((A++(f,q,pl2)::C).map flV)::MapAt m2 ((A2++C2).map bkV)::FlsAt (A++(f,q,pl2)::C)::BksAt (A2++C2)::pts a (bkObj x)::rpNew b6::fqC b7 f q::cmC b5 c sg sp::Hs) w:=hw.arr
  refine (promote_spec hcore hl2 hat2 hw).use ?_
  clear hw
  rintro _ w ⟨rfl,fs3,xs3,hl3,hf3,hb3,hw⟩
  refine .inl ⟨rfl,c.pnr,At.own (eqS hw) (by exact ⟨rfl,trivial⟩),?_⟩
  have hw:Sat R (rpNew b6::pts p (bookC (promote x.flt (gone b x)) m1 m2)::MapAt m1 ((A++(f,q,pl2)::C).map flV)::MapAt m2 ((A2++C2).map bkV)::FlsAt fs3::BksAt xs3::pts a (bkObj x)::fqC b7 f q::cmC b5 c sg sp::Hs) w:=hw.arr
  refine store_rule hw (by kernel_rfl) rfl (by simp [Value.cells]) fun w hw=>?_
  have hw:=hw.re (rpC b6 ⟨0,c.pnr,0,0,0,0,0,[],[]⟩ nilSl nilSl)
  refine ⟨_,_,_,_,_,_,_,nilSl,nilSl,At.own (eqS hw) (by exact ⟨rfl,rfl,rfl,rfl,rfl,rfl,rfl,rfl,rfl,trivial⟩),?_⟩
  have hfin:=hK nilSl nilSl w
  rw [hres] at hfin
  refine hfin (Own.nil (Own.nil ?_))
  rw [←hf3,←hb3] at hw
  have hw:Sat R (pts p (bookC (promote x.flt (gone b x)) m1 m2)::MapAt m1 (fs3.map flV)::MapAt m2 (xs3.map bkV)::FlsAt fs3::BksAt xs3::pts a (bkObj x)::fqC b7 f q::cmC b5 c sg sp::Hs) w:=hw.drop
  exact (Sat.book.2 ⟨m1,m2,fs3,xs3,hl3,hw⟩).cons fun _ h=>h.drop.drop.drop
 ·-- a seat
  refine need_c (fun h=>.inl ⟨rfl,?_⟩) (fun h=>.inr ⟨_,rfl,hX 7 w (hone.2 ?_) (close hw)⟩)
  rotate_left
  ·have h1:x.state=3:=by simpa using h
   rw [if_neg h3,if_neg h4,if_pos h1]
  have h1:¬ x.state=3:=by simpa using h
  refine drw_rule' (Sat R [pts a (bkObj x),fqC b7 f q,cmC b5 c sg sp,VC.tru]) hw (fun w hw=>?_) fun w hw=>?_
  ·exact (hw.arr (Hs':=pts a (bkObj x)::fqC b7 f q::cmC b5 c sg sp::LoneAt f pl.r::QuAt q pl.q::pts p (bookC b m1 m2)::MapAt m1 MF::MapAt m2 MB::FlsAt (A++C)::BksAt (A2++C2)::rpNew b6::Hs)).cons fun _ h=>h.cons fun _ h=>h.restTru2
  refine ⟨some ⟨f,0,none⟩,At.own (fun _ h=>h) (by exact ⟨rfl,trivial⟩),NilP.mk rfl ⟨x.id,At.own (fun _ h=>h) (by exact ⟨rfl,trivial⟩),c.lab,At.own (fun _ h=>h) (by exact ⟨rfl,trivial⟩),?_⟩⟩
  refine (lone_seat (by omega) hw).use ?_
  clear hw
  rintro _ w ⟨rfl,hw⟩
  refine .inl ⟨_,rfl,?_⟩
  refine mustE_c (fun h0=>.inl ⟨rfl,?_,?_⟩) (fun h0=>.inr ⟨_,rfl,hX _ w (hone.2 (by rw [if_neg h3,if_neg h4,if_neg h1,if_pos h5,if_pos h0])) ?_⟩)
  rotate_left 2
  ·rw [seat_no' h0] at hw
   exact close hw
  ·exact (hw.arr (Hs':=pts a (bkObj x)::fqC b7 f q::cmC b5 c sg sp::LoneAt f (rseatF pl.r x.id c.lab).1::QuAt q pl.q::pts p (bookC b m1 m2)::MapAt m1 MF::MapAt m2 MB::FlsAt (A++C)::BksAt (A2++C2)::rpNew b6::Hs)).cons fun _ h=>h.cons fun _ h=>h.restTru2
  have hres:=hone.2 (by rw [if_neg h3,if_neg h4,if_neg h1,if_pos h5,if_neg (fun h=>h h0)])
  have hn2:(seatP (rseatF pl.r x.id c.lab).1 pl).n=x.flt:=(seat_ly hg h0).num.trans hm.num
  have hl2:BookL (b.put x.flt (seatP (rseatF pl.r x.id c.lab).1) b.L) (A++(f,q,seatP (rseatF pl.r x.id c.lab).1 pl)::C) (A2++(a,x)::C2):=⟨hl.fset hm (seatP (rseatF pl.r x.id c.lab).1),hl.bk⟩
  refine tell_tail (Hs:=fqC b7 f q::cmC b5 c sg sp::Hs) hl2 (by rw [hMF];exact (fl_vals hm.num hn2).symm) hMB hid ⟨hn2,hm.a,hm.c⟩ (fun sl sb w' hw=>?_) hw
  have hfin:=hK sl sb w'
  rw [hres] at hfin
  exact hfin (hw.cons fun _ h=>h.cons fun _ h=>h.cons fun _ h=>h.drop.drop)
 ·-- seats of themselves
  refine need_c (fun h=>.inl ⟨rfl,?_⟩) (fun h=>.inr ⟨_,rfl,hX 7 w (hone.2 ?_) (close hw)⟩)
  rotate_left
  ·have h1:x.state=3:=by simpa using h
   rw [if_neg h3,if_neg h4,if_pos h1]
  have h1:¬ x.state=3:=by simpa using h
  refine drw_rule hw fun w hw=>⟨some ⟨f,0,none⟩,At.own (fun _ h=>h) (by exact ⟨rfl,trivial⟩),NilP.mk rfl ⟨x.id,At.own (fun _ h=>h) (by exact ⟨rfl,trivial⟩),?_⟩⟩
  refine (lone_auto hw).use ?_
  clear hw
  rintro _ w ⟨t,rfl,hw⟩
  have hw:=hw.drop
  refine .inl ⟨_,_,rfl,?_⟩
  refine mustE_c (fun h0=>.inl ⟨rfl,?_⟩) (fun h0=>.inr ⟨_,rfl,hX _ w (hone.2 (by rw [if_neg h3,if_neg h4,if_neg h1,if_neg h5,if_pos h0])) ?_⟩)
  rotate_left
  ·rw [auto_no h0] at hw
   exact close hw
  have hres:=hone.2 (by rw [if_neg h3,if_neg h4,if_neg h1,if_neg h5,if_neg (fun h=>h h0)])
  have hn2:(seatP (rautoF pl.r x.id).1 pl).n=x.flt:=(auto_ly h0).num.trans hm.num
  have hl2:BookL (b.put x.flt (seatP (rautoF pl.r x.id).1) b.L) (A++(f,q,seatP (rautoF pl.r x.id).1 pl)::C) (A2++(a,x)::C2):=⟨hl.fset hm (seatP (rautoF pl.r x.id).1),hl.bk⟩
  refine tell_tail (Hs:=fqC b7 f q::cmC b5 c sg sp::Hs) hl2 (by rw [hMF];exact (fl_vals hm.num hn2).symm) hMB hid ⟨hn2,hm.a,hm.c⟩ (fun sl sb w' hw=>?_) hw
  have hfin:=hK sl sb w'
  rw [hres] at hfin
  exact hfin (hw.cons fun _ h=>h.cons fun _ h=>h.cons fun _ h=>h.drop.drop)
end Go.Proofs.YtflgboncpbmikaaGreatDoor
/- Package booking: the sorted keys of its maps; the clock. Condition: bounds. -/
namespace Go.Proofs.YtflgboncpbmikaaGreatDoor
set_option linter.unusedVariables false
set_option linter.unusedSimpArgs false
open Go Go.VC
open Classical
variable {R:Cx} {Hs Rest:List HP} {w:World}
theorem sortI_eq {l m:List Int} (hp:l.Perm m) (h:m.Pairwise fun a b=>a<b):sortI l=m:=by
 have tr:∀ a b c:Int,decide (a≤b)=true→decide (b≤c)=true→decide (a≤c)=true:=fun a b c h1 h2=>by simp only [decide_eq_true_eq] at *;omega
 have to:∀ a b:Int,(decide (a≤b)||decide (b≤a))=true:=fun a b=>by simp only [Bool.or_eq_true,decide_eq_true_eq];omega
 exact List.Perm.eq_of_pairwise (fun a b _ _ h1 h2=>by simp only [decide_eq_true_eq] at h1 h2;omega) (List.pairwise_mergeSort tr to l) (h.imp fun hab=>by simp only [decide_eq_true_eq];omega) ((List.mergeSort_perm l _).trans hp)
theorem bk_keys {b:Book} {fs:List FE} {xs:List BE} (hl:BookL b fs xs):(xs.map bkV).map (·.1)=b.L.map Bk.id:=by
 rw [←hl.bk,List.map_map,List.map_map]
 rfl
theorem fl_keys {b:Book} {fs:List FE} {xs:List BE} (hl:BookL b fs xs):((fs.map flV).map (·.1)).Perm (b.fl.map Pl.n):=by
 have:=hl.fl.map Pl.n
 rw [List.map_map] at this ⊢
 exact this
theorem rise_ids {b:Book} (k:Core b):(b.L.map Bk.id).Pairwise fun a b=>a<b:=List.pairwise_map.2 k.ids
theorem rise_nums {b:Book} (k:Core b):(b.fl.map Pl.n).Pairwise fun a b=>a<b:=List.pairwise_map.2 k.nums
theorem nd_lt {l:List Int} (h:l.Pairwise fun a b=>a<b):l.Nodup:=h.imp fun hab=>by omega
theorem sortB_rule {m:Nat} {b:Book} {fs:List FE} {xs:List BE} {K:Sl→World→Prop} (k:Core b) (hl:BookL b fs xs) (hw:Sat R (MapAt m (xs.map bkV)::Hs) w)
  (kk:∀ s w',Sat R (Own s 3 (intsI (b.L.map Bk.id))::MapAt m (xs.map bkV)::Hs) w'→K s w'):
  Calls Tryz.prog 61 #[.map (some m)] w fun e w1=>∃ t:Value,e=.returned t∧Calls Tryz.prog 30 #[t] w1 fun e w2=>∃ t:Sl,e=.returned (.slice t.a t.len t.cap)∧K t w2:=by
 have hk:=bk_keys hl
 obtain ⟨l,c,hs,hst,hp⟩:=MapAt.iff.1 hw
 obtain ⟨D0,hown,hsz,hperm⟩:=keysI_map hs hst (by rw [hk];exact nd_lt (rise_ids k)) (fun i hi=>by
  rw [hk] at hi
  obtain ⟨x,hx,rfl⟩:=List.mem_map.1 hi
  have:=(k.each x hx).id
  have:=k.next
  omega) (by rw [List.length_map,bk_len hl];have:=k.many;omega) hp.at
 refine (callsIn_wide.1 (Tryz.maps_Keys_61 (some m) w)).mono ?_
 rintro _ _ ⟨rfl,rfl⟩
 refine ⟨_,rfl,?_⟩
 refine (callsIn_wide.1 (Tryz.slices_Sorted_keys_30_61 m _ D0 _ w hown (by unfold maxLen;omega) (by omega))).mono ?_
 rintro _ w' ⟨v,ss,rfl,hS,hrow,hnil,hb⟩
 have hw1:Sat R (MapAt m (xs.map bkV)::Hs) (w.alloc (.cells #[.map (some m)] 88)):=(Sat.alloc _ hw).drop
 obtain ⟨s,rfl,h3⟩:=Sat.ownsRow hw1 hb hrow
 refine ⟨s,rfl,kk s _ ?_⟩
 have e:=sortI_eq (List.Perm.of_eq hk) (rise_ids k)
 rw [←sortI_perm (hperm ss hS)] at e
 rw [←e]
 exact h3
theorem sortF_rule {m:Nat} {b:Book} {fs:List FE} {xs:List BE} {K:Sl→World→Prop} (k:Core b) (hl:BookL b fs xs) (hw:Sat R (MapAt m (fs.map flV)::Hs) w)
  (kk:∀ s w',Sat R (Own s 3 (intsI (b.fl.map Pl.n))::MapAt m (fs.map flV)::Hs) w'→K s w'):
  Calls Tryz.prog 57 #[.map (some m)] w fun e w1=>∃ t:Value,e=.returned t∧Calls Tryz.prog 30 #[t] w1 fun e w2=>∃ t:Sl,e=.returned (.slice t.a t.len t.cap)∧K t w2:=by
 have hk:=fl_keys hl
 obtain ⟨l,c,hs,hst,hp⟩:=MapAt.iff.1 hw
 obtain ⟨D0,hown,hsz,hperm⟩:=keysI_map hs hst (hk.nodup_iff.2 (nd_lt (rise_nums k))) (fun i hi=>by
  obtain ⟨x,hx,rfl⟩:=List.mem_map.1 (hk.mem_iff.1 hi)
  have:=(k.good x hx).num
  show -1000000000≤x.r.num∧x.r.num≤1000000000
  omega) (by rw [List.length_map,fl_len hl];have:=k.few;omega) hp.at
 refine (callsIn_wide.1 (Tryz.maps_Keys_57 (some m) w)).mono ?_
 rintro _ _ ⟨rfl,rfl⟩
 refine ⟨_,rfl,?_⟩
 refine (callsIn_wide.1 (Tryz.slices_Sorted_keys_30_57 m _ D0 _ w hown (by unfold maxLen;omega) (by omega))).mono ?_
 rintro _ w' ⟨v,ss,rfl,hS,hrow,hnil,hb⟩
 have hw1:Sat R (MapAt m (fs.map flV)::Hs) (w.alloc (.cells #[.map (some m)] 87)):=(Sat.alloc _ hw).drop
 obtain ⟨s,rfl,h3⟩:=Sat.ownsRow hw1 hb hrow
 refine ⟨s,rfl,kk s _ ?_⟩
 have e:=sortI_eq hk (rise_nums k)
 rw [←sortI_perm (hperm ss hS)] at e
 rw [←e]
 exact h3
theorem keys_x {g1 g2:FuncId} {m:Nat} {K:Sl→World→Prop} {E1 E2:Ending→World→Prop}
  (h:Calls Tryz.prog g1 #[.map (some m)] w fun e w1=>∃ t:Value,e=.returned t∧Calls Tryz.prog g2 #[t] w1 fun e w2=>∃ t:Sl,e=.returned (.slice t.a t.len t.cap)∧K t w2):
  Calls Tryz.prog g1 #[.map (some m)] w fun e w1=>(∃ t:Value,(e=.returned t)∧Calls Tryz.prog g2 #[t] w1 fun e w2=>(∃ t:Sl,(e=.returned (.slice t.a t.len t.cap))∧K t w2)∨E2 e w2)∨E1 e w1:=by
 refine h.mono ?_
 rintro _ w ⟨t,rfl,h⟩
 refine .inl ⟨t,rfl,h.mono ?_⟩
 rintro _ w ⟨t,rfl,h⟩
 exact .inl ⟨t,rfl,h⟩
theorem prom_book {p:Nat} {b:Book} {n:Int} (k:Core b) (hn:n∈b.fl.map Pl.n) (hw:Sat R (BookAt p b::Hs) w):
  Gets Tryz.prog 81 #[.pointer (some ⟨p,0,none⟩),.int .i64 n] w fun v w'=>v=.tuple #[]∧Sat R (BookAt p (promote n b)::Hs) w':=by
 obtain ⟨pl,hpl,hpn⟩:=List.mem_map.1 hn
 obtain ⟨m1,m2,fs,xs,hl,hw⟩:=Sat.book.1 hw
 refine (promote_spec k hl ((at_iff k).2 ⟨hpl,hpn⟩) hw).use ?_
 clear hw
 rintro _ w ⟨rfl,fs',xs',hl',h1,h2,hw⟩
 refine ⟨_,rfl,rfl,Sat.book.2 ⟨m1,m2,fs',xs',hl',?_⟩⟩
 rw [h1,h2]
 exact hw
structure ExpI (b:Book) (t:Int) (j:Nat) (b':Book):Prop where
 res:ticked b t=expAll (b.L.drop j) b'
 core:Core b'
 now:b'.now=t
 left:∀ x∈b.L.drop j,x∈b'.L
structure PromA (ns:List Int) (t:Int) (B:Book) (j:Nat) (b':Book):Prop where
 res:promAll ns B=promAll (ns.drop j) b'
 core:Core b'
 now:b'.now=t
 nums:b'.fl.map Pl.n=ns
set_option maxHeartbeats 4000000 in
theorem clock_spec {p:Nat} {b:Book} {c:Cm} {sg sp:Sl} (k:Core b) (hr:RightC c) (hw:Sat R (BookAt p b::Hs) w):
  GetsX Tryz.prog 49 #[.pointer (some ⟨p,0,none⟩),.agg #[.int .i64 c.kind,.string c.pnr,.int .i64 c.flt,.int .i64 c.cls,.int .i64 c.many,.int .i64 c.time,.float .f64 c.sc,.string c.lab,.int .i64 c.rows,.slice sg.a sg.len sg.cap,.slice sp.a sp.len sp.cap]] w
   (fun ch w'=>∃ e,ch=errP e∧clockB b c=(b,errR e)∧Sat R (BookAt p b::Hs) w')
   (fun v w'=>∃ sl sb:Sl,v=.agg (rpV (clockB b c).2 sl sb).toArray∧Sat R (Own sl 3 (intsI (clockB b c).2.left)::Own sb 9 ((clockB b c).2.labs.map Value.string)::BookAt p (clockB b c).1::Hs) w'):=by
 apply call49
 suffices H:∀ (X:List PanicEntry→World→Prop) (K:Value→World→Prop),(∀ e w',clockB b c=(b,errR e)→Sat R (BookAt p b::Hs) w'→X (errP e) w')→
   (∀ w',¬ c.time<b.now→Sat R (BookAt p (clockB b c).1::Hs) w'→K (.agg (rpV ⟨0,emS,0,0,0,0,c.time,[],[]⟩ nilSl nilSl).toArray) w')→B49 (some ⟨p,0,none⟩) c.kind c.pnr c.flt c.cls c.many c.time c.sc c.lab c.rows sg sp X K w from
  H _ _ (fun e w' h1 h2=>⟨e,rfl,h1,h2⟩) (fun w' h1 h2=>by
   have e:(clockB b c).2=⟨0,emS,0,0,0,0,c.time,[],[]⟩:=by unfold clockB;rw [if_neg h1]
   rw [e]
   exact ⟨nilSl,nilSl,rfl,Own.nil (Own.nil h2)⟩)
 intro X K hX hK
 have htm:=hr.time
 obtain ⟨m1,m2,fs,xs,hl,hw⟩:=Sat.book.1 hw
 refine new_rule hw fun b3 w hw=>new_rule hw fun b4 w hw=>?_
 have hw:Sat R (pts p (bookC b m1 m2)::MapAt m1 (fs.map flV)::MapAt m2 (xs.map bkV)::FlsAt fs::BksAt xs::rpNew b4::cmC b3 c sg sp::Hs) w:=by
  have hw:Sat R (rpNew b4::cmC b3 c sg sp::pts p (bookC b m1 m2)::MapAt m1 (fs.map flV)::MapAt m2 (xs.map bkV)::FlsAt fs::BksAt xs::Hs) w:=hw
  exact hw.arr
 refine drw_rule hw fun w hw=>⟨c.time,At.own (fun _ h=>h) (by exact ⟨rfl,trivial⟩),NilP.mk rfl ⟨b.now,At.own (fun _ h=>h) (by exact ⟨rfl,trivial⟩),?_⟩⟩
 refine need_c (fun h=>.inl ⟨rfl,hw,?_⟩) (fun h=>.inr ⟨_,rfl,hX 7 w ?_ ((Sat.book.2 ⟨m1,m2,fs,xs,hl,hw⟩).cons fun _ h=>h.drop.drop)⟩)
 rotate_left
 ·have:=of_decide_eq_false h
  unfold clockB
  rw [if_pos (by omega)]
 have ht:¬ c.time<b.now:=by have:=of_decide_eq_true h;omega
 have hclock:(clockB b c).1=promAll (b.fl.map Pl.n) (ticked b c.time):=by unfold clockB;rw [if_neg ht]
 refine ⟨c.time,At.own (eqS hw) (by exact ⟨rfl,trivial⟩),NilP.mk rfl ?_⟩
 rw [add_off]
 refine store_rule hw (by kernel_rfl) rfl (by simp [Value.cells]) fun w hw=>?_
 have k1:=core_now k htm
 obtain ⟨b1,hb1⟩:∃ b1,b1={ b with now:=c.time }:=⟨_,rfl⟩
 have hw:Sat R (pts p (bookC b1 m1 m2)::MapAt m1 (fs.map flV)::MapAt m2 (xs.map bkV)::FlsAt fs::BksAt xs::rpNew b4::cmC b3 c sg sp::Hs) w:=by
  rw [hb1]
  exact hw.re (pts p (bookC { b with now:=c.time } m1 m2))
 have hl1:BookL b1 fs xs:=by rw [hb1];exact ⟨hl.fl,hl.bk⟩
 rw [←hb1] at k1
 have hL1:b1.L=b.L:=by rw [hb1]
 refine NilP.mk rfl ⟨some m2,At.own (eqS hw) (by exact ⟨rfl,trivial⟩),?_⟩
 have hw:Sat R (MapAt m2 (xs.map bkV)::pts p (bookC b1 m1 m2)::MapAt m1 (fs.map flV)::FlsAt fs::BksAt xs::rpNew b4::cmC b3 c sg sp::Hs) w:=hw.arr
 refine keys_x (sortB_rule k1 hl1 hw ?_)
 clear hw
 intro s w hw
 have hw:Sat R (Own s 3 (intsI (b.L.map Bk.id))::BookAt p b1::rpNew b4::cmC b3 c sg sp::Hs) w:=by
  rw [hL1] at hw
  refine hw.cons fun _ hw=>Sat.book.2 ⟨m1,m2,fs,xs,hl1,?_⟩
  exact hw.arr
 obtain ⟨ids,hids⟩:∃ ids,ids=b.L.map Bk.id:=⟨_,rfl⟩
 have hil:ids.length=b.L.length:=by rw [hids,List.length_map]
 rw [←hids] at hw
 have hLm:=k.many
 refine ⟨fun t w=>∃ (j:Nat) (b':Book),t=j∧j≤b.L.length∧ExpI b c.time j b'∧Sat R (Own s 3 (intsI ids)::BookAt p b'::rpNew b4::cmC b3 c sg sp::Hs) w,fun t _=>b.L.length - t.toNat,⟨0,b1,rfl,Nat.zero_le _,⟨by rw [hb1];rfl,k1,by rw [hb1],fun x hx=>by rw [hL1];exact hx⟩,hw⟩,?_⟩
 clear hw
 rintro _ _ w ⟨j,b',rfl,hj,hi,hw⟩
 have hsl:=Own.len hw
 rw [List.length_map,hil] at hsl
 refine Br.d (fun hlt=>?_) (fun hge=>?_)
 ·have hjl:j<b.L.length:=by omega
  obtain ⟨x,hx⟩:∃ x,x=b.L[j]:=⟨_,rfl⟩
  have hdrop:b.L.drop j=x::b.L.drop (j + 1):=by rw [hx];exact List.drop_eq_getElem_cons hjl
  have hget:∀ h:j<ids.length,ids[j]=x.id:=fun h=>by subst hids;rw [List.getElem_map,hx]
  refine Own.ix hw (eqS hw) j rfl (by omega) ?_
  rw [hget]
  obtain ⟨m1,m2,fs,xs,hl,hw⟩:=Sat.book.1 hw.swap
  have hxL:x∈b'.L:=hi.left x (by rw [hdrop];simp)
  obtain ⟨pl,hat⟩:=hi.core.at_of hxL
  obtain ⟨A,f,q,C,rfl,hm⟩:=fl_split hl hi.core.nums hat
  obtain ⟨A2,a,C2,rfl,hbm⟩:=bk_split hl hi.core.ids hxL
  obtain ⟨MF,hMF⟩:∃ M,M=(A++(f,q,pl)::C).map flV:=⟨_,rfl⟩
  obtain ⟨MB,hMB⟩:∃ M,M=(A2++(a,x)::C2).map bkV:=⟨_,rfl⟩
  have hgetf:getM x.flt MF=some (.agg #[.pointer (some ⟨f,0,none⟩),.pointer (some ⟨q,0,none⟩)]):=by rw [hMF];exact fl_get hm
  have hgetb:getM x.id MB=some (.pointer (some ⟨a,0,none⟩)):=by rw [hMB];exact bk_get hbm
  rw [←hMF,←hMB] at hw
  have hw:Sat R (FlsAt (A++(f,q,pl)::C)::BksAt (A2++(a,x)::C2)::pts p (bookC b' m1 m2)::MapAt m1 MF::MapAt m2 MB::Own s 3 (intsI ids)::rpNew b4::cmC b3 c sg sp::Hs) w:=hw.arr
  have hw:=fls_mid.1 hw
  have hw:Sat R (BksAt (A2++(a,x)::C2)::LoneAt f pl.r::QuAt q pl.q::FlsAt (A++C)::pts p (bookC b' m1 m2)::MapAt m1 MF::MapAt m2 MB::Own s 3 (intsI ids)::rpNew b4::cmC b3 c sg sp::Hs) w:=hw.arr
  have hw:=bks_mid.1 hw
  have hw:Sat R (LoneAt f pl.r::QuAt q pl.q::pts a (bkObj x)::pts p (bookC b' m1 m2)::MapAt m1 MF::MapAt m2 MB::FlsAt (A++C)::BksAt (A2++C2)::Own s 3 (intsI ids)::rpNew b4::cmC b3 c sg sp::Hs) w:=hw.arr
  refine NilP.mk rfl ⟨some m2,At.own (eqS hw) (by exact ⟨rfl,trivial⟩),some ⟨a,0,none⟩,fun w' e=>?_,?_⟩
  ·rw [show w'=w from e]
   have hm1:Sat R (MapAt m2 MB::LoneAt f pl.r::QuAt q pl.q::pts a (bkObj x)::pts p (bookC b' m1 m2)::MapAt m1 MF::FlsAt (A++C)::BksAt (A2++C2)::Own s 3 (intsI ids)::rpNew b4::cmC b3 c sg sp::Hs) w:=hw.arr
   have:=MapAt.look bMap hm1 x.id false
   rw [hgetb] at this
   exact this
  refine ⟨fun t w=>t=old b'.now x∧Sat R (LoneAt f pl.r::QuAt q pl.q::pts a (bkObj x)::pts p (bookC b' m1 m2)::MapAt m1 MF::MapAt m2 MB::FlsAt (A++C)::BksAt (A2++C2)::Own s 3 (intsI ids)::rpNew b4::cmC b3 c sg sp::Hs) w,?_,?_⟩
  ·refine drw_rule hw fun w hw=>NilP.mk rfl ⟨x.state,At.own (fun _ h=>h) (by exact ⟨rfl,trivial⟩),Br.e (fun h1=>?_) (fun h1=>?_)⟩
   ·refine NilP.mk rfl ⟨x.till,At.own (fun _ h=>h) (by exact ⟨rfl,trivial⟩),NilP.mk rfl ⟨b'.now,At.own (fun _ h=>h) (by exact ⟨rfl,trivial⟩),?_,hw⟩⟩
    unfold old
    rw [decide_eq_true h1,Bool.true_and]
   ·refine ⟨?_,hw⟩
    unfold old
    rw [decide_eq_false h1,Bool.false_and]
  clear hw
  rintro _ _ w ⟨rfl,hw⟩
  have hexp:∀ b2,(if old b'.now x then dropB b' x else b')=b2→ticked b c.time=expAll (b.L.drop (j + 1)) b2:=fun b2 e=>by
   rw [hi.res,hdrop,←e]
   rfl
  have hwr:IntKind.i64.wrap ((j:Int) + 1)=((j + 1:Nat):Int):=by rw [wrap64 (by omega) (by omega)];omega
  rw [hwr]
  cases hold:old b'.now x with
  |false=>
   rw [hold] at hexp
   refine Br.f rfl ⟨⟨j + 1,b',rfl,hjl,⟨hexp _ rfl,hi.core,hi.now,fun y hy=>hi.left y (by rw [hdrop];exact List.mem_cons_of_mem _ hy)⟩,?_⟩,by dsimp only;omega⟩
   have hw:=open_close hl hMF hMB hw
   exact hw.swap
  |true=>
   rw [hold] at hexp
   have hst:x.state=1:=by
    unfold old at hold
    simp only [Bool.and_eq_true,decide_eq_true_eq] at hold
    exact hold.1
   refine Br.t rfl ?_
   refine drw_rule' (Sat R [pts p (bookC b' m1 m2),pts a (bkObj x),MapAt m1 MF,VC.tru]) hw (fun w hw=>?_) fun w hw=>?_
   ·exact (hw.arr (Hs':=pts p (bookC b' m1 m2)::pts a (bkObj x)::MapAt m1 MF::LoneAt f pl.r::QuAt q pl.q::MapAt m2 MB::FlsAt (A++C)::BksAt (A2++C2)::Own s 3 (intsI ids)::rpNew b4::cmC b3 c sg sp::Hs)).cons fun _ h=>h.cons fun _ h=>h.restTru2
   refine NilP.mk rfl ⟨some m1,At.own (fun _ h=>h) (by exact ⟨rfl,trivial⟩),NilP.mk rfl ⟨x.flt,At.own (fun _ h=>h) (by exact ⟨rfl,trivial⟩),some ⟨f,0,none⟩,some ⟨q,0,none⟩,fun w' h=>?_,?_⟩⟩
   ·have hm1:Sat R (MapAt m1 MF::pts p (bookC b' m1 m2)::pts a (bkObj x)::[VC.tru]) w':=Sat.arr h
    have:=MapAt.look pMap hm1 x.flt false
    rw [hgetf] at this
    exact this
   refine (lone_give hw).use ?_
   clear hw
   rintro _ w ⟨rfl,hw⟩
   refine .inl ⟨_,rfl,?_,NilP.mk rfl ⟨some m2,At.own (eqS hw) (by exact ⟨rfl,trivial⟩),?_⟩⟩
   ·exact (hw.arr (Hs':=pts p (bookC b' m1 m2)::pts a (bkObj x)::MapAt m1 MF::LoneAt f (rgiveF pl.r x.id).1::QuAt q pl.q::MapAt m2 MB::FlsAt (A++C)::BksAt (A2++C2)::Own s 3 (intsI ids)::rpNew b4::cmC b3 c sg sp::Hs)).cons fun _ h=>h.cons fun _ h=>h.restTru2
   have hw:Sat R (LoneAt f (giveP x.id pl).r::QuAt q (giveP x.id pl).q::pts a (bkObj x)::pts p (bookC (dropB b' x) m1 m2)::MapAt m1 MF::MapAt m2 MB::FlsAt (A++C)::BksAt (A2++C2)::Own s 3 (intsI ids)::rpNew b4::cmC b3 c sg sp::Hs) w:=hw
   have hw:Sat R (MapAt m2 MB::LoneAt f (giveP x.id pl).r::QuAt q (giveP x.id pl).q::pts a (bkObj x)::pts p (bookC (dropB b' x) m1 m2)::MapAt m1 MF::FlsAt (A++C)::BksAt (A2++C2)::Own s 3 (intsI ids)::rpNew b4::cmC b3 c sg sp::Hs) w:=hw.arr
   refine MapAt.del bMap hw x.id fun w hw=>?_
   rw [hMB,bk_vdel hbm] at hw
   have hn2:(giveP x.id pl).n=x.flt:=(give_num (r:=pl.r) (o:=x.id)).1.trans hm.num
   have hl2:BookL (dropB b' x) (A++(f,q,giveP x.id pl)::C) (A2++C2):=⟨hl.fset hm (giveP x.id),hl.bdel hi.core.ids⟩
   have hMF2:MF=(A++(f,q,giveP x.id pl)::C).map flV:=by rw [hMF];exact fl_vals hn2 hm.num
   have hlater:∀ y∈b.L.drop (j + 1),y.id≠x.id:=fun y hy=>by
    have h1:=k.ids.sublist (List.drop_sublist j b.L)
    rw [hdrop] at h1
    have:=(List.pairwise_cons.1 h1).1 y hy
    omega
   refine ⟨⟨j + 1,dropB b' x,rfl,hjl,⟨hexp _ rfl,core_drop hi.core hxL (by omega),hi.now,fun y hy=>?_⟩,?_⟩,by dsimp only;omega⟩
   ·exact mem_kdel.2 ⟨hi.left y (by rw [hdrop];exact List.mem_cons_of_mem _ hy),hlater y hy⟩
   ·have hw:Sat R (LoneAt f (giveP x.id pl).r::QuAt q (giveP x.id pl).q::pts p (bookC (dropB b' x) m1 m2)::MapAt m1 MF::MapAt m2 ((A2++C2).map bkV)::FlsAt (A++C)::BksAt (A2++C2)::Own s 3 (intsI ids)::pts a (bkObj x)::rpNew b4::cmC b3 c sg sp::Hs) w:=hw.arr
    have hw:=book_close hl2 hMF2 rfl hw
    exact hw.swap.cons fun _ h=>h.cons fun _ h=>h.drop
 ·have hje:j=b.L.length:=by omega
  subst hje
  have htk:ticked b c.time=b':=by rw [hi.res,List.drop_length];rfl
  obtain ⟨m1,m2,fs,xs,hl,hw⟩:=Sat.book.1 hw.swap
  refine NilP.mk rfl ⟨some m1,At.own (eqS hw) (by exact ⟨rfl,trivial⟩),?_⟩
  have hw:Sat R (MapAt m1 (fs.map flV)::pts p (bookC b' m1 m2)::MapAt m2 (xs.map bkV)::FlsAt fs::BksAt xs::Own s 3 (intsI ids)::rpNew b4::cmC b3 c sg sp::Hs) w:=hw.arr
  refine keys_x (sortF_rule hi.core hl hw ?_)
  clear hw
  intro s2 w hw
  obtain ⟨ns,hns⟩:∃ ns,ns=b'.fl.map Pl.n:=⟨_,rfl⟩
  rw [←hns] at hw
  have hnl:ns.length≤8:=by rw [hns,List.length_map];exact hi.core.few
  have hkeys:=(ticked_ok k htm).2.2.2.2
  rw [htk,←hns] at hkeys
  rw [←hkeys,htk] at hclock
  have hw:Sat R (Own s2 3 (intsI ns)::BookAt p b'::Own s 3 (intsI ids)::rpNew b4::cmC b3 c sg sp::Hs) w:=by
   refine hw.cons fun _ hw=>Sat.book.2 ⟨m1,m2,fs,xs,hl,?_⟩
   exact hw.arr
  refine ⟨fun t w=>∃ (j:Nat) (b2:Book),t=j∧j≤ns.length∧PromA ns c.time b' j b2∧Sat R (Own s2 3 (intsI ns)::BookAt p b2::Own s 3 (intsI ids)::rpNew b4::cmC b3 c sg sp::Hs) w,fun t _=>ns.length - t.toNat,⟨0,b',rfl,Nat.zero_le _,⟨rfl,hi.core,hi.now,hns.symm⟩,hw⟩,?_⟩
  clear hw
  rintro _ _ w ⟨j,b2,rfl,hj,hi2,hw⟩
  have hsl2:=Own.len hw
  rw [List.length_map] at hsl2
  refine Br.d (fun hlt=>?_) (fun hge=>?_)
  ·have hjl:j<ns.length:=by omega
   obtain ⟨n,hn⟩:∃ n,n=ns[j]:=⟨_,rfl⟩
   have hdrop:ns.drop j=n::ns.drop (j + 1):=by rw [hn];exact List.drop_eq_getElem_cons hjl
   refine Own.ix hw (eqS hw) j rfl hjl ?_
   rw [←hn]
   have hwr:IntKind.i64.wrap ((j:Int) + 1)=((j + 1:Nat):Int):=by rw [wrap64 (by omega) (by omega)];omega
   rw [hwr]
   refine (prom_book hi2.core (by rw [hi2.nums,hn];exact List.getElem_mem hjl) hw.swap).use ?_
   clear hw
   rintro _ w ⟨rfl,hw⟩
   have hok:=promote_ok (n:=n) hi2.core
   refine .inl ⟨rfl,⟨j + 1,promote n b2,rfl,hjl,⟨?_,hok.1,hok.2.1.now.trans hi2.now,hok.2.1.keys.trans hi2.nums⟩,hw.swap⟩,by dsimp only;omega⟩
   rw [hi2.res,hdrop]
   rfl
  ·have hje:j=ns.length:=by omega
   subst hje
   have hfin:promAll ns b'=b2:=by rw [hi2.res,List.drop_length];rfl
   rw [hfin] at hclock
   obtain ⟨m1,m2,fs,xs,hl,hw⟩:=Sat.book.1 hw.swap
   refine NilP.mk rfl ⟨b2.now,At.own (eqS hw) (by exact ⟨rfl,trivial⟩),?_⟩
   rw [hi2.now]
   have hw:Sat R (rpNew b4::pts p (bookC b2 m1 m2)::MapAt m1 (fs.map flV)::MapAt m2 (xs.map bkV)::FlsAt fs::BksAt xs::Own s2 3 (intsI ns)::Own s 3 (intsI ids)::cmC b3 c sg sp::Hs) w:=hw.arr
   refine store_rule hw (by kernel_rfl) rfl (by simp [Value.cells]) fun w hw=>?_
   have hw:=hw.re (rpC b4 ⟨0,emS,0,0,0,0,c.time,[],[]⟩ nilSl nilSl)
   refine ⟨_,_,_,_,_,_,_,nilSl,nilSl,At.own (eqS hw) (by exact ⟨rfl,rfl,rfl,rfl,rfl,rfl,rfl,rfl,rfl,trivial⟩),hK w ht ?_⟩
   rw [hclock]
   exact (Sat.book.2 ⟨m1,m2,fs,xs,hl,hw.drop⟩).cons fun _ h=>h.drop.drop.drop
end Go.Proofs.YtflgboncpbmikaaGreatDoor
/- Package booking: Show, Apply. Condition: bounds. -/
namespace Go.Proofs.YtflgboncpbmikaaGreatDoor
set_option linter.unusedVariables false
set_option linter.unusedSimpArgs false
open Go Go.VC
open Classical
variable {R:Cx} {Hs Rest:List HP} {w:World}
abbrev cmA (c:Cm) (sg sp:Sl):Value:=.agg #[.int .i64 c.kind,.string c.pnr,.int .i64 c.flt,.int .i64 c.cls,.int .i64 c.many,.int .i64 c.time,.float .f64 c.sc,.string c.lab,.int .i64 c.rows,.slice sg.a sg.len sg.cap,.slice sp.a sp.len sp.cap]
abbrev RetK (b4:Nat) (K:Value→World→Prop) (w:World):Prop:=
 ∃ u:Int,∃ u1:ByteArray,∃ u2:Int,∃ u3:Int,∃ u4:Int,∃ u5:Int,∃ u6:Int,∃ u7:Sl,∃ u8:Sl,(At (fun w'=>w'=w) ⟨b4,0,none⟩ [.int .i64 u,.string u1,.int .i64 u2,.int .i64 u3,.int .i64 u4,.int .i64 u5,.int .i64 u6,.slice u7.a u7.len u7.cap,.slice u8.a u8.len u8.cap])∧
  K (.agg #[.int .i64 u,.string u1,.int .i64 u2,.int .i64 u3,.int .i64 u4,.int .i64 u5,.int .i64 u6,.slice u7.a u7.len u7.cap,.slice u8.a u8.len u8.cap]) w
theorem retK {b4:Nat} {r:Rp} {sl sb:Sl} {K:Value→World→Prop} (hw:Sat R (rpC b4 r sl sb::Hs) w) (k:K (.agg (rpV r sl sb).toArray) w):RetK b4 K w:=
 ⟨_,_,_,_,_,_,_,sl,sb,At.own (eqS hw) (by exact ⟨rfl,rfl,rfl,rfl,rfl,rfl,rfl,rfl,rfl,trivial⟩),k⟩
theorem reply_ok {b4:Nat} {r r0:Rp} {sl sb l0 b0:Sl} {K:Value→World→Prop} (hw:Sat R (rpC b4 r0 l0 b0::Hs) w) (k:∀ w',Sat R Hs w'→K (.agg (rpV r sl sb).toArray) w'):
  ∃ t0:Int,∃ t1:ByteArray,∃ t2:Int,∃ t3:Int,∃ t4:Int,∃ t5:Int,∃ t6:Int,∃ t7:Sl,∃ t8:Sl,(Ending.returned (.agg (rpV r sl sb).toArray)=.returned (.agg #[.int .i64 t0,.string t1,.int .i64 t2,.int .i64 t3,.int .i64 t4,.int .i64 t5,.int .i64 t6,.slice t7.a t7.len t7.cap,.slice t8.a t8.len t8.cap]))∧
   ∃ w_6:World,((Instr.storeAt 102 (.pointer ((some ⟨b4,0,none⟩))) (.agg #[.int .i64 t0,.string t1,.int .i64 t2,.int .i64 t3,.int .i64 t4,.int .i64 t5,.int .i64 t6,.slice t7.a t7.len t7.cap,.slice t8.a t8.len t8.cap])).run Tryz.prog w=.ok () w_6)∧
    LeaveF Tryz.prog 44 [.pointer ((some ⟨b4,0,none⟩))] .returning (RetK b4 K) w_6:=by
 refine ⟨_,_,_,_,_,_,_,sl,sb,rfl,?_⟩
 refine store_rule hw (by kernel_rfl) rfl (by simp [Value.cells]) fun w hw=>?_
 have hw:=hw.re (rpC b4 r sl sb)
 exact caughtR (retK hw (k w hw.drop))
theorem reply_err {b4:Nat} {r0:Rp} {l0 b0:Sl} {e:Int} {K:Value→World→Prop} (hw:Sat R (rpC b4 r0 l0 b0::Hs) w) (k:∀ w',Sat R Hs w'→K (.agg (rpV (errR e) nilSl nilSl).toArray) w'):
  LeaveF Tryz.prog 44 [.pointer ((some ⟨b4,0,none⟩))] (.panicking (errP e)) (RetK b4 K) w:=
 caughtP hw fun w hw=>retK hw (k w hw.drop)
theorem rpNew_c {b4:Nat} (hw:Sat R (rpNew b4::Hs) w):Sat R (rpC b4 ⟨0,emS,0,0,0,0,0,[],[]⟩ nilSl nilSl::Hs) w:=hw
def BookOp (p a:Nat) (b:Book) (x:Bk) (R:Cx) (Hs:List HP) (w:World):Prop:=∃ (m1 m2:Nat) (fs:List FE) (A2 C2:List BE),BookL b fs (A2++(a,x)::C2)∧BkMid A2 C2 x∧
 Sat R (pts p (bookC b m1 m2)::MapAt m1 (fs.map flV)::MapAt m2 ((A2++(a,x)::C2).map bkV)::FlsAt fs::BksAt (A2++(a,x)::C2)::Hs) w
theorem named_book {p:Nat} {b:Book} {s:ByteArray} (k:Core b) (hw:Sat R (BookAt p b::Hs) w):
  GetsX Tryz.prog 52 #[.pointer (some ⟨p,0,none⟩),.string s] w
   (fun ch w'=>∃ e,ch=errP e∧namedB b s=(none,e)∧Sat R (BookAt p b::Hs) w')
   (fun v w'=>∃ a x,v=.pointer (some ⟨a,0,none⟩)∧namedB b s=(some x,0)∧x∈b.L∧BookOp p a b x R Hs w'):=by
 obtain ⟨m1,m2,fs,xs,hl,hw⟩:=Sat.book.1 hw
 have hw:Sat R (pts p (bookC b m1 m2)::MapAt m2 (xs.map bkV)::MapAt m1 (fs.map flV)::FlsAt fs::BksAt xs::Hs) w:=hw.arr
 refine (bnamed_spec hw).use ?_ ?_
 ·clear hw
  rintro _ w ⟨⟨v1,h0,hg,rfl⟩,hw⟩
  refine .inl ⟨_,rfl,?_⟩
  cases hbk:b.bk (locRd (bytesL s)).1 with
  |none=>rw [(bk_none hl).2 hbk] at hg;cases hg
  |some x=>
   have hx:=(bk_iff k).1 hbk
   obtain ⟨A2,a,C2,rfl,hbm⟩:=bk_split hl k.ids hx.1
   have:=bk_get (a:=a) hbm
   rw [hx.2,hg] at this
   simp only [Option.some.injEq,Value.pointer.injEq] at this
   subst this
   refine ⟨a,x,rfl,?_,hx.1,m1,m2,fs,A2,C2,hl,hbm,?_⟩
   ·unfold namedB
    rw [if_neg (fun h=>h h0),hbk]
   ·exact hw.arr
 ·clear hw
  rintro _ w ⟨⟨e,rfl,he⟩,hw⟩
  refine .inr ⟨_,rfl,e,rfl,?_,Sat.book.2 ⟨m1,m2,fs,xs,hl,?_⟩⟩
  ·rcases he with ⟨h0,rfl⟩|⟨h0,rfl,hg⟩
   ·unfold namedB
    rw [if_pos h0]
   ·unfold namedB
    rw [if_neg (fun h=>h h0),(bk_none hl).1 hg]
  ·exact hw.arr
theorem BookOp.close {p a:Nat} {b:Book} {x:Bk} (h:BookOp p a b x R Hs w):Sat R (BookAt p b::Hs) w:=by
 obtain ⟨m1,m2,fs,A2,C2,hl,_,hw⟩:=h
 exact Sat.book.2 ⟨m1,m2,fs,_,hl,hw⟩
theorem told_book {p a:Nat} {b:Book} {x:Bk} (k:Core b) (h:BookOp p a b x R Hs w):
  Gets Tryz.prog 82 #[.pointer (some ⟨p,0,none⟩),.pointer (some ⟨a,0,none⟩)] w fun v w'=>∃ sl sb:Sl,v=.agg (rpV (tellB b x) sl sb).toArray∧
   Sat R (Own sl 3 (intsI (tellB b x).left)::Own sb 9 ((tellB b x).labs.map Value.string)::BookAt p b::Hs) w':=by
 obtain ⟨m1,m2,fs,A2,C2,hl,hbm,hw⟩:=h
 have hxL:x∈b.L:=by rw [←hl.bk];exact List.mem_map.2 ⟨(a,x),by simp,rfl⟩
 have hnx:=k.next
 have hbk:=(k.each x hxL).id
 obtain ⟨pl,hat⟩:=k.at_of hxL
 obtain ⟨A,f,q,C,rfl,hm⟩:=fl_split hl k.nums hat
 have htell:tellB b x=tellP pl x:=by unfold tellB;rw [hat]
 rw [htell]
 obtain ⟨MF,hMF⟩:∃ M,M=(A++(f,q,pl)::C).map flV:=⟨_,rfl⟩
 obtain ⟨MB,hMB⟩:∃ M,M=(A2++(a,x)::C2).map bkV:=⟨_,rfl⟩
 rw [←hMF,←hMB] at hw
 have hw:Sat R (FlsAt (A++(f,q,pl)::C)::BksAt (A2++(a,x)::C2)::pts p (bookC b m1 m2)::MapAt m1 MF::MapAt m2 MB::Hs) w:=hw.arr
 have hw:=fls_mid.1 hw
 have hw:Sat R (BksAt (A2++(a,x)::C2)::LoneAt f pl.r::QuAt q pl.q::FlsAt (A++C)::pts p (bookC b m1 m2)::MapAt m1 MF::MapAt m2 MB::Hs) w:=hw.arr
 have hw:=bks_mid.1 hw
 have hw:Sat R (pts p (bookC b m1 m2)::MapAt m1 MF::pts a (bkObj x)::LoneAt f pl.r::QuAt q pl.q::MapAt m2 MB::FlsAt (A++C)::BksAt (A2++C2)::Hs) w:=hw.arr
 rw [hMF] at hw
 refine (told_spec (by omega) hm hw).use ?_
 clear hw
 rintro _ w ⟨sl,sb,rfl,hw⟩
 refine ⟨_,rfl,sl,sb,rfl,?_⟩
 refine hw.cons fun _ hw=>hw.cons fun _ hw=>?_
 rw [←hMF] at hw
 have hw:Sat _ (LoneAt f pl.r::QuAt q pl.q::pts a (bkObj x)::pts p (bookC b m1 m2)::MapAt m1 MF::MapAt m2 MB::FlsAt (A++C)::BksAt (A2++C2)::Hs) w:=hw.arr
 exact open_close hl hMF hMB hw
set_option maxHeartbeats 1000000 in
theorem show_spec {p:Nat} {b:Book} {c:Cm} {sg sp:Sl} (k:Core b) (hg:RoI R sg c.grps) (hgl:c.grps.length≤17592186043904) (hp:sp.len=c.parts.length) (hw:Sat R (BookAt p b::Hs) w):
  Gets Tryz.prog 50 #[.pointer (some ⟨p,0,none⟩),cmA c sg sp] w
   fun v w'=>∃ sl sb:Sl,v=.agg (rpV (showB b c) sl sb).toArray∧Sat R (Own sl 3 (intsI (showB b c).left)::Own sb 9 ((showB b c).labs.map Value.string)::BookAt p b::Hs) w':=by
 apply call50
 suffices H:∀ K:Value→World→Prop,(∀ sl sb w',Sat R (Own sl 3 (intsI (showB b c).left)::Own sb 9 ((showB b c).labs.map Value.string)::BookAt p b::Hs) w'→K (.agg (rpV (showB b c) sl sb).toArray) w')→B50 (some ⟨p,0,none⟩) c.kind c.pnr c.flt c.cls c.many c.time c.sc c.lab c.rows sg sp K w from
  H _ (fun sl sb w' h=>⟨sl,sb,rfl,h⟩)
 intro K hK
 have hKe:∀ e w',showB b c=errR e→Sat R (BookAt p b::Hs) w'→K (.agg (rpV (errR e) nilSl nilSl).toArray) w':=fun e w' he hw=>by
  have:=hK nilSl nilSl w'
  rw [he] at this
  exact this (Own.nil (Own.nil hw))
 refine new_rule hw fun b3 w hw=>new_rule hw fun b4 w hw=>?_
 have hw:Sat R (rpNew b4::cmC b3 c sg sp::BookAt p b::Hs) w:=hw
 refine ⟨fun w=>(RightC c∧c.kind=9)∧Sat R (rpNew b4::cmC b3 c sg sp::BookAt p b::Hs) w,?_,?_⟩
 ·refine ⟨c.kind,c.pnr,c.flt,c.cls,c.many,c.time,c.sc,c.lab,c.rows,sg,sp,At.own (eqS hw) (by exact ⟨rfl,rfl,rfl,rfl,rfl,rfl,rfl,rfl,rfl,rfl,rfl,trivial⟩),?_⟩
  refine (bright_spec hg hgl hp hw).use ?_
  clear hw
  rintro _ w ⟨rfl,hw⟩
  refine .inl ⟨_,rfl,Br.d (fun hr=>?_) (fun hr=>?_)⟩
  ·refine ⟨c.kind,At.own (eqS hw) (by exact ⟨rfl,trivial⟩),?_⟩
   refine need_c (fun h=>.inl ⟨rfl,⟨hr,by simpa using h⟩,hw⟩) (fun h=>.inr ⟨_,rfl,reply_err (rpNew_c hw) fun w hw=>hKe 1 w ?_ hw.drop⟩)
   unfold showB
   rw [if_pos (.inr (by simpa using h))]
  ·refine need_c (fun h=>by cases h) (fun h=>.inr ⟨_,rfl,reply_err (rpNew_c hw) fun w hw=>hKe 1 w ?_ hw.drop⟩)
   unfold showB
   rw [if_pos (.inl hr)]
 clear hw
 rintro _ w ⟨hr,hw⟩
 have hno:¬ (¬ RightC c∨c.kind≠9):=fun h=>h.elim (fun h=>h hr.1) (fun h=>h hr.2)
 refine ⟨c.pnr,At.own (eqS hw) (by exact ⟨rfl,trivial⟩),Br.sne (fun hs=>?_) (fun hs=>?_)⟩
 ·refine ⟨c.pnr,At.own (eqS hw) (by exact ⟨rfl,trivial⟩),?_⟩
  have hs':c.pnr≠emS:=hs
  have hshow:∀ y,namedB b c.pnr=y→showB b c=(match y with|(none,e)=>errR e|(some x,_)=>tellB b x):=fun y hy=>by
   unfold showB
   rw [if_neg hno,if_pos hs',hy]
   obtain ⟨o,e⟩:=y
   cases o<;>rfl
  have hw:Sat R (BookAt p b::rpNew b4::cmC b3 c sg sp::Hs) w:=hw.arr
  refine (named_book k hw).use ?_ ?_
  ·clear hw
   rintro _ w ⟨a,x,rfl,hn,hxL,hw⟩
   have hsh:=hshow _ hn
   refine .inl ⟨_,rfl,?_⟩
   refine (told_book k hw).use ?_
   clear hw
   rintro _ w ⟨sl,sb,rfl,hw⟩
   refine .inl ?_
   have hw:Sat R (rpNew b4::Own sl 3 (intsI (tellB b x).left)::Own sb 9 ((tellB b x).labs.map Value.string)::BookAt p b::cmC b3 c sg sp::Hs) w:=hw.arr
   refine reply_ok (rpNew_c hw) fun w hw=>?_
   have:=hK sl sb w
   rw [hsh] at this
   exact this (hw.cons fun _ h=>h.cons fun _ h=>h.cons fun _ h=>h.drop)
  ·clear hw
   rintro _ w ⟨e,rfl,hn,hw⟩
   have hw:Sat R (rpNew b4::BookAt p b::cmC b3 c sg sp::Hs) w:=hw.swap
   exact .inr ⟨_,rfl,reply_err (rpNew_c hw) fun w hw=>hKe e w (hshow _ hn) (hw.cons fun _ h=>h.drop)⟩
 ·have hs':¬ c.pnr≠emS:=fun h=>h hs
  have hshow:∀ y,b.at c.flt=y→showB b c=(match y with|none=>errR 2|some p=>⟨0,emS,0,c.flt,0,(p.q.length:Int),0,rleftsF p.r,[]⟩):=fun y hy=>by
   unfold showB
   rw [if_neg hno,if_neg hs',hy]
   cases y<;>rfl
  refine ⟨c.flt,At.own (eqS hw) (by exact ⟨rfl,trivial⟩),?_⟩
  have hw:Sat R (BookAt p b::rpNew b4::cmC b3 c sg sp::Hs) w:=hw.arr
  obtain ⟨m1,m2,fs,xs,hl,hw⟩:=Sat.book.1 hw
  refine (bat_spec hw).use ?_ ?_
  ·clear hw
   rintro _ w ⟨⟨v1,v2,hgm,rfl⟩,hw⟩
   obtain ⟨A,f,q,C,pl,rfl,hm,hat,hv⟩:=fl_found hl k hgm
   simp only [Value.agg.injEq,Array.mk.injEq,List.cons.injEq,Value.pointer.injEq,and_true] at hv
   obtain ⟨rfl,rfl⟩:=hv
   have hsh:=hshow _ hat
   have hpl:=at_some hat
   have hqok:=k.qok pl hpl.1
   obtain ⟨MF,hMF⟩:∃ M,M=(A++(f,q,pl)::C).map flV:=⟨_,rfl⟩
   obtain ⟨MB,hMB⟩:∃ M,M=xs.map bkV:=⟨_,rfl⟩
   rw [←hMF,←hMB] at hw
   have hw:Sat R (FlsAt (A++(f,q,pl)::C)::cmC b3 c sg sp::rpNew b4::pts p (bookC b m1 m2)::MapAt m1 MF::MapAt m2 MB::BksAt xs::Hs) w:=hw.arr
   have hw:=fls_mid.1 hw
   refine .inl ⟨_,_,rfl,?_⟩
   refine new_rule hw fun b5 w hw=>?_
   refine store_rule hw (by kernel_rfl) rfl (by simp [Value.cells]) fun w hw=>?_
   have hw:=hw.re (fqC b5 f q)
   have toS:∀ {A:List HP} {R:Cx} {w:World},Sat R (cmC b3 c sg sp::fqC b5 f q::A) w→Sat R [cmC b3 c sg sp,fqC b5 f q,VC.tru] w:=fun h=>h.cons fun _ h=>h.restTru2
   refine drw_rule' (Sat R [cmC b3 c sg sp,fqC b5 f q,VC.tru]) hw (fun w hw=>?_) fun w hw=>?_
   ·exact toS (hw.arr (Hs':=cmC b3 c sg sp::fqC b5 f q::LoneAt f pl.r::QuAt q pl.q::FlsAt (A++C)::rpNew b4::pts p (bookC b m1 m2)::MapAt m1 MF::MapAt m2 MB::BksAt xs::Hs))
   refine ⟨c.flt,At.own (fun _ h=>h) (by exact ⟨rfl,trivial⟩),some ⟨f,0,none⟩,At.own (fun _ h=>h) (by exact ⟨rfl,trivial⟩),some ⟨q,0,none⟩,At.own (fun _ h=>h) (by exact ⟨rfl,trivial⟩),?_⟩
   refine (lone_left hw.swap).use ?_
   clear hw
   rintro _ w ⟨sl,rfl,hw⟩
   refine .inl ⟨sl,rfl,?_,?_⟩
   ·exact toS (hw.arr (Hs':=cmC b3 c sg sp::fqC b5 f q::Own sl 3 (intsI (rleftsF pl.r))::LoneAt f pl.r::QuAt q pl.q::FlsAt (A++C)::rpNew b4::pts p (bookC b m1 m2)::MapAt m1 MF::MapAt m2 MB::BksAt xs::Hs))
   have hw:Sat R (QuAt q pl.q::Own sl 3 (intsI (rleftsF pl.r))::LoneAt f pl.r::FlsAt (A++C)::cmC b3 c sg sp::fqC b5 f q::rpNew b4::pts p (bookC b m1 m2)::MapAt m1 MF::MapAt m2 MB::BksAt xs::Hs) w:=hw.arr
   refine (qall_spec (by have:=hqok.len;omega) hw).use ?_
   clear hw
   rintro _ w ⟨t,rfl,hw⟩
   have htl:=OwnN.len hw
   rw [List.length_map] at htl
   have hw:=hw.drop
   refine .inl ⟨t,rfl,?_,?_⟩
   ·exact toS (hw.arr (Hs':=cmC b3 c sg sp::fqC b5 f q::QuAt q pl.q::Own sl 3 (intsI (rleftsF pl.r))::LoneAt f pl.r::FlsAt (A++C)::rpNew b4::pts p (bookC b m1 m2)::MapAt m1 MF::MapAt m2 MB::BksAt xs::Hs))
   rw [htl]
   have hw:Sat R (rpNew b4::Own sl 3 (intsI (rleftsF pl.r))::LoneAt f pl.r::QuAt q pl.q::pts p (bookC b m1 m2)::MapAt m1 MF::MapAt m2 MB::FlsAt (A++C)::BksAt xs::cmC b3 c sg sp::fqC b5 f q::Hs) w:=hw.arr
   refine store_rule hw (by kernel_rfl) rfl (by simp [Value.cells]) fun w hw=>?_
   have hw:=hw.re (rpC b4 ⟨0,emS,0,c.flt,0,(pl.q.length:Int),0,rleftsF pl.r,[]⟩ sl nilSl)
   refine caughtR (retK hw ?_)
   have:=hK sl nilSl w
   rw [hsh] at this
   refine this ?_
   refine hw.drop.cons fun _ hw=>Own.nil ?_
   exact (book_close hl hMF hMB hw).cons fun _ h=>h.drop.drop
  ·clear hw
   rintro _ w ⟨rfl,hno2,hw⟩
   have hw:Sat R (rpNew b4::cmC b3 c sg sp::pts p (bookC b m1 m2)::MapAt m1 (fs.map flV)::MapAt m2 (xs.map bkV)::FlsAt fs::BksAt xs::Hs) w:=hw.arr
   refine .inr ⟨_,rfl,reply_err (rpNew_c hw) fun w hw=>hKe 2 w (hshow _ ((fl_none hl).1 hno2)) (Sat.book.2 ⟨m1,m2,fs,xs,hl,hw.drop⟩)⟩
theorem apply_part {g:FuncId} {ars:Array Value} {p b3 b4:Nat} {b nb:Book} {c:Cm} {res:Rp} {sg sp:Sl} {K:Value→World→Prop}
  (h:GetsX Tryz.prog g ars w (fun ch w'=>∃ e,ch=errP e∧(nb,res)=(b,errR e)∧Sat R (BookAt p b::rpNew b4::cmC b3 c sg sp::Hs) w')
   (fun v w'=>∃ sl sb:Sl,v=.agg (rpV res sl sb).toArray∧Sat R (Own sl 3 (intsI res.left)::Own sb 9 (res.labs.map Value.string)::BookAt p nb::rpNew b4::cmC b3 c sg sp::Hs) w'))
  (hK:∀ sl sb w',Sat R (Own sl 3 (intsI res.left)::Own sb 9 (res.labs.map Value.string)::BookAt p nb::Hs) w'→K (.agg (rpV res sl sb).toArray) w'):
  Calls Tryz.prog g ars w fun e w_5=>
   (∃ t0:Int,∃ t1:ByteArray,∃ t2:Int,∃ t3:Int,∃ t4:Int,∃ t5:Int,∃ t6:Int,∃ t7:Sl,∃ t8:Sl,(e=.returned (.agg #[.int .i64 t0,.string t1,.int .i64 t2,.int .i64 t3,.int .i64 t4,.int .i64 t5,.int .i64 t6,.slice t7.a t7.len t7.cap,.slice t8.a t8.len t8.cap]))∧
    ∃ w_6:World,((Instr.storeAt 102 (.pointer ((some ⟨b4,0,none⟩))) (.agg #[.int .i64 t0,.string t1,.int .i64 t2,.int .i64 t3,.int .i64 t4,.int .i64 t5,.int .i64 t6,.slice t7.a t7.len t7.cap,.slice t8.a t8.len t8.cap])).run Tryz.prog w_5=.ok () w_6)∧
    LeaveF Tryz.prog 44 [.pointer ((some ⟨b4,0,none⟩))] .returning (fun w_7=>RetK b4 K w_7) w_6)∨
   (∃ ch:List PanicEntry,(e=.panicked ch)∧LeaveF Tryz.prog 44 [.pointer ((some ⟨b4,0,none⟩))] (.panicking ch) (fun w_8=>RetK b4 K w_8) w_5):=by
 refine h.use ?_ ?_
 ·rintro _ w ⟨sl,sb,rfl,hw⟩
  have hw:Sat R (rpNew b4::Own sl 3 (intsI res.left)::Own sb 9 (res.labs.map Value.string)::BookAt p nb::cmC b3 c sg sp::Hs) w:=hw.arr
  exact .inl (reply_ok (rpNew_c hw) fun w hw=>hK sl sb w (hw.cons fun _ h=>h.cons fun _ h=>h.cons fun _ h=>h.drop))
 ·rintro _ w ⟨e,rfl,he,hw⟩
  have h1:=congrArg Prod.fst he
  have h2:=congrArg Prod.snd he
  dsimp only at h1 h2
  subst h1 h2
  exact .inr ⟨_,rfl,reply_err (rpNew_c hw.swap) fun w hw=>hK nilSl nilSl w (Own.nil (Own.nil (hw.cons fun _ h=>h.drop)))⟩
set_option maxHeartbeats 2000000 in
theorem apply_spec {p:Nat} {b:Book} {c:Cm} {sg sp:Sl} (k:BookOk b) (hsc:c.sc<18446744073709551616) (hg:RoI R sg c.grps) (hgl:c.grps.length≤17592186043904) (hp:SlR R.m sp (flts c.parts)) (hw:Sat R (BookAt p b::Hs) w):
  Gets Tryz.prog 28 #[.pointer (some ⟨p,0,none⟩),cmA c sg sp] w
   fun v w'=>∃ sl sb:Sl,v=.agg (rpV (applyB b c).2 sl sb).toArray∧Sat R (Own sl 3 (intsI (applyB b c).2.left)::Own sb 9 ((applyB b c).2.labs.map Value.string)::BookAt p (applyB b c).1::Hs) w':=by
 have hplen:sp.len=c.parts.length:=by have:=hp.len;simpa using this
 apply call28
 suffices H:∀ K:Value→World→Prop,(∀ sl sb w',Sat R (Own sl 3 (intsI (applyB b c).2.left)::Own sb 9 ((applyB b c).2.labs.map Value.string)::BookAt p (applyB b c).1::Hs) w'→K (.agg (rpV (applyB b c).2 sl sb).toArray) w')→B28 (some ⟨p,0,none⟩) c.kind c.pnr c.flt c.cls c.many c.time c.sc c.lab c.rows sg sp K w from
  H _ (fun sl sb w' h=>⟨sl,sb,rfl,h⟩)
 intro K hK
 refine new_rule hw fun b3 w hw=>new_rule hw fun b4 w hw=>?_
 have hw:Sat R (rpNew b4::cmC b3 c sg sp::BookAt p b::Hs) w:=hw
 refine ⟨c.kind,c.pnr,c.flt,c.cls,c.many,c.time,c.sc,c.lab,c.rows,sg,sp,At.own (eqS hw) (by exact ⟨rfl,rfl,rfl,rfl,rfl,rfl,rfl,rfl,rfl,rfl,rfl,trivial⟩),?_⟩
 refine (bright_spec hg hgl hplen hw).use ?_
 clear hw
 rintro _ w ⟨rfl,hw⟩
 refine .inl ⟨_,rfl,need_c (fun h=>.inl ⟨rfl,?_⟩) (fun h=>.inr ⟨_,rfl,?_⟩)⟩
 rotate_left
 ·have hr:¬ RightC c:=of_decide_eq_false h
  have e:applyB b c=(b,errR 1):=by unfold applyB;rw [if_pos hr]
  rw [e] at hK
  exact reply_err (rpNew_c hw) fun w hw=>hK nilSl nilSl w (Own.nil (Own.nil hw.drop))
 have hr:RightC c:=of_decide_eq_true h
 have hrr:¬ ¬ RightC c:=fun h=>h hr
 have hw:Sat R (BookAt p b::rpNew b4::cmC b3 c sg sp::Hs) w:=hw.arr
 refine ⟨c.kind,At.own (eqS hw) (by exact ⟨rfl,trivial⟩),Br.e (fun h1=>?_) (fun h1=>?_)⟩
 ·refine ⟨c.kind,c.pnr,c.flt,c.cls,c.many,c.time,c.sc,c.lab,c.rows,sg,sp,At.own (eqS hw) (by exact ⟨rfl,rfl,rfl,rfl,rfl,rfl,rfl,rfl,rfl,rfl,rfl,trivial⟩),?_⟩
  have e:applyB b c=openB b c:=by unfold applyB;rw [if_neg hrr,if_pos h1]
  rw [e] at hK
  refine apply_part (b:=b) (nb:=(openB b c).1) (res:=(openB b c).2) (c:=c) (p:=p) (b3:=b3) (sg:=sg) (sp:=sp) ?_ hK
  refine (bopen_spec (by have:=k.core.few;omega) hg hp hw).use ?_ ?_
  ·rintro _ w ⟨he,sl,rfl,hw⟩
   refine .inl ⟨_,rfl,sl,nilSl,?_⟩
   rw [he]
   exact ⟨rfl,hw.cons fun _ h=>Own.nil h⟩
  ·rintro _ w ⟨e,rfl,he,hw⟩
   exact .inr ⟨_,rfl,e,rfl,he,hw⟩
 refine ⟨fun t w=>t=decide (c.kind=2∨c.kind=7)∧Sat R (BookAt p b::rpNew b4::cmC b3 c sg sp::Hs) w,?_,?_⟩
 ·refine Br.e (fun h2=>⟨?_,hw⟩) (fun h2=>⟨?_,hw⟩)
  ·rw [decide_eq_true (.inl h2),h2];rfl
  ·by_cases h7:c.kind=7
   ·rw [decide_eq_true (.inr h7),h7];rfl
   ·rw [decide_eq_false (by omega)]
    exact beq_eq_false_iff_ne.2 h7
 clear hw
 rintro _ _ w ⟨rfl,hw⟩
 refine Br.d (fun h27=>?_) (fun h27=>?_)
 ·refine ⟨c.kind,c.pnr,c.flt,c.cls,c.many,c.time,c.sc,c.lab,c.rows,sg,sp,At.own (eqS hw) (by exact ⟨rfl,rfl,rfl,rfl,rfl,rfl,rfl,rfl,rfl,rfl,rfl,trivial⟩),?_⟩
  rcases h27 with h2|h7
  ·have e:applyB b c=heldB b c:=by unfold applyB;rw [if_neg hrr,if_neg h1,if_pos h2]
   rw [e] at hK
   exact apply_part (b:=b) (nb:=(heldB b c).1) (res:=(heldB b c).2) (c:=c) (p:=p) (ask2_spec h2 k.core hr hw) hK
  ·have e:applyB b c=waitB b c:=by unfold applyB;rw [if_neg hrr,if_neg h1,if_neg (by omega),if_pos h7]
   rw [e] at hK
   exact apply_part (b:=b) (nb:=(waitB b c).1) (res:=(waitB b c).2) (c:=c) (p:=p) (ask7_spec h7 k hr hsc hw) hK
 refine Br.e (fun h8=>?_) (fun h8=>Br.e (fun h9=>?_) (fun h9=>?_))
 ·refine ⟨c.kind,c.pnr,c.flt,c.cls,c.many,c.time,c.sc,c.lab,c.rows,sg,sp,At.own (eqS hw) (by exact ⟨rfl,rfl,rfl,rfl,rfl,rfl,rfl,rfl,rfl,rfl,rfl,trivial⟩),?_⟩
  have e:applyB b c=clockB b c:=by unfold applyB;rw [if_neg hrr,if_neg h1,if_neg (by omega),if_neg (by omega),if_pos h8]
  rw [e] at hK
  exact apply_part (b:=b) (nb:=(clockB b c).1) (res:=(clockB b c).2) (c:=c) (p:=p) (clock_spec k.core hr hw) hK
 ·refine ⟨c.kind,c.pnr,c.flt,c.cls,c.many,c.time,c.sc,c.lab,c.rows,sg,sp,At.own (eqS hw) (by exact ⟨rfl,rfl,rfl,rfl,rfl,rfl,rfl,rfl,rfl,rfl,rfl,trivial⟩),?_⟩
  have e:applyB b c=(b,showB b c):=by unfold applyB;rw [if_neg hrr,if_neg h1,if_neg (by omega),if_neg (by omega),if_neg h8,if_pos h9]
  rw [e] at hK
  refine apply_part (b:=b) (nb:=b) (res:=showB b c) (c:=c) (p:=p) (b3:=b3) (sg:=sg) (sp:=sp) ?_ hK
  refine (show_spec k.core hg hgl hplen hw).use ?_
  rintro _ w ⟨sl,sb,rfl,hw⟩
  exact .inl ⟨_,rfl,sl,sb,rfl,hw⟩
 ·have hap:∀ y,namedB b c.pnr=y→applyB b c=(match y with|(none,e)=>(b,errR e)|(some x,_)=>oneB b x c):=fun y hy=>by
   unfold applyB
   rw [if_neg hrr,if_neg h1,if_neg (by omega),if_neg (by omega),if_neg h8,if_neg h9,hy]
   obtain ⟨o,e⟩:=y
   cases o<;>rfl
  have hk36:c.kind=3∨c.kind=4∨c.kind=5∨c.kind=6:=by have:=hr.kind;omega
  have toS:∀ {A:List HP} {R:Cx} {w:World},Sat R (cmC b3 c sg sp::A) w→Sat R [cmC b3 c sg sp,VC.tru] w:=fun h=>h.restTru2
  refine drw_rule' (Sat R [cmC b3 c sg sp,VC.tru]) hw (fun w hw=>?_) fun w hw=>?_
  ·exact toS (hw.arr (Hs':=cmC b3 c sg sp::BookAt p b::rpNew b4::Hs))
  refine ⟨c.pnr,At.own (fun _ h=>h) (by exact ⟨rfl,trivial⟩),c.kind,c.pnr,c.flt,c.cls,c.many,c.time,c.sc,c.lab,c.rows,sg,sp,At.own (fun _ h=>h) (by exact ⟨rfl,rfl,rfl,rfl,rfl,rfl,rfl,rfl,rfl,rfl,rfl,trivial⟩),?_⟩
  refine (named_book k.core hw).use ?_ ?_
  ·clear hw
   rintro _ w ⟨a,x,rfl,hn,hxL,hop⟩
   have e:=hap _ hn
   rw [e] at hK
   refine .inl ⟨_,rfl,?_,?_⟩
   ·exact toS (hop.close.arr (Hs':=cmC b3 c sg sp::BookAt p b::rpNew b4::Hs))
   obtain ⟨m1,m2,fs,A2,C2,hl,hbm,hw⟩:=hop
   refine (one_spec hk36 k.core (by have:=hr.lab;omega) hl hbm hw).use ?_ ?_
   ·clear hw
    rintro _ w ⟨sl,sb,rfl,hw⟩
    have hS:=toS (hw.arr (Hs':=cmC b3 c sg sp::Own sl 3 (intsI (oneB b x c).2.left)::Own sb 9 ((oneB b x c).2.labs.map Value.string)::BookAt p (oneB b x c).1::rpNew b4::Hs))
    have hw:Sat R (rpNew b4::Own sl 3 (intsI (oneB b x c).2.left)::Own sb 9 ((oneB b x c).2.labs.map Value.string)::BookAt p (oneB b x c).1::cmC b3 c sg sp::Hs) w:=hw.arr
    refine .inl ?_
    obtain ⟨t0,t1,t2,t3,t4,t5,t6,t7,t8,he,h⟩:=reply_ok (r:=(oneB b x c).2) (sl:=sl) (sb:=sb) (K:=K) (rpNew_c hw) fun w hw=>hK sl sb w (hw.cons fun _ h=>h.cons fun _ h=>h.cons fun _ h=>h.drop)
    exact ⟨t0,t1,t2,t3,t4,t5,t6,t7,t8,he,hS,h⟩
   ·clear hw
    rintro _ w ⟨e,rfl,he,hw⟩
    dsimp only at hK
    rw [he] at hK
    exact .inr ⟨_,rfl,reply_err (rpNew_c hw.swap) fun w hw=>hK nilSl nilSl w (Own.nil (Own.nil (hw.cons fun _ h=>h.drop)))⟩
  ·clear hw
   rintro _ w ⟨e,rfl,hn,hw⟩
   have e2:=hap _ hn
   rw [e2] at hK
   exact .inr ⟨_,rfl,reply_err (rpNew_c hw.swap) fun w hw=>hK nilSl nilSl w (Own.nil (Own.nil (hw.cons fun _ h=>h.drop)))⟩
end Go.Proofs.YtflgboncpbmikaaGreatDoor




/- Chapter 18: BookingBack. Condition: the sizes of what is handed. -/
namespace Go.Proofs.YtflgboncpbmikaaGreatDoor
set_option linter.unusedVariables false
set_option linter.unusedSimpArgs false
open Go Go.VC
open Classical
variable {R:Cx} {Hs Rest:List HP} {w:World}
theorem bytes_app {a b:List Int} (h1:Bytes a) (h2:Bytes b):Bytes (a++b):=fun x hx=>(List.mem_append.1 hx).elim (h1 x) (h2 x)
theorem bytes_flat {α:Type} {f:α→List Int} {l:List α} (h:∀ x∈l,Bytes (f x)):Bytes (l.map f).flatten:=fun y hy=>by
 obtain ⟨r,h1,h2⟩:=List.mem_flatten.1 hy
 obtain ⟨x,hx,rfl⟩:=List.mem_map.1 h1
 exact h x hx y h2
theorem bytes_num {x:Int} (h:0≤x∧x<18446744073709551616):Bytes (numsB [x]):=numsB_bd fun y hy=>by rw [List.mem_singleton.1 hy];exact h
theorem bytes_text {d:List Int} (h:Bytes d) (hl:d.length<1000000):Bytes (textB d):=bytes_app (numB_bd (by omega)) h
theorem bytes_str {s:ByteArray} (h:s.size<1000000):Bytes (strB s):=bytes_text (bytesL_bd s) (by rw [bytesL_len];exact h)
theorem bytes_rp {r:Rp} (h:RpIn r):Bytes (rpB r):=by
 have r1:=h.code
 have r2:=h.pnr
 have r3:=h.state
 have r4:=h.flt
 have r5:=h.cls
 have r6:=h.many
 have r7:=h.time
 have r8:=h.ll
 have r9:=h.bl
 unfold rpB
 rw [nn_id r1.1,nn_id r3.1,nn_id r4.1,nn_id r5.1,nn_id r6.1,nn_id r7.1,nn_map fun n hn=>(h.left n hn).1]
 refine bytes_app (bytes_num (by omega)) (bytes_app (bytes_str (by omega)) (bytes_app (bytes_num (by omega)) (bytes_app (bytes_num (by omega)) (bytes_app (bytes_num (by omega)) (bytes_app (bytes_num (by omega)) (bytes_app (bytes_num (by omega)) (bytes_app (bytes_num (by omega)) (bytes_app (numsB_bd fun x hx=>?_) (bytes_app (bytes_num (by omega)) (bytes_flat fun x hx=>bytes_str ?_))))))))))
 ·have:=h.left x hx
  omega
 ·have:=h.labs x hx
  omega
theorem rpin_w {r:Rp} (h:RpIn r):RpW r:=by
 refine ⟨fun x hx=>?_,by have:=h.pnr;omega,by have:=h.ll;omega,by have:=h.bl;omega,fun s hs=>by have:=h.labs s hs;omega⟩
 have r1:=h.code
 have r3:=h.state
 have r4:=h.flt
 have r5:=h.cls
 have r6:=h.many
 have r7:=h.time
 rcases List.mem_append.1 hx with hx|hx
 ·simp only [List.mem_cons,List.not_mem_nil,or_false] at hx
  omega
 ·have:=h.left x hx
  omega
end Go.Proofs.YtflgboncpbmikaaGreatDoor
/- Requests and answers of sessions as bytes, plainly. No condition. -/
namespace Go.Proofs.YtflgboncpbmikaaGreatDoor
set_option linter.unusedVariables false
set_option linter.unusedSimpArgs false
open Go Go.VC
open Classical
abbrev mI:Int:=1099511627776
structure Rq where
 kind:Int
 client:Int
 seq:Int
 token:Int
 cmd:List Int
def inI (n:Int):Prop:=0≤n∧n≤1099511627776
structure RightQ (q:Rq):Prop where
 client:inI q.client
 seq:inI q.seq
 token:inI q.token
 cmd:q.cmd.length≤4000
 kind:(q.kind=1∧q.client=0∧q.seq=0∧q.cmd.length=0)∨(q.kind=2∧q.token=0)∨(q.kind=3∧q.token=0∧q.seq=0∧q.cmd.length=0)∨(q.kind=4∧q.client=0∧q.seq=0∧q.token=0)
def rqB (q:Rq):List Int:=numsB [q.kind,q.client,q.seq,q.token]++textB q.cmd
def rqRd (m:Int) (r:Rd):Rq × Rd:=
 let k:=rdNum m r
 let c:=rdNum mI k.2
 let s:=rdNum mI c.2
 let t:=rdNum mI s.2
 let d:=rdText 4000 t.2
 (⟨k.1,c.1,s.1,t.1,d.1⟩,d.2)
def zeroQ:Rq:=⟨0,0,0,0,[]⟩
noncomputable def rqDec (m:Int) (bs:List Int):Rq × Int:=if rdWhole (rqRd m ⟨bs,false⟩).2=true∧RightQ (rqRd m ⟨bs,false⟩).1 then ((rqRd m ⟨bs,false⟩).1,0) else (zeroQ,6)
noncomputable def encQ (q:Rq):List Int × Int:=if RightQ q then (rqB q,0) else ([],1)
theorem RightQ.k4 {q:Rq} (h:RightQ q):1≤q.kind∧q.kind≤4:=by
 have:=h.kind
 omega
theorem rqB_len {q:Rq} (h:RightQ q):(rqB q).length≤5000:=by
 have h1:=h.k4
 obtain ⟨a1,a2⟩:=h.client
 obtain ⟨a3,a4⟩:=h.seq
 obtain ⟨a5,a6⟩:=h.token
 have h2:=h.cmd
 unfold rqB
 have l1:=numsB_len (l:=[q.kind,q.client,q.seq,q.token]) fun x hx=>by
  simp only [List.mem_cons,List.not_mem_nil,or_false] at hx
  rcases hx with rfl|rfl|rfl|rfl<;>omega
 have l2:=textB_len (d:=q.cmd) (by omega)
 rw [List.length_append]
 simp only [List.length_cons,List.length_nil] at l1
 omega
theorem numsB4 (a b c d:Int) (rest:List Int):numsB [a,b,c,d]++rest=numsB [a]++(numsB [b]++(numsB [c]++(numsB [d]++rest))):=by
 rw [show numsB [a,b,c,d]=numsB [a]++(numsB [b]++(numsB [c]++numsB [d])) by rw [numsB_one a,numsB_one b,numsB_one c]]
 simp only [List.append_assoc]
theorem rq_back {q:Rq} (h:RightQ q):rqRd mI ⟨rqB q,false⟩=(q,⟨[],false⟩):=by
 have h1:=h.k4
 obtain ⟨a1,a2⟩:=h.client
 obtain ⟨a3,a4⟩:=h.seq
 obtain ⟨a5,a6⟩:=h.token
 have h2:=h.cmd
 unfold rqRd rqB
 rw [numsB4]
 rw [rdNum_nums (by omega) (by show q.kind≤1099511627776;omega) (by omega)]
 dsimp only
 rw [rdNum_nums (by omega) (by show q.client≤1099511627776;omega) (by omega)]
 dsimp only
 rw [rdNum_nums (by omega) (by show q.seq≤1099511627776;omega) (by omega)]
 dsimp only
 rw [rdNum_nums (by omega) (by show q.token≤1099511627776;omega) (by omega)]
 dsimp only
 have:=rdText_code (d:=q.cmd) (rest:=[]) (most:=4000) (by omega) (by omega)
 rw [List.append_nil] at this
 rw [this]
theorem rqDec_back {q:Rq} (h:RightQ q):rqDec mI (rqB q)=(q,0):=by
 unfold rqDec
 rw [rq_back h,if_pos ⟨rfl,h⟩]
structure Told where
 code:Int
 client:Int
 seq:Int
 reply:List Int
def tdB (t:Told):List Int:=numsB ([t.code,t.client,t.seq].map nn)++textB t.reply
def tdRd (r:Rd):Told × Rd:=
 let k:=rdNum mI r
 let c:=rdNum mI k.2
 let s:=rdNum mI c.2
 let d:=rdText 65536 s.2
 (⟨k.1,c.1,s.1,d.1⟩,d.2)
def zeroT:Told:=⟨0,0,0,[]⟩
def tdDec (bs:List Int):Told × Int:=if rdWhole (tdRd ⟨bs,false⟩).2=true then ((tdRd ⟨bs,false⟩).1,0) else (zeroT,6)
end Go.Proofs.YtflgboncpbmikaaGreatDoor
/- The formulas of functions of this seat's translation, printed by a program of mine off the translation; each is proved equal to 'fnF' of the function's body, so it is enough for the call. No condition. -/
namespace Go.Proofs.YtflgboncpbmikaaGreatDoor
open Go Go.VC
set_option linter.unusedVariables false
set_option maxRecDepth 10000
def B17 (C:Int) (D:Int) (E:Int) (F:Int) (m:Sl) (K:Value→World→Prop) (w:World):Prop:=
 New (.cells #[.int .i64 C,.int .i64 D,.int .i64 E,.int .i64 F,.slice m.a m.len m.cap] 24 (0,0)) (fun d j=>
 ∃ (o:World→Prop),(∃ y:Int,(At (fun b=>b=j) ⟨d,0 + 1,none⟩ [.int .i64 y])∧
 ∃ A:Int,(At (fun b=>b=j) ⟨d,0 + 2,none⟩ [.int .i64 A])∧
 ∃ p:Int,(At (fun b=>b=j) ⟨d,0 + 3,none⟩ [.int .i64 p])∧
 New (.cells #[.int .i64 y,.int .i64 A,.int .i64 p] 3 (0,0)) (fun G I=>
 Calls Tryz.prog 34 #[.slice ((some ⟨G,0,none⟩)) 3 3,.func (.func 33) #[] #[]] I fun H k=>
 ∃ q:Bool,(H=.returned (.bool q))∧
 Br q
 (K (.bool false) k)
 (∃ g:Sl,(At (fun b=>b=k) ⟨d,0 + 4,none⟩ [.slice g.a g.len g.cap])∧
 Br (decide ((↑g.len:Int)>4000))
 (K (.bool false) k)
 (o  k))) j)∧
 ∀ (J:Env)  (f:World),o  f→
 ∃ (l:Bool→World→Prop),(∃ r:Int,(At (fun b=>b=f) ⟨d,0 + 2,none⟩ [.int .i64 r])∧
 Br (r==0)
 (∃ i:Sl,(At (fun b=>b=f) ⟨d,0 + 4,none⟩ [.slice i.a i.len i.cap])∧
 l ((↑i.len:Int)==0) f)
 (l false f))∧
 ∀ (L:Env) (n:Bool) (c:World),l n c→
 ∃ e:Int,(At (fun b=>b=c) ⟨d,0,none⟩ [.int .i64 e])∧
 Br (e==1)
 (∃ s:Int,(At (fun b=>b=c) ⟨d,0 + 1,none⟩ [.int .i64 s])∧
 Br (s==0)
 (K (.bool n) c)
 (K (.bool false) c))
 (Br (e==2)
 (∃ t:Int,(At (fun b=>b=c) ⟨d,0 + 3,none⟩ [.int .i64 t])∧
 K (.bool (t==0)) c)
 (Br (e==3)
 (∃ u:Int,(At (fun b=>b=c) ⟨d,0 + 3,none⟩ [.int .i64 u])∧
 Br (u==0)
 (K (.bool n) c)
 (K (.bool false) c))
 (Br (e==4)
 (∃ v:Int,(At (fun b=>b=c) ⟨d,0 + 1,none⟩ [.int .i64 v])∧
 Br (v==0)
 (∃ x:Int,(At (fun b=>b=c) ⟨d,0 + 2,none⟩ [.int .i64 x])∧
 Br (x==0)
 (∃ z:Int,(At (fun b=>b=c) ⟨d,0 + 3,none⟩ [.int .i64 z])∧
 K (.bool (z==0)) c)
 (K (.bool false) c))
 (K (.bool false) c))
 (K (.bool false) c))))) w
def sk17:Sk:=(.seq .leaf (.seq .leaf (.cut [] [] [2,5,6,7,8,9,10,11,12,13,14,15,16,17,18,19] .leaf (.cut [4] [.bool] [4,20,21,22,23,24,25,26,27,28] .leaf .leaf))))
theorem call17 (c:Int) (d:Int) (e:Int) (f:Int) (b:Sl) (K:Value→World→Prop) (w:World) (h:B17 c d e f b K w):Gets Tryz.prog 17 #[.agg #[.int .i64 c,.int .i64 d,.int .i64 e,.int .i64 f,.slice b.a b.len b.cap]] w K:=cq (sk:=sk17) Tryz.func17 (by kernel_rfl) (by kernel_rfl) (by kernel_rfl) h
def B33 (a:Int) (K:Value→World→Prop) (w:World):Prop:=
 Br (decide (a<0))
 (K (.bool true) w)
 (K (.bool (decide (a>1099511627776))) w)
theorem call33 (a:Int) (K:Value→World→Prop) (w:World) (h:B33 a K w):Gets Tryz.prog 33 #[.int .i64 a] w K:=cq (sk:=.leaf) Tryz.func33 (by kernel_rfl) (by kernel_rfl) (by kernel_rfl) h
def B18 (i:Sl) (K:Value→World→Prop) (w:World):Prop:=
 ∃ (g:Sl→Int→World→Prop) (l:Sl→Int→World→Nat),(g ⟨none,0,0⟩ 0 w)∧∀ (q:Env) (b:Sl) (c:Int) (f:World),g b c f→
 Br (decide (c<(↑i.len:Int)))
 (Rng c i.len (NilP i.a fun m=>
 ∃ j:Int,(At (fun o=>o=f) (Addr.add m c.toNat) [.int .i64 j])∧
 Calls Tryz.prog 35 #[.int .u64 (IntKind.u64.wrap (if 0>j then 0 else j))] f fun n p=>
 ∃ d:Sl,(n=.returned (.slice d.a d.len d.cap))∧
 ∃ k:World,∃ e:Sl,((Builtin.append_ #[22,22] 22 #[.slice b.a b.len b.cap,.slice d.a d.len d.cap]).run Tryz.prog p=.ok (.slice e.a e.len e.cap) k)∧
 (g e (IntKind.i64.wrap (c + 1)) k)∧l e (IntKind.i64.wrap (c + 1)) k<l b c f))
 (K (.slice b.a b.len b.cap) f)
def sk18:Sk:=(.seq .leaf (.seq .leaf (.seq (.seq .leaf (.block (.loop [3,8] [.sl,(.int .i64)] [3,5,8,9,10,11,12,13,14,15,16,17,18] .leaf))) .leaf)))
theorem call18 (b:Sl) (K:Value→World→Prop) (w:World) (h:B18 b K w):Gets Tryz.prog 18 #[.slice b.a b.len b.cap] w K:=cq (sk:=sk18) Tryz.func18 (by kernel_rfl) (by kernel_rfl) (by kernel_rfl) h
def B7 (A:Int) (C:Int) (D:Int) (E:Int) (j:Sl) (K:Value→World→Prop) (w:World):Prop:=
 New (.cells #[.int .i64 A,.int .i64 C,.int .i64 D,.int .i64 E,.slice j.a j.len j.cap] 24 (0,0)) (fun c u=>
 ∃ o:Int,∃ p:Int,∃ q:Int,∃ r:Int,∃ i:Sl,(At (fun J=>J=u) ⟨c,0,none⟩ [.int .i64 o,.int .i64 p,.int .i64 q,.int .i64 r,.slice i.a i.len i.cap])∧
 Calls Tryz.prog 17 #[.agg #[.int .i64 o,.int .i64 p,.int .i64 q,.int .i64 r,.slice i.a i.len i.cap]] u fun G v=>
 ∃ s:Bool,(G=.returned (.bool s))∧
 Br (!s)
 (K (.tuple #[.slice none 0 0,.int .i64 1]) v)
 (Drw v fun b L=>
 ∃ t:Int,(At b ⟨c,0,none⟩ [.int .i64 t])∧
 ∃ l:Int,(At b ⟨c,0 + 1,none⟩ [.int .i64 l])∧
 ∃ m:Int,(At b ⟨c,0 + 2,none⟩ [.int .i64 m])∧
 ∃ n:Int,(At b ⟨c,0 + 3,none⟩ [.int .i64 n])∧
 ∃ e:Sl,(At b ⟨c,0 + 4,none⟩ [.slice e.a e.len e.cap])∧
 New (.cells #[.int .i64 t,.int .i64 l,.int .i64 m,.int .i64 n] 3 (0,0)) (fun F x=>
 (b x)∧
 Calls Tryz.prog 18 #[.slice ((some ⟨F,0,none⟩)) 4 4] x fun H y=>
 ∃ d:Sl,(H=.returned (.slice d.a d.len d.cap))∧
 (b y)∧
 Calls Tryz.prog 19 #[.slice e.a e.len e.cap] y fun I z=>
 ∃ f:Sl,(I=.returned (.slice f.a f.len f.cap))∧
 (b z)∧
 ∃ k:World,∃ g:Sl,((Builtin.append_ #[22,22] 22 #[.slice d.a d.len d.cap,.slice f.a f.len f.cap]).run Tryz.prog z=.ok (.slice g.a g.len g.cap) k)∧
 (b k)∧
 K (.tuple #[.slice g.a g.len g.cap,.int .i64 0]) k) L)) w
theorem call7 (c:Int) (d:Int) (e:Int) (f:Int) (b:Sl) (K:Value→World→Prop) (w:World) (h:B7 c d e f b K w):Gets Tryz.prog 7 #[.agg #[.int .i64 c,.int .i64 d,.int .i64 e,.int .i64 f,.slice b.a b.len b.cap]] w K:=cq (sk:=.leaf) Tryz.func7 (by kernel_rfl) (by kernel_rfl) (by kernel_rfl) h
def B21 (c:Option Addr) (K:Value→World→Prop) (w:World):Prop:=
 Calls Tryz.prog 36 #[.pointer c,.int .u64 1099511627776] w fun b d=>
 ∃ a:Int,(b=.returned (.int .u64 a))∧
 K (.int .i64 (IntKind.i64.wrap a)) d
theorem call21 (a:Option Addr) (K:Value→World→Prop) (w:World) (h:B21 a K w):Gets Tryz.prog 21 #[.pointer a] w K:=cq (sk:=.leaf) Tryz.func21 (by kernel_rfl) (by kernel_rfl) (by kernel_rfl) h
def B8 (m:Sl) (K:Value→World→Prop) (w:World):Prop:=
 New (.cells #[.int .i64 0,.int .i64 0,.int .i64 0,.int .i64 0,.slice none 0 0] 24 (0,0)) (fun d aj=>
 Calls Tryz.prog 20 #[.slice m.a m.len m.cap] aj fun ab ak=>
 ∃ c:Option Addr,(ab=.returned (.pointer c))∧
 Calls Tryz.prog 21 #[.pointer c] ak fun ac al=>
 ∃ Y:Int,(ac=.returned (.int .i64 Y))∧
 Calls Tryz.prog 21 #[.pointer c] al fun ad am=>
 ∃ s:Int,(ad=.returned (.int .i64 s))∧
 Calls Tryz.prog 21 #[.pointer c] am fun ae an=>
 ∃ t:Int,(ae=.returned (.int .i64 t))∧
 Calls Tryz.prog 21 #[.pointer c] an fun af ao=>
 ∃ u:Int,(af=.returned (.int .i64 u))∧
 New (.cells #[.int .i64 0,.int .i64 0,.int .i64 0,.int .i64 0,.slice none 0 0] 24 (0,0)) (fun l ap=>
 ∃ aa:World,((Instr.storeAt 24 (.pointer ((some ⟨l,0,none⟩))) (.agg #[.int .i64 Y,.int .i64 s,.int .i64 t,.int .i64 u,.slice none 0 0])).run Tryz.prog ap=.ok () aa)∧
 Calls Tryz.prog 22 #[.pointer c,.int .i64 4000] aa fun ag aq=>
 ∃ e:Sl,(ag=.returned (.slice e.a e.len e.cap))∧
 ∃ Z:World,((Instr.storeAt 22 (.pointer ((some ⟨l,0 + 4,none⟩))) (.slice e.a e.len e.cap)).run Tryz.prog aq=.ok () Z)∧
 Calls Tryz.prog 23 #[.pointer c] Z fun ah n=>
 ∃ v:Bool,(ah=.returned (.bool v))∧
 Br (!v)
 (∃ o:World,((Instr.storeAt 24 (.pointer ((some ⟨d,0,none⟩))) (.agg #[.int .i64 0,.int .i64 0,.int .i64 0,.int .i64 0,.slice none 0 0])).run Tryz.prog n=.ok () o)∧
 ∃ H:Int,∃ I:Int,∃ O:Int,∃ Q:Int,∃ j:Sl,(At (fun b=>b=o) ⟨d,0,none⟩ [.int .i64 H,.int .i64 I,.int .i64 O,.int .i64 Q,.slice j.a j.len j.cap])∧
 K (.tuple #[.agg #[.int .i64 H,.int .i64 I,.int .i64 O,.int .i64 Q,.slice j.a j.len j.cap],.int .i64 6]) o)
 (∃ x:Int,∃ y:Int,∃ z:Int,∃ A:Int,∃ f:Sl,(At (fun b=>b=n) ⟨l,0,none⟩ [.int .i64 x,.int .i64 y,.int .i64 z,.int .i64 A,.slice f.a f.len f.cap])∧
 Calls Tryz.prog 17 #[.agg #[.int .i64 x,.int .i64 y,.int .i64 z,.int .i64 A,.slice f.a f.len f.cap]] n fun ai p=>
 ∃ C:Bool,(ai=.returned (.bool C))∧
 Br (!C)
 (∃ q:World,((Instr.storeAt 24 (.pointer ((some ⟨d,0,none⟩))) (.agg #[.int .i64 0,.int .i64 0,.int .i64 0,.int .i64 0,.slice none 0 0])).run Tryz.prog p=.ok () q)∧
 ∃ T:Int,∃ U:Int,∃ V:Int,∃ X:Int,∃ k:Sl,(At (fun b=>b=q) ⟨d,0,none⟩ [.int .i64 T,.int .i64 U,.int .i64 V,.int .i64 X,.slice k.a k.len k.cap])∧
 K (.tuple #[.agg #[.int .i64 T,.int .i64 U,.int .i64 V,.int .i64 X,.slice k.a k.len k.cap],.int .i64 6]) q)
 (∃ D:Int,∃ E:Int,∃ F:Int,∃ G:Int,∃ g:Sl,(At (fun b=>b=p) ⟨l,0,none⟩ [.int .i64 D,.int .i64 E,.int .i64 F,.int .i64 G,.slice g.a g.len g.cap])∧
 ∃ r:World,((Instr.storeAt 24 (.pointer ((some ⟨d,0,none⟩))) (.agg #[.int .i64 D,.int .i64 E,.int .i64 F,.int .i64 G,.slice g.a g.len g.cap])).run Tryz.prog p=.ok () r)∧
 ∃ J:Int,∃ L:Int,∃ M:Int,∃ N:Int,∃ i:Sl,(At (fun b=>b=r) ⟨d,0,none⟩ [.int .i64 J,.int .i64 L,.int .i64 M,.int .i64 N,.slice i.a i.len i.cap])∧
 K (.tuple #[.agg #[.int .i64 J,.int .i64 L,.int .i64 M,.int .i64 N,.slice i.a i.len i.cap],.int .i64 0]) r))) ao) w
theorem call8 (b:Sl) (K:Value→World→Prop) (w:World) (h:B8 b K w):Gets Tryz.prog 8 #[.slice b.a b.len b.cap] w K:=cq (sk:=.leaf) Tryz.func8 (by kernel_rfl) (by kernel_rfl) (by kernel_rfl) h
def B13 (t:Int) (u:Int) (v:Int) (i:Sl) (K:Value→World→Prop) (w:World):Prop:=
 New (.cells #[.int .i64 t,.int .i64 u,.int .i64 v,.slice i.a i.len i.cap] 37 (0,0)) (fun g x=>
 Drw x fun b y=>
 ∃ k:Int,(At b ⟨g,0,none⟩ [.int .i64 k])∧
 ∃ l:Int,(At b ⟨g,0 + 1,none⟩ [.int .i64 l])∧
 ∃ m:Int,(At b ⟨g,0 + 2,none⟩ [.int .i64 m])∧
 ∃ d:Sl,(At b ⟨g,0 + 3,none⟩ [.slice d.a d.len d.cap])∧
 New (.cells #[.int .i64 k,.int .i64 l,.int .i64 m] 3 (0,0)) (fun q n=>
 (b n)∧
 Calls Tryz.prog 18 #[.slice ((some ⟨q,0,none⟩)) 3 3] n fun r o=>
 ∃ c:Sl,(r=.returned (.slice c.a c.len c.cap))∧
 (b o)∧
 Calls Tryz.prog 19 #[.slice d.a d.len d.cap] o fun s p=>
 ∃ e:Sl,(s=.returned (.slice e.a e.len e.cap))∧
 (b p)∧
 ∃ j:World,∃ f:Sl,((Builtin.append_ #[22,22] 22 #[.slice c.a c.len c.cap,.slice e.a e.len e.cap]).run Tryz.prog p=.ok (.slice f.a f.len f.cap) j)∧
 (b j)∧
 K (.slice f.a f.len f.cap) j) y) w
theorem call13 (c:Int) (d:Int) (e:Int) (b:Sl) (K:Value→World→Prop) (w:World) (h:B13 c d e b K w):Gets Tryz.prog 13 #[.agg #[.int .i64 c,.int .i64 d,.int .i64 e,.slice b.a b.len b.cap]] w K:=cq (sk:=.leaf) Tryz.func13 (by kernel_rfl) (by kernel_rfl) (by kernel_rfl) h
def B12 (j:Sl) (K:Value→World→Prop) (w:World):Prop:=
 New (.cells #[.int .i64 0,.int .i64 0,.int .i64 0,.slice none 0 0] 37 (0,0)) (fun i M=>
 Calls Tryz.prog 20 #[.slice j.a j.len j.cap] M fun F N=>
 ∃ f:Option Addr,(F=.returned (.pointer f))∧
 Calls Tryz.prog 21 #[.pointer f] N fun G O=>
 ∃ C:Int,(G=.returned (.int .i64 C))∧
 Calls Tryz.prog 21 #[.pointer f] O fun H Q=>
 ∃ o:Int,(H=.returned (.int .i64 o))∧
 Calls Tryz.prog 21 #[.pointer f] Q fun I T=>
 ∃ p:Int,(I=.returned (.int .i64 p))∧
 New (.cells #[.int .i64 0,.int .i64 0,.int .i64 0,.slice none 0 0] 37 (0,0)) (fun k U=>
 ∃ D:World,((Instr.storeAt 37 (.pointer ((some ⟨k,0,none⟩))) (.agg #[.int .i64 C,.int .i64 o,.int .i64 p,.slice none 0 0])).run Tryz.prog U=.ok () D)∧
 Calls Tryz.prog 22 #[.pointer f,.int .i64 65536] D fun J V=>
 ∃ b:Sl,(J=.returned (.slice b.a b.len b.cap))∧
 ∃ E:World,((Instr.storeAt 22 (.pointer ((some ⟨k,0 + 3,none⟩))) (.slice b.a b.len b.cap)).run Tryz.prog V=.ok () E)∧
 Calls Tryz.prog 23 #[.pointer f] E fun L l=>
 ∃ q:Bool,(L=.returned (.bool q))∧
 Br (!q)
 (∃ m:World,((Instr.storeAt 37 (.pointer ((some ⟨i,0,none⟩))) (.agg #[.int .i64 0,.int .i64 0,.int .i64 0,.slice none 0 0])).run Tryz.prog l=.ok () m)∧
 ∃ u:Int,∃ v:Int,∃ x:Int,∃ d:Sl,(At (fun g=>g=m) ⟨i,0,none⟩ [.int .i64 u,.int .i64 v,.int .i64 x,.slice d.a d.len d.cap])∧
 K (.tuple #[.agg #[.int .i64 u,.int .i64 v,.int .i64 x,.slice d.a d.len d.cap],.int .i64 6]) m)
 (∃ r:Int,∃ s:Int,∃ t:Int,∃ c:Sl,(At (fun g=>g=l) ⟨k,0,none⟩ [.int .i64 r,.int .i64 s,.int .i64 t,.slice c.a c.len c.cap])∧
 ∃ n:World,((Instr.storeAt 37 (.pointer ((some ⟨i,0,none⟩))) (.agg #[.int .i64 r,.int .i64 s,.int .i64 t,.slice c.a c.len c.cap])).run Tryz.prog l=.ok () n)∧
 ∃ y:Int,∃ z:Int,∃ A:Int,∃ e:Sl,(At (fun g=>g=n) ⟨i,0,none⟩ [.int .i64 y,.int .i64 z,.int .i64 A,.slice e.a e.len e.cap])∧
 K (.tuple #[.agg #[.int .i64 y,.int .i64 z,.int .i64 A,.slice e.a e.len e.cap],.int .i64 0]) n)) T) w
theorem call12 (b:Sl) (K:Value→World→Prop) (w:World) (h:B12 b K w):Gets Tryz.prog 12 #[.slice b.a b.len b.cap] w K:=cq (sk:=.leaf) Tryz.func12 (by kernel_rfl) (by kernel_rfl) (by kernel_rfl) h
def B10  (K:Value→World→Prop) (w:World):Prop:=
 Calls Tryz.prog 24 #[] w fun d e=>
 ∃ a:Option Addr,(d=.returned (.pointer a))∧
 New (.map #[] 0) (fun b f=>
 New (.cells #[.pointer a,.int .i64 1,.map ((some b))] 59 (0,0)) (fun c g=>
 K (.pointer ((some ⟨c,0,none⟩))) g) f) e
theorem call10  (K:Value→World→Prop) (w:World) (h:B10  K w):Gets Tryz.prog 10 #[] w K:=cq (sk:=.leaf) Tryz.func10 (by kernel_rfl) (by kernel_rfl) (by kernel_rfl) h
def B25 (i:Int) (K:Value→World→Prop) (w:World):Prop:=
 New (.cells #[.int .i64 0,.int .i64 0,.int .i64 0,.slice none 0 0] 37 (0,0)) (fun d k=>
 ∃ c:World,((Instr.storeAt 37 (.pointer ((some ⟨d,0,none⟩))) (.agg #[.int .i64 i,.int .i64 0,.int .i64 0,.slice none 0 0])).run Tryz.prog k=.ok () c)∧
 ∃ e:Int,∃ f:Int,∃ g:Int,∃ b:Sl,(At (fun j=>j=c) ⟨d,0,none⟩ [.int .i64 e,.int .i64 f,.int .i64 g,.slice b.a b.len b.cap])∧
 K (.agg #[.int .i64 e,.int .i64 f,.int .i64 g,.slice b.a b.len b.cap]) c) w
theorem call25 (a:Int) (K:Value→World→Prop) (w:World) (h:B25 a K w):Gets Tryz.prog 25 #[.int .i64 a] w K:=cq (sk:=.leaf) Tryz.func25 (by kernel_rfl) (by kernel_rfl) (by kernel_rfl) h
def B11 (J:Option Addr) (V:Sl) (K:Value→World→Prop) (w:World):Prop:=
 New (.cells #[.int .i64 0,.int .i64 0,.int .i64 0,.slice none 0 0] 37 (0,0)) (fun d dx=>
 Calls Tryz.prog 8 #[.slice V.a V.len V.cap] dx fun dl d2=>
 ∃ a7:Int,∃ ba:Int,∃ bb:Int,∃ bc:Int,∃ j:Sl,∃ X:Int,(dl=.returned (.tuple #[.agg #[.int .i64 a7,.int .i64 ba,.int .i64 bb,.int .i64 bc,.slice j.a j.len j.cap],.int .i64 X]))∧
 New (.cells #[.int .i64 0,.int .i64 0,.int .i64 0,.int .i64 0,.slice none 0 0] 24 (0,0)) (fun c d6=>
 ∃ f:World,((Instr.storeAt 24 (.pointer ((some ⟨c,0,none⟩))) (.agg #[.int .i64 a7,.int .i64 ba,.int .i64 bb,.int .i64 bc,.slice j.a j.len j.cap])).run Tryz.prog d6=.ok () f)∧
 Br (X !=0)
 (Calls Tryz.prog 25 #[.int .i64 X] f fun dm d9=>
 ∃ bh:Int,∃ bi:Int,∃ bj:Int,∃ p:Sl,(dm=.returned (.agg #[.int .i64 bh,.int .i64 bi,.int .i64 bj,.slice p.a p.len p.cap]))∧
 ∃ al:World,((Instr.storeAt 37 (.pointer ((some ⟨d,0,none⟩))) (.agg #[.int .i64 bh,.int .i64 bi,.int .i64 bj,.slice p.a p.len p.cap])).run Tryz.prog d9=.ok () al)∧
 ∃ cj:Int,∃ ck:Int,∃ cs:Int,∃ C:Sl,(At (fun b=>b=al) ⟨d,0,none⟩ [.int .i64 cj,.int .i64 ck,.int .i64 cs,.slice C.a C.len C.cap])∧
 K (.agg #[.int .i64 cj,.int .i64 ck,.int .i64 cs,.slice C.a C.len C.cap]) al)
 (∃ bk:Int,(At (fun b=>b=f) ⟨c,0,none⟩ [.int .i64 bk])∧
 Br (bk==4)
 (Calls Tryz.prog 25 #[.int .i64 1] f fun dp ea=>
 ∃ bl:Int,∃ bm:Int,∃ bn:Int,∃ q:Sl,(dp=.returned (.agg #[.int .i64 bl,.int .i64 bm,.int .i64 bn,.slice q.a q.len q.cap]))∧
 ∃ am:World,((Instr.storeAt 37 (.pointer ((some ⟨d,0,none⟩))) (.agg #[.int .i64 bl,.int .i64 bm,.int .i64 bn,.slice q.a q.len q.cap])).run Tryz.prog ea=.ok () am)∧
 ∃ c8:Int,∃ c9:Int,∃ da:Int,∃ G:Sl,(At (fun b=>b=am) ⟨d,0,none⟩ [.int .i64 c8,.int .i64 c9,.int .i64 da,.slice G.a G.len G.cap])∧
 K (.agg #[.int .i64 c8,.int .i64 c9,.int .i64 da,.slice G.a G.len G.cap]) am)
 (∃ bo:Int,(At (fun b=>b=f) ⟨c,0,none⟩ [.int .i64 bo])∧
 Br (bo==1)
 (∃ bp:Int,(At (fun b=>b=f) ⟨c,0 + 3,none⟩ [.int .i64 bp])∧
 Calls Tryz.prog 26 #[.pointer J,.int .i64 bp] f fun dq eb=>
 ∃ bq:Int,∃ br:Int,∃ bs:Int,∃ r:Sl,(dq=.returned (.agg #[.int .i64 bq,.int .i64 br,.int .i64 bs,.slice r.a r.len r.cap]))∧
 ∃ Z:World,((Instr.storeAt 37 (.pointer ((some ⟨d,0,none⟩))) (.agg #[.int .i64 bq,.int .i64 br,.int .i64 bs,.slice r.a r.len r.cap])).run Tryz.prog eb=.ok () Z)∧
 ∃ db:Int,∃ dc:Int,∃ cl:Int,∃ v:Sl,(At (fun b=>b=Z) ⟨d,0,none⟩ [.int .i64 db,.int .i64 dc,.int .i64 cl,.slice v.a v.len v.cap])∧
 K (.agg #[.int .i64 db,.int .i64 dc,.int .i64 cl,.slice v.a v.len v.cap]) Z)
 (Drw f fun Q dy=>
 NilP J fun ax=>
 ∃ bt:Option Nat,(At Q ⟨ax.block,ax.off + 2,none⟩ [.map bt])∧
 ∃ bu:Int,(At Q ⟨c,0 + 1,none⟩ [.int .i64 bu])∧
 ∃ e:Option Addr,∃ Y:Bool,(∀ b,Q b→((Instr.lookup 57 (.map bt) (.int .i64 bu) true)).run Tryz.prog b=.ok (.tuple #[.pointer e,.bool Y]) b)∧
 ∃ (L:Bool→World→Prop),(Drw dy fun T aa=>
 Br (!Y)
 (∃ bw:Int,(At T ⟨c,0 + 1,none⟩ [.int .i64 bw])∧
 Br (decide (bw ≥ 1))
 (∃ bx:Int,(At T ⟨c,0 + 1,none⟩ [.int .i64 bx])∧
 NilP J fun ay=>
 ∃ bz:Int,(At T ⟨ay.block,ay.off + 1,none⟩ [.int .i64 bz])∧
 L (decide (bx<bz)) aa)
 (L false aa))
 (L false aa))∧
 ∀ (ec:Env) (bv:Bool) (H:World),L bv H→
 Br bv
 (Calls Tryz.prog 25 #[.int .i64 10] H fun dr dz=>
 ∃ b0:Int,∃ b1:Int,∃ b2:Int,∃ s:Sl,(dr=.returned (.agg #[.int .i64 b0,.int .i64 b1,.int .i64 b2,.slice s.a s.len s.cap]))∧
 ∃ ab:World,((Instr.storeAt 37 (.pointer ((some ⟨d,0,none⟩))) (.agg #[.int .i64 b0,.int .i64 b1,.int .i64 b2,.slice s.a s.len s.cap])).run Tryz.prog dz=.ok () ab)∧
 ∃ cm:Int,∃ cn:Int,∃ co:Int,∃ x:Sl,(At (fun b=>b=ab) ⟨d,0,none⟩ [.int .i64 cm,.int .i64 cn,.int .i64 co,.slice x.a x.len x.cap])∧
 K (.agg #[.int .i64 cm,.int .i64 cn,.int .i64 co,.slice x.a x.len x.cap]) ab)
 (Br (!Y)
 (Calls Tryz.prog 25 #[.int .i64 2] H fun ds d0=>
 ∃ b3:Int,∃ b4:Int,∃ b5:Int,∃ t:Sl,(ds=.returned (.agg #[.int .i64 b3,.int .i64 b4,.int .i64 b5,.slice t.a t.len t.cap]))∧
 ∃ ac:World,((Instr.storeAt 37 (.pointer ((some ⟨d,0,none⟩))) (.agg #[.int .i64 b3,.int .i64 b4,.int .i64 b5,.slice t.a t.len t.cap])).run Tryz.prog d0=.ok () ac)∧
 ∃ cp:Int,∃ cq:Int,∃ cr:Int,∃ y:Sl,(At (fun b=>b=ac) ⟨d,0,none⟩ [.int .i64 cp,.int .i64 cq,.int .i64 cr,.slice y.a y.len y.cap])∧
 K (.agg #[.int .i64 cp,.int .i64 cq,.int .i64 cr,.slice y.a y.len y.cap]) ac)
 (∃ b6:Int,(At (fun b=>b=H) ⟨c,0,none⟩ [.int .i64 b6])∧
 Br (b6==3)
 (Drw H fun an d1=>
 NilP J fun az=>
 ∃ b7:Option Nat,(At an ⟨az.block,az.off + 2,none⟩ [.map b7])∧
 ∃ b8:Int,(At an ⟨c,0 + 1,none⟩ [.int .i64 b8])∧
 ∃ ad:World,((Builtin.delete_ #[57,3] 0 #[.map b7,.int .i64 b8]).run Tryz.prog d1=.ok (.tuple #[]) ad)∧
 ∃ b9:Int,(At (fun b=>b=ad) ⟨c,0 + 1,none⟩ [.int .i64 b9])∧
 ∃ ae:World,((Instr.storeAt 37 (.pointer ((some ⟨d,0,none⟩))) (.agg #[.int .i64 0,.int .i64 b9,.int .i64 0,.slice none 0 0])).run Tryz.prog ad=.ok () ae)∧
 ∃ ct:Int,∃ cu:Int,∃ cv:Int,∃ z:Sl,(At (fun b=>b=ae) ⟨d,0,none⟩ [.int .i64 ct,.int .i64 cu,.int .i64 cv,.slice z.a z.len z.cap])∧
 K (.agg #[.int .i64 ct,.int .i64 cu,.int .i64 cv,.slice z.a z.len z.cap]) ae)
 (Drw H fun ao dd=>
 ∃ ca:Int,(At ao ⟨c,0 + 2,none⟩ [.int .i64 ca])∧
 NilP e fun a0=>
 ∃ cb:Int,(At ao ⟨a0.block,a0.off + 1,none⟩ [.int .i64 cb])∧
 Br (decide (ca>IntKind.i64.wrap (cb + 1)))
 (Calls Tryz.prog 25 #[.int .i64 7] dd fun dt d3=>
 ∃ cc:Int,∃ cd:Int,∃ ce:Int,∃ u:Sl,(dt=.returned (.agg #[.int .i64 cc,.int .i64 cd,.int .i64 ce,.slice u.a u.len u.cap]))∧
 ∃ af:World,((Instr.storeAt 37 (.pointer ((some ⟨d,0,none⟩))) (.agg #[.int .i64 cc,.int .i64 cd,.int .i64 ce,.slice u.a u.len u.cap])).run Tryz.prog d3=.ok () af)∧
 ∃ cw:Int,∃ cx:Int,∃ cy:Int,∃ A:Sl,(At (fun b=>b=af) ⟨d,0,none⟩ [.int .i64 cw,.int .i64 cx,.int .i64 cy,.slice A.a A.len A.cap])∧
 K (.agg #[.int .i64 cw,.int .i64 cx,.int .i64 cy,.slice A.a A.len A.cap]) af)
 (∃ (O:Bool→World→Prop),(Drw dd fun U de=>
 ∃ cg:Int,(At U ⟨c,0 + 2,none⟩ [.int .i64 cg])∧
 NilP e fun a1=>
 ∃ ch:Int,(At U ⟨a1.block,a1.off + 1,none⟩ [.int .i64 ch])∧
 Br (decide (cg<ch))
 (O true de)
 (∃ ci:Int,(At U ⟨c,0 + 2,none⟩ [.int .i64 ci])∧
 O (ci==0) de))∧
 ∀ (ed:Env) (cf:Bool) (ag:World),O cf ag→
 Br cf
 (Calls Tryz.prog 25 #[.int .i64 11] ag fun du d4=>
 ∃ a2:Int,∃ a3:Int,∃ a4:Int,∃ g:Sl,(du=.returned (.agg #[.int .i64 a2,.int .i64 a3,.int .i64 a4,.slice g.a g.len g.cap]))∧
 ∃ ah:World,((Instr.storeAt 37 (.pointer ((some ⟨d,0,none⟩))) (.agg #[.int .i64 a2,.int .i64 a3,.int .i64 a4,.slice g.a g.len g.cap])).run Tryz.prog d4=.ok () ah)∧
 ∃ cz:Int,∃ c0:Int,∃ c1:Int,∃ D:Sl,(At (fun b=>b=ah) ⟨d,0,none⟩ [.int .i64 cz,.int .i64 c0,.int .i64 c1,.slice D.a D.len D.cap])∧
 K (.agg #[.int .i64 cz,.int .i64 c0,.int .i64 c1,.slice D.a D.len D.cap]) ah)
 (Drw ag fun ap df=>
 ∃ a5:Int,(At ap ⟨c,0 + 2,none⟩ [.int .i64 a5])∧
 NilP e fun aq=>
 ∃ a6:Int,(At ap ⟨aq.block,aq.off + 1,none⟩ [.int .i64 a6])∧
 Br (decide (a5>a6))
 (Drw df fun I d5=>
 ∃ a8:Int,(At I ⟨c,0 + 2,none⟩ [.int .i64 a8])∧
 ∃ i:Sl,(At I ⟨c,0 + 4,none⟩ [.slice i.a i.len i.cap])∧
 NilP J fun dk=>
 ∃ a9:Option Addr,(At I (Addr.add dk 0) [.pointer a9])∧
 Calls Tryz.prog 27 #[.slice i.a i.len i.cap,.func (.func 28) #[.pointer a9] #[]] d5 fun dv dg=>
 ∃ k:Sl,(dv=.returned (.slice k.a k.len k.cap))∧
 (I dg)∧
 NilP e fun ar=>
 ∃ ai:World,((Instr.storeAt 3 (.pointer ((some ⟨ar.block,ar.off + 1,none⟩))) (.int .i64 a8)).run Tryz.prog dg=.ok () ai)∧
 (I ai)∧
 NilP e fun au=>
 ∃ dh:World,((Instr.storeAt 22 (.pointer ((some ⟨au.block,au.off + 2,none⟩))) (.slice k.a k.len k.cap)).run Tryz.prog ai=.ok () dh)∧
 Drw dh fun M d7=>
 ∃ bd:Int,(At M ⟨c,0 + 1,none⟩ [.int .i64 bd])∧
 ∃ bf:Int,(At M ⟨c,0 + 2,none⟩ [.int .i64 bf])∧
 NilP e fun av=>
 ∃ l:Sl,(At M ⟨av.block,av.off + 2,none⟩ [.slice l.a l.len l.cap])∧
 Calls Tryz.prog 29 #[.slice l.a l.len l.cap] d7 fun dw di=>
 ∃ n:Sl,(dw=.returned (.slice n.a n.len n.cap))∧
 (M di)∧
 ∃ aj:World,((Instr.storeAt 37 (.pointer ((some ⟨d,0,none⟩))) (.agg #[.int .i64 0,.int .i64 bd,.int .i64 bf,.slice n.a n.len n.cap])).run Tryz.prog di=.ok () aj)∧
 ∃ c2:Int,∃ c3:Int,∃ c4:Int,∃ E:Sl,(At (fun b=>b=aj) ⟨d,0,none⟩ [.int .i64 c2,.int .i64 c3,.int .i64 c4,.slice E.a E.len E.cap])∧
 K (.agg #[.int .i64 c2,.int .i64 c3,.int .i64 c4,.slice E.a E.len E.cap]) aj)
 (Drw df fun N d8=>
 ∃ be:Int,(At N ⟨c,0 + 1,none⟩ [.int .i64 be])∧
 ∃ bg:Int,(At N ⟨c,0 + 2,none⟩ [.int .i64 bg])∧
 NilP e fun aw=>
 ∃ m:Sl,(At N ⟨aw.block,aw.off + 2,none⟩ [.slice m.a m.len m.cap])∧
 Calls Tryz.prog 29 #[.slice m.a m.len m.cap] d8 fun dn dj=>
 ∃ o:Sl,(dn=.returned (.slice o.a o.len o.cap))∧
 (N dj)∧
 ∃ ak:World,((Instr.storeAt 37 (.pointer ((some ⟨d,0,none⟩))) (.agg #[.int .i64 0,.int .i64 be,.int .i64 bg,.slice o.a o.len o.cap])).run Tryz.prog dj=.ok () ak)∧
 ∃ c5:Int,∃ c6:Int,∃ c7:Int,∃ F:Sl,(At (fun b=>b=ak) ⟨d,0,none⟩ [.int .i64 c5,.int .i64 c6,.int .i64 c7,.slice F.a F.len F.cap])∧
 K (.agg #[.int .i64 c5,.int .i64 c6,.int .i64 c7,.slice F.a F.len F.cap]) ak)))))))))) d2) w
def sk11:Sk:=(.seq .leaf (.seq .leaf (.seq .leaf (.seq .leaf (.seq (.block (.cut [42] [.bool] [42,43,44,45,46,47,48,49,50,51,52,53,54,55,56,57,58] .leaf (.cond .leaf (.seq .leaf (.cond .leaf (.seq .leaf (.cond .leaf (.seq .leaf (.cond .leaf (.cut [87] [.bool] [87,88,89,90,91,92,93,94,95,96,97,98,99] .leaf .leaf)))))))))) .leaf)))))
theorem call11 (c:Option Addr) (b:Sl) (K:Value→World→Prop) (w:World) (h:B11 c b K w):Gets Tryz.prog 11 #[.pointer c,.slice b.a b.len b.cap] w K:=cq (sk:=sk11) Tryz.func11 (by kernel_rfl) (by kernel_rfl) (by kernel_rfl) h
def B26 (d:Option Addr) (T:Int) (K:Value→World→Prop) (w:World):Prop:=
 New (.cells #[.int .i64 0,.int .i64 0,.int .i64 0,.slice none 0 0] 37 (0,0)) (fun e ae=>
 NilP d fun A=>
 ∃ C:Option Nat,(At (fun b=>b=ae) ⟨A.block,A.off + 2,none⟩ [.map C])∧
 ∃ af:World,∃ k:Option Addr,((Instr.range 57 (.map C)).run Tryz.prog ae=.ok (.pointer k) af)∧
 ∃ (m:World→Prop) (ah:World→Nat),(m  af)∧∀ (ap:Env)  (l:World),m  l→
 ∃ c:World,(((Instr.next (.pointer k) false 0).run Tryz.prog l=.ok (.tuple #[.bool false]) c)∧
 NilP d fun t=>
 ∃ G:Option Nat,(At (fun b=>b=c) ⟨t.block,t.off + 2,none⟩ [.map G])∧
 ∃ H:Int,(∀ b,(fun b=>b=c) b→((Builtin.len_ #[57] 3 #[.map G])).run Tryz.prog b=.ok (.int .i64 H) b)∧
 Br (decide (H ≥ 64))
 (Calls Tryz.prog 25 #[.int .i64 3] c fun ak an=>
 ∃ I:Int,∃ J:Int,∃ L:Int,∃ f:Sl,(ak=.returned (.agg #[.int .i64 I,.int .i64 J,.int .i64 L,.slice f.a f.len f.cap]))∧
 ∃ r:World,((Instr.storeAt 37 (.pointer ((some ⟨e,0,none⟩))) (.agg #[.int .i64 I,.int .i64 J,.int .i64 L,.slice f.a f.len f.cap])).run Tryz.prog an=.ok () r)∧
 ∃ U:Int,∃ V:Int,∃ aa:Int,∃ i:Sl,(At (fun b=>b=r) ⟨e,0,none⟩ [.int .i64 U,.int .i64 V,.int .i64 aa,.slice i.a i.len i.cap])∧
 K (.agg #[.int .i64 U,.int .i64 V,.int .i64 aa,.slice i.a i.len i.cap]) r)
 (Drw c fun n ao=>
 NilP d fun u=>
 ∃ M:Option Nat,(At n ⟨u.block,u.off + 2,none⟩ [.map M])∧
 NilP d fun v=>
 ∃ N:Int,(At n ⟨v.block,v.off + 1,none⟩ [.int .i64 N])∧
 New (.cells #[.int .i64 T,.int .i64 0,.slice none 0 0] 65 (0,0)) (fun aj ag=>
 (n ag)∧
 ∃ s:World,((Instr.mapUpdate 57 (.map M) (.int .i64 N) (.pointer ((some ⟨aj,0,none⟩)))).run Tryz.prog ag=.ok () s)∧
 NilP d fun x=>
 ∃ O:Int,(At (fun b=>b=s) ⟨x.block,x.off + 1,none⟩ [.int .i64 O])∧
 NilP d fun y=>
 ∃ o:World,((Instr.storeAt 3 (.pointer ((some ⟨y.block,y.off + 1,none⟩))) (.int .i64 (IntKind.i64.wrap (O + 1)))).run Tryz.prog s=.ok () o)∧
 NilP d fun z=>
 ∃ Q:Int,(At (fun b=>b=o) ⟨z.block,z.off + 1,none⟩ [.int .i64 Q])∧
 ∃ p:World,((Instr.storeAt 37 (.pointer ((some ⟨e,0,none⟩))) (.agg #[.int .i64 0,.int .i64 (IntKind.i64.wrap (Q - 1)),.int .i64 0,.slice none 0 0])).run Tryz.prog o=.ok () p)∧
 ∃ ab:Int,∃ ac:Int,∃ ad:Int,∃ j:Sl,(At (fun b=>b=p) ⟨e,0,none⟩ [.int .i64 ab,.int .i64 ac,.int .i64 ad,.slice j.a j.len j.cap])∧
 K (.agg #[.int .i64 ab,.int .i64 ac,.int .i64 ad,.slice j.a j.len j.cap]) p) ao))∨
 (∃ al:Value,∃ am:Value,((Instr.next (.pointer k) false 0).run Tryz.prog l=.ok (.tuple #[.bool true,al,am]) c)∧
 ∃ D:Int,∃ E:Option Addr,(∀ b,(fun b=>b=c) b→((Instr.entry (.pointer k))).run Tryz.prog b=.ok (.tuple #[.int .i64 D,.pointer E]) b)∧
 NilP E fun ai=>
 ∃ F:Int,(At (fun b=>b=c) (Addr.add ai 0) [.int .i64 F])∧
 Br (F==T)
 (∃ q:World,((Instr.storeAt 37 (.pointer ((some ⟨e,0,none⟩))) (.agg #[.int .i64 0,.int .i64 D,.int .i64 0,.slice none 0 0])).run Tryz.prog c=.ok () q)∧
 ∃ X:Int,∃ Y:Int,∃ Z:Int,∃ g:Sl,(At (fun b=>b=q) ⟨e,0,none⟩ [.int .i64 X,.int .i64 Y,.int .i64 Z,.slice g.a g.len g.cap])∧
 K (.agg #[.int .i64 X,.int .i64 Y,.int .i64 Z,.slice g.a g.len g.cap]) q)
 ((m  c)∧ah  c<ah  l))) w
def sk26:Sk:=(.seq .leaf (.seq (.seq .leaf (.block (.loop [] [] [5,6,12,13,14,15,16,17,18,19,20,21,22,23,24] .leaf))) .leaf))
theorem call26 (a:Option Addr) (b:Int) (K:Value→World→Prop) (w:World) (h:B26 a b K w):Gets Tryz.prog 26 #[.pointer a,.int .i64 b] w K:=cq (sk:=sk26) Tryz.func26 (by kernel_rfl) (by kernel_rfl) (by kernel_rfl) h
def B27 (l:Sl) (T:Value) (K:Value→World→Prop) (w:World):Prop:=
 Calls Tryz.prog 42 #[.slice l.a l.len l.cap] w fun U aa=>
 ∃ G:Int,∃ H:ByteArray,∃ I:Int,∃ J:Int,∃ L:Int,∃ M:Int,∃ N:Nat,∃ O:ByteArray,∃ Q:Int,∃ j:Sl,∃ i:Sl,∃ m:Int,(U=.returned (.tuple #[.agg #[.int .i64 G,.string H,.int .i64 I,.int .i64 J,.int .i64 L,.int .i64 M,.float .f64 N,.string O,.int .i64 Q,.slice j.a j.len j.cap,.slice i.a i.len i.cap],.int .i64 m]))∧
 New (.cells #[.int .i64 0,.string (ByteArray.mk #[]),.int .i64 0,.int .i64 0,.int .i64 0,.int .i64 0,.float .f64 0,.string (ByteArray.mk #[]),.int .i64 0,.slice none 0 0,.slice none 0 0] 96 (0,0)) (fun n ab=>
 ∃ k:World,((Instr.storeAt 96 (.pointer ((some ⟨n,0,none⟩))) (.agg #[.int .i64 G,.string H,.int .i64 I,.int .i64 J,.int .i64 L,.int .i64 M,.float .f64 N,.string O,.int .i64 Q,.slice j.a j.len j.cap,.slice i.a i.len i.cap])).run Tryz.prog ab=.ok () k)∧
 Br (m !=0)
 (Calls Tryz.prog 43 #[.agg #[.int .i64 m,.string (ByteArray.mk #[]),.int .i64 0,.int .i64 0,.int .i64 0,.int .i64 0,.int .i64 0,.slice none 0 0,.slice none 0 0]] k fun V ac=>
 ∃ b:Sl,(V=.returned (.slice b.a b.len b.cap))∧
 K (.slice b.a b.len b.cap) ac)
 (∃ o:Int,∃ p:ByteArray,∃ q:Int,∃ r:Int,∃ s:Int,∃ t:Int,∃ u:Nat,∃ v:ByteArray,∃ x:Int,∃ d:Sl,∃ c:Sl,(At (fun Z=>Z=k) ⟨n,0,none⟩ [.int .i64 o,.string p,.int .i64 q,.int .i64 r,.int .i64 s,.int .i64 t,.float .f64 u,.string v,.int .i64 x,.slice d.a d.len d.cap,.slice c.a c.len c.cap])∧
 CalW Tryz.prog cl T [.agg #[.int .i64 o,.string p,.int .i64 q,.int .i64 r,.int .i64 s,.int .i64 t,.float .f64 u,.string v,.int .i64 x,.slice d.a d.len d.cap,.slice c.a c.len c.cap]] k fun X ad=>
 ∃ y:Int,∃ z:ByteArray,∃ A:Int,∃ C:Int,∃ D:Int,∃ E:Int,∃ F:Int,∃ e:Sl,∃ f:Sl,(X=.returned (.agg #[.int .i64 y,.string z,.int .i64 A,.int .i64 C,.int .i64 D,.int .i64 E,.int .i64 F,.slice e.a e.len e.cap,.slice f.a f.len f.cap]))∧
 Calls Tryz.prog 43 #[.agg #[.int .i64 y,.string z,.int .i64 A,.int .i64 C,.int .i64 D,.int .i64 E,.int .i64 F,.slice e.a e.len e.cap,.slice f.a f.len f.cap]] ad fun Y ae=>
 ∃ g:Sl,(Y=.returned (.slice g.a g.len g.cap))∧
 K (.slice g.a g.len g.cap) ae)) aa
theorem call27 (b:Sl) (c:Value) (K:Value→World→Prop) (w:World) (h:B27 b c K w):Gets Tryz.prog 27 #[.slice b.a b.len b.cap,c] w K:=cq (sk:=.leaf) Tryz.func27 (by kernel_rfl) (by kernel_rfl) (by kernel_rfl) h
def B9 (u:Int) (v:Int) (x:Int) (y:Int) (i:Sl) (z:Int) (A:Int) (C:Int) (D:Int) (j:Sl) (K:Value→World→Prop) (w:World):Prop:=
 New (.cells #[.int .i64 u,.int .i64 v,.int .i64 x,.int .i64 y,.slice i.a i.len i.cap] 24 (0,0)) (fun f E=>
 New (.cells #[.int .i64 z,.int .i64 A,.int .i64 C,.int .i64 D,.slice j.a j.len j.cap] 24 (0,0)) (fun g c=>
 ∃ s:Int,(At (fun b=>b=c) ⟨f,0,none⟩ [.int .i64 s])∧
 ∃ t:Int,(At (fun b=>b=c) ⟨g,0,none⟩ [.int .i64 t])∧
 Br (s==t)
 (∃ k:Int,(At (fun b=>b=c) ⟨f,0 + 1,none⟩ [.int .i64 k])∧
 ∃ l:Int,(At (fun b=>b=c) ⟨g,0 + 1,none⟩ [.int .i64 l])∧
 Br (k==l)
 (∃ m:Int,(At (fun b=>b=c) ⟨f,0 + 2,none⟩ [.int .i64 m])∧
 ∃ n:Int,(At (fun b=>b=c) ⟨g,0 + 2,none⟩ [.int .i64 n])∧
 Br (m==n)
 (∃ o:Int,(At (fun b=>b=c) ⟨f,0 + 3,none⟩ [.int .i64 o])∧
 ∃ p:Int,(At (fun b=>b=c) ⟨g,0 + 3,none⟩ [.int .i64 p])∧
 Br (o==p)
 (∃ d:Sl,(At (fun b=>b=c) ⟨f,0 + 4,none⟩ [.slice d.a d.len d.cap])∧
 ∃ q:ByteArray,(∀ b,(fun b=>b=c) b→((convert 22 9 (.slice d.a d.len d.cap))).run Tryz.prog b=.ok (.string q) b)∧
 ∃ e:Sl,(At (fun b=>b=c) ⟨g,0 + 4,none⟩ [.slice e.a e.len e.cap])∧
 ∃ r:ByteArray,(∀ b,(fun b=>b=c) b→((convert 22 9 (.slice e.a e.len e.cap))).run Tryz.prog b=.ok (.string r) b)∧
 K (.bool (q.toList==r.toList)) c)
 (K (.bool false) c))
 (K (.bool false) c))
 (K (.bool false) c))
 (K (.bool false) c)) E) w
theorem call9 (d:Int) (e:Int) (f:Int) (g:Int) (b:Sl) (i:Int) (j:Int) (k:Int) (l:Int) (c:Sl) (K:Value→World→Prop) (w:World) (h:B9 d e f g b i j k l c K w):Gets Tryz.prog 9 #[.agg #[.int .i64 d,.int .i64 e,.int .i64 f,.int .i64 g,.slice b.a b.len b.cap],.agg #[.int .i64 i,.int .i64 j,.int .i64 k,.int .i64 l,.slice c.a c.len c.cap]] w K:=cq (sk:=.leaf) Tryz.func9 (by kernel_rfl) (by kernel_rfl) (by kernel_rfl) h
def B14 (s:Int) (t:Int) (u:Int) (i:Sl) (v:Int) (x:Int) (y:Int) (j:Sl) (K:Value→World→Prop) (w:World):Prop:=
 New (.cells #[.int .i64 s,.int .i64 t,.int .i64 u,.slice i.a i.len i.cap] 37 (0,0)) (fun f z=>
 New (.cells #[.int .i64 v,.int .i64 x,.int .i64 y,.slice j.a j.len j.cap] 37 (0,0)) (fun g c=>
 ∃ q:Int,(At (fun b=>b=c) ⟨f,0,none⟩ [.int .i64 q])∧
 ∃ r:Int,(At (fun b=>b=c) ⟨g,0,none⟩ [.int .i64 r])∧
 Br (q==r)
 (∃ k:Int,(At (fun b=>b=c) ⟨f,0 + 1,none⟩ [.int .i64 k])∧
 ∃ l:Int,(At (fun b=>b=c) ⟨g,0 + 1,none⟩ [.int .i64 l])∧
 Br (k==l)
 (∃ m:Int,(At (fun b=>b=c) ⟨f,0 + 2,none⟩ [.int .i64 m])∧
 ∃ n:Int,(At (fun b=>b=c) ⟨g,0 + 2,none⟩ [.int .i64 n])∧
 Br (m==n)
 (∃ d:Sl,(At (fun b=>b=c) ⟨f,0 + 3,none⟩ [.slice d.a d.len d.cap])∧
 ∃ o:ByteArray,(∀ b,(fun b=>b=c) b→((convert 22 9 (.slice d.a d.len d.cap))).run Tryz.prog b=.ok (.string o) b)∧
 ∃ e:Sl,(At (fun b=>b=c) ⟨g,0 + 3,none⟩ [.slice e.a e.len e.cap])∧
 ∃ p:ByteArray,(∀ b,(fun b=>b=c) b→((convert 22 9 (.slice e.a e.len e.cap))).run Tryz.prog b=.ok (.string p) b)∧
 K (.bool (o.toList==p.toList)) c)
 (K (.bool false) c))
 (K (.bool false) c))
 (K (.bool false) c)) z) w
theorem call14 (d:Int) (e:Int) (f:Int) (b:Sl) (g:Int) (i:Int) (j:Int) (c:Sl) (K:Value→World→Prop) (w:World) (h:B14 d e f b g i j c K w):Gets Tryz.prog 14 #[.agg #[.int .i64 d,.int .i64 e,.int .i64 f,.slice b.a b.len b.cap],.agg #[.int .i64 g,.int .i64 i,.int .i64 j,.slice c.a c.len c.cap]] w K:=cq (sk:=.leaf) Tryz.func14 (by kernel_rfl) (by kernel_rfl) (by kernel_rfl) h
def B15 (k:Int) (l:Int) (m:Int) (n:Int) (d:Sl) (K:Value→World→Prop) (w:World):Prop:=
 New (.cells #[.int .i64 k,.int .i64 l,.int .i64 m,.int .i64 n,.slice d.a d.len d.cap] 24 (0,0)) (fun o j=>
 ∃ e:Int,∃ f:Int,∃ g:Int,∃ i:Int,∃ b:Sl,(At (fun r=>r=j) ⟨o,0,none⟩ [.int .i64 e,.int .i64 f,.int .i64 g,.int .i64 i,.slice b.a b.len b.cap])∧
 Calls Tryz.prog 7 #[.agg #[.int .i64 e,.int .i64 f,.int .i64 g,.int .i64 i,.slice b.a b.len b.cap]] j fun p s=>
 ∃ c:Sl,∃ q:Int,(p=.returned (.tuple #[.slice c.a c.len c.cap,.int .i64 q]))∧
 K (.slice c.a c.len c.cap) s) w
theorem call15 (c:Int) (d:Int) (e:Int) (f:Int) (b:Sl) (K:Value→World→Prop) (w:World) (h:B15 c d e f b K w):Gets Tryz.prog 15 #[.agg #[.int .i64 c,.int .i64 d,.int .i64 e,.int .i64 f,.slice b.a b.len b.cap]] w K:=cq (sk:=.leaf) Tryz.func15 (by kernel_rfl) (by kernel_rfl) (by kernel_rfl) h
def B5  (K:Value→World→Prop) (w:World):Prop:=
 Calls Tryz.prog 10 #[] w fun o n=>
 ∃ f:Option Addr,(o=.returned (.pointer f))∧
 Br f.isNone
 (K (.bool false) n)
 (Calls Tryz.prog 15 #[.agg #[.int .i64 1,.int .i64 0,.int .i64 0,.int .i64 9,.slice none 0 0]] n fun p r=>
 ∃ b:Sl,(p=.returned (.slice b.a b.len b.cap))∧
 Calls Tryz.prog 11 #[.pointer f,.slice b.a b.len b.cap] r fun q s=>
 ∃ k:Int,∃ l:Int,∃ m:Int,∃ c:Sl,(q=.returned (.agg #[.int .i64 k,.int .i64 l,.int .i64 m,.slice c.a c.len c.cap]))∧
 New (.cells #[.int .i64 0,.int .i64 0,.int .i64 0,.slice none 0 0] 37 (0,0)) (fun e t=>
 ∃ d:World,((Instr.storeAt 37 (.pointer ((some ⟨e,0,none⟩))) (.agg #[.int .i64 k,.int .i64 l,.int .i64 m,.slice c.a c.len c.cap])).run Tryz.prog t=.ok () d)∧
 ∃ i:Int,(At (fun g=>g=d) ⟨e,0,none⟩ [.int .i64 i])∧
 Br (i==0)
 (∃ j:Int,(At (fun g=>g=d) ⟨e,0 + 1,none⟩ [.int .i64 j])∧
 K (.bool (j==1)) d)
 (K (.bool false) d)) s)
theorem call5  (K:Value→World→Prop) (w:World) (h:B5  K w):Gets Tryz.prog 5 #[] w K:=cq (sk:=.leaf) Tryz.func5 (by kernel_rfl) (by kernel_rfl) (by kernel_rfl) h
def B6 (f:Sl) (K:Value→World→Prop) (w:World):Prop:=
 ∃ (e:Int→World→Prop) (g:Int→World→Nat),(e 0 w)∧∀ (k:Env) (b:Int) (c:World),e b c→
 Br (decide (b<(↑f.len:Int)))
 (Br (decide (b<200))
 (Rng b f.len (NilP f.a fun i=>
 ∃ d:Sl,(At (fun j=>j=c) (Addr.add i b.toNat) [.slice d.a d.len d.cap])∧
 Br (decide ((↑d.len:Int)>10000))
 (K (.bool true) c)
 ((e (IntKind.i64.wrap (b + 1)) c)∧g (IntKind.i64.wrap (b + 1)) c<g b c)))
 (K (.bool false) c))
 (K (.bool false) c)
def sk6:Sk:=(.seq .leaf (.seq (.seq .leaf (.block (.loop [3] [(.int .i64)] [2,3,4,5,6,7,8,9,10,11,12,13,14,15,16,17,18,19] .leaf))) .leaf))
theorem call6 (b:Sl) (K:Value→World→Prop) (w:World) (h:B6 b K w):Gets Tryz.prog 6 #[.slice b.a b.len b.cap] w K:=cq (sk:=sk6) Tryz.func6 (by kernel_rfl) (by kernel_rfl) (by kernel_rfl) h
def B3 (a8:Int) (a9:Int) (ba:Int) (bb:Int) (E:Sl) (e:Sl) (K:Value→World→Prop) (w:World):Prop:=
 New (.cells #[.int .i64 a8,.int .i64 a9,.int .i64 ba,.int .i64 bb,.slice E.a E.len E.cap] 24 (0,0)) (fun F bn=>
 Calls Tryz.prog 5 #[] bn fun bd bu=>
 ∃ u:Bool,(bd=.returned (.bool u))∧
 Calls Tryz.prog 6 #[.slice e.a e.len e.cap] bu fun be x=>
 ∃ Q:Bool,(be=.returned (.bool Q))∧
 ∃ (L:World→Prop),(Br (!u)
 (K (.bool u) x)
 (Br Q
 (K (.bool u) x)
 (∃ y:Sl,(At (fun b=>b=x) ⟨F,0 + 4,none⟩ [.slice y.a y.len y.cap])∧
 Br (decide ((↑y.len:Int)>20000))
 (K (.bool u) x)
 (L  x))))∧
 ∀ (bz:Env)  (J:World),L  J→
 ∃ T:Int,∃ U:Int,∃ V:Int,∃ X:Int,∃ f:Sl,(At (fun b=>b=J) ⟨F,0,none⟩ [.int .i64 T,.int .i64 U,.int .i64 V,.int .i64 X,.slice f.a f.len f.cap])∧
 Calls Tryz.prog 7 #[.agg #[.int .i64 T,.int .i64 U,.int .i64 V,.int .i64 X,.slice f.a f.len f.cap]] J fun bf bv=>
 ∃ g:Sl,∃ i:Int,(bf=.returned (.tuple #[.slice g.a g.len g.cap,.int .i64 i]))∧
 Calls Tryz.prog 8 #[.slice g.a g.len g.cap] bv fun bg bw=>
 ∃ Y:Int,∃ Z:Int,∃ aa:Int,∃ ab:Int,∃ j:Sl,∃ ac:Int,(bg=.returned (.tuple #[.agg #[.int .i64 Y,.int .i64 Z,.int .i64 aa,.int .i64 ab,.slice j.a j.len j.cap],.int .i64 ac]))∧
 New (.cells #[.int .i64 0,.int .i64 0,.int .i64 0,.int .i64 0,.slice none 0 0] 24 (0,0)) (fun N bx=>
 ∃ C:World,((Instr.storeAt 24 (.pointer ((some ⟨N,0,none⟩))) (.agg #[.int .i64 Y,.int .i64 Z,.int .i64 aa,.int .i64 ab,.slice j.a j.len j.cap])).run Tryz.prog bx=.ok () C)∧
 ∃ ad:Int,∃ ae:Int,∃ af:Int,∃ ag:Int,∃ k:Sl,(At (fun b=>b=C) ⟨N,0,none⟩ [.int .i64 ad,.int .i64 ae,.int .i64 af,.int .i64 ag,.slice k.a k.len k.cap])∧
 ∃ ah:Int,∃ ai:Int,∃ aj:Int,∃ ak:Int,∃ l:Sl,(At (fun b=>b=C) ⟨F,0,none⟩ [.int .i64 ah,.int .i64 ai,.int .i64 aj,.int .i64 ak,.slice l.a l.len l.cap])∧
 Calls Tryz.prog 9 #[.agg #[.int .i64 ad,.int .i64 ae,.int .i64 af,.int .i64 ag,.slice k.a k.len k.cap],.agg #[.int .i64 ah,.int .i64 ai,.int .i64 aj,.int .i64 ak,.slice l.a l.len l.cap]] C fun bh d=>
 ∃ al:Bool,(bh=.returned (.bool al))∧
 ∃ (t:World→Prop),(Br (i==0)
 (Br (ac !=0)
 (K (.bool false) d)
 (Br (!al)
 (K (.bool false) d)
 (Br (i !=0)
 (Br (i !=1)
 (K (.bool false) d)
 (t  d))
 (t  d))))
 (Br (i !=0)
 (Br (i !=1)
 (K (.bool false) d)
 (t  d))
 (t  d)))∧
 ∀ (b0:Env)  (a6:World),t  a6→
 Calls Tryz.prog 10 #[] a6 fun bi bo=>
 ∃ am:Option Addr,(bi=.returned (.pointer am))∧
 ∃ (D:Int→World→Prop) (a7:Int→World→Nat),(D 0 bo)∧∀ (b1:Env) (c:Int) (v:World),D c v→
 ∃ (M:World→Prop),(Br (decide (c<(↑e.len:Int)))
 (Br (decide (c<60))
 (M  v)
 (K (.bool true) v))
 (K (.bool true) v))∧
 ∀ (b2:Env)  (H:World),M  H→
 Rng c e.len (NilP e.a fun bc=>
 ∃ m:Sl,(At (fun b=>b=H) (Addr.add bc c.toNat) [.slice m.a m.len m.cap])∧
 Calls Tryz.prog 11 #[.pointer am,.slice m.a m.len m.cap] H fun bj bp=>
 ∃ an:Int,∃ ao:Int,∃ ap:Int,∃ n:Sl,(bj=.returned (.agg #[.int .i64 an,.int .i64 ao,.int .i64 ap,.slice n.a n.len n.cap]))∧
 New (.cells #[.int .i64 0,.int .i64 0,.int .i64 0,.slice none 0 0] 37 (0,0)) (fun G bq=>
 ∃ I:World,((Instr.storeAt 37 (.pointer ((some ⟨G,0,none⟩))) (.agg #[.int .i64 an,.int .i64 ao,.int .i64 ap,.slice n.a n.len n.cap])).run Tryz.prog bq=.ok () I)∧
 ∃ aq:Int,∃ ar:Int,∃ au:Int,∃ o:Sl,(At (fun b=>b=I) ⟨G,0,none⟩ [.int .i64 aq,.int .i64 ar,.int .i64 au,.slice o.a o.len o.cap])∧
 Calls Tryz.prog 13 #[.agg #[.int .i64 aq,.int .i64 ar,.int .i64 au,.slice o.a o.len o.cap]] I fun bk br=>
 ∃ p:Sl,(bk=.returned (.slice p.a p.len p.cap))∧
 Calls Tryz.prog 12 #[.slice p.a p.len p.cap] br fun bl bs=>
 ∃ av:Int,∃ aw:Int,∃ ax:Int,∃ q:Sl,∃ ay:Int,(bl=.returned (.tuple #[.agg #[.int .i64 av,.int .i64 aw,.int .i64 ax,.slice q.a q.len q.cap],.int .i64 ay]))∧
 New (.cells #[.int .i64 0,.int .i64 0,.int .i64 0,.slice none 0 0] 37 (0,0)) (fun O bt=>
 ∃ z:World,((Instr.storeAt 37 (.pointer ((some ⟨O,0,none⟩))) (.agg #[.int .i64 av,.int .i64 aw,.int .i64 ax,.slice q.a q.len q.cap])).run Tryz.prog bt=.ok () z)∧
 ∃ az:Int,∃ a0:Int,∃ a1:Int,∃ r:Sl,(At (fun b=>b=z) ⟨O,0,none⟩ [.int .i64 az,.int .i64 a0,.int .i64 a1,.slice r.a r.len r.cap])∧
 ∃ a2:Int,∃ a3:Int,∃ a4:Int,∃ s:Sl,(At (fun b=>b=z) ⟨G,0,none⟩ [.int .i64 a2,.int .i64 a3,.int .i64 a4,.slice s.a s.len s.cap])∧
 Calls Tryz.prog 14 #[.agg #[.int .i64 az,.int .i64 a0,.int .i64 a1,.slice r.a r.len r.cap],.agg #[.int .i64 a2,.int .i64 a3,.int .i64 a4,.slice s.a s.len s.cap]] z fun bm A=>
 ∃ a5:Bool,(bm=.returned (.bool a5))∧
 Br (ay !=0)
 (K (.bool false) A)
 (Br (!a5)
 (K (.bool false) A)
 ((D (IntKind.i64.wrap (c + 1)) A)∧a7 (IntKind.i64.wrap (c + 1)) A<a7 c v))) bs) bp)) bw) w
def sk3:Sk:=(.seq .leaf (.seq .leaf (.seq .leaf (.cut [] [] [4,21,22,23,24,25,26,27,28,29,30,31,32] .leaf (.seq .leaf (.seq .leaf (.seq .leaf (.cut [] [] [4,46,47,48,49,50,51,52,53,54,55,56,57,58,59,60,61,62,63] .leaf (.seq .leaf (.seq (.seq .leaf (.block (.loop [13] [(.int .i64)] [4,13,14,15,16,17,65,66,67,68,69,70,71,72,73,74,75,76,77,78,79,80,81,82,83,84,85,86,87,88,89,90,91,92,93,94,95] (.cut [] [] [65,66,67,68,69,70,71,72] .leaf .leaf)))) .leaf))))))))))
theorem call3 (d:Int) (e:Int) (f:Int) (g:Int) (b:Sl) (c:Sl) (K:Value→World→Prop) (w:World) (h:B3 d e f g b c K w):Gets Tryz.prog 3 #[.agg #[.int .i64 d,.int .i64 e,.int .i64 f,.int .i64 g,.slice b.a b.len b.cap],.slice c.a c.len c.cap] w K:=cq (sk:=sk3) Tryz.func3 (by kernel_rfl) (by kernel_rfl) (by kernel_rfl) h
end Go.Proofs.YtflgboncpbmikaaGreatDoor
/- Package session: requests and answers as bytes. Condition: bounds on lengths. -/
namespace Go.Proofs.YtflgboncpbmikaaGreatDoor
set_option linter.unusedVariables false
set_option linter.unusedSimpArgs false
open Go Go.VC
open Classical
variable {R:Cx} {Hs Rest:List HP} {w:World}
abbrev rqV (q:Rq) (s:Sl):List Value:=[.int .i64 q.kind,.int .i64 q.client,.int .i64 q.seq,.int .i64 q.token,.slice s.a s.len s.cap]
abbrev rqC (b:Nat) (q:Rq) (s:Sl):HP:=pts b (.cells (rqV q s).toArray 24 (0,0))
abbrev tdV (t:Told) (s:Sl):List Value:=[.int .i64 t.code,.int .i64 t.client,.int .i64 t.seq,.slice s.a s.len s.cap]
abbrev tdC (b:Nat) (t:Told) (s:Sl):HP:=pts b (.cells (tdV t s).toArray 37 (0,0))
abbrev nilS:Sl:=⟨none,0,0⟩
theorem snums_spec {s:Sl} {xs:List Int} (hxs:∀ x∈xs,x<9223372036854775808) (hl:9 * xs.length≤1099511627776) (hs:RoI R s xs) (hw:Sat R Hs w):
  Gets Tryz.prog 18 #[.slice s.a s.len s.cap] w fun v w'=>∃ t:Sl,v=.slice t.a t.len t.cap∧Sat R (Own t 5 (b8 (numsB (xs.map nn)))::Hs) w':=by
 have hlen:=hs.len
 apply call18
 refine ⟨fun out i w=>∃ k:Nat,i=k∧k≤xs.length∧Sat R (Own out 5 (b8 (numsB ((xs.take k).map nn)))::Hs) w,fun _ i _=>xs.length - i.toNat,⟨0,rfl,by omega,Own.nil hw⟩,?_⟩
 clear hw
 rintro _ out _ w ⟨k,rfl,hk,hw⟩
 refine Br.d (fun h=>?_) (fun h=>?_)
 ·have hkx:k<xs.length:=by omega
  have hx:=nn_bd (hxs xs[k] (List.getElem_mem _))
  have hxt:∀ x∈(xs.take k).map nn,0≤x∧x<18446744073709551616:=fun x hx=>by
   obtain ⟨y,hy,rfl⟩:=List.mem_map.1 hx
   have:=nn_bd (hxs y (List.mem_of_mem_take hy));omega
  have hnl:=numsB_len hxt
  rw [List.length_map,List.length_take] at hnl
  refine Ro.ix hs (eqS hw) k rfl hkx ?_
  rw [nn_if]
  obtain ⟨n,hn⟩:=Int.eq_ofNat_of_zero_le hx.1
  rw [hn,wrapU64 (by omega) (by omega)]
  refine (number_spec (by omega) hw).use ?_
  rintro _ w ⟨t,rfl,hw⟩
  refine ⟨t,rfl,?_⟩
  have hnb:=numB_len (n:=n) (by omega)
  refine app8 (by omega) hw fun s2 w hw=>?_
  rw [wrap64 (by omega) (by omega)]
  refine ⟨⟨k + 1,by omega,by omega,?_⟩,by dsimp only;omega⟩
  have e:(xs.take (k + 1)).map nn=(xs.take k).map nn++[nn xs[k]]:=by rw [List.take_add_one,List.getElem?_eq_getElem hkx,List.map_append];rfl
  rw [e,numsB_app,show numsB [nn xs[k]]=numB (nn xs[k]).toNat by simp [numsB],hn,Int.toNat_natCast]
  exact hw
 ·rw [List.take_of_length_le (l:=xs) (by omega)] at hw
  exact ⟨out,rfl,hw⟩
theorem slit_spec {b n:Nat} {xs:List Int} (hn:n=xs.length) (hxs:∀ x∈xs,x<9223372036854775808) (hl:9 * xs.length≤1099511627776) (hw:Sat R (pts b (.cells (intsI xs).toArray 3 (0,0))::Hs) w):
  Gets Tryz.prog 18 #[.slice (some ⟨b,0,none⟩) n n] w fun v w'=>∃ t:Sl,v=.slice t.a t.len t.cap∧Sat R (Own t 5 (b8 (numsB (xs.map nn)))::Hs) w':=by
 have hw:Sat R (Own ⟨some ⟨b,0,none⟩,n,n⟩ 3 (intsI xs)::Hs) w:=own_lit hw (by rw [List.length_map];exact hn)
 obtain ⟨R',hr,_,hw,back⟩:=Own.lendI hw (by omega)
 refine (snums_spec hxs hl hr hw).use ?_
 rintro _ w ⟨t,rfl,hw⟩
 exact ⟨_,rfl,t,rfl,(back hw).swap.cons fun _ h=>h.drop⟩
theorem sodd_spec {n:Int} (hw:Sat R Hs w):Gets Tryz.prog 33 #[.int .i64 n] w fun v w'=>v=.bool (!decide (inI n))∧Sat R Hs w':=by
 apply call33
 refine Br.d (fun h=>⟨?_,hw⟩) (fun h=>⟨?_,hw⟩)
 ·rw [decide_eq_false (p:=inI n) (fun h2=>by unfold inI at h2;omega)];rfl
 ·by_cases h2:n>1099511627776
  ·rw [decide_eq_true h2,decide_eq_false (p:=inI n) (fun h3=>by unfold inI at h3;omega)];rfl
  ·rw [decide_eq_false h2,decide_eq_true (p:=inI n) ⟨by omega,by omega⟩];rfl
theorem srightQ_spec {q:Rq} {s:Sl} (hs:s.len=q.cmd.length) (hw:Sat R Hs w):
  Gets Tryz.prog 17 #[.agg #[.int .i64 q.kind,.int .i64 q.client,.int .i64 q.seq,.int .i64 q.token,.slice s.a s.len s.cap]] w fun v w'=>v=.bool (decide (RightQ q))∧Sat R Hs w':=by
 apply call17
 refine new_rule hw fun b w hw=>?_
 have hw:Sat R (rqC b q s::Hs) w:=hw
 have no:¬ RightQ q→∀ {w},Sat R (rqC b q s::Hs) w→(Value.bool false=.bool (decide (RightQ q))∧Sat R Hs w):=fun h w hw=>⟨by rw [decide_eq_false h],hw.drop⟩
 refine ⟨fun w=>((inI q.client∧inI q.seq∧inI q.token)∧q.cmd.length≤4000)∧Sat R (rqC b q s::Hs) w,?_,?_⟩
 ·refine ⟨q.client,At.own (eqS hw) (by exact ⟨rfl,trivial⟩),q.seq,At.own (eqS hw) (by exact ⟨rfl,trivial⟩),q.token,At.own (eqS hw) (by exact ⟨rfl,trivial⟩),?_⟩
  refine new_rule hw fun b2 w hw=>?_
  have hw:Sat R (Own ⟨some ⟨b2,0,none⟩,3,3⟩ 3 (intsI [q.client,q.seq,q.token])::rqC b q s::Hs) w:=own_lit hw
  obtain ⟨R',hr,_,hw,back⟩:=Own.lendI hw (by simp)
  refine (contF_spec (p:=fun n=>!decide (inI n)) (s:=⟨some ⟨b2,0,none⟩,3,3⟩) hr (fun x w hw=>CalW.mk (by kernel_rfl) ((sodd_spec hw).use fun v w h=>⟨by rw [h.1],h.2⟩)) hw).use ?_
  clear hw
  rintro _ w ⟨rfl,hw⟩
  have hw:=(back hw).drop
  refine ⟨_,rfl,Br.mk (fun h=>no (fun hq=>?_) hw) (fun h=>?_)⟩
  ·have h1:=hq.client
   have h2:=hq.seq
   have h3:=hq.token
   simp [h1,h2,h3] at h
  ·have hI:inI q.client∧inI q.seq∧inI q.token:=by simpa using h
   refine ⟨s,At.own (eqS hw) (by exact ⟨rfl,trivial⟩),Br.d (fun h2=>no (fun hq=>by have:=hq.cmd;omega) hw) (fun h2=>⟨⟨hI,by omega⟩,hw⟩)⟩
 clear hw
 rintro _ w ⟨⟨⟨h1,h2,h3⟩,h4⟩,hw⟩
 refine ⟨fun t w=>t=decide (q.seq=0∧q.cmd.length=0)∧Sat R (rqC b q s::Hs) w,?_,?_⟩
 ·refine ⟨q.seq,At.own (eqS hw) (by exact ⟨rfl,trivial⟩),Br.e (fun h5=>?_) (fun h5=>⟨by rw [decide_eq_false (by omega)],hw⟩)⟩
  refine ⟨s,At.own (eqS hw) (by exact ⟨rfl,trivial⟩),?_,hw⟩
  show decide ((s.len:Int)=0)=_
  exact decide_eq_decide.2 (by omega)
 clear hw
 rintro _ _ w ⟨rfl,hw⟩
 have fin:∀ {p:Prop} {i:Decidable p},(p↔RightQ q)→(Value.bool (@decide p i)=.bool (decide (RightQ q))∧Sat R Hs w):=fun h=>⟨by congr 1;exact decide_eq_decide.2 h,hw.drop⟩
 have mk:∀ (hk:(q.kind=1∧q.client=0∧q.seq=0∧q.cmd.length=0)∨(q.kind=2∧q.token=0)∨(q.kind=3∧q.token=0∧q.seq=0∧q.cmd.length=0)∨(q.kind=4∧q.client=0∧q.seq=0∧q.token=0)),RightQ q:=fun hk=>⟨h1,h2,h3,h4,hk⟩
 refine ⟨q.kind,At.own (eqS hw) (by exact ⟨rfl,trivial⟩),Br.e (fun k=>?_) (fun k1=>?_)⟩
 ·refine ⟨q.client,At.own (eqS hw) (by exact ⟨rfl,trivial⟩),Br.e (fun h5=>fin ?_) (fun h5=>no (fun hq=>by have:=hq.kind;omega) hw)⟩
  exact ⟨fun h6=>mk (by omega),fun hq=>by have:=hq.kind;omega⟩
 refine Br.e (fun k=>?_) (fun k2=>?_)
 ·refine ⟨q.token,At.own (eqS hw) (by exact ⟨rfl,trivial⟩),fin (p:=q.token=0) ?_⟩
  exact ⟨fun h6=>mk (by omega),fun hq=>by have:=hq.kind;omega⟩
 refine Br.e (fun k=>?_) (fun k3=>?_)
 ·refine ⟨q.token,At.own (eqS hw) (by exact ⟨rfl,trivial⟩),Br.e (fun h5=>fin ?_) (fun h5=>no (fun hq=>by have:=hq.kind;omega) hw)⟩
  exact ⟨fun h6=>mk (by omega),fun hq=>by have:=hq.kind;omega⟩
 refine Br.e (fun k=>?_) (fun k4=>no (fun hq=>by have:=hq.kind;omega) hw)
 refine ⟨q.client,At.own (eqS hw) (by exact ⟨rfl,trivial⟩),Br.e (fun h5=>?_) (fun h5=>no (fun hq=>by have:=hq.kind;omega) hw)⟩
 refine ⟨q.seq,At.own (eqS hw) (by exact ⟨rfl,trivial⟩),Br.e (fun h6=>?_) (fun h6=>no (fun hq=>by have:=hq.kind;omega) hw)⟩
 refine ⟨q.token,At.own (eqS hw) (by exact ⟨rfl,trivial⟩),fin (p:=q.token=0) ?_⟩
 exact ⟨fun h7=>mk (by omega),fun hq=>by have:=hq.kind;omega⟩
theorem nnq {q:Rq} (h:RightQ q):[q.kind,q.client,q.seq,q.token].map nn=[q.kind,q.client,q.seq,q.token]:=by
 have h1:=h.k4
 obtain ⟨a1,a2⟩:=h.client
 obtain ⟨a3,a4⟩:=h.seq
 obtain ⟨a5,a6⟩:=h.token
 show [nn q.kind,nn q.client,nn q.seq,nn q.token]=_
 rw [nn_id (by omega),nn_id a1,nn_id a3,nn_id a5]
theorem senc_spec {q:Rq} {s:Sl} (hs:Ro R s (b8 q.cmd)) (hw:Sat R Hs w):
  Gets Tryz.prog 7 #[.agg #[.int .i64 q.kind,.int .i64 q.client,.int .i64 q.seq,.int .i64 q.token,.slice s.a s.len s.cap]] w fun v w'=>
   ∃ t:Sl,v=.tuple #[.slice t.a t.len t.cap,.int .i64 (encQ q).2]∧Sat R (Own t 5 (b8 (encQ q).1)::Hs) w':=by
 have hslen:s.len=q.cmd.length:=by have:=hs.len;simpa using this
 apply call7
 refine new_rule hw fun b w hw=>?_
 have hw:Sat R (rqC b q s::Hs) w:=hw
 refine ⟨q.kind,q.client,q.seq,q.token,s,At.own (eqS hw) (by exact ⟨rfl,rfl,rfl,rfl,rfl,trivial⟩),?_⟩
 refine (srightQ_spec hslen hw).use ?_
 clear hw
 rintro _ w ⟨rfl,hw⟩
 refine ⟨_,rfl,Br.nd (fun h=>?_) (fun h=>?_)⟩
 ·unfold encQ
  rw [if_neg h]
  exact ⟨nilS,rfl,Own.nil hw.drop⟩
 have h1:=h.k4
 obtain ⟨a1,a2⟩:=h.client
 obtain ⟨a3,a4⟩:=h.seq
 obtain ⟨a5,a6⟩:=h.token
 have h2:=h.cmd
 refine drw_rule' (Sat R [rqC b q s,VC.tru]) hw (fun w hw=>hw.restTru2) fun w hw=>?_
 refine ⟨q.kind,At.own (fun _ h=>h) (by exact ⟨rfl,trivial⟩),q.client,At.own (fun _ h=>h) (by exact ⟨rfl,trivial⟩),q.seq,At.own (fun _ h=>h) (by exact ⟨rfl,trivial⟩),q.token,At.own (fun _ h=>h) (by exact ⟨rfl,trivial⟩),s,At.own (fun _ h=>h) (by exact ⟨rfl,trivial⟩),?_⟩
 refine new_rule hw fun b2 w hw=>⟨hw.swap.restTru2,?_⟩
 refine (slit_spec (xs:=[q.kind,q.client,q.seq,q.token]) rfl (fun x hx=>by
  simp only [List.mem_cons,List.not_mem_nil,or_false] at hx
  omega) (by simp) hw).use ?_
 clear hw
 rintro _ w ⟨t1,rfl,hw⟩
 rw [nnq h] at hw
 refine ⟨t1,rfl,hw.swap.restTru2,?_⟩
 refine (ftext_spec hs (by omega) hw).use ?_
 clear hw
 rintro _ w ⟨t2,rfl,hw⟩
 refine ⟨t2,rfl,(hw.arr (Hs':=rqC b q s::Own t2 5 (b8 (textB q.cmd))::Own t1 5 (b8 (numsB [q.kind,q.client,q.seq,q.token]))::Hs)).restTru2,?_⟩
 have l1:=numsB_len (l:=[q.kind,q.client,q.seq,q.token]) fun x hx=>by
  simp only [List.mem_cons,List.not_mem_nil,or_false] at hx
  rcases hx with rfl|rfl|rfl|rfl<;>omega
 have l2:=textB_len (d:=q.cmd) (by omega)
 simp only [List.length_cons,List.length_nil] at l1
 refine app8 (by omega) hw fun t w hw=>⟨hw.swap.restTru2,t,?_,?_⟩
 ·unfold encQ;rw [if_pos h]
 ·unfold encQ;rw [if_pos h]
  exact hw.cons fun _ h=>h.drop
theorem sanswer_spec {t:Told} {s:Sl} (hc:∀ x∈[t.code,t.client,t.seq],x<9223372036854775808) (hl:t.reply.length≤100000) (hs:Ro R s (b8 t.reply)) (hw:Sat R Hs w):
  Gets Tryz.prog 13 #[.agg #[.int .i64 t.code,.int .i64 t.client,.int .i64 t.seq,.slice s.a s.len s.cap]] w fun v w'=>
   ∃ x:Sl,v=.slice x.a x.len x.cap∧Sat R (Own x 5 (b8 (tdB t))::Hs) w':=by
 apply call13
 refine new_rule hw fun b w hw=>?_
 have hw:Sat R (tdC b t s::Hs) w:=hw
 refine drw_rule' (Sat R [tdC b t s,VC.tru]) hw (fun w hw=>hw.restTru2) fun w hw=>?_
 refine ⟨t.code,At.own (fun _ h=>h) (by exact ⟨rfl,trivial⟩),t.client,At.own (fun _ h=>h) (by exact ⟨rfl,trivial⟩),t.seq,At.own (fun _ h=>h) (by exact ⟨rfl,trivial⟩),s,At.own (fun _ h=>h) (by exact ⟨rfl,trivial⟩),?_⟩
 refine new_rule hw fun b2 w hw=>⟨hw.swap.restTru2,?_⟩
 refine (slit_spec (xs:=[t.code,t.client,t.seq]) rfl hc (by simp) hw).use ?_
 clear hw
 rintro _ w ⟨t1,rfl,hw⟩
 refine ⟨t1,rfl,hw.swap.restTru2,?_⟩
 refine (ftext_spec hs (by omega) hw).use ?_
 clear hw
 rintro _ w ⟨t2,rfl,hw⟩
 refine ⟨t2,rfl,(hw.arr (Hs':=tdC b t s::Own t2 5 (b8 (textB t.reply))::Own t1 5 (b8 (numsB ([t.code,t.client,t.seq].map nn)))::Hs)).restTru2,?_⟩
 have l1:=numsB_len (l:=[t.code,t.client,t.seq].map nn) fun y hy=>by obtain ⟨x,hx,rfl⟩:=List.mem_map.1 hy;have:=nn_bd (hc x hx);omega
 have l2:=textB_len (d:=t.reply) (by omega)
 have e3:([t.code,t.client,t.seq].map nn).length=3:=rfl
 have ht:=hl
 refine app8 (a:=numsB ([t.code,t.client,t.seq].map nn)) (b:=textB t.reply) (by omega) hw fun x w hw=>⟨hw.swap.restTru2,x,rfl,?_⟩
 exact hw.cons fun _ h=>h.drop
end Go.Proofs.YtflgboncpbmikaaGreatDoor
/- Package session: Decode, Read. Condition: bounds on lengths. -/
namespace Go.Proofs.YtflgboncpbmikaaGreatDoor
set_option linter.unusedVariables false
set_option linter.unusedSimpArgs false
open Go Go.VC
open Classical
variable {R:Cx} {Hs Rest:List HP} {w:World}
theorem snum_spec {r:Nat} {rd:Rd} (hb:Bytes rd.bs) (hw:Sat R (RdAt r rd::Hs) w):
  Gets Tryz.prog 21 #[.pointer (some ⟨r,0,none⟩)] w fun v w'=>v=.int .i64 (rdNum mI rd).1∧Sat R (RdAt r (rdNum mI rd).2::Hs) w':=by
 have hv:=rdNum_val (most:=mI) hb (by decide)
 apply call21
 refine (rnum_spec (most:=mI) hb hw).use ?_
 rintro _ w ⟨rfl,hw⟩
 refine ⟨_,rfl,?_,hw⟩
 have:(rdNum mI rd).1≤1099511627776:=hv.2
 rw [wrap64 (by omega) (by omega)]
abbrev rqNew (b:Nat):HP:=rqC b zeroQ nilS
set_option maxHeartbeats 1000000 in
theorem sdec_spec {s:Sl} {bs:List Int} (hb:Bytes bs) (hl:bs.length≤1099511627776) (hs:Ro R s (b8 bs)) (hw:Sat R Hs w):
  Gets Tryz.prog 8 #[.slice s.a s.len s.cap] w fun v w'=>∃ t:Sl,v=.tuple #[.agg (rqV (rqDec mI bs).1 t).toArray,.int .i64 (rqDec mI bs).2]∧Sat R (Own t 5 (b8 (rqDec mI bs).1.cmd)::Hs) w':=by
 apply call8
 have b0:Bytes (⟨bs,false⟩:Rd).bs:=hb
 have l0:(⟨bs,false⟩:Rd).bs.length≤1099511627776:=hl
 obtain ⟨rd0,e0⟩:∃ rd:Rd,rd=⟨bs,false⟩:=⟨_,rfl⟩
 rw [←e0] at b0 l0
 refine new_rule hw fun b2 w hw=>?_
 have hw:Sat R (rqNew b2::Hs) w:=hw
 refine (fnew_spec hs hl hw).use ?_
 clear hw
 rintro _ w ⟨r,rfl,hw⟩
 refine ⟨_,rfl,?_⟩
 rw [←e0] at hw
 have b1:=rdNum_bd (most:=mI) b0
 have l1:(rdNum mI rd0).2.bs.length≤1099511627776:=Nat.le_trans rdNum_len l0
 obtain ⟨k,rd1,e1⟩:∃ y rd,rdNum mI rd0=(y,rd):=⟨_,_,rfl⟩
 refine (snum_spec b0 hw).use ?_
 clear hw
 rintro _ w ⟨rfl,hw⟩
 rw [e1] at b1 l1 hw ⊢
 dsimp only at b1 l1 hw ⊢
 refine ⟨_,rfl,?_⟩
 have b2':=rdNum_bd (most:=mI) b1
 have l2:(rdNum mI rd1).2.bs.length≤1099511627776:=Nat.le_trans rdNum_len l1
 obtain ⟨c,rd2,e2⟩:∃ y rd,rdNum mI rd1=(y,rd):=⟨_,_,rfl⟩
 refine (snum_spec b1 hw).use ?_
 clear hw
 rintro _ w ⟨rfl,hw⟩
 rw [e2] at b2' l2 hw ⊢
 dsimp only at b2' l2 hw ⊢
 refine ⟨_,rfl,?_⟩
 have b3:=rdNum_bd (most:=mI) b2'
 have l3:(rdNum mI rd2).2.bs.length≤1099511627776:=Nat.le_trans rdNum_len l2
 obtain ⟨q,rd3,e3⟩:∃ y rd,rdNum mI rd2=(y,rd):=⟨_,_,rfl⟩
 refine (snum_spec b2' hw).use ?_
 clear hw
 rintro _ w ⟨rfl,hw⟩
 rw [e3] at b3 l3 hw ⊢
 dsimp only at b3 l3 hw ⊢
 refine ⟨_,rfl,?_⟩
 have b4:=rdNum_bd (most:=mI) b3
 have l4:(rdNum mI rd3).2.bs.length≤1099511627776:=Nat.le_trans rdNum_len l3
 obtain ⟨t,rd4,e4⟩:∃ y rd,rdNum mI rd3=(y,rd):=⟨_,_,rfl⟩
 refine (snum_spec b3 hw).use ?_
 clear hw
 rintro _ w ⟨rfl,hw⟩
 rw [e4] at b4 l4 hw ⊢
 dsimp only at b4 l4 hw ⊢
 refine ⟨_,rfl,?_⟩
 refine new_rule hw fun b w hw=>?_
 refine store_rule hw (by kernel_rfl) rfl (by simp [Value.cells]) fun w hw=>?_
 have hw:Sat R (RdAt r rd4::rqC b ⟨k,c,q,t,[]⟩ nilS::rqNew b2::Hs) w:=(hw.re (rqC b ⟨k,c,q,t,[]⟩ nilS)).swap
 have htl:=rdText_len (most:=4000) (rd:=rd4)
 obtain ⟨d,rd5,e5⟩:∃ y rd,rdText 4000 rd4=(y,rd):=⟨_,_,rfl⟩
 refine (rtext_spec (most:=4000) (by omega) l4 b4 hw).use ?_
 clear hw
 rintro _ w ⟨sd,rfl,hw⟩
 rw [e5] at hw htl
 dsimp only at hw htl
 refine ⟨sd,rfl,?_⟩
 refine store_rule hw (by kernel_rfl) rfl (by simp [Value.cells]) fun w hw=>?_
 have hC:rqRd mI ⟨bs,false⟩=(⟨k,c,q,t,d⟩,rd5):=by
  rw [←e0]
  unfold rqRd
  simp only [e1,e2,e3,e4,e5]
 obtain ⟨C,eC⟩:∃ C:Rq,C=⟨k,c,q,t,d⟩:=⟨_,rfl⟩
 have hw:Sat R (rqC b C sd::Own sd 5 (b8 C.cmd)::RdAt r rd5::rqNew b2::Hs) w:=by rw [eC];exact hw.re (rqC b ⟨k,c,q,t,d⟩ sd)
 rw [←eC] at hC
 have hdec:rqDec mI bs=if rdWhole rd5=true∧RightQ C then (C,0) else (zeroQ,6):=by unfold rqDec;rw [hC]
 clear hC eC e0 e1 e2 e3 e4 e5 b0 b1 b2' b3 b4 l0 l1 l2 l3
 have hw:Sat R (RdAt r rd5::rqC b C sd::Own sd 5 (b8 C.cmd)::rqNew b2::Hs) w:=hw.arr
 refine (whole_spec hw).use ?_
 clear hw
 rintro _ w ⟨rfl,hw⟩
 have no:rqDec mI bs=(zeroQ,6)→∀ {w},Sat R (rqNew b2::Hs) w→∃ t:Sl,Value.tuple #[.agg (rqV zeroQ nilS).toArray,.int .i64 6]=.tuple #[.agg (rqV (rqDec mI bs).1 t).toArray,.int .i64 (rqDec mI bs).2]∧Sat R (Own t 5 (b8 (rqDec mI bs).1.cmd)::Hs) w:=fun e {w} hw=>by
  rw [e]
  exact ⟨nilS,rfl,Own.nil hw.drop⟩
 refine ⟨_,rfl,Br.nb (fun h=>?_) (fun h=>?_)⟩
 ·have hw:Sat R (rqNew b2::Hs) w:=hw.drop.drop.drop
  refine store_rule hw (by kernel_rfl) rfl (by simp [Value.cells]) fun w hw=>?_
  have hw:=hw.re (rqNew b2)
  refine ⟨_,_,_,_,nilS,At.own (eqS hw) (by exact ⟨rfl,rfl,rfl,rfl,rfl,trivial⟩),no ?_ hw⟩
  rw [hdec,if_neg (by rintro ⟨h1,_⟩;rw [h1] at h;cases h)]
 refine ⟨C.kind,C.client,C.seq,C.token,sd,At.own (eqS hw) (by exact ⟨rfl,rfl,rfl,rfl,rfl,trivial⟩),?_⟩
 have hsl:sd.len=C.cmd.length:=by
  have:=Own.len (hw.arr (Hs':=Own sd 5 (b8 C.cmd)::RdAt r rd5::rqC b C sd::rqNew b2::Hs))
  simpa using this
 refine (srightQ_spec hsl hw).use ?_
 clear hw
 rintro _ w ⟨rfl,hw⟩
 refine ⟨_,rfl,Br.nb (fun h2=>?_) (fun h2=>?_)⟩
 ·have hw:Sat R (rqNew b2::Hs) w:=hw.drop.drop.drop
  refine store_rule hw (by kernel_rfl) rfl (by simp [Value.cells]) fun w hw=>?_
  have hw:=hw.re (rqNew b2)
  refine ⟨_,_,_,_,nilS,At.own (eqS hw) (by exact ⟨rfl,rfl,rfl,rfl,rfl,trivial⟩),no ?_ hw⟩
  rw [hdec,if_neg (by rintro ⟨_,h1⟩;rw [decide_eq_true h1] at h2;cases h2)]
 refine ⟨C.kind,C.client,C.seq,C.token,sd,At.own (eqS hw) (by exact ⟨rfl,rfl,rfl,rfl,rfl,trivial⟩),?_⟩
 have hw:Sat R (rqNew b2::Own sd 5 (b8 C.cmd)::RdAt r rd5::rqC b C sd::Hs) w:=hw.arr
 refine store_rule hw (by kernel_rfl) rfl (by simp [Value.cells]) fun w hw=>?_
 have hw:=hw.re (rqC b2 C sd)
 refine ⟨C.kind,C.client,C.seq,C.token,sd,At.own (eqS hw) (by exact ⟨rfl,rfl,rfl,rfl,rfl,trivial⟩),?_⟩
 rw [hdec,if_pos ⟨h,of_decide_eq_true h2⟩]
 exact ⟨sd,rfl,hw.drop.cons fun _ h=>h.drop.drop⟩
abbrev tdNew (b:Nat):HP:=tdC b zeroT nilS
set_option maxHeartbeats 1000000 in
theorem sread_spec {s:Sl} {bs:List Int} (hb:Bytes bs) (hl:bs.length≤1099511627776) (hs:Ro R s (b8 bs)) (hw:Sat R Hs w):
  Gets Tryz.prog 12 #[.slice s.a s.len s.cap] w fun v w'=>∃ t:Sl,v=.tuple #[.agg (tdV (tdDec bs).1 t).toArray,.int .i64 (tdDec bs).2]∧Sat R (Own t 5 (b8 (tdDec bs).1.reply)::Hs) w':=by
 apply call12
 have b0:Bytes (⟨bs,false⟩:Rd).bs:=hb
 have l0:(⟨bs,false⟩:Rd).bs.length≤1099511627776:=hl
 obtain ⟨rd0,e0⟩:∃ rd:Rd,rd=⟨bs,false⟩:=⟨_,rfl⟩
 rw [←e0] at b0 l0
 refine new_rule hw fun b2 w hw=>?_
 have hw:Sat R (tdNew b2::Hs) w:=hw
 refine (fnew_spec hs hl hw).use ?_
 clear hw
 rintro _ w ⟨r,rfl,hw⟩
 refine ⟨_,rfl,?_⟩
 rw [←e0] at hw
 have b1:=rdNum_bd (most:=mI) b0
 have l1:(rdNum mI rd0).2.bs.length≤1099511627776:=Nat.le_trans rdNum_len l0
 obtain ⟨k,rd1,e1⟩:∃ y rd,rdNum mI rd0=(y,rd):=⟨_,_,rfl⟩
 refine (snum_spec b0 hw).use ?_
 clear hw
 rintro _ w ⟨rfl,hw⟩
 rw [e1] at b1 l1 hw ⊢
 dsimp only at b1 l1 hw ⊢
 refine ⟨_,rfl,?_⟩
 have b2':=rdNum_bd (most:=mI) b1
 have l2:(rdNum mI rd1).2.bs.length≤1099511627776:=Nat.le_trans rdNum_len l1
 obtain ⟨c,rd2,e2⟩:∃ y rd,rdNum mI rd1=(y,rd):=⟨_,_,rfl⟩
 refine (snum_spec b1 hw).use ?_
 clear hw
 rintro _ w ⟨rfl,hw⟩
 rw [e2] at b2' l2 hw ⊢
 dsimp only at b2' l2 hw ⊢
 refine ⟨_,rfl,?_⟩
 have b3:=rdNum_bd (most:=mI) b2'
 have l3:(rdNum mI rd2).2.bs.length≤1099511627776:=Nat.le_trans rdNum_len l2
 obtain ⟨q,rd3,e3⟩:∃ y rd,rdNum mI rd2=(y,rd):=⟨_,_,rfl⟩
 refine (snum_spec b2' hw).use ?_
 clear hw
 rintro _ w ⟨rfl,hw⟩
 rw [e3] at b3 l3 hw ⊢
 dsimp only at b3 l3 hw ⊢
 refine ⟨_,rfl,?_⟩
 refine new_rule hw fun b w hw=>?_
 refine store_rule hw (by kernel_rfl) rfl (by simp [Value.cells]) fun w hw=>?_
 have hw:Sat R (RdAt r rd3::tdC b ⟨k,c,q,[]⟩ nilS::tdNew b2::Hs) w:=(hw.re (tdC b ⟨k,c,q,[]⟩ nilS)).swap
 obtain ⟨d,rd5,e5⟩:∃ y rd,rdText 65536 rd3=(y,rd):=⟨_,_,rfl⟩
 refine (rtext_spec (most:=65536) (by omega) l3 b3 hw).use ?_
 clear hw
 rintro _ w ⟨sd,rfl,hw⟩
 rw [e5] at hw
 dsimp only at hw
 refine ⟨sd,rfl,?_⟩
 refine store_rule hw (by kernel_rfl) rfl (by simp [Value.cells]) fun w hw=>?_
 have hC:tdRd ⟨bs,false⟩=(⟨k,c,q,d⟩,rd5):=by
  rw [←e0]
  unfold tdRd
  simp only [e1,e2,e3,e5]
 obtain ⟨C,eC⟩:∃ C:Told,C=⟨k,c,q,d⟩:=⟨_,rfl⟩
 have hw:Sat R (tdC b C sd::Own sd 5 (b8 C.reply)::RdAt r rd5::tdNew b2::Hs) w:=by rw [eC];exact hw.re (tdC b ⟨k,c,q,d⟩ sd)
 rw [←eC] at hC
 have hdec:tdDec bs=if rdWhole rd5=true then (C,0) else (zeroT,6):=by unfold tdDec;rw [hC]
 clear hC eC e0 e1 e2 e3 e5 b0 b1 b2' b3 l0 l1 l2 l3
 have hw:Sat R (RdAt r rd5::tdC b C sd::Own sd 5 (b8 C.reply)::tdNew b2::Hs) w:=hw.arr
 refine (whole_spec hw).use ?_
 clear hw
 rintro _ w ⟨rfl,hw⟩
 refine ⟨_,rfl,Br.nb (fun h=>?_) (fun h=>?_)⟩
 ·have hw:Sat R (tdNew b2::Hs) w:=hw.drop.drop.drop
  refine store_rule hw (by kernel_rfl) rfl (by simp [Value.cells]) fun w hw=>?_
  have hw:=hw.re (tdNew b2)
  refine ⟨_,_,_,nilS,At.own (eqS hw) (by exact ⟨rfl,rfl,rfl,rfl,trivial⟩),?_⟩
  rw [hdec,if_neg (by rw [h];simp)]
  exact ⟨nilS,rfl,Own.nil hw.drop⟩
 refine ⟨C.code,C.client,C.seq,sd,At.own (eqS hw) (by exact ⟨rfl,rfl,rfl,rfl,trivial⟩),?_⟩
 have hw:Sat R (tdNew b2::Own sd 5 (b8 C.reply)::RdAt r rd5::tdC b C sd::Hs) w:=hw.arr
 refine store_rule hw (by kernel_rfl) rfl (by simp [Value.cells]) fun w hw=>?_
 have hw:=hw.re (tdC b2 C sd)
 refine ⟨C.code,C.client,C.seq,sd,At.own (eqS hw) (by exact ⟨rfl,rfl,rfl,rfl,trivial⟩),?_⟩
 rw [hdec,if_pos h]
 exact ⟨sd,rfl,hw.drop.cons fun _ h=>h.drop.drop⟩
end Go.Proofs.YtflgboncpbmikaaGreatDoor
/- Package session, plain: a table of sessions, and the book. No condition. -/
namespace Go.Proofs.YtflgboncpbmikaaGreatDoor
set_option linter.unusedVariables false
set_option linter.unusedSimpArgs false
open Go Go.VC
open Classical
structure Cl where
 id:Int
 tok:Int
 last:Int
 rep:List Int
structure Tb where
 next:Int
 cl:List Cl
 bk:Book
def refT (e:Int):Told:=⟨e,0,0,[]⟩
noncomputable def doneT (b:Book) (cmd:List Int):List Int × Book:=
 if (cmDec cmd).2≠0 then (rpB (errR (cmDec cmd).2),b) else (rpB (applyB b (cmDec cmd).1).2,(applyB b (cmDec cmd).1).1)
def Tb.beginT (t:Tb) (tok:Int):Told × Tb:=
 match t.cl.find? (fun c=>c.tok==tok) with
 |some c=>(⟨0,c.id,0,[]⟩,t)
 |none=>if t.cl.length ≥ 64 then (refT 3,t) else (⟨0,t.next,0,[]⟩,{ t with next:=t.next + 1,cl:=t.cl++[⟨t.next,tok,0,[]⟩] })
def clPut (c:Cl) (l:List Cl):List Cl:=l.map fun d=>if d.id==c.id then c else d
noncomputable def Tb.doT (t:Tb) (c:Cl) (q:Rq):Told × Tb:=
 if q.seq>c.last + 1 then (refT 7,t)
 else if q.seq<c.last∨q.seq=0 then (refT 11,t)
 else if q.seq>c.last then (⟨0,q.client,q.seq,(doneT t.bk q.cmd).1⟩,{ t with bk:=(doneT t.bk q.cmd).2,cl:=clPut { c with last:=q.seq,rep:=(doneT t.bk q.cmd).1 } t.cl })
 else (⟨0,q.client,q.seq,c.rep⟩,t)
noncomputable def Tb.askT (t:Tb) (q:Rq):Told × Tb:=
 if q.kind=4 then (refT 1,t)
 else if q.kind=1 then t.beginT q.token
 else match t.cl.find? (fun c=>c.id==q.client) with
  |none=>(if 1≤q.client∧q.client<t.next then refT 10 else refT 2,t)
  |some c=>if q.kind=3 then (⟨0,q.client,0,[]⟩,{ t with cl:=t.cl.filter fun d=>d.id !=q.client }) else t.doT c q
noncomputable def Tb.applyT (t:Tb) (bs:List Int):Told × Tb:=if (rqDec mI bs).2≠0 then (refT (rqDec mI bs).2,t) else t.askT (rqDec mI bs).1
structure TdOk (t:Told):Prop where
 code:0≤t.code∧t.code≤1099511627776
 client:0≤t.client∧t.client≤1099511627776
 seq:0≤t.seq∧t.seq≤1099511627776
 rep:t.reply.length≤65536
 by':Bytes t.reply
structure ClOk (next:Int) (c:Cl):Prop where
 id:1≤c.id∧c.id<next
 tok:0≤c.tok∧c.tok≤1099511627776
 last:0≤c.last∧c.last≤1099511627776
 rep:c.rep.length≤65536
 by':Bytes c.rep
structure TbOk (t:Tb):Prop where
 nx:1≤t.next
 each:∀ c∈t.cl,ClOk t.next c
 ids:(t.cl.map Cl.id).Nodup
 toks:(t.cl.map Cl.tok).Nodup
 few:t.cl.length≤64
 bk:BookOk t.bk
theorem rp_len {r:Rp} (h:RpIn r):(rpB r).length≤65536:=by
 have h1:=h.code
 have h2:=h.pnr
 have h3:=h.state
 have h4:=h.flt
 have h5:=h.cls
 have h6:=h.many
 have h7:=h.time
 have h8:=h.ll
 have h9:=h.left
 have h10:=h.bl
 have hn:∀ {x:Int},0≤x∧x≤1099511627776→0≤nn x∧nn x<18446744073709551616:=fun {x} hx=>by
  rw [nn_id hx.1];omega
 have l1:=nums1_len (hn h1)
 have l2:=textB_len (d:=bytesL r.pnr) (by rw [bytesL_len];omega)
 have l3:=nums1_len (hn h3)
 have l4:=nums1_len (hn h4)
 have l5:=nums1_len (hn h5)
 have l6:=nums1_len (hn h6)
 have l7:=nums1_len (hn h7)
 have l8:=nums1_len (x:=(r.left.length:Int)) (by omega)
 have l9:=numsB_len (l:=r.left.map nn) fun y hy=>by
  obtain ⟨x,hx,rfl⟩:=List.mem_map.1 hy
  exact hn (h9 x hx)
 have l10:=nums1_len (x:=(r.labs.length:Int)) (by omega)
 have l11:∀ l:List ByteArray,(∀ s∈l,s.size≤16)→((l.map strB).flatten).length≤25 * l.length:=fun l=>by
  induction l with
  |nil=>intro _;exact Nat.le_refl _
  |cons s l ih=>
   intro hs
   have i1:=ih fun x hx=>hs x (List.mem_cons_of_mem _ hx)
   have i2:=hs s List.mem_cons_self
   have i3:=textB_len (d:=bytesL s) (by rw [bytesL_len];omega)
   rw [bytesL_len] at i3
   rw [List.map_cons,List.flatten_cons,List.length_append,List.length_cons]
   unfold strB at *
   omega
 have l12:=l11 r.labs h.labs
 rw [bytesL_len] at l2
 rw [List.length_map] at l9
 unfold rpB
 simp only [List.length_append]
 unfold strB at *
 omega
theorem refT_ok {e:Int} (h0:0≤e) (h1:e≤1099511627776):TdOk (refT e):=⟨⟨h0,h1⟩,⟨Int.le_refl 0,by show (0:Int)≤1099511627776;decide⟩,⟨Int.le_refl 0,by show (0:Int)≤1099511627776;decide⟩,Nat.zero_le _,fun y hy=>by cases hy⟩
theorem done_ok {b:Book} {cmd:List Int} (k:BookOk b) (hb:Bytes cmd):(doneT b cmd).1.length≤65536∧Bytes (doneT b cmd).1∧BookOk (doneT b cmd).2:=by
 obtain ⟨hf,_⟩:=cmDec_ok hb
 unfold doneT
 split
 ·rename_i h
  have he:(cmDec cmd).2=6:=by
   unfold cmDec at h ⊢
   split
   ·rename_i h2
    rw [if_pos h2] at h
    exact absurd rfl h
   ·rfl
  have hr:RpIn (errR (cmDec cmd).2):=rpin_err (by rw [he];decide)
  exact ⟨rp_len hr,bytes_rp hr,k⟩
 ·have hr:=rpin_apply (c:=(cmDec cmd).1) k hf.sc
  exact ⟨rp_len hr,bytes_rp hr,ok_apply k hf.sc⟩
theorem find_mem {l:List Cl} {P:Cl→Bool} {c:Cl} (h:l.find? P=some c):c∈l∧P c=true:=⟨List.mem_of_find?_eq_some h,List.find?_some h⟩
theorem rqDec_ok {bs:List Int} (hb:Bytes bs) (h:(rqDec mI bs).2=0):RightQ (rqDec mI bs).1:=by
 unfold rqDec at *
 split
 ·rename_i h1;exact h1.2
 ·rename_i h1
  rw [if_neg h1] at h
  exact absurd h (by show ¬ (6:Int)=0;decide)
theorem clPut_ids (c:Cl) (l:List Cl):(clPut c l).map Cl.id=l.map Cl.id:=by
 unfold clPut
 rw [List.map_map]
 refine List.map_congr_left fun d _=>?_
 show Cl.id (if d.id==c.id then c else d)=d.id
 split
 ·rename_i h;exact (beq_iff_eq.1 h).symm
 ·rfl
theorem clPut_toks {c d:Cl} {l:List Cl} (hd:d∈l) (hid:d.id=c.id) (htok:d.tok=c.tok) (hn:(l.map Cl.id).Nodup):(clPut c l).map Cl.tok=l.map Cl.tok:=by
 unfold clPut
 rw [List.map_map]
 refine List.map_congr_left fun x hx=>?_
 show Cl.tok (if x.id==c.id then c else x)=x.tok
 split
 ·rename_i h
  have h:=beq_iff_eq.1 h
  have:x=d:=by
   obtain ⟨i,hi,rfl⟩:=List.getElem_of_mem hx
   obtain ⟨j,hj,rfl⟩:=List.getElem_of_mem hd
   have h2:(l.map Cl.id)[i]'(by simpa using hi)=(l.map Cl.id)[j]'(by simpa using hj):=by simp only [List.getElem_map];omega
   have:=(List.getElem_inj hn).1 h2
   subst this;rfl
  rw [this,htok]
 ·rfl
theorem TbOk.apply {t:Tb} (k:TbOk t) (hn:t.next<1000000) {bs:List Int} (hb:Bytes bs) (hc:∀ q,(rqDec mI bs).1=q→Bytes q.cmd):TbOk (t.applyT bs).2∧TdOk (t.applyT bs).1∧(t.applyT bs).2.next≤t.next + 1∧t.next≤(t.applyT bs).2.next:=by
 have hnx:=k.nx
 have same:∀ {e:Int},0≤e→e≤1099511627776→TbOk t∧TdOk (refT e)∧t.next≤t.next + 1∧t.next≤t.next:=fun h0 h1=>⟨k,refT_ok h0 h1,by omega,Int.le_refl _⟩
 unfold Tb.applyT
 split
 ·rename_i h
  have he:(rqDec mI bs).2=6:=by
   unfold rqDec at h ⊢
   split
   ·rename_i h2
    rw [if_pos h2] at h
    exact absurd rfl h
   ·rfl
  rw [he]
  exact same (by decide) (by decide)
 ·rename_i h
  have hq:=rqDec_ok hb (by simpa using h)
  have hcb:=hc _ rfl
  generalize (rqDec mI bs).1=q at hq hcb
  obtain ⟨q1,q2⟩:=hq.client
  obtain ⟨q3,q4⟩:=hq.seq
  obtain ⟨q5,q6⟩:=hq.token
  unfold Tb.askT
  split
  ·exact same (by decide) (by decide)
  ·split
   ·unfold Tb.beginT
    split
    ·rename_i c hc
     obtain ⟨hm,_⟩:=find_mem hc
     have:=(k.each c hm).id
     exact ⟨k,⟨⟨Int.le_refl 0,by show (0:Int)≤1099511627776;decide⟩,⟨by show 0≤c.id;omega,by show c.id≤1099511627776;omega⟩,⟨Int.le_refl 0,by show (0:Int)≤1099511627776;decide⟩,Nat.zero_le _,fun y hy=>by cases hy⟩,by show t.next≤t.next + 1;omega,Int.le_refl _⟩
    ·rename_i hno
     split
     ·exact same (by decide) (by decide)
     ·rename_i hfew
      have hno2:∀ c∈t.cl,c.tok≠q.token:=fun c hc e=>by
       have:=List.find?_eq_none.1 hno c hc
       exact this (beq_iff_eq.2 e)
      refine ⟨⟨by show 1≤t.next + 1;omega,fun c hc=>?_,?_,?_,?_,k.bk⟩,⟨⟨Int.le_refl 0,by show (0:Int)≤1099511627776;decide⟩,⟨by show 0≤t.next;omega,by show t.next≤1099511627776;omega⟩,⟨Int.le_refl 0,by show (0:Int)≤1099511627776;decide⟩,Nat.zero_le _,fun y hy=>by cases hy⟩,Int.le_refl _,by show t.next≤t.next + 1;omega⟩
      ·rcases List.mem_append.1 hc with hc|hc
       ·have a:=k.each c hc
        exact ⟨⟨a.id.1,by have:=a.id.2;show c.id<t.next + 1;omega⟩,a.tok,a.last,a.rep,a.by'⟩
       ·rw [List.mem_singleton] at hc
        subst hc
        exact ⟨⟨hnx,by show t.next<t.next + 1;omega⟩,⟨q5,q6⟩,⟨Int.le_refl 0,by show (0:Int)≤1099511627776;decide⟩,Nat.zero_le _,fun y hy=>by cases hy⟩
      ·show ((t.cl++[_]).map Cl.id).Nodup
       rw [List.map_append,List.nodup_append]
       refine ⟨k.ids,by simp,fun x hx y hy e=>?_⟩
       obtain ⟨c,hc,rfl⟩:=List.mem_map.1 hx
       have:=(k.each c hc).id.2
       simp only [List.map_cons,List.map_nil,List.mem_singleton] at hy
       omega
      ·show ((t.cl++[_]).map Cl.tok).Nodup
       rw [List.map_append,List.nodup_append]
       refine ⟨k.toks,by simp,fun x hx y hy e=>?_⟩
       obtain ⟨c,hc,rfl⟩:=List.mem_map.1 hx
       simp only [List.map_cons,List.map_nil,List.mem_singleton] at hy
       exact hno2 c hc (by omega)
      ·show (t.cl++[_]).length≤64
       rw [List.length_append]
       simp only [List.length_cons,List.length_nil]
       omega
   ·split
    ·split
     ·exact same (by decide) (by decide)
     ·exact same (by decide) (by decide)
    ·rename_i c hc
     obtain ⟨hm,hid⟩:=find_mem hc
     have hid:=beq_iff_eq.1 hid
     have a:=k.each c hm
     split
     ·refine ⟨⟨hnx,fun d hd=>k.each d (List.mem_filter.1 hd).1,?_,?_,Nat.le_trans (List.length_filter_le _ _) k.few,k.bk⟩,⟨⟨Int.le_refl 0,by show (0:Int)≤1099511627776;decide⟩,⟨q1,q2⟩,⟨Int.le_refl 0,by show (0:Int)≤1099511627776;decide⟩,Nat.zero_le _,fun y hy=>by cases hy⟩,by show t.next≤t.next + 1;omega,Int.le_refl _⟩
      ·exact (List.filter_sublist.map Cl.id).nodup k.ids
      ·exact (List.filter_sublist.map Cl.tok).nodup k.toks
     ·unfold Tb.doT
      split
      ·exact same (by decide) (by decide)
      ·split
       ·exact same (by decide) (by decide)
       ·split
        ·obtain ⟨d1,d2,d3⟩:=done_ok k.bk hcb
         refine ⟨⟨hnx,fun d hd=>?_,?_,?_,?_,d3⟩,⟨⟨Int.le_refl 0,by show (0:Int)≤1099511627776;decide⟩,⟨q1,q2⟩,⟨q3,q4⟩,d1,d2⟩,by show t.next≤t.next + 1;omega,Int.le_refl _⟩
         ·obtain ⟨x,hx,rfl⟩:=List.mem_map.1 hd
          dsimp only
          split
          ·exact ⟨a.id,a.tok,⟨q3,q4⟩,d1,d2⟩
          ·exact k.each x hx
         ·show ((clPut _ t.cl).map Cl.id).Nodup
          rw [clPut_ids];exact k.ids
         ·show ((clPut _ t.cl).map Cl.tok).Nodup
          rw [clPut_toks (c:={ c with last:=q.seq,rep:=(doneT t.bk q.cmd).1 }) hm rfl rfl k.ids];exact k.toks
         ·show (clPut _ t.cl).length≤64
          unfold clPut
          rw [List.length_map];exact k.few
        ·exact ⟨k,⟨⟨Int.le_refl 0,by show (0:Int)≤1099511627776;decide⟩,⟨q1,q2⟩,⟨q3,q4⟩,a.rep,a.by'⟩,by show t.next≤t.next + 1;omega,Int.le_refl _⟩
end Go.Proofs.YtflgboncpbmikaaGreatDoor
/- Package session: the table in memory with its book; done, begin, New. Condition: bounds. -/
namespace Go.Proofs.YtflgboncpbmikaaGreatDoor
set_option linter.unusedVariables false
set_option linter.unusedSimpArgs false
open Go Go.VC
open Classical
variable {R:Cx} {Hs Rest:List HP} {w:World}
abbrev SE:=Nat × Cl
abbrev cliObj (c:Cl) (s:Sl):Obj:=.cells [.int .i64 c.tok,.int .i64 c.last,.slice s.a s.len s.cap].toArray 65 (0,0)
def cliAt (e:SE):HP:=exs fun s:Sl=>Star [pts e.1 (cliObj e.2 s),Own s 5 (b8 e.2.rep)]
def cliV (e:SE):Int × Value:=(e.2.id,.pointer (some ⟨e.1,0,none⟩))
abbrev tblC (bk:Nat) (next:Int) (m:Nat):Obj:=.cells [.pointer (some ⟨bk,0,none⟩),.int .i64 next,.map (some m)].toArray 59 (0,0)
def TbAt (p:Nat) (t:Tb):HP:=exs fun m:Nat=>exs fun bk:Nat=>exs fun E:List SE=>Star [pur (E.map Prod.snd=t.cl),pts p (tblC bk t.next m),MapAt m (E.map cliV),Star (E.map cliAt),BookAt bk t.bk]
theorem Sat.tb {p:Nat} {t:Tb}:Sat R (TbAt p t::Hs) w↔∃ m bk,∃ E:List SE,E.map Prod.snd=t.cl∧Sat R (pts p (tblC bk t.next m)::MapAt m (E.map cliV)::Star (E.map cliAt)::BookAt bk t.bk::Hs) w:=by
 unfold TbAt
 simp only [Sat.exs]
 constructor
 ·rintro ⟨m,b,E,h⟩
  obtain ⟨h1,h2⟩:=Sat.pur.1 (Sat.star.1 h)
  exact ⟨m,b,E,h1,h2⟩
 ·rintro ⟨m,b,E,h1,h2⟩
  exact ⟨m,b,E,Sat.star.2 (Sat.pur.2 ⟨h1,h2⟩)⟩
theorem Sat.cli {e:SE}:Sat R (cliAt e::Hs) w↔∃ s:Sl,Sat R (pts e.1 (cliObj e.2 s)::Own s 5 (b8 e.2.rep)::Hs) w:=by
 unfold cliAt
 simp only [Sat.exs]
 exact ⟨fun ⟨s,h⟩=>⟨s,Sat.star.1 h⟩,fun ⟨s,h⟩=>⟨s,Sat.star.2 h⟩⟩
theorem cl_mid {A:HP} {B C:List HP}:Sat R (Star (B++A::C)::Hs) w↔Sat R (A::Star (B++C)::Hs) w:=by
 have key:∀ (B:List HP) {R:Cx} {Hs:List HP},Sat R (B++A::Hs) w↔Sat R (A::(B++Hs)) w:=fun B=>by
  induction B with
  |nil=>exact fun {R Hs}=>Iff.rfl
  |cons X B ih=>
   intro R Hs
   constructor
   ·intro h
    have h:Sat R (X::(B++A::Hs)) w:=h
    exact (h.cons fun _ h=>ih.1 h).swap
   ·intro h
    have h:Sat R (A::X::(B++Hs)) w:=h
    exact (h.swap.cons fun _ h=>ih.2 h)
 rw [Sat.star,List.append_assoc,List.cons_append,key B]
 constructor
 ·intro h
  exact h.cons fun _ h=>Sat.star.2 (by rw [List.append_assoc];exact h)
 ·intro h
  refine h.cons fun _ h=>?_
  have:=Sat.star.1 h
  rwa [List.append_assoc] at this
theorem cl_pick {A C:List SE} {e:SE}:Sat R (Star ((A++e::C).map cliAt)::Hs) w↔∃ s:Sl,Sat R (pts e.1 (cliObj e.2 s)::Own s 5 (b8 e.2.rep)::Star (A.map cliAt++C.map cliAt)::Hs) w:=by
 rw [List.map_append,List.map_cons,cl_mid,Sat.cli]
abbrev cMap:MapT Tryz.prog 57 Int 3 62 (.pointer none):=⟨Tryz.underlying57,Tryz.underlying3,Tryz.zeroValue62⟩
theorem cl_get {k:Int}:∀ {E:List SE},getM k (E.map cliV)=(E.find? fun e=>e.2.id==k).map fun e=>.pointer (some ⟨e.1,0,none⟩)
 |[]=>rfl
 |e::E=>by
  rw [List.map_cons,getM,List.find?_cons]
  show (if k==e.2.id then some (Value.pointer (some ⟨e.1,0,none⟩)) else _)=_
  by_cases h:e.2.id=k
  ·rw [if_pos (by rw [h];simp),show (e.2.id==k)=true by simpa using h]
   rfl
  ·rw [if_neg (by simpa using fun h2=>h h2.symm),show (e.2.id==k)=false by simpa using h,cl_get]
theorem cl_find {E:List SE} {P:Cl→Bool}:(E.map Prod.snd).find? P=(E.find? fun e=>P e.2).map Prod.snd:=by
 rw [List.find?_map]
 rfl
theorem find_key {l:List Cl} {f:Cl→Int} (h:(l.map f).Nodup) {c:Cl} (hc:c∈l):l.find? (fun d=>f d==f c)=some c:=by
 induction l with
 |nil=>cases hc
 |cons x l ih=>
  rw [List.map_cons,List.nodup_cons] at h
  rw [List.find?_cons]
  rcases List.mem_cons.1 hc with h1|h1
  ·subst h1
   simp
  ·have:f x≠f c:=fun e=>h.1 (List.mem_map.2 ⟨c,h1,e.symm⟩)
   rw [show (f x==f c)=false by simpa using this]
   exact ih h.2 h1
theorem put_td {b4:Nat} {t4 τ:Told} {s0 s:Sl} {K:Int→Int→Int→Sl→World→Prop} (hw:Sat R (tdC b4 t4 s0::Hs) w) (k:∀ w',Sat R Hs w'→K τ.code τ.client τ.seq s w'):
  ∃ w_6:World,((Instr.storeAt 37 (.pointer ((some ⟨b4,0,none⟩))) (.agg #[.int .i64 τ.code,.int .i64 τ.client,.int .i64 τ.seq,.slice s.a s.len s.cap])).run Tryz.prog w=.ok () w_6)∧
  ∃ u:Int,∃ u_1:Int,∃ u_2:Int,∃ u_3:Sl,(At (fun w'=>w'=w_6) ⟨b4,0,none⟩ [.int .i64 u,.int .i64 u_1,.int .i64 u_2,.slice u_3.a u_3.len u_3.cap])∧
  K u u_1 u_2 u_3 w_6:=by
 refine store_rule hw (by kernel_rfl) rfl (by simp [Value.cells]) fun w hw=>?_
 have hw:=hw.re (tdC b4 τ s)
 exact ⟨τ.code,τ.client,τ.seq,s,At.own (eqS hw) (by exact ⟨rfl,rfl,rfl,rfl,trivial⟩),k _ hw.drop⟩
theorem refused_spec {e:Int} (hw:Sat R Hs w):Gets Tryz.prog 25 #[.int .i64 e] w fun v w'=>v=.agg (tdV (refT e) nilS).toArray∧Sat R Hs w':=by
 apply call25
 refine new_rule hw fun b w hw=>?_
 have hw:Sat R (tdNew b::Hs) w:=hw
 exact put_td (τ:=refT e) (s:=nilS) hw fun w hw=>⟨rfl,hw⟩
theorem CalW.mk2 {g:FuncId} {x y:Value} {Q:Ending→World→Prop} (hc:cl g=true) (h:Calls Tryz.prog g #[x,y] w Q):CalW Tryz.prog cl (.func (.func g) #[x] #[]) [y] w Q:=CalW.mkB hc (by
 have e:((#[x]:Array Value).toList++(([y]:List Value)++(#[]:Array Value).toList)).toArray=#[x,y]:=rfl
 rw [e];exact h)
set_option maxHeartbeats 1000000 in
theorem done_spec {p:Nat} {b:Book} {s:Sl} {cmd:List Int} (k:BookOk b) (hb:Bytes cmd) (hl:cmd.length≤1099511627776) (hs:Ro R s (b8 cmd)) (hw:Sat R (BookAt p b::Hs) w):
  Gets Tryz.prog 27 #[.slice s.a s.len s.cap,.func (.func 28) #[.pointer (some ⟨p,0,none⟩)] #[]] w fun v w'=>
   ∃ t:Sl,v=.slice t.a t.len t.cap∧Sat R (Own t 5 (b8 (doneT b cmd).1)::BookAt p (doneT b cmd).2::Hs) w':=by
 apply call27
 obtain ⟨hf,hgl,hpl⟩:=cmDec_ok hb
 refine (bdec_spec hb hl hs hw).use ?_
 clear hw
 rintro _ w ⟨sg,sp,rfl,hw⟩
 obtain ⟨c,hc⟩:∃ c,c=(cmDec cmd).1:=⟨_,rfl⟩
 obtain ⟨e,he⟩:∃ e,e=(cmDec cmd).2:=⟨_,rfl⟩
 have hd:doneT b cmd=if e≠0 then (rpB (errR e),b) else (rpB (applyB b c).2,(applyB b c).1):=by unfold doneT;rw [←hc,←he]
 have he6:e=0∨e=6:=by
  rw [he];unfold cmDec
  split
  ·exact .inl rfl
  ·exact .inr rfl
 rw [hd]
 rw [←hc] at hw hf hgl hpl
 rw [←hc,←he]
 refine ⟨c.kind,c.pnr,c.flt,c.cls,c.many,c.time,c.sc,c.lab,c.rows,sg,sp,e,rfl,?_⟩
 refine new_rule hw fun b5 w hw=>?_
 refine store_rule hw (by kernel_rfl) rfl (by simp [Value.cells]) fun w hw=>?_
 have hw:=hw.re (cmC b5 c sg sp)
 refine Br.ne (fun h=>?_) (fun h=>?_)
 ·rw [if_pos h]
  have hin:RpIn (errR e):=rpin_err (by omega)
  refine (banswer_spec (r:=errR e) (sl:=nilSl) (sb:=nilSl) (rpin_w hin) ⟨rfl,by show 0≤9223372036854775807;omega,fun h=>absurd rfl h⟩ ⟨rfl,Nat.le_refl _,fun h=>absurd rfl h⟩ hw).use ?_
  clear hw
  rintro _ w ⟨t,rfl,hw⟩
  exact ⟨t,rfl,t,rfl,hw.cons fun _ h=>h.drop.drop.drop⟩
 ·rw [if_neg (by simpa using h)]
  have hw:Sat R (Own sg 3 (intsI c.grps)::Own sp 91 (flts c.parts)::BookAt p b::cmC b5 c sg sp::Hs) w:=hw.arr
  obtain ⟨R1,e1,g1,hw⟩:=Own.leak hw
  obtain ⟨R2,e2,g2,hw⟩:=Own.leak hw
  refine ⟨c.kind,c.pnr,c.flt,c.cls,c.many,c.time,c.sc,c.lab,c.rows,sg,sp,At.own (eqS hw) (by exact ⟨rfl,rfl,rfl,rfl,rfl,rfl,rfl,rfl,rfl,rfl,rfl,trivial⟩),?_⟩
  have hin:=rpin_apply (c:=c) k hf.sc
  refine CalW.mk2 (by kernel_rfl) ((apply_spec k hf.sc (e2.ro (g1.ro (by rw [List.length_map];omega))) (by omega) g2 hw).use ?_)
  clear hw
  rintro _ w ⟨sl,sb,rfl,hw⟩
  obtain ⟨rp,hrp⟩:∃ x,x=(applyB b c).2:=⟨_,rfl⟩
  obtain ⟨nb,hnb⟩:∃ x,x=(applyB b c).1:=⟨_,rfl⟩
  rw [←hrp] at hin hw ⊢
  rw [←hnb] at hw ⊢
  have hll:=hin.ll
  have hbl:=hin.bl
  obtain ⟨R3,e3,r3,hw⟩:=Own.leak hw
  obtain ⟨R4,e4,r4,hw⟩:=Own.leak hw
  refine ⟨rp.code,rp.pnr,rp.state,rp.flt,rp.cls,rp.many,rp.time,sl,sb,rfl,?_⟩
  refine (banswer_spec (rpin_w hin) (e4.ro (r3.ro (by rw [List.length_map];omega))) r4 hw).use ?_
  clear hw
  rintro _ w ⟨t,rfl,hw⟩
  exact ⟨t,rfl,t,rfl,e1.back (e2.back (e3.back (e4.back (hw.cons fun _ h=>h.cons fun _ h=>h.drop))))⟩
set_option maxHeartbeats 1000000 in
theorem sbegin_spec {p:Nat} {t:Tb} {tok:Int} (ok:TbOk t) (hn:t.next<1000000) (hw:Sat R (TbAt p t::Hs) w):
  Gets Tryz.prog 26 #[.pointer (some ⟨p,0,none⟩),.int .i64 tok] w fun v w'=>v=.agg (tdV (t.beginT tok).1 nilS).toArray∧Sat R (TbAt p (t.beginT tok).2::Hs) w':=by
 obtain ⟨m,bk,E,hE,hw⟩:=Sat.tb.1 hw
 have hnx:=ok.nx
 have hlE:E.length=t.cl.length:=by rw [←hE,List.length_map]
 apply call26
 refine new_rule hw fun b4 w hw=>?_
 have hw:Sat R (MapAt m (E.map cliV)::pts p (tblC bk t.next m)::Star (E.map cliAt)::BookAt bk t.bk::tdNew b4::Hs) w:=by
  have hw:Sat R (tdNew b4::pts p (tblC bk t.next m)::MapAt m (E.map cliV)::Star (E.map cliAt)::BookAt bk t.bk::Hs) w:=hw
  exact hw.arr
 refine NilP.mk rfl ⟨some m,At.own (eqS hw) (by exact ⟨rfl,trivial⟩),?_⟩
 refine range_rule Tryz.underlying57 hw fun r w hw=>?_
 refine ⟨fun w=>∃ left:List (Int × Value),(∀ e∈E,e.2.tok=tok→cliV e∈left)∧(∀ x∈left,x∈E.map cliV)∧Sat R (ItAt r m (E.map cliV) left::pts p (tblC bk t.next m)::Star (E.map cliAt)::BookAt bk t.bk::tdNew b4::Hs) w,itLeft r m,⟨_,fun e he _=>List.mem_map.2 ⟨e,he,rfl⟩,fun x hx=>hx,hw⟩,?_⟩
 clear hw
 rintro _ w ⟨left,hall,hin,hw⟩
 have hlen:=itLeft_eq hw
 rcases next_cases (P:=Tryz.prog) (T:=0) hw with ⟨rfl,hrun⟩|⟨a,k,v,b,w',rfl,hrun,hent,hw'⟩
 ·refine ⟨w,.inl ⟨hrun,?_⟩⟩
  have hno:t.cl.find? (fun c=>c.tok==tok)=none:=List.find?_eq_none.2 fun c hc h=>by
   rw [←hE] at hc
   obtain ⟨e,he,rfl⟩:=List.mem_map.1 hc
   have:=hall e he (beq_iff_eq.1 h)
   cases this
  unfold Tb.beginT
  rw [hno]
  dsimp only
  have hw:=ItAt.map hw
  refine NilP.mk rfl ⟨some m,At.own (eqS hw) (by exact ⟨rfl,trivial⟩),((E.map cliV).length:Int),fun w' e=>?_,?_⟩
  ·rw [show w'=w from e]
   exact MapAt.len (by kernel_rfl) hw
  rw [List.length_map]
  refine Br.d (fun h=>?_) (fun h=>?_)
  ·rw [if_pos (by omega)]
   refine (refused_spec (e:=3) hw).use ?_
   clear hw
   rintro _ w ⟨rfl,hw⟩
   refine ⟨3,0,0,nilS,rfl,?_⟩
   have hw:Sat R (tdNew b4::pts p (tblC bk t.next m)::MapAt m (E.map cliV)::Star (E.map cliAt)::BookAt bk t.bk::Hs) w:=hw.arr
   exact put_td (τ:=refT 3) (s:=nilS) hw fun w hw=>⟨rfl,Sat.tb.2 ⟨m,bk,E,hE,hw⟩⟩
  rw [if_neg (by omega)]
  refine drw_rule hw fun w hw=>?_
  refine NilP.mk rfl ⟨some m,At.own selfS (by exact ⟨rfl,trivial⟩),NilP.mk rfl ⟨t.next,At.own selfS (by exact ⟨rfl,trivial⟩),?_⟩⟩
  refine new_rule hw fun c w hw=>⟨hw.drop,?_⟩
  obtain ⟨n,hnc⟩:∃ n:Cl,n=⟨t.next,tok,0,[]⟩:=⟨_,rfl⟩
  have hw:Sat R (pts c (cliObj n nilS)::MapAt m (E.map cliV)::pts p (tblC bk t.next m)::Star (E.map cliAt)::BookAt bk t.bk::tdNew b4::Hs) w:=by rw [hnc];exact hw
  refine MapAt.put cMap hw.swap t.next (.pointer (some ⟨c,0,none⟩)) fun w hw=>?_
  have hput:putM t.next (.pointer (some ⟨c,0,none⟩)) (E.map cliV)=(E++[(c,n)]).map cliV:=by
   unfold putM
   have:getM t.next (E.map cliV)=none:=getM_ne.2 fun x hx=>by
    obtain ⟨e,he,rfl⟩:=List.mem_map.1 hx
    have:=(ok.each e.2 (by rw [←hE];exact List.mem_map.2 ⟨e,he,rfl⟩)).id
    show e.2.id≠t.next
    omega
   rw [this]
   simp [cliV,hnc]
  rw [hput] at hw
  have hw:Sat R (pts p (tblC bk t.next m)::MapAt m ((E++[(c,n)]).map cliV)::pts c (cliObj n nilS)::Star (E.map cliAt)::BookAt bk t.bk::tdNew b4::Hs) w:=hw.arr
  refine NilP.mk rfl ⟨t.next,At.own (eqS hw) (by exact ⟨rfl,trivial⟩),NilP.mk rfl ?_⟩
  rw [wrap64 (by omega) (by omega)]
  refine store_rule hw (by kernel_rfl) rfl (by simp [Value.cells]) fun w hw=>?_
  have hw:=hw.re (pts p (tblC bk (t.next + 1) m))
  refine NilP.mk rfl ⟨t.next + 1,At.own (eqS hw) (by exact ⟨rfl,trivial⟩),?_⟩
  rw [wrap64 (by omega) (by omega),show t.next + 1 - 1=t.next by omega]
  have hw:Sat R (tdNew b4::pts p (tblC bk (t.next + 1) m)::MapAt m ((E++[(c,n)]).map cliV)::pts c (cliObj n nilS)::Star (E.map cliAt)::BookAt bk t.bk::Hs) w:=hw.arr
  refine put_td (τ:=⟨0,t.next,0,[]⟩) (s:=nilS) hw fun w hw=>⟨rfl,?_⟩
  refine Sat.tb.2 ⟨m,bk,E++[(c,n)],by rw [List.map_append,hE,hnc];rfl,?_⟩
  refine hw.cons fun _ h=>h.cons fun _ h=>?_
  refine cl_pick (A:=E) (C:=[])|>.2 ⟨nilS,?_⟩
  refine h.cons fun _ h=>?_
  rw [show b8 (c,n).2.rep=[] by rw [hnc];rfl]
  refine Own.nil ?_
  rw [List.map_nil,List.append_nil]
  exact h
 ·obtain ⟨e,he,hkv⟩:=List.mem_map.1 (hin (k,v) (by simp))
  have hk:e.2.id=k:=congrArg Prod.fst hkv
  have hv:Value.pointer (some ⟨e.1,0,none⟩)=v:=congrArg Prod.snd hkv
  subst hk hv
  have hec:e.2∈t.cl:=by rw [←hE];exact List.mem_map.2 ⟨e,he,rfl⟩
  refine ⟨w',.inr ⟨_,_,hrun,e.2.id,some ⟨e.1,0,none⟩,fun w2 h2=>by rw [show w2=w' from h2];exact hent,NilP.mk rfl ?_⟩⟩
  obtain ⟨A,C,hAC⟩:=List.append_of_mem he
  obtain ⟨s,hp⟩:∃ s:Sl,Sat R (pts e.1 (cliObj e.2 s)::Own s 5 (b8 e.2.rep)::Star (A.map cliAt++C.map cliAt)::ItAt r m (E.map cliV) (a++b)::pts p (tblC bk t.next m)::BookAt bk t.bk::tdNew b4::Hs) w':=by
   have h3:Sat R (Star (E.map cliAt)::ItAt r m (E.map cliV) (a++b)::pts p (tblC bk t.next m)::BookAt bk t.bk::tdNew b4::Hs) w':=hw'.arr
   rw [hAC] at h3
   rw [hAC]
   exact cl_pick.1 h3
  refine ⟨e.2.tok,At.own (b:=e.1) (eqS hp) (by exact ⟨rfl,trivial⟩),Br.e (fun ht=>?_) (fun ht=>?_)⟩
  ·have hw':Sat R (tdNew b4::ItAt r m (E.map cliV) (a++b)::pts p (tblC bk t.next m)::Star (E.map cliAt)::BookAt bk t.bk::Hs) w':=hw'.arr
   have hfd:t.cl.find? (fun c=>c.tok==tok)=some e.2:=by rw [←ht];exact find_key (f:=Cl.tok) ok.toks hec
   unfold Tb.beginT
   rw [hfd]
   refine put_td (τ:=⟨0,e.2.id,0,[]⟩) (s:=nilS) hw' fun w hw=>⟨rfl,?_⟩
   exact Sat.tb.2 ⟨m,bk,E,hE,(ItAt.map hw).swap⟩
  ·have hlen':=itLeft_eq hw'
   refine ⟨⟨a++b,fun e0 he0 h0=>?_,fun x hx=>hin x ?_,hw'⟩,?_⟩
   ·have h1:=hall e0 he0 h0
    rcases List.mem_append.1 h1 with h1|h1
    ·exact List.mem_append.2 (.inl h1)
    ·rcases List.mem_cons.1 h1 with h1|h1
     ·have hid:e0.2.id=e.2.id:=show (cliV e0).1=(cliV e).1 from congrArg Prod.fst h1
      have:e0.2=e.2:=by
       have k1:=find_key (f:=Cl.id) ok.ids hec
       have k2:=find_key (f:=Cl.id) ok.ids (c:=e0.2) (by rw [←hE];exact List.mem_map.2 ⟨e0,he0,rfl⟩)
       rw [hid,k1] at k2
       exact (Option.some.inj k2).symm
      rw [this] at h0
      exact absurd h0 ht
     ·exact List.mem_append.2 (.inr h1)
   ·rcases List.mem_append.1 hx with h1|h1
    ·exact List.mem_append.2 (.inl h1)
    ·exact List.mem_append.2 (.inr (List.mem_cons_of_mem _ h1))
   ·rw [hlen,hlen']
    simp
def newT:Tb:=⟨1,[],newBook⟩
theorem newT_ok:TbOk newT:=⟨Int.le_refl 1,fun _ h=>(by cases h),List.nodup_nil,List.nodup_nil,Nat.zero_le _,ok_new⟩
theorem snew_spec (hw:Sat R Hs w):Gets Tryz.prog 10 #[] w fun v w'=>∃ p,v=.pointer (some ⟨p,0,none⟩)∧Sat R (TbAt p newT::Hs) w':=by
 apply call10
 refine (bnew_spec hw).use ?_
 clear hw
 rintro _ w ⟨p0,rfl,hw⟩
 refine ⟨_,rfl,new_rule hw fun m w hw=>?_⟩
 have hw:=MapAt.new (α:=Int) rfl hw
 refine new_rule hw fun p w hw=>⟨p,rfl,Sat.tb.2 ⟨m,p0,[],rfl,?_⟩⟩
 exact hw.cons fun _ h=>h.cons fun _ h=>Sat.star.2 h
end Go.Proofs.YtflgboncpbmikaaGreatDoor
/- Package session: Apply of any request. Condition: bounds. -/
namespace Go.Proofs.YtflgboncpbmikaaGreatDoor
set_option linter.unusedVariables false
set_option linter.unusedSimpArgs false
open Go Go.VC
open Classical
variable {R:Cx} {Hs Rest:List HP} {w:World}
theorem rq_bytes {m:Int} {bs:List Int} (hb:Bytes bs):Bytes (rqDec m bs).1.cmd:=by
 unfold rqDec
 split
 ·exact (rdText_bd (rdNum_bd (rdNum_bd (rdNum_bd (rdNum_bd (rd:=⟨bs,false⟩) hb))))).1
 ·intro y hy
  cases hy
theorem cl_split {t:Tb} {E:List SE} (ok:TbOk t) (hE:E.map Prod.snd=t.cl) {id:Int} {e:SE} (h:(E.find? fun e=>e.2.id==id)=some e):
  ∃ A C,E=A++e::C∧e.2.id=id∧(∀ x∈A,x.2.id≠id)∧(∀ x∈C,x.2.id≠id):=by
 have h1:=List.mem_of_find?_eq_some h
 have h2:e.2.id=id:=beq_iff_eq.1 (List.find?_some (p:=fun e:SE=>e.2.id==id) h)
 obtain ⟨A,C,hAC⟩:=List.append_of_mem h1
 have hn:((A++e::C).map fun x:SE=>x.2.id).Nodup:=by
  have:=ok.ids
  rw [←hE,List.map_map,hAC] at this
  exact this
 rw [List.map_append,List.map_cons,List.nodup_append] at hn
 obtain ⟨n1,n2,n3⟩:=hn
 rw [List.nodup_cons] at n2
 refine ⟨A,C,hAC,h2,fun x hx e2=>?_,fun x hx e2=>?_⟩
 ·exact n3 _ (List.mem_map.2 ⟨x,hx,rfl⟩) _ List.mem_cons_self (by rw [e2,h2])
 ·exact n2.1 (List.mem_map.2 ⟨x,hx,by rw [e2,h2]⟩)
theorem put_split {A C:List SE} {b:Nat} {c d:Cl} (h:d.id=c.id) (hA:∀ x∈A,x.2.id≠c.id) (hC:∀ x∈C,x.2.id≠c.id):(A++(b,c)::C).map Prod.snd=clPut c ((A++(b,d)::C).map Prod.snd):=by
 have key:∀ l:List SE,(∀ x∈l,x.2.id≠c.id)→clPut c (l.map Prod.snd)=l.map Prod.snd:=fun l hl=>by
  unfold clPut
  rw [List.map_map]
  refine List.map_congr_left fun x hx=>?_
  show (if x.2.id==c.id then c else x.2)=x.2
  rw [if_neg (by simpa using hl x hx)]
 have k1:=key A hA
 have k2:=key C hC
 unfold clPut at *
 rw [List.map_append,List.map_cons,List.map_append,List.map_cons,List.map_append,List.map_cons,k1,k2]
 congr 2
 show c=if d.id==c.id then c else d
 rw [if_pos (by simpa using h)]
theorem del_split {A C:List SE} {e:SE} {id:Int} (h:e.2.id=id) (hA:∀ x∈A,x.2.id≠id) (hC:∀ x∈C,x.2.id≠id):
  delM id ((A++e::C).map cliV)=(A++C).map cliV∧(A++C).map Prod.snd=((A++e::C).map Prod.snd).filter fun d=>d.id !=id:=by
 constructor
 ·rw [List.map_append,List.map_cons,List.map_append,show cliV e=(id,.pointer (some ⟨e.1,0,none⟩)) by unfold cliV;rw [h]]
  refine delM_app (getM_ne.2 fun x hx=>?_) (by simp)
  obtain ⟨y,hy,rfl⟩:=List.mem_map.1 hx
  exact hA y hy
 ·have key:∀ l:List SE,(∀ x∈l,x.2.id≠id)→(l.map Prod.snd).filter (fun d=>d.id !=id)=l.map Prod.snd:=fun l hl=>by
   refine List.filter_eq_self.2 fun x hx=>?_
   obtain ⟨y,hy,rfl⟩:=List.mem_map.1 hx
   simpa using hl y hy
  rw [List.map_append,List.map_append,List.filter_append,List.map_cons,List.filter_cons,if_neg (by simpa using h),key A hA,key C hC]
set_option maxHeartbeats 4000000 in
theorem sapply_spec {p:Nat} {t:Tb} {bs:List Int} {s:Sl} (ok:TbOk t) (hn:t.next<1000000) (hb:Bytes bs) (hl:bs.length≤1099511627776) (hs:Ro R s (b8 bs)) (hw:Sat R (TbAt p t::Hs) w):
  Gets Tryz.prog 11 #[.pointer (some ⟨p,0,none⟩),.slice s.a s.len s.cap] w fun v w'=>
   ∃ x:Sl,v=.agg (tdV (t.applyT bs).1 x).toArray∧Sat R (Own x 5 (b8 (t.applyT bs).1.reply)::TbAt p (t.applyT bs).2::Hs) w':=by
 apply call11
 refine new_rule hw fun b4 w hw=>?_
 have hw:Sat R (tdNew b4::TbAt p t::Hs) w:=hw
 refine (sdec_spec hb hl hs hw).use ?_
 clear hw
 rintro _ w ⟨cs,rfl,hw⟩
 have hcb:=rq_bytes (m:=mI) hb
 have hq0:=rqDec_ok (bs:=bs) hb
 have hcl:(rqDec mI bs).1.cmd.length≤4000:=by
  unfold rqDec
  split
  ·rename_i h
   exact h.2.cmd
  ·exact Nat.zero_le _
 have he6:(rqDec mI bs).2=0∨(rqDec mI bs).2=6:=by
  unfold rqDec
  split
  ·exact .inl rfl
  ·exact .inr rfl
 have hT:t.applyT bs=if (rqDec mI bs).2≠0 then (refT (rqDec mI bs).2,t) else t.askT (rqDec mI bs).1:=rfl
 rw [hT]
 clear hT
 generalize hqe:(rqDec mI bs).1=q at *
 generalize (rqDec mI bs).2=e at *
 clear hqe
 obtain ⟨R1,e1,g1,hw⟩:=Own.leak hw
 have hcs:Ro R1 cs (b8 q.cmd):=g1.ro (by rw [List.length_map];omega)
 refine ⟨q.kind,q.client,q.seq,q.token,cs,e,rfl,?_⟩
 refine new_rule hw fun b5 w hw=>?_
 refine store_rule hw (by kernel_rfl) rfl (by simp [Value.cells]) fun w hw=>?_
 have hw:=hw.re (rqC b5 q cs)
 have hw:Sat R1 (TbAt p t::tdNew b4::rqC b5 q cs::Hs) w:=hw.arr
 have fin:∀ {τ:Told} {x:Sl} {t2:Tb} {w:World},Sat R1 (Own x 5 (b8 τ.reply)::TbAt p t2::rqC b5 q cs::Hs) w→∃ y:Sl,Value.agg (tdV τ x).toArray=.agg (tdV τ y).toArray∧Sat R (Own y 5 (b8 τ.reply)::TbAt p t2::Hs) w:=fun {τ x t2 w} hw=>
  ⟨x,rfl,e1.back (hw.cons fun _ h=>h.cons fun _ h=>h.drop)⟩
 have ref:∀ {n:Int} {t2:Tb} {w:World},Sat R1 (TbAt p t2::rqC b5 q cs::Hs) w→∃ y:Sl,Value.agg (tdV (refT n) nilS).toArray=.agg (tdV (refT n) y).toArray∧Sat R (Own y 5 (b8 (refT n).reply)::TbAt p t2::Hs) w:=fun {n t2 w} hw=>
  fin (τ:=refT n) (x:=nilS) (Own.nil hw)
 refine Br.ne (fun h=>?_) (fun h=>?_)
 ·rw [if_pos h]
  refine (refused_spec (e:=e) hw).use ?_
  clear hw
  rintro _ w ⟨rfl,hw⟩
  refine ⟨e,0,0,nilS,rfl,?_⟩
  exact put_td (τ:=refT e) (s:=nilS) hw.swap fun w hw=>ref hw
 rw [if_neg (by simpa using h)]
 have hq:=hq0 h
 have hk:=hq.kind
 obtain ⟨q1,q2⟩:=hq.client
 obtain ⟨q3,q4⟩:=hq.seq
 unfold Tb.askT
 refine ⟨q.kind,At.own (eqS hw) (by exact ⟨rfl,trivial⟩),Br.e (fun k4=>?_) (fun k4=>?_)⟩
 ·rw [if_pos k4]
  refine (refused_spec (e:=1) hw).use ?_
  clear hw
  rintro _ w ⟨rfl,hw⟩
  refine ⟨1,0,0,nilS,rfl,?_⟩
  exact put_td (τ:=refT 1) (s:=nilS) hw.swap fun w hw=>ref hw
 rw [if_neg k4]
 refine ⟨q.kind,At.own (eqS hw) (by exact ⟨rfl,trivial⟩),Br.e (fun k1=>?_) (fun k1=>?_)⟩
 ·rw [if_pos k1]
  refine ⟨q.token,At.own (eqS hw) (by exact ⟨rfl,trivial⟩),?_⟩
  refine (sbegin_spec (tok:=q.token) ok hn hw).use ?_
  clear hw
  rintro _ w ⟨rfl,hw⟩
  have hr:(t.beginT q.token).1.reply=[]:=by
   unfold Tb.beginT
   split
   ·rfl
   ·split
    ·rfl
    ·rfl
  refine ⟨_,_,_,nilS,rfl,?_⟩
  refine put_td (τ:=(t.beginT q.token).1) (s:=nilS) hw.swap fun w hw=>fin ?_
  rw [hr]
  exact Own.nil hw
 rw [if_neg k1]
 obtain ⟨m,bk,E,hE,hw⟩:=Sat.tb.1 hw
 have hnx:=ok.nx
 refine drw_rule hw fun w hw=>?_
 refine NilP.mk rfl ⟨some m,At.own selfS (by exact ⟨rfl,trivial⟩),q.client,At.own selfS (by exact ⟨rfl,trivial⟩),?_⟩
 have hfE:t.cl.find? (fun c=>c.id==q.client)=(E.find? fun e=>e.2.id==q.client).map Prod.snd:=by rw [←hE];exact cl_find
 have hg:=cl_get (k:=q.client) (E:=E)
 cases hf:E.find? fun e=>e.2.id==q.client with
 |none=>
  rw [hf] at hfE hg
  rw [hfE]
  dsimp only [Option.map_none]
  refine ⟨none,false,fun w' h=>?_,?_⟩
  ·have:=MapAt.look cMap h.swap q.client true
   rw [hg] at this
   exact this
  refine ⟨fun b w=>b=decide (1≤q.client∧q.client<t.next)∧Sat R1 (tdNew b4::pts p (tblC bk t.next m)::MapAt m (E.map cliV)::Star (E.map cliAt)::BookAt bk t.bk::rqC b5 q cs::Hs) w,?_,?_⟩
  ·refine drw_rule hw fun w hw=>?_
   refine Br.t rfl ⟨q.client,At.own selfS (by exact ⟨rfl,trivial⟩),Br.d (fun h1=>?_) (fun h1=>?_)⟩
   ·refine ⟨q.client,At.own selfS (by exact ⟨rfl,trivial⟩),NilP.mk rfl ⟨t.next,At.own selfS (by exact ⟨rfl,trivial⟩),?_,hw.arr⟩⟩
    exact decide_eq_decide.2 ⟨fun h=>⟨h1,h⟩,fun h=>h.2⟩
   ·exact ⟨by rw [decide_eq_false (by omega)],hw.arr⟩
  clear hw
  rintro _ _ w ⟨rfl,hw⟩
  refine Br.d (fun h1=>?_) (fun h1=>?_)
  ·rw [if_pos h1]
   refine (refused_spec (e:=10) hw).use ?_
   clear hw
   rintro _ w ⟨rfl,hw⟩
   refine ⟨10,0,0,nilS,rfl,?_⟩
   exact put_td (τ:=refT 10) (s:=nilS) hw fun w hw=>ref (Sat.tb.2 ⟨m,bk,E,hE,hw⟩)
  ·rw [if_neg h1]
   refine Br.t rfl ?_
   refine (refused_spec (e:=2) hw).use ?_
   clear hw
   rintro _ w ⟨rfl,hw⟩
   refine ⟨2,0,0,nilS,rfl,?_⟩
   exact put_td (τ:=refT 2) (s:=nilS) hw fun w hw=>ref (Sat.tb.2 ⟨m,bk,E,hE,hw⟩)
 |some e=>
  rw [hf] at hfE hg
  rw [hfE]
  dsimp only [Option.map_some]
  obtain ⟨A,C,hAC,hid,hA,hC⟩:=cl_split ok hE hf
  have hec:e.2∈t.cl:=by rw [←hE,hAC];exact List.mem_map.2 ⟨e,by simp,rfl⟩
  have ec:=ok.each _ hec
  have ecl:=ec.last
  have ecr:=ec.rep
  refine ⟨some ⟨e.1,0,none⟩,true,fun w' h=>?_,?_⟩
  ·have:=MapAt.look cMap h.swap q.client true
   rw [hg] at this
   exact this
  refine ⟨fun b w=>b=false∧Sat R1 (tdNew b4::pts p (tblC bk t.next m)::MapAt m (E.map cliV)::Star (E.map cliAt)::BookAt bk t.bk::rqC b5 q cs::Hs) w,?_,?_⟩
  ·refine drw_rule hw fun w hw=>?_
   exact Br.f rfl ⟨rfl,hw.arr⟩
  clear hw
  rintro _ _ w ⟨rfl,hw⟩
  refine Br.f rfl (Br.f rfl ?_)
  refine ⟨q.kind,At.own (eqS hw) (by exact ⟨rfl,trivial⟩),Br.e (fun k3=>?_) (fun k3=>?_)⟩
  ·rw [if_pos k3]
   refine drw_rule hw fun w hw=>?_
   refine NilP.mk rfl ⟨some m,At.own selfS (by exact ⟨rfl,trivial⟩),q.client,At.own selfS (by exact ⟨rfl,trivial⟩),?_⟩
   have hw:Sat R1 (MapAt m (E.map cliV)::tdNew b4::pts p (tblC bk t.next m)::Star (E.map cliAt)::BookAt bk t.bk::rqC b5 q cs::Hs) w:=hw.arr
   obtain ⟨d1,d2⟩:=del_split hid hA hC
   refine MapAt.del cMap hw q.client fun w hw=>?_
   rw [hAC,d1] at hw
   refine ⟨q.client,At.own (eqS hw) (by exact ⟨rfl,trivial⟩),?_⟩
   have hw:Sat R1 (tdNew b4::pts p (tblC bk t.next m)::MapAt m ((A++C).map cliV)::Star ((A++e::C).map cliAt)::BookAt bk t.bk::rqC b5 q cs::Hs) w:=hw.arr
   refine put_td (τ:=⟨0,q.client,0,[]⟩) (s:=nilS) hw fun w hw=>fin (τ:=⟨0,q.client,0,[]⟩) (x:=nilS) (Own.nil ?_)
   refine Sat.tb.2 ⟨m,bk,A++C,?_,?_⟩
   ·rw [d2,←hE,hAC]
   ·refine hw.cons fun _ h=>h.cons fun _ h=>?_
    obtain ⟨_,h⟩:=cl_pick.1 h
    rw [List.map_append]
    exact h.drop.drop
  rw [if_neg k3]
  unfold Tb.doT
  have hE2:∃ s0:Sl,Sat R1 (pts e.1 (cliObj e.2 s0)::Own s0 5 (b8 e.2.rep)::Star (A.map cliAt++C.map cliAt)::tdNew b4::pts p (tblC bk t.next m)::MapAt m (E.map cliV)::BookAt bk t.bk::rqC b5 q cs::Hs) w:=by
   have h3:Sat R1 (Star (E.map cliAt)::tdNew b4::pts p (tblC bk t.next m)::MapAt m (E.map cliV)::BookAt bk t.bk::rqC b5 q cs::Hs) w:=hw.arr
   rw [hAC] at h3 ⊢
   exact cl_pick.1 h3
  obtain ⟨s0,hw⟩:=hE2
  have close:∀ {R1:Cx} {b:Nat} {c:Cl} {x:Sl} {nb:Book} {w:World},b=e.1→c.id=e.2.id→Sat R1 (pts b (cliObj c x)::Own x 5 (b8 c.rep)::Star (A.map cliAt++C.map cliAt)::pts p (tblC bk t.next m)::MapAt m (E.map cliV)::BookAt bk nb::rqC b5 q cs::Hs) w→Sat R1 (TbAt p { t with bk:=nb,cl:=clPut c t.cl }::rqC b5 q cs::Hs) w:=fun {R1 b c x nb w} hb hc hw=>by
   refine Sat.tb.2 ⟨m,bk,A++(b,c)::C,?_,?_⟩
   ·rw [put_split (d:=e.2) hc.symm (fun x hx=>by rw [hc,hid];exact hA x hx) (fun x hx=>by rw [hc,hid];exact hC x hx),←hE,hAC,hb]
   ·have hm:(A++(b,c)::C).map cliV=E.map cliV:=by
     rw [hAC,List.map_append,List.map_append,List.map_cons,List.map_cons]
     unfold cliV
     rw [hb,hc]
    rw [hm]
    have hw:Sat R1 (pts b (cliObj c x)::Own x 5 (b8 c.rep)::Star (A.map cliAt++C.map cliAt)::pts p (tblC bk t.next m)::MapAt m (E.map cliV)::BookAt bk nb::rqC b5 q cs::Hs) w:=hw
    have hw:=cl_pick (e:=(b,c)).2 ⟨x,hw⟩
    exact hw.arr
  have same:∀ {R1:Cx} {w:World},Sat R1 (pts e.1 (cliObj e.2 s0)::Own s0 5 (b8 e.2.rep)::Star (A.map cliAt++C.map cliAt)::pts p (tblC bk t.next m)::MapAt m (E.map cliV)::BookAt bk t.bk::rqC b5 q cs::Hs) w→Sat R1 (TbAt p t::rqC b5 q cs::Hs) w:=fun {R1 w} hw=>by
   refine Sat.tb.2 ⟨m,bk,E,hE,?_⟩
   have hw:=cl_pick.2 ⟨s0,hw⟩
   rw [←hAC] at hw
   exact hw.arr
  refine drw_rule hw fun w hw=>?_
  refine ⟨q.seq,At.own selfS (by exact ⟨rfl,trivial⟩),NilP.mk rfl ⟨e.2.last,At.own selfS (by exact ⟨rfl,trivial⟩),?_⟩⟩
  rw [wrap64 (by omega) (by omega)]
  refine Br.d (fun h7=>?_) (fun h7=>?_)
  ·rw [if_pos h7]
   refine (refused_spec (e:=7) hw).use ?_
   clear hw
   rintro _ w ⟨rfl,hw⟩
   refine ⟨7,0,0,nilS,rfl,?_⟩
   have hw:Sat R1 (tdNew b4::pts e.1 (cliObj e.2 s0)::Own s0 5 (b8 e.2.rep)::Star (A.map cliAt++C.map cliAt)::pts p (tblC bk t.next m)::MapAt m (E.map cliV)::BookAt bk t.bk::rqC b5 q cs::Hs) w:=hw.arr
   exact put_td (τ:=refT 7) (s:=nilS) hw fun w hw=>ref (same hw)
  rw [if_neg h7]
  refine ⟨fun b w=>b=decide (q.seq<e.2.last∨q.seq=0)∧Sat R1 (pts e.1 (cliObj e.2 s0)::Own s0 5 (b8 e.2.rep)::Star (A.map cliAt++C.map cliAt)::tdNew b4::pts p (tblC bk t.next m)::MapAt m (E.map cliV)::BookAt bk t.bk::rqC b5 q cs::Hs) w,?_,?_⟩
  ·refine drw_rule hw fun w hw=>?_
   refine ⟨q.seq,At.own selfS (by exact ⟨rfl,trivial⟩),NilP.mk rfl ⟨e.2.last,At.own selfS (by exact ⟨rfl,trivial⟩),Br.d (fun h8=>?_) (fun h8=>?_)⟩⟩
   ·exact ⟨by rw [decide_eq_true (.inl h8)],hw⟩
   ·refine ⟨q.seq,At.own selfS (by exact ⟨rfl,trivial⟩),?_,hw⟩
    rw [show (q.seq==0)=decide (q.seq=0) from rfl]
    exact decide_eq_decide.2 ⟨fun h=>.inr h,fun h=>h.resolve_left h8⟩
  clear hw
  rintro _ _ w ⟨rfl,hw⟩
  refine Br.d (fun h8=>?_) (fun h8=>?_)
  ·rw [if_pos h8]
   refine (refused_spec (e:=11) hw).use ?_
   clear hw
   rintro _ w ⟨rfl,hw⟩
   refine ⟨11,0,0,nilS,rfl,?_⟩
   have hw:Sat R1 (tdNew b4::pts e.1 (cliObj e.2 s0)::Own s0 5 (b8 e.2.rep)::Star (A.map cliAt++C.map cliAt)::pts p (tblC bk t.next m)::MapAt m (E.map cliV)::BookAt bk t.bk::rqC b5 q cs::Hs) w:=hw.arr
   exact put_td (τ:=refT 11) (s:=nilS) hw fun w hw=>ref (same hw)
  rw [if_neg h8]
  refine drw_rule hw fun w hw=>?_
  refine ⟨q.seq,At.own selfS (by exact ⟨rfl,trivial⟩),NilP.mk rfl ⟨e.2.last,At.own selfS (by exact ⟨rfl,trivial⟩),Br.d (fun h9=>?_) (fun h9=>?_)⟩⟩
  ·rw [if_pos h9]
   have hw:Sat R1 (rqC b5 q cs::pts p (tblC bk t.next m)::BookAt bk t.bk::pts e.1 (cliObj e.2 s0)::Own s0 5 (b8 e.2.rep)::Star (A.map cliAt++C.map cliAt)::tdNew b4::MapAt m (E.map cliV)::Hs) w:=hw.arr
   refine drw_rule' (Sat R1 [rqC b5 q cs,pts p (tblC bk t.next m),VC.tru]) hw (fun w hw=>hw.cons fun _ h=>h.restTru2) fun w hw=>?_
   refine ⟨q.seq,At.own (fun _ h=>h) (by exact ⟨rfl,trivial⟩),cs,At.own (fun _ h=>h) (by exact ⟨rfl,trivial⟩),NilP.mk rfl ⟨some ⟨bk,0,none⟩,by rw [add_off];exact At.own (fun _ h=>h) (by exact ⟨rfl,trivial⟩),?_⟩⟩
   have hw:Sat R1 (BookAt bk t.bk::rqC b5 q cs::pts p (tblC bk t.next m)::pts e.1 (cliObj e.2 s0)::Own s0 5 (b8 e.2.rep)::Star (A.map cliAt++C.map cliAt)::tdNew b4::MapAt m (E.map cliV)::Hs) w:=hw.arr
   refine (done_spec ok.bk hcb (by omega) hcs hw).use ?_
   clear hw
   rintro _ w ⟨x,rfl,hw⟩
   obtain ⟨o1,_,_⟩:=done_ok ok.bk hcb
   have hw:Sat R1 (rqC b5 q cs::pts p (tblC bk t.next m)::pts e.1 (cliObj e.2 s0)::Own x 5 (b8 (doneT t.bk q.cmd).1)::BookAt bk (doneT t.bk q.cmd).2::Own s0 5 (b8 e.2.rep)::Star (A.map cliAt++C.map cliAt)::tdNew b4::MapAt m (E.map cliV)::Hs) w:=hw.arr
   refine ⟨x,rfl,hw.cons fun _ h=>h.restTru2,NilP.mk rfl ?_⟩
   refine store_rule hw (by kernel_rfl) rfl (by simp [Value.cells]) fun w hw=>?_
   have hw:=hw.re (pts e.1 (cliObj { e.2 with last:=q.seq } s0))
   have hw:Sat R1 (rqC b5 q cs::pts p (tblC bk t.next m)::pts e.1 (cliObj { e.2 with last:=q.seq } s0)::Own x 5 (b8 (doneT t.bk q.cmd).1)::BookAt bk (doneT t.bk q.cmd).2::Own s0 5 (b8 e.2.rep)::Star (A.map cliAt++C.map cliAt)::tdNew b4::MapAt m (E.map cliV)::Hs) w:=hw.arr
   refine ⟨hw.cons fun _ h=>h.restTru2,NilP.mk rfl ?_⟩
   obtain ⟨c,hc⟩:∃ c:Cl,c={ e.2 with last:=q.seq,rep:=(doneT t.bk q.cmd).1 }:=⟨_,rfl⟩
   refine store_rule hw (by kernel_rfl) rfl (by simp [Value.cells]) fun w hw=>?_
   have hw:=hw.re (pts e.1 (cliObj c x)) (by rw [hc];rfl)
   have hw:Sat R1 (rqC b5 q cs::pts e.1 (cliObj c x)::Own x 5 (b8 c.rep)::pts p (tblC bk t.next m)::BookAt bk (doneT t.bk q.cmd).2::Star (A.map cliAt++C.map cliAt)::tdNew b4::MapAt m (E.map cliV)::Hs) w:=by
    have hw:Sat R1 (Own s0 5 (b8 e.2.rep)::rqC b5 q cs::pts e.1 (cliObj c x)::Own x 5 (b8 (doneT t.bk q.cmd).1)::pts p (tblC bk t.next m)::BookAt bk (doneT t.bk q.cmd).2::Star (A.map cliAt++C.map cliAt)::tdNew b4::MapAt m (E.map cliV)::Hs) w:=hw.arr
    rw [hc] at hw ⊢
    exact hw.drop
   refine drw_rule' (Sat R1 [rqC b5 q cs,pts e.1 (cliObj c x),VC.tru]) hw (fun w hw=>hw.cons fun _ h=>h.restTru2) fun w hw=>?_
   refine ⟨q.client,At.own (fun _ h=>h) (by exact ⟨rfl,trivial⟩),q.seq,At.own (fun _ h=>h) (by exact ⟨rfl,trivial⟩),NilP.mk rfl ⟨x,At.own (fun _ h=>h) (by exact ⟨rfl,trivial⟩),?_⟩⟩
   have hcr:c.rep.length≤65536:=by rw [hc];exact o1
   have hw:Sat R1 (Own x 5 (b8 c.rep)::rqC b5 q cs::pts e.1 (cliObj c x)::pts p (tblC bk t.next m)::BookAt bk (doneT t.bk q.cmd).2::Star (A.map cliAt++C.map cliAt)::tdNew b4::MapAt m (E.map cliV)::Hs) w:=hw.arr
   obtain ⟨R2,r2,_,hw,back⟩:=Own.lend hw (by rw [List.length_map];omega)
   refine (clone_spec r2 (by omega) hw).use ?_
   clear hw
   rintro _ w ⟨y,rfl,hw⟩
   have hw:=back hw
   have hw:Sat R1 (rqC b5 q cs::pts e.1 (cliObj c x)::Own x 5 (b8 c.rep)::Own y 5 (b8 c.rep)::pts p (tblC bk t.next m)::BookAt bk (doneT t.bk q.cmd).2::Star (A.map cliAt++C.map cliAt)::tdNew b4::MapAt m (E.map cliV)::Hs) w:=hw.arr
   refine ⟨y,rfl,hw.cons fun _ h=>h.restTru2,?_⟩
   have hw:Sat R1 (tdNew b4::pts e.1 (cliObj c x)::Own x 5 (b8 c.rep)::Star (A.map cliAt++C.map cliAt)::pts p (tblC bk t.next m)::MapAt m (E.map cliV)::BookAt bk (doneT t.bk q.cmd).2::rqC b5 q cs::Own y 5 (b8 c.rep)::Hs) w:=hw.arr
   refine put_td (τ:=⟨0,q.client,q.seq,c.rep⟩) (s:=y) hw fun w hw=>?_
   have hw:Sat R1 (Own y 5 (b8 c.rep)::pts e.1 (cliObj c x)::Own x 5 (b8 c.rep)::Star (A.map cliAt++C.map cliAt)::pts p (tblC bk t.next m)::MapAt m (E.map cliV)::BookAt bk (doneT t.bk q.cmd).2::rqC b5 q cs::Hs) w:=hw.arr
   subst hc
   exact fin (τ:=⟨0,q.client,q.seq,(doneT t.bk q.cmd).1⟩) (x:=y) (hw.cons fun _ h=>close rfl rfl h)
  ·rw [if_neg h9]
   have hw:Sat R1 (rqC b5 q cs::pts e.1 (cliObj e.2 s0)::Own s0 5 (b8 e.2.rep)::pts p (tblC bk t.next m)::BookAt bk t.bk::Star (A.map cliAt++C.map cliAt)::tdNew b4::MapAt m (E.map cliV)::Hs) w:=hw.arr
   refine drw_rule' (Sat R1 [rqC b5 q cs,pts e.1 (cliObj e.2 s0),VC.tru]) hw (fun w hw=>hw.cons fun _ h=>h.restTru2) fun w hw=>?_
   refine ⟨q.client,At.own (fun _ h=>h) (by exact ⟨rfl,trivial⟩),q.seq,At.own (fun _ h=>h) (by exact ⟨rfl,trivial⟩),NilP.mk rfl ⟨s0,At.own (fun _ h=>h) (by exact ⟨rfl,trivial⟩),?_⟩⟩
   have hw:Sat R1 (Own s0 5 (b8 e.2.rep)::rqC b5 q cs::pts e.1 (cliObj e.2 s0)::pts p (tblC bk t.next m)::BookAt bk t.bk::Star (A.map cliAt++C.map cliAt)::tdNew b4::MapAt m (E.map cliV)::Hs) w:=hw.arr
   obtain ⟨R2,r2,_,hw,back⟩:=Own.lend hw (by rw [List.length_map];omega)
   refine (clone_spec r2 (by omega) hw).use ?_
   clear hw
   rintro _ w ⟨y,rfl,hw⟩
   have hw:=back hw
   have hw:Sat R1 (rqC b5 q cs::pts e.1 (cliObj e.2 s0)::Own s0 5 (b8 e.2.rep)::Own y 5 (b8 e.2.rep)::pts p (tblC bk t.next m)::BookAt bk t.bk::Star (A.map cliAt++C.map cliAt)::tdNew b4::MapAt m (E.map cliV)::Hs) w:=hw.arr
   refine ⟨y,rfl,hw.cons fun _ h=>h.restTru2,?_⟩
   have hw:Sat R1 (tdNew b4::Own y 5 (b8 e.2.rep)::pts e.1 (cliObj e.2 s0)::Own s0 5 (b8 e.2.rep)::Star (A.map cliAt++C.map cliAt)::pts p (tblC bk t.next m)::MapAt m (E.map cliV)::BookAt bk t.bk::rqC b5 q cs::Hs) w:=hw.arr
   exact put_td (τ:=⟨0,q.client,q.seq,e.2.rep⟩) (s:=y) hw fun w hw=>fin (τ:=⟨0,q.client,q.seq,e.2.rep⟩) (x:=y) (hw.cons fun _ h=>same h)
end Go.Proofs.YtflgboncpbmikaaGreatDoor
/- Reference 19: requests and answers as bytes. Condition: bounds on lengths. -/
namespace Go.Proofs.YtflgboncpbmikaaGreatDoor
set_option linter.unusedVariables false
set_option linter.unusedSimpArgs false
open Go Go.VC
open Classical
variable {R:Cx} {Hs Rest:List HP} {w:World}
theorem sameT19_spec {q:Told} {s t:Sl} (h1:Ro R s (b8 q.reply)) (h2:Ro R t (b8 q.reply)) (hw:Sat R Hs w):
  Gets Tryz.prog 14 #[.agg #[.int .i64 q.code,.int .i64 q.client,.int .i64 q.seq,.slice s.a s.len s.cap],.agg #[.int .i64 q.code,.int .i64 q.client,.int .i64 q.seq,.slice t.a t.len t.cap]] w fun v w'=>v=.bool true∧Sat R Hs w':=by
 apply call14
 refine new_rule hw fun x w hw=>new_rule hw fun y w hw=>?_
 have hw:Sat R (tdC y q t::tdC x q s::Hs) w:=hw
 refine ⟨q.code,At.own (eqS hw) (by exact ⟨rfl,trivial⟩),q.code,At.own (eqS hw) (by exact ⟨rfl,trivial⟩),Br.e (fun _=>?_) (fun h=>absurd rfl h)⟩
 refine ⟨q.client,At.own (eqS hw) (by exact ⟨rfl,trivial⟩),q.client,At.own (eqS hw) (by exact ⟨rfl,trivial⟩),Br.e (fun _=>?_) (fun h=>absurd rfl h)⟩
 refine ⟨q.seq,At.own (eqS hw) (by exact ⟨rfl,trivial⟩),q.seq,At.own (eqS hw) (by exact ⟨rfl,trivial⟩),Br.e (fun _=>?_) (fun h=>absurd rfl h)⟩
 refine ⟨s,At.own (eqS hw) (by exact ⟨rfl,trivial⟩),VC.strOf q.reply,fun w' e=>?_,t,At.own (eqS hw) (by exact ⟨rfl,trivial⟩),VC.strOf q.reply,fun w' e=>?_,?_,hw.drop.drop⟩
 ·rw [show w'=w from e]
  exact convS_ro Tryz.underlying22 Tryz.underlying5 Tryz.underlying9 hw h1
 ·rw [show w'=w from e]
  exact convS_ro Tryz.underlying22 Tryz.underlying5 Tryz.underlying9 hw h2
 ·rw [str_eql,decide_eq_true rfl]
end Go.Proofs.YtflgboncpbmikaaGreatDoor
/- Chapter 19: SessionBack: what was encoded is read as it was. Condition: bounds on lengths. -/
namespace Go.Proofs.YtflgboncpbmikaaGreatDoor
set_option linter.unusedVariables false
set_option linter.unusedSimpArgs false
open Go Go.VC
open Classical
variable {R:Cx} {Hs Rest:List HP} {w:World}
def begQ (tok:Int):Rq:=⟨1,0,0,tok,[]⟩
theorem begQ_right {tok:Int} (h:inI tok):RightQ (begQ tok):=⟨⟨Int.le_refl 0,by show (0:Int)≤1099511627776;omega⟩,⟨Int.le_refl 0,by show (0:Int)≤1099511627776;omega⟩,h,by show 0≤4000;omega,.inl ⟨rfl,rfl,rfl,rfl⟩⟩
theorem rqB_bytes {q:Rq} (h:RightQ q) (hc:Bytes q.cmd):Bytes (rqB q):=by
 have h1:=h.k4
 obtain ⟨a1,a2⟩:=h.client
 obtain ⟨a3,a4⟩:=h.seq
 obtain ⟨a5,a6⟩:=h.token
 have h2:=h.cmd
 intro y hy
 unfold rqB at hy
 rcases List.mem_append.1 hy with hy|hy
 ·refine numsB_bd (l:=[q.kind,q.client,q.seq,q.token]) (fun x hx=>?_) y hy
  simp only [List.mem_cons,List.not_mem_nil,or_false] at hx
  rcases hx with rfl|rfl|rfl|rfl<;>omega
 ·unfold textB at hy
  rcases List.mem_append.1 hy with hy|hy
  ·exact numB_bd (n:=q.cmd.length) (by omega) y hy
  ·exact hc y hy
theorem encoded_spec {q:Rq} {s:Sl} (hs:Ro R s (b8 q.cmd)) (hw:Sat R Hs w):
  Gets Tryz.prog 15 #[.agg #[.int .i64 q.kind,.int .i64 q.client,.int .i64 q.seq,.int .i64 q.token,.slice s.a s.len s.cap]] w fun v w'=>∃ t:Sl,v=.slice t.a t.len t.cap∧Sat R (Own t 5 (b8 (encQ q).1)::Hs) w':=by
 apply call15
 refine new_rule hw fun b w hw=>?_
 have hw:Sat R (rqC b q s::Hs) w:=hw
 refine ⟨q.kind,q.client,q.seq,q.token,s,At.own (eqS hw) (by exact ⟨rfl,rfl,rfl,rfl,rfl,trivial⟩),?_⟩
 refine (senc_spec hs hw).use ?_
 clear hw
 rintro _ w ⟨t,rfl,hw⟩
 exact ⟨t,_,rfl,t,rfl,hw.cons fun _ h=>h.drop⟩
theorem beg9:newT.applyT (rqB (begQ 9))=(⟨0,1,0,[]⟩,⟨2,[⟨1,9,0,[]⟩],newBook⟩):=by
 unfold Tb.applyT
 rw [rqDec_back (begQ_right ⟨by omega,by omega⟩),if_neg (by simp)]
 rfl
theorem aw19_spec (hw:Sat R Hs w):Gets Tryz.prog 5 #[] w fun v w'=>v=.bool true∧Sat R Hs w':=by
 apply call5
 refine (snew_spec hw).use ?_
 clear hw
 rintro _ w ⟨p,rfl,hw⟩
 refine ⟨_,rfl,Br.f rfl ?_⟩
 have h9:inI 9:=⟨by omega,by omega⟩
 refine (encoded_spec (q:=begQ 9) (s:=nilS) ⟨rfl,by show 0≤9223372036854775807;omega,fun h=>absurd rfl h⟩ hw).use ?_
 clear hw
 rintro _ w ⟨t,rfl,hw⟩
 have he:(encQ (begQ 9)).1=rqB (begQ 9):=by unfold encQ;rw [if_pos (begQ_right h9)]
 rw [he] at hw
 have hlen:=rqB_len (begQ_right h9)
 obtain ⟨R1,e1,g1,hw⟩:=Own.leak hw
 refine ⟨t,rfl,?_⟩
 refine (sapply_spec newT_ok (by show (1:Int)<1000000;omega) (rqB_bytes (begQ_right h9) (fun _ h=>by cases h)) (by omega) (g1.ro (by rw [List.length_map];omega)) hw).use ?_
 clear hw
 rintro _ w ⟨x,rfl,hw⟩
 rw [beg9] at hw ⊢
 refine ⟨0,1,0,x,rfl,?_⟩
 refine new_rule hw fun b w hw=>?_
 refine store_rule hw (by kernel_rfl) rfl (by simp [Value.cells]) fun w hw=>?_
 have hw:=hw.re (tdC b ⟨0,1,0,[]⟩ x)
 refine ⟨0,At.own (eqS hw) (by exact ⟨rfl,trivial⟩),Br.e (fun _=>?_) (fun h=>absurd rfl h)⟩
 exact ⟨1,At.own (eqS hw) (by exact ⟨rfl,trivial⟩),rfl,e1.back hw.drop.drop.drop⟩
abbrev sls (ps:List (Sl × List Int)):List Sl:=ps.map (·.1)
structure BsIn (R:Cx) (s:Sl) (ps:List (Sl × List Int)):Prop where
 rows:Ro R s ((sls ps).map Sl.v)
 each:∀ e∈ps,SlR R.m e.1 (b8 e.2)
 by':∀ e∈ps,Bytes e.2
theorem BsIn.len {s:Sl} {ps:List (Sl × List Int)} (h:BsIn R s ps):s.len=ps.length:=by have:=h.rows.len;simpa using this
theorem much19_spec {s:Sl} {ps:List (Sl × List Int)} (h:BsIn R s ps) (hw:Sat R Hs w):
  Gets Tryz.prog 6 #[.slice s.a s.len s.cap] w fun v w'=>∃ b,v=.bool b∧(b=false→∀ k (hk:k<ps.length),k<200→ps[k].2.length≤10000)∧Sat R Hs w':=by
 have hsl:=h.len
 apply call6
 refine ⟨fun i w=>∃ k:Nat,i=k∧k≤200∧(∀ j (hj:j<ps.length),j<k→ps[j].2.length≤10000)∧Sat R Hs w,fun i _=>200 - i.toNat,⟨0,rfl,by omega,fun j _ hj=>by omega,hw⟩,?_⟩
 clear hw
 rintro _ _ w ⟨k,rfl,hk,ha,hw⟩
 with_reducible refine Br.d (fun h1=>?_) (fun h1=>?_)
 case refine_2=>exact ⟨false,rfl,fun _ j hj _=>ha j hj (by omega),hw⟩
 with_reducible refine Br.d (fun h2=>?_) (fun h2=>?_)
 case refine_2=>exact ⟨false,rfl,fun _ j hj h3=>ha j hj (by omega),hw⟩
 have hkl:k<(sls ps).length:=by rw [List.length_map];omega
 refine h.rows.idxS (eqS hw) hkl ?_
 have hkp:k<ps.length:=by omega
 have hel:(sls ps)[k].len=ps[k].2.length:=by
  rw [List.getElem_map]
  have:=(h.each _ (List.getElem_mem hkp)).len
  rw [this,List.length_map]
 with_reducible refine Br.d (fun h3=>?_) (fun h3=>?_)
 ·exact ⟨true,rfl,fun h=>(by cases h),hw⟩
 rw [wrap64 (by omega) (by omega)]
 refine ⟨⟨k + 1,by omega,by omega,fun j hj hjk=>?_,hw⟩,by dsimp only;omega⟩
 by_cases e:j=k
 ·subst e;omega
 ·exact ha j hj (by omega)
theorem samea_spec {q r:Rq} {s t:Sl} (h1:Ro R s (b8 q.cmd)) (h2:Ro R t (b8 r.cmd)) (hw:Sat R Hs w):
  Gets Tryz.prog 9 #[.agg #[.int .i64 q.kind,.int .i64 q.client,.int .i64 q.seq,.int .i64 q.token,.slice s.a s.len s.cap],.agg #[.int .i64 r.kind,.int .i64 r.client,.int .i64 r.seq,.int .i64 r.token,.slice t.a t.len t.cap]] w fun v w'=>∃ b,v=.bool b∧(q=r→b=true)∧Sat R Hs w':=by
 apply call9
 refine new_rule hw fun x w hw=>new_rule hw fun y w hw=>?_
 have hw:Sat R (rqC y r t::rqC x q s::Hs) w:=hw
 refine ⟨q.kind,At.own (eqS hw) (by exact ⟨rfl,trivial⟩),r.kind,At.own (eqS hw) (by exact ⟨rfl,trivial⟩),Br.e (fun _=>?_) (fun h=>⟨false,rfl,fun e=>absurd (congrArg Rq.kind e) h,hw.drop.drop⟩)⟩
 refine ⟨q.client,At.own (eqS hw) (by exact ⟨rfl,trivial⟩),r.client,At.own (eqS hw) (by exact ⟨rfl,trivial⟩),Br.e (fun _=>?_) (fun h=>⟨false,rfl,fun e=>absurd (congrArg Rq.client e) h,hw.drop.drop⟩)⟩
 refine ⟨q.seq,At.own (eqS hw) (by exact ⟨rfl,trivial⟩),r.seq,At.own (eqS hw) (by exact ⟨rfl,trivial⟩),Br.e (fun _=>?_) (fun h=>⟨false,rfl,fun e=>absurd (congrArg Rq.seq e) h,hw.drop.drop⟩)⟩
 refine ⟨q.token,At.own (eqS hw) (by exact ⟨rfl,trivial⟩),r.token,At.own (eqS hw) (by exact ⟨rfl,trivial⟩),Br.e (fun _=>?_) (fun h=>⟨false,rfl,fun e=>absurd (congrArg Rq.token e) h,hw.drop.drop⟩)⟩
 refine ⟨s,At.own (eqS hw) (by exact ⟨rfl,trivial⟩),VC.strOf q.cmd,fun w' e=>?_,t,At.own (eqS hw) (by exact ⟨rfl,trivial⟩),VC.strOf r.cmd,fun w' e=>?_,?_⟩
 ·rw [show w'=w from e]
  exact convS_ro Tryz.underlying22 Tryz.underlying5 Tryz.underlying9 hw h1
 ·rw [show w'=w from e]
  exact convS_ro Tryz.underlying22 Tryz.underlying5 Tryz.underlying9 hw h2
 ·rw [str_eql]
  exact ⟨_,rfl,fun e=>(by rw [e];simp),hw.drop.drop⟩
theorem nn3 {t:Told} (h:TdOk t):[t.code,t.client,t.seq].map nn=[t.code,t.client,t.seq]:=by
 show [nn t.code,nn t.client,nn t.seq]=_
 rw [nn_id h.code.1,nn_id h.client.1,nn_id h.seq.1]
theorem td_back {t:Told} (h:TdOk t):tdDec (tdB t)=(t,0):=by
 obtain ⟨a1,a2⟩:=h.code
 obtain ⟨a3,a4⟩:=h.client
 obtain ⟨a5,a6⟩:=h.seq
 have h2:=h.rep
 have e:tdRd ⟨tdB t,false⟩=(t,⟨[],false⟩):=by
  unfold tdRd tdB
  rw [nn3 h,show numsB [t.code,t.client,t.seq]=numsB [t.code]++(numsB [t.client]++numsB [t.seq]) by rw [numsB_one t.code,numsB_one t.client]]
  simp only [List.append_assoc]
  rw [rdNum_nums a1 (by show t.code≤1099511627776;omega) (by omega)]
  dsimp only
  rw [rdNum_nums a3 (by show t.client≤1099511627776;omega) (by omega)]
  dsimp only
  rw [rdNum_nums a5 (by show t.seq≤1099511627776;omega) (by omega)]
  dsimp only
  have:=rdText_code (d:=t.reply) (rest:=[]) (most:=65536) (by omega) (by omega)
  rw [List.append_nil] at this
  rw [this]
 unfold tdDec
 rw [e]
 rfl
theorem td_bytes {t:Told} (h:TdOk t):Bytes (tdB t)∧(tdB t).length≤70000:=by
 obtain ⟨a1,a2⟩:=h.code
 obtain ⟨a3,a4⟩:=h.client
 obtain ⟨a5,a6⟩:=h.seq
 have h2:=h.rep
 have hx:∀ x∈[t.code,t.client,t.seq],0≤x∧x<18446744073709551616:=fun x hx=>by
  simp only [List.mem_cons,List.not_mem_nil,or_false] at hx
  rcases hx with rfl|rfl|rfl<;>omega
 unfold tdB
 rw [nn3 h]
 constructor
 ·exact bytes_app (numsB_bd hx) (bytes_text h.by' (by omega))
 ·have l1:=numsB_len hx
  have l2:=textB_len (d:=t.reply) (by omega)
  simp only [List.length_cons,List.length_nil] at l1
  rw [List.length_append]
  omega
set_option maxHeartbeats 2000000 in
theorem sback_lspec {q:Rq} {sq s:Sl} {ps:List (Sl × List Int)} (hq:SlR R.m sq (b8 q.cmd)) (hqb:Bytes q.cmd) (hp:BsIn R s ps) (hw:Sat R Hs w):
  Gets Tryz.prog 3 #[.agg #[.int .i64 q.kind,.int .i64 q.client,.int .i64 q.seq,.int .i64 q.token,.slice sq.a sq.len sq.cap],.slice s.a s.len s.cap] w fun v w'=>v=.bool true∧Sat R Hs w':=by
 have hqlen:sq.len=q.cmd.length:=by have:=hq.len;simpa using this
 have hsl:=hp.len
 apply call3
 suffices H:∀ K:Value→World→Prop,(∀ w',Sat R Hs w'→K (.bool true) w')→B3 q.kind q.client q.seq q.token sq s K w from H _ fun w' h=>⟨rfl,h⟩
 intro K hK
 refine new_rule hw fun b2 w hw=>?_
 have hw:Sat R (rqC b2 q sq::Hs) w:=hw
 refine (aw19_spec hw).use ?_
 clear hw
 rintro _ w ⟨rfl,hw⟩
 refine ⟨_,rfl,?_⟩
 refine (much19_spec hp hw).use ?_
 clear hw
 rintro _ w ⟨mb,rfl,hm,hw⟩
 refine ⟨_,rfl,fun w=>(mb=false∧q.cmd.length≤20000)∧Sat R (rqC b2 q sq::Hs) w,Br.f rfl (Br.mk (fun _=>hK _ hw.drop) (fun h=>?_)),?_⟩
 ·refine ⟨sq,At.own (eqS hw) (by exact ⟨rfl,trivial⟩),Br.d (fun _=>hK _ hw.drop) (fun h1=>⟨⟨h,by omega⟩,hw⟩)⟩
 clear hw
 rintro _ w ⟨⟨h0,h1⟩,hw⟩
 have hm:=hm h0
 have hqr:Ro R sq (b8 q.cmd):=hq.ro (by rw [List.length_map];omega)
 refine ⟨q.kind,q.client,q.seq,q.token,sq,At.own (eqS hw) (by exact ⟨rfl,rfl,rfl,rfl,rfl,trivial⟩),?_⟩
 refine (senc_spec hqr hw).use ?_
 clear hw
 rintro _ w ⟨t1,rfl,hw⟩
 refine ⟨t1,_,rfl,?_⟩
 have hel:(encQ q).1.length≤5000∧Bytes (encQ q).1:=by
  unfold encQ
  split
  ·rename_i h;exact ⟨rqB_len h,rqB_bytes h hqb⟩
  ·exact ⟨Nat.zero_le _,fun y hy=>by cases hy⟩
 obtain ⟨R1,e1,g1,hw⟩:=Own.leak hw
 refine (sdec_spec hel.2 (by omega) (g1.ro (by rw [List.length_map];omega)) hw).use ?_
 clear hw
 rintro _ w ⟨t2,rfl,hw⟩
 have hcl:(rqDec mI (encQ q).1).1.cmd.length≤4000:=by
  unfold rqDec
  split
  ·rename_i h
   exact h.2.cmd
  ·exact Nat.zero_le _
 have hgood:(encQ q).2=0→(rqDec mI (encQ q).1).1=q∧(rqDec mI (encQ q).1).2=0:=fun h=>by
  have hr:RightQ q:=by
   by_cases hr:RightQ q
   ·exact hr
   ·unfold encQ at h;rw [if_neg hr] at h;cases h
  have he:encQ q=(rqB q,0):=by unfold encQ;rw [if_pos hr]
  rw [he,rqDec_back hr]
  exact ⟨rfl,rfl⟩
 have he01:(encQ q).2=0∨(encQ q).2=1:=by
  unfold encQ
  split
  ·exact .inl rfl
  ·exact .inr rfl
 generalize (rqDec mI (encQ q).1).1=C at *
 generalize (rqDec mI (encQ q).1).2=e at *
 refine ⟨C.kind,C.client,C.seq,C.token,t2,e,rfl,?_⟩
 refine new_rule hw fun y w hw=>?_
 refine store_rule hw (by kernel_rfl) rfl (by simp [Value.cells]) fun w hw=>?_
 have hw:=hw.re (rqC y C t2)
 refine ⟨C.kind,C.client,C.seq,C.token,t2,At.own (eqS hw) (by exact ⟨rfl,rfl,rfl,rfl,rfl,trivial⟩),?_⟩
 refine ⟨q.kind,q.client,q.seq,q.token,sq,At.own (eqS hw) (by exact ⟨rfl,rfl,rfl,rfl,rfl,trivial⟩),?_⟩
 have hw:Sat R1 (Own t2 5 (b8 C.cmd)::rqC y C t2::rqC b2 q sq::Hs) w:=hw.arr
 obtain ⟨R2,e2,r2,hw⟩:=Own.leak hw
 refine (samea_spec (r2.ro (by rw [List.length_map];omega)) (e2.ro (e1.ro hqr)) hw).use ?_
 clear hw
 rintro _ w ⟨sb,rfl,hsb,hw⟩
 have hw:Sat R Hs w:=e1.back (e2.back hw.drop.drop)
 refine ⟨_,rfl,fun w=>Sat R Hs w,?_,?_⟩
 ·refine Br.e (fun h=>?_) (fun h=>?_)
  ·obtain ⟨a1,a2⟩:=hgood h
   refine Br.ne (fun h2=>absurd a2 h2) (fun _=>?_)
   refine Br.nb (fun h2=>by rw [hsb a1] at h2;cases h2) (fun _=>?_)
   exact Br.ne (fun h2=>absurd h h2) (fun _=>hw)
  ·refine Br.ne (fun _=>Br.ne (fun h3=>absurd (he01.resolve_left h) h3) (fun _=>hw)) (fun _=>hw)
 clear hw
 rintro _ w hw
 refine (snew_spec hw).use ?_
 clear hw
 rintro _ w ⟨p,rfl,hw⟩
 refine ⟨_,rfl,?_⟩
 refine ⟨fun i w=>∃ (k:Nat) (t:Tb),i=k∧k≤60∧TbOk t∧t.next≤k + 1∧Sat R (TbAt p t::Hs) w,fun i _=>60 - i.toNat,⟨0,_,rfl,by omega,newT_ok,Int.le_refl _,hw⟩,?_⟩
 clear hw
 rintro _ _ w ⟨k,t,rfl,hk,ok,hn,hw⟩
 refine ⟨fun w=>(k<60∧k<ps.length)∧Sat R (TbAt p t::Hs) w,?_,?_⟩
 ·with_reducible refine Br.d (fun h=>?_) (fun _=>hK _ hw.drop)
  with_reducible refine Br.d (fun h2=>?_) (fun _=>hK _ hw.drop)
  exact ⟨⟨by omega,by omega⟩,hw⟩
 clear hw
 rintro _ w ⟨⟨hk2,hkp⟩,hw⟩
 rw [wrap64 (x:=(k:Int) + 1) (by omega) (by omega)]
 have hkl:k<(sls ps).length:=by rw [List.length_map];omega
 refine hp.rows.idxS (eqS hw) hkl ?_
 rw [List.getElem_map]
 have hmem:=List.getElem_mem hkp
 have hsd:=hp.each _ hmem
 have hby:=hp.by' _ hmem
 have hlen:=hm k hkp (by omega)
 generalize ps[k]=e at *
 refine (sapply_spec ok (by omega) hby (by omega) (hsd.ro (by rw [List.length_map];omega)) hw).use ?_
 clear hw
 rintro _ w ⟨x,rfl,hw⟩
 obtain ⟨ok2,hτ,hn2,_⟩:=ok.apply (by omega) hby (fun q hq=>by rw [←hq];exact rq_bytes hby)
 generalize (t.applyT e.2).1=τ at *
 generalize (t.applyT e.2).2=t' at *
 have hrl:=hτ.rep
 refine ⟨τ.code,τ.client,τ.seq,x,rfl,?_⟩
 refine new_rule hw fun b14 w hw=>?_
 refine store_rule hw (by kernel_rfl) rfl (by simp [Value.cells]) fun w hw=>?_
 have hw:=hw.re (tdC b14 τ x)
 have hw:Sat R (Own x 5 (b8 τ.reply)::tdC b14 τ x::TbAt p t'::Hs) w:=hw.arr
 obtain ⟨R1,e1,g1,hw⟩:=Own.leak hw
 refine ⟨τ.code,τ.client,τ.seq,x,At.own (eqS hw) (by exact ⟨rfl,rfl,rfl,rfl,trivial⟩),?_⟩
 have c1:=hτ.code
 have c2:=hτ.client
 have c3:=hτ.seq
 refine (sanswer_spec (t:=τ) (s:=x) (fun y hy=>?_) (by omega) (g1.ro (by rw [List.length_map];omega)) hw).use ?_
 ·simp only [List.mem_cons,List.not_mem_nil,or_false] at hy
  rcases hy with rfl|rfl|rfl<;>omega
 clear hw
 rintro _ w ⟨z,rfl,hw⟩
 obtain ⟨b1,b2⟩:=td_bytes hτ
 obtain ⟨R2,e2,g2,hw⟩:=Own.leak hw
 refine ⟨z,rfl,?_⟩
 refine (sread_spec b1 (by omega) (g2.ro (by rw [List.length_map];omega)) hw).use ?_
 clear hw
 rintro _ w ⟨u,rfl,hw⟩
 rw [td_back hτ] at hw ⊢
 refine ⟨τ.code,τ.client,τ.seq,u,0,rfl,?_⟩
 refine new_rule hw fun b15 w hw=>?_
 refine store_rule hw (by kernel_rfl) rfl (by simp [Value.cells]) fun w hw=>?_
 have hw:=hw.re (tdC b15 τ u)
 refine ⟨τ.code,τ.client,τ.seq,u,At.own (eqS hw) (by exact ⟨rfl,rfl,rfl,rfl,trivial⟩),?_⟩
 refine ⟨τ.code,τ.client,τ.seq,x,At.own (eqS hw) (by exact ⟨rfl,rfl,rfl,rfl,trivial⟩),?_⟩
 have hw:Sat R2 (Own u 5 (b8 τ.reply)::tdC b15 τ u::tdC b14 τ x::TbAt p t'::Hs) w:=hw.arr
 obtain ⟨R3,e3,g3,hw⟩:=Own.leak hw
 refine (sameT19_spec (q:=τ) (g3.ro (by rw [List.length_map];omega)) (e3.ro (e2.ro (g1.ro (by rw [List.length_map];omega)))) hw).use ?_
 clear hw
 rintro _ w ⟨rfl,hw⟩
 refine ⟨_,rfl,Br.ne (fun h=>absurd rfl h) (fun _=>Br.nb (fun h=>(by cases h)) (fun _=>?_))⟩
 exact ⟨⟨k + 1,t',by omega,by omega,ok2,by omega,e1.back (e2.back (e3.back hw.drop.drop))⟩,by dsimp only;omega⟩
end Go.Proofs.YtflgboncpbmikaaGreatDoor
/- The arguments of SessionBack and SessionGone. No condition. -/
namespace Go.Proofs.YtflgboncpbmikaaGreatDoor
set_option linter.unusedVariables false
set_option linter.unusedSimpArgs false
open Go Go.VC Go.ChangeShapes Go.WideShapes Go.ChangeAt Go.RowKit
variable {H:Type} {enc:TypeId × Value→H} {W:World} {r:Reach} {b0:Nat} {v:Value} {d:DataW H} {p:List MemPlace}
theorem u8_form {R:Cx} {s:Sl} {xs:List Tr} (ho:Tr.Ok R (.sl (.int .u8)) (.sl s xs)):∃ bs:List Int,SlR R.m s (b8 bs)∧Bytes bs:=by
 obtain ⟨bs,h1,h2,h3⟩:=ints_form ho
 refine ⟨bs,⟨h1.len,sl_cap ho,h1.mem⟩,fun z hz=>?_⟩
 have:=h3 z hz
 simp [Lit.wf,IntKind.min,IntKind.max,IntKind.bits,IntKind.signed] at this
 omega
abbrev askU:U:=.st [.int .i64,.int .i64,.int .i64,.int .i64,.sl (.int .u8)]
theorem ask_form {R:Cx} {x:Tr} (ho:x.Ok R askU):∃ e:Rq × Sl,x.cells=rqV e.1 e.2∧SlR R.m e.2 (b8 e.1.cmd)∧Bytes e.1.cmd:=by
 cases x<;>simp only [Tr.Ok] at ho
 rename_i xs
 match xs,ho with
 |[x0,x1,x2,x3,x4],ho=>
  simp only [Tr.OkL,and_true] at ho
  obtain ⟨h0,h1,h2,h3,h4⟩:=ho
  cases x0<;>simp only [Tr.Ok] at h0
  rename_i k0 n0
  obtain ⟨rfl,_⟩:=h0
  cases x1<;>simp only [Tr.Ok] at h1
  rename_i k1 n1
  obtain ⟨rfl,_⟩:=h1
  cases x2<;>simp only [Tr.Ok] at h2
  rename_i k2 n2
  obtain ⟨rfl,_⟩:=h2
  cases x3<;>simp only [Tr.Ok] at h3
  rename_i k3 n3
  obtain ⟨rfl,_⟩:=h3
  cases x4<;>simp only [Tr.Ok] at h4
  rename_i s sx
  have h4:Tr.Ok R (.sl (.int .u8)) (.sl s sx):=by unfold Tr.Ok;exact h4
  obtain ⟨bs,a1,a2⟩:=u8_form h4
  exact ⟨(⟨n0,n1,n2,n3,bs⟩,s),rfl,a1,a2⟩
set_option maxRecDepth 100000 in
theorem ask_in (hv:Value.okWide Tryz.prog W r b0 24 v) (h:DataW.Trod enc Tryz.prog W 0 (fun _=>true) true 24 v d p):
  ∃ (q:Rq) (s:Sl),v=.agg (rqV q s).toArray∧SlR (Cx.of W).m s (b8 q.cmd)∧Bytes q.cmd:=by
 obtain ⟨x,hx,ho⟩:=tr_arg (d:=6) (u:=askU) (by kernel_rfl) h
 obtain ⟨⟨q,s⟩,e,h1,h2⟩:=ask_form ho
 simp only [Value.okWide,Tryz.underlying24 ] at hv
 obtain ⟨cs,rfl,_⟩:=hv
 refine ⟨q,s,?_,h1,h2⟩
 have:cs.toList=rqV q s:=by rw [show cs.toList=(Value.agg cs).cells.toList from rfl,←hx,e]
 congr 1
 exact Array.ext' this
theorem piece_form {R:Cx} {x:Tr} (h:x.Ok R (.sl (.int .u8))):∃ e:Sl × List Int,x.cells=[e.1.v]∧SlR R.m e.1 (b8 e.2)∧Bytes e.2:=by
 cases x<;>simp only [Tr.Ok] at h
 rename_i s xs
 have h:Tr.Ok R (.sl (.int .u8)) (.sl s xs):=by unfold Tr.Ok;exact h
 obtain ⟨bl,h1,h2⟩:=u8_form h
 exact ⟨(s,bl),rfl,h1,h2⟩
set_option maxRecDepth 100000 in
theorem pieces_in (hv:Value.okWide Tryz.prog W r b0 25 v) (h:DataW.Trod enc Tryz.prog W 0 (fun _=>true) true 25 v d p):
  ∃ (m:Sl) (ps:List (Sl × List Int)),v=.slice m.a m.len m.cap∧BsIn (Cx.of W) m ps:=by
 obtain ⟨a,n,c,rfl⟩:=okWide_slice Tryz.underlying25 hv
 obtain ⟨x,hx,ho⟩:=tr_arg (d:=6) (u:=.sl (.sl (.int .u8))) (by kernel_rfl) h
 cases x<;>simp only [Tr.Ok] at ho
 rename_i s xs
 obtain ⟨ps,h1,h2,h3⟩:=sl_form (fun e:Sl × List Int=>[e.1.v]) (fun e=>SlR (Cx.of W).m e.1 (b8 e.2)∧Bytes e.2) (show Tr.Ok (Cx.of W) (.sl (.sl (.int .u8))) (.sl s xs) by unfold Tr.Ok;exact ho) fun x hx=>piece_form hx
 have h1:RoN 1 (Cx.of W) s (((sls ps).map Sl.v).map fun v=>[v]):=by rw [List.map_map,List.map_map];exact h1
 refine ⟨s,ps,?_,⟨h1.one (by simpa using h2),fun e he=>(h3 e he).1,fun e he=>(h3 e he).2⟩⟩
 have:[Value.slice s.a s.len s.cap]=[Value.slice a n c]:=by simpa [Tr.cells,Value.cells] using hx
 exact (List.cons.inj this).1.symm
end Go.Proofs.YtflgboncpbmikaaGreatDoor
