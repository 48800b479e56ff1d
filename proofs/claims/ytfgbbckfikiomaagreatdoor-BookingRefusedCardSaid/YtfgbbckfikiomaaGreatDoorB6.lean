/- Package booking: something is done with one booking. Condition: bounds. -/
import Derived.Test.YtfgbbckfikiomaaGreatDoorB5
import Derived.Test.YtfgbbckfikiomaaGreatDoorB3
import Derived.SizedLaws
namespace Go.Proofs.YtfgbbckfikiomaaGreatDoor
set_option linter.unusedVariables false
open Go Go.VC
open Classical
variable {R:Cx} {Hs Rest:List HP} {w:World}
theorem open_close {p m1 m2 f q a:Nat} {b:Book} {A C:List FE} {A2 C2:List BE} {pl:Pl} {x:Bk} (hl:BookL b (A++(f,q,pl)::C) (A2++(a,x)::C2)) {MF MB:List (Int × Value)} (hF:MF=(A++(f,q,pl)::C).map flV) (hB:MB=(A2++(a,x)::C2).map bkV)
  (hw:Sat R (LoneAt f pl.r::QuAt q pl.q::pts a (bkObj x)::pts p (bookC b m1 m2)::MapAt m1 MF::MapAt m2 MB::FlsAt (A++C)::BksAt (A2++C2)::Hs) w):Sat R (BookAt p b::Hs) w:=by
 have hw:Sat R (pts a (bkObj x)::BksAt (A2++C2)::LoneAt f pl.r::QuAt q pl.q::pts p (bookC b m1 m2)::MapAt m1 MF::MapAt m2 MB::FlsAt (A++C)::Hs) w:=hw.arr
 have hw:=bks_mid.2 hw
 have hw:Sat R (LoneAt f pl.r::QuAt q pl.q::pts p (bookC b m1 m2)::MapAt m1 MF::MapAt m2 MB::FlsAt (A++C)::BksAt (A2++(a,x)::C2)::Hs) w:=hw.arr
 exact book_close hl hF hB hw
theorem tell_tail {p m1 m2 f q a b6:Nat} {b:Book} {A C:List FE} {A2 C2:List BE} {pl:Pl} {x:Bk} {X:List PanicEntry→World→Prop} {K:Value→World→Prop} (hl:BookL b (A++(f,q,pl)::C) (A2++(a,x)::C2)) {MF MB:List (Int × Value)} (hF:MF=(A++(f,q,pl)::C).map flV) (hB:MB=(A2++(a,x)::C2).map bkV)
  (hid:0≤x.id∧x.id<28629151) (hm:FlMid A C x.flt pl)
  (hK:∀ sl sb w',Sat R (Own sl 3 (intsI (rleftsF pl.r))::Own sb 9 ((rlabelsF pl.r x.id).map Value.string)::BookAt p b::Hs) w'→K (.agg (rpV (tellP pl x) sl sb).toArray) w')
  (hw:Sat R (LoneAt f pl.r::QuAt q pl.q::pts a (bkObj x)::pts p (bookC b m1 m2)::MapAt m1 MF::MapAt m2 MB::FlsAt (A++C)::BksAt (A2++C2)::rpNew b6::Hs) w):
  Calls Tryz.prog 56 #[.pointer (some ⟨p,0,none⟩),.pointer (some ⟨a,0,none⟩)] w fun e w_9=>
   (∃ t0:Int,∃ t1:ByteArray,∃ t2:Int,∃ t3:Int,∃ t4:Int,∃ t5:Int,∃ t6:Int,∃ t7:Sl,∃ t8:Sl,(e=.returned (.agg #[.int .i64 t0,.string t1,.int .i64 t2,.int .i64 t3,.int .i64 t4,.int .i64 t5,.int .i64 t6,.slice t7.a t7.len t7.cap,.slice t8.a t8.len t8.cap]))∧
    ∃ w_10:World,((Instr.storeAt 31 (.pointer ((some ⟨b6,0,none⟩))) (.agg #[.int .i64 t0,.string t1,.int .i64 t2,.int .i64 t3,.int .i64 t4,.int .i64 t5,.int .i64 t6,.slice t7.a t7.len t7.cap,.slice t8.a t8.len t8.cap])).run Tryz.prog w_9=.ok () w_10)∧
    ∃ u0:Int,∃ u1:ByteArray,∃ u2:Int,∃ u3:Int,∃ u4:Int,∃ u5:Int,∃ u6:Int,∃ u7:Sl,∃ u8:Sl,(At (fun w'=>w'=w_10) ⟨b6,0,none⟩ [.int .i64 u0,.string u1,.int .i64 u2,.int .i64 u3,.int .i64 u4,.int .i64 u5,.int .i64 u6,.slice u7.a u7.len u7.cap,.slice u8.a u8.len u8.cap])∧
    K (.agg #[.int .i64 u0,.string u1,.int .i64 u2,.int .i64 u3,.int .i64 u4,.int .i64 u5,.int .i64 u6,.slice u7.a u7.len u7.cap,.slice u8.a u8.len u8.cap]) w_10)∨
   (∃ ch:List PanicEntry,(e=.panicked ch)∧X ch w_9):=by
 subst hF hB
 have hw:Sat R (pts p (bookC b m1 m2)::MapAt m1 ((A++(f,q,pl)::C).map flV)::pts a (bkObj x)::LoneAt f pl.r::QuAt q pl.q::MapAt m2 ((A2++(a,x)::C2).map bkV)::FlsAt (A++C)::BksAt (A2++C2)::rpNew b6::Hs) w:=hw.arr
 refine (told_spec hid hm hw).use ?_
 clear hw
 rintro _ w ⟨sl,sb,rfl,hw⟩
 refine .inl ⟨_,_,_,_,_,_,_,sl,sb,rfl,?_⟩
 have hw:Sat R (rpNew b6::Own sl 3 (intsI (rleftsF pl.r))::Own sb 9 ((rlabelsF pl.r x.id).map Value.string)::LoneAt f pl.r::QuAt q pl.q::pts a (bkObj x)::pts p (bookC b m1 m2)::MapAt m1 ((A++(f,q,pl)::C).map flV)::MapAt m2 ((A2++(a,x)::C2).map bkV)::FlsAt (A++C)::BksAt (A2++C2)::Hs) w:=hw.arr
 refine store_rule hw (by kernel_rfl) rfl (by simp [Value.cells]) fun w hw=>?_
 have hw:=hw.re (rpC b6 (tellP pl x) sl sb)
 refine ⟨_,_,_,_,_,_,_,sl,sb,At.own (eqS hw) (by exact ⟨rfl,rfl,rfl,rfl,rfl,rfl,rfl,rfl,rfl,trivial⟩),hK sl sb w ?_⟩
 exact hw.drop.cons fun _ hw=>hw.cons fun _ hw=>open_close hl rfl rfl hw
theorem delQ_no {id:Int}:∀ {l:List Wt},hasQ id l=false→delQ id l=l
 |[],_=>rfl
 |w::l,h=>by
  have h1:¬ w.id=id∧hasQ id l=false:=by simpa [hasQ] using h
  show (if w.id=id then l else w::delQ id l)=_
  rw [if_neg h1.1,delQ_no h1.2]
theorem qrem_del {id:Int} {l:List Wt}:(qrem l id).1=delQ id l:=by
 unfold qrem
 cases h:hasQ id l with
 |true=>rfl
 |false=>exact (delQ_no h).symm
set_option maxHeartbeats 4000000 in
theorem one_spec {p m1 m2 a:Nat} {b:Book} {c:Cm} {x:Bk} {fs:List FE} {A2 C2:List BE} {sg sp:Sl} (hk:c.kind=3∨c.kind=4∨c.kind=5∨c.kind=6) (k:Core b) (hlab:c.lab.size≤16) (hl:BookL b fs (A2++(a,x)::C2)) (hbm:BkMid A2 C2 x)
  (hw:Sat R (pts p (bookC b m1 m2)::MapAt m1 (fs.map flV)::MapAt m2 ((A2++(a,x)::C2).map bkV)::FlsAt fs::BksAt (A2++(a,x)::C2)::Hs) w):
  GetsX Tryz.prog 45 #[.pointer (some ⟨p,0,none⟩),.pointer (some ⟨a,0,none⟩),.agg #[.int .i64 c.kind,.string c.pnr,.int .i64 c.flt,.int .i64 c.cls,.int .i64 c.many,.int .i64 c.time,.float .f64 c.sc,.string c.lab,.int .i64 c.rows,.slice sg.a sg.len sg.cap,.slice sp.a sp.len sp.cap]] w
   (fun ch w'=>∃ e,ch=errP e∧oneB b x c=(b,errR e)∧Sat R (BookAt p b::Hs) w')
   (fun v w'=>∃ sl sb:Sl,v=.agg (rpV (oneB b x c).2 sl sb).toArray∧Sat R (Own sl 3 (intsI (oneB b x c).2.left)::Own sb 9 ((oneB b x c).2.labs.map Value.string)::BookAt p (oneB b x c).1::Hs) w'):=by
 apply call45
 suffices H:∀ (X:List PanicEntry→World→Prop) (K:Value→World→Prop),(∀ e w',oneB b x c=(b,errR e)→Sat R (BookAt p b::Hs) w'→X (errP e) w')→
   (∀ sl sb w',Sat R (Own sl 3 (intsI (oneB b x c).2.left)::Own sb 9 ((oneB b x c).2.labs.map Value.string)::BookAt p (oneB b x c).1::Hs) w'→K (.agg (rpV (oneB b x c).2 sl sb).toArray) w')→B45 (some ⟨p,0,none⟩) (some ⟨a,0,none⟩) c.kind c.pnr c.flt c.cls c.many c.time c.sc c.lab c.rows sg sp X K w from
  H _ _ (fun e w' h1 h2=>⟨e,rfl,h1,h2⟩) (fun sl sb w' h2=>⟨sl,sb,rfl,h2⟩)
 intro X K hX hK
 have hxL:x∈b.L:=by rw [←hl.bk];exact List.mem_map.2 ⟨(a,x),by simp,rfl⟩
 have hbk:=k.each x hxL
 have hnx:=k.next
 have hid:0≤x.id∧x.id<28629151:=⟨by have:=hbk.id;omega,by have:=hbk.id;omega⟩
 obtain ⟨pl,hat⟩:=k.at_of hxL
 obtain ⟨A,f,q,C,rfl,hm⟩:=fl_split hl k.nums hat
 have hpl:=at_some hat
 have hg:=k.good pl hpl.1
 have hqok:=k.qok pl hpl.1
 obtain ⟨MF,hMF⟩:∃ M,M=(A++(f,q,pl)::C).map flV:=⟨_,rfl⟩
 obtain ⟨MB,hMB⟩:∃ M,M=(A2++(a,x)::C2).map bkV:=⟨_,rfl⟩
 have hget:getM x.flt MF=some (.agg #[.pointer (some ⟨f,0,none⟩),.pointer (some ⟨q,0,none⟩)]):=by rw [hMF];exact fl_get hm
 rw [←hMF,←hMB] at hw
 have hone:∀ {e},oneB b x c=e↔(if c.kind=3 then (if x.state≠1 then (b,errR 7) else ({ b with L:=kset Bk.id x.id sureX b.L },tellP pl (sureX x)))
  else if c.kind=4 then (promote x.flt (gone b x),⟨0,c.pnr,0,0,0,0,0,[],[]⟩)
  else if x.state=3 then (b,errR 7)
  else if c.kind=5 then
   (if (rseatF pl.r x.id c.lab).2≠0 then (b,errR (rseatF pl.r x.id c.lab).2)
    else (b.put x.flt (seatP (rseatF pl.r x.id c.lab).1) b.L,tellP (seatP (rseatF pl.r x.id c.lab).1 pl) x))
  else (if (rautoF pl.r x.id).2.2≠0 then (b,errR (rautoF pl.r x.id).2.2)
    else (b.put x.flt (seatP (rautoF pl.r x.id).1) b.L,tellP (seatP (rautoF pl.r x.id).1 pl) x)))=e:=by
  intro e
  unfold oneB
  rw [hat]
 refine new_rule hw fun b5 w hw=>new_rule hw fun b6 w hw=>?_
 have hw:Sat R (FlsAt (A++(f,q,pl)::C)::BksAt (A2++(a,x)::C2)::pts p (bookC b m1 m2)::MapAt m1 MF::MapAt m2 MB::cmC b5 c sg sp::rpNew b6::Hs) w:=by
  have hw:Sat R (rpNew b6::cmC b5 c sg sp::pts p (bookC b m1 m2)::MapAt m1 MF::MapAt m2 MB::FlsAt (A++(f,q,pl)::C)::BksAt (A2++(a,x)::C2)::Hs) w:=hw
  exact hw.arr
 have hw:=fls_mid.1 hw
 have hw:Sat R (BksAt (A2++(a,x)::C2)::LoneAt f pl.r::QuAt q pl.q::FlsAt (A++C)::pts p (bookC b m1 m2)::MapAt m1 MF::MapAt m2 MB::cmC b5 c sg sp::rpNew b6::Hs) w:=hw.arr
 have hw:=bks_mid.1 hw
 refine drw_ruleT hw fun w hw=>?_
 refine NilP.mk rfl ⟨some m1,At.own (fun _ h=>h) (by exact ⟨rfl,trivial⟩),NilP.mk rfl ⟨x.flt,At.own (fun _ h=>h) (by exact ⟨rfl,trivial⟩),some ⟨f,0,none⟩,some ⟨q,0,none⟩,fun w' h=>?_,?_⟩⟩
 ·have hm1:Sat R (MapAt m1 MF::VC.tru::pts a (bkObj x)::BksAt (A2++C2)::LoneAt f pl.r::QuAt q pl.q::FlsAt (A++C)::pts p (bookC b m1 m2)::MapAt m2 MB::cmC b5 c sg sp::rpNew b6::Hs) w':=Sat.arr h
  have:=MapAt.look pMap hm1 x.flt false
  rw [hget] at this
  exact this
 refine new_rule hw fun b7 w hw=>⟨hw.absorb,?_⟩
 refine store_rule hw (by kernel_rfl) rfl (by simp [Value.cells]) fun w hw=>?_
 have hw:=hw.re (fqC b7 f q)
 have hw:Sat R (LoneAt f pl.r::QuAt q pl.q::pts a (bkObj x)::pts p (bookC b m1 m2)::MapAt m1 MF::MapAt m2 MB::FlsAt (A++C)::BksAt (A2++C2)::rpNew b6::fqC b7 f q::cmC b5 c sg sp::Hs) w:=by
  have hw:Sat R (fqC b7 f q::pts a (bkObj x)::BksAt (A2++C2)::LoneAt f pl.r::QuAt q pl.q::FlsAt (A++C)::pts p (bookC b m1 m2)::MapAt m1 MF::MapAt m2 MB::cmC b5 c sg sp::rpNew b6::Hs) w:=hw.cons fun _ h=>h.drop
  exact hw.arr
 have close:∀ {w},Sat R (LoneAt f pl.r::QuAt q pl.q::pts a (bkObj x)::pts p (bookC b m1 m2)::MapAt m1 MF::MapAt m2 MB::FlsAt (A++C)::BksAt (A2++C2)::rpNew b6::fqC b7 f q::cmC b5 c sg sp::Hs) w→Sat R (BookAt p b::Hs) w:=fun {w} hw=>
  (open_close hl hMF hMB hw).cons fun _ h=>h.drop.drop.drop
 refine NilP.mk rfl ⟨x.state,At.own (eqS hw) (by exact ⟨rfl,trivial⟩),c.kind,At.own (eqS hw) (by exact ⟨rfl,trivial⟩),?_⟩
 refine Br.e (fun h3=>?_) (fun h3=>Br.e (fun h4=>?_) (fun h4=>Br.e (fun h5=>?_) (fun h5=>Br.e (fun h6=>?_) (fun h6=>by omega))))
 ·-- confirmed
  refine NilP.mk rfl ⟨x.state,At.own (eqS hw) (by exact ⟨rfl,trivial⟩),?_⟩
  refine need_c (fun h=>.inl ⟨rfl,?_⟩) (fun h=>.inr ⟨_,rfl,hX 7 w (hone.2 ?_) (close hw)⟩)
  rotate_left
  ·have h1:¬ x.state=1:=by simpa using h
   rw [if_pos h3,if_pos h1]
  have h1:x.state=1:=by simpa using h
  have hres:=hone.2 (by rw [if_pos h3,if_neg (fun h=>h h1)])
  refine NilP.mk rfl ?_
  have hw:Sat R (pts a (bkObj x)::LoneAt f pl.r::QuAt q pl.q::pts p (bookC b m1 m2)::MapAt m1 MF::MapAt m2 MB::FlsAt (A++C)::BksAt (A2++C2)::rpNew b6::fqC b7 f q::cmC b5 c sg sp::Hs) w:=hw.arr
  refine store_rule hw (by kernel_rfl) rfl (by simp [Value.cells]) fun w hw=>NilP.mk rfl ?_
  refine store_rule hw (by kernel_rfl) rfl (by rw [putL_len];simp [Value.cells]) fun w hw=>?_
  have hw:=hw.re (pts a (bkObj (sureX x)))
  have hw:Sat R (LoneAt f pl.r::QuAt q pl.q::pts a (bkObj (sureX x))::pts p (bookC b m1 m2)::MapAt m1 MF::MapAt m2 MB::FlsAt (A++C)::BksAt (A2++C2)::rpNew b6::fqC b7 f q::cmC b5 c sg sp::Hs) w:=hw.arr
  have hl2:BookL { b with L:=kset Bk.id x.id sureX b.L } (A++(f,q,pl)::C) (A2++(a,sureX x)::C2):=⟨hl.fl,hl.bset k.ids sureX⟩
  refine tell_tail (Hs:=fqC b7 f q::cmC b5 c sg sp::Hs) (b:={ b with L:=kset Bk.id x.id sureX b.L }) (x:=sureX x) (MB:=MB) hl2 hMF (by rw [hMB];exact (bk_vals (show (sureX x).id=x.id from rfl)).symm) hid hm (fun sl sb w' hw=>?_) hw
  have hfin:=hK sl sb w'
  rw [hres] at hfin
  exact hfin (hw.cons fun _ h=>h.cons fun _ h=>h.cons fun _ h=>h.drop.drop)
 ·-- cancelled
  have hres:=hone.2 (by rw [if_neg h3,if_pos h4])
  have hcore:=core_gone k hxL
  obtain ⟨pl2,hp2⟩:∃ pl2:Pl,pl2=if x.state=3 then quitP x.id pl else giveP x.id pl:=⟨_,rfl⟩
  refine ⟨fun w=>Sat R (LoneAt f pl2.r::QuAt q pl2.q::pts a (bkObj x)::pts p (bookC b m1 m2)::MapAt m1 MF::MapAt m2 MB::FlsAt (A++C)::BksAt (A2++C2)::rpNew b6::fqC b7 f q::cmC b5 c sg sp::Hs) w,?_,?_⟩
  ·refine Br.e (fun hs=>?_) (fun hs=>?_)
   ·rw [if_pos hs] at hp2
    refine drw_rule hw fun w hw=>⟨some ⟨q,0,none⟩,At.own (fun _ h=>h) (by exact ⟨rfl,trivial⟩),NilP.mk rfl ⟨x.id,At.own (fun _ h=>h) (by exact ⟨rfl,trivial⟩),?_⟩⟩
    refine (qremove_spec (by have:=hqok.len;omega) hw.swap).use ?_
    clear hw
    rintro _ w ⟨rfl,hw⟩
    rw [qrem_del] at hw
    refine .inl ⟨_,rfl,?_⟩
    rw [hp2]
    exact hw.swap
   ·rw [if_neg hs] at hp2
    refine drw_rule hw fun w hw=>⟨some ⟨f,0,none⟩,At.own (fun _ h=>h) (by exact ⟨rfl,trivial⟩),NilP.mk rfl ⟨x.id,At.own (fun _ h=>h) (by exact ⟨rfl,trivial⟩),?_⟩⟩
    refine (lone_give hw).use ?_
    clear hw
    rintro _ w ⟨rfl,hw⟩
    refine .inl ⟨_,rfl,?_⟩
    rw [hp2]
    exact hw
  clear hw
  rintro _ w hw
  have hn2:pl2.n=x.flt:=by
   rw [hp2]
   split
   ·exact hm.num
   ·exact (give_num (r:=pl.r) (o:=x.id)).1.trans hm.num
  have hMF2:MF=(A++(f,q,pl2)::C).map flV:=by rw [hMF];exact fl_vals hn2 hm.num
  have hl2:BookL (gone b x) (A++(f,q,pl2)::C) (A2++C2):=by
   refine ⟨?_,?_⟩
   ·have h1:=hl.fset hm (quitP x.id)
    have h2:=hl.fset hm (giveP x.id)
    unfold gone
    rw [hp2]
    split
    ·exact h1
    ·exact h2
   ·have h1:=hl.bdel k.ids
    unfold gone
    split
    ·exact h1
    ·exact h1
  have hat2:(gone b x).at x.flt=some pl2:=(at_iff hcore).2 ⟨hl2.fl.mem_iff.1 (List.mem_map.2 ⟨(f,q,pl2),by simp,rfl⟩),hn2⟩
  have hgc:bookC (gone b x) m1 m2=bookC b m1 m2:=by
   unfold gone
   split<;>rfl
  refine drw_rule hw fun w hw=>NilP.mk rfl ⟨some m2,At.own (fun _ h=>h) (by exact ⟨rfl,trivial⟩),NilP.mk rfl ⟨x.id,At.own (fun _ h=>h) (by exact ⟨rfl,trivial⟩),?_⟩⟩
  have hw:Sat R (MapAt m2 MB::LoneAt f pl2.r::QuAt q pl2.q::pts a (bkObj x)::pts p (bookC b m1 m2)::MapAt m1 MF::FlsAt (A++C)::BksAt (A2++C2)::rpNew b6::fqC b7 f q::cmC b5 c sg sp::Hs) w:=hw.arr
  refine MapAt.del bMap hw x.id fun w hw=>?_
  rw [hMB,bk_vdel hbm] at hw
  refine NilP.mk rfl ⟨x.flt,At.own (eqS hw) (by exact ⟨rfl,trivial⟩),?_⟩
  have hw:Sat R (LoneAt f pl2.r::QuAt q pl2.q::FlsAt (A++C)::MapAt m2 ((A2++C2).map bkV)::pts a (bkObj x)::pts p (bookC (gone b x) m1 m2)::MapAt m1 ((A++(f,q,pl2)::C).map flV)::BksAt (A2++C2)::rpNew b6::fqC b7 f q::cmC b5 c sg sp::Hs) w:=by
   rw [hgc,←hMF2]
   exact hw.arr
  have hw:=fls_mid.2 hw
  have hw:Sat R (pts p (bookC (gone b x) m1 m2)::MapAt m1 ((A++(f,q,pl2)::C).map flV)::MapAt m2 ((A2++C2).map bkV)::FlsAt (A++(f,q,pl2)::C)::BksAt (A2++C2)::pts a (bkObj x)::rpNew b6::fqC b7 f q::cmC b5 c sg sp::Hs) w:=hw.arr
  refine (promote_spec hcore hl2 hat2 hw).use ?_
  clear hw
  rintro _ w ⟨rfl,fs3,xs3,hl3,hf3,hb3,hw⟩
  refine .inl ⟨rfl,c.pnr,At.own (eqS hw) (by exact ⟨rfl,trivial⟩),?_⟩
  have hw:Sat R (rpNew b6::pts p (bookC (promote x.flt (gone b x)) m1 m2)::MapAt m1 ((A++(f,q,pl2)::C).map flV)::MapAt m2 ((A2++C2).map bkV)::FlsAt fs3::BksAt xs3::pts a (bkObj x)::fqC b7 f q::cmC b5 c sg sp::Hs) w:=hw.arr
  refine store_rule hw (by kernel_rfl) rfl (by simp [Value.cells]) fun w hw=>?_
  have hw:=hw.re (rpC b6 ⟨0,c.pnr,0,0,0,0,0,[],[]⟩ nilSl nilSl)
  refine ⟨_,_,_,_,_,_,_,nilSl,nilSl,At.own (eqS hw) (by exact ⟨rfl,rfl,rfl,rfl,rfl,rfl,rfl,rfl,rfl,trivial⟩),?_⟩
  have hfin:=hK nilSl nilSl w
  rw [hres] at hfin
  refine hfin (Own.nil (Own.nil ?_))
  rw [←hf3,←hb3] at hw
  have hw:Sat R (pts p (bookC (promote x.flt (gone b x)) m1 m2)::MapAt m1 (fs3.map flV)::MapAt m2 (xs3.map bkV)::FlsAt fs3::BksAt xs3::pts a (bkObj x)::fqC b7 f q::cmC b5 c sg sp::Hs) w:=hw.drop
  exact (Sat.book.2 ⟨m1,m2,fs3,xs3,hl3,hw⟩).cons fun _ h=>h.drop.drop.drop
 ·-- a seat
  refine need_c (fun h=>.inl ⟨rfl,?_⟩) (fun h=>.inr ⟨_,rfl,hX 7 w (hone.2 ?_) (close hw)⟩)
  rotate_left
  ·have h1:x.state=3:=by simpa using h
   rw [if_neg h3,if_neg h4,if_pos h1]
  have h1:¬ x.state=3:=by simpa using h
  refine drw_rule' (Sat R [pts a (bkObj x),fqC b7 f q,cmC b5 c sg sp,VC.tru]) hw (fun w hw=>?_) fun w hw=>?_
  ·exact (hw.arr (Hs':=pts a (bkObj x)::fqC b7 f q::cmC b5 c sg sp::LoneAt f pl.r::QuAt q pl.q::pts p (bookC b m1 m2)::MapAt m1 MF::MapAt m2 MB::FlsAt (A++C)::BksAt (A2++C2)::rpNew b6::Hs)).cons fun _ h=>h.cons fun _ h=>h.restTru2
  refine ⟨some ⟨f,0,none⟩,At.own (fun _ h=>h) (by exact ⟨rfl,trivial⟩),NilP.mk rfl ⟨x.id,At.own (fun _ h=>h) (by exact ⟨rfl,trivial⟩),c.lab,At.own (fun _ h=>h) (by exact ⟨rfl,trivial⟩),?_⟩⟩
  refine (lone_seat (by omega) hw).use ?_
  clear hw
  rintro _ w ⟨rfl,hw⟩
  refine .inl ⟨_,rfl,?_⟩
  refine mustE_c (fun h0=>.inl ⟨rfl,?_,?_⟩) (fun h0=>.inr ⟨_,rfl,hX _ w (hone.2 (by rw [if_neg h3,if_neg h4,if_neg h1,if_pos h5,if_pos h0])) ?_⟩)
  rotate_left 2
  ·rw [seat_no' h0] at hw
   exact close hw
  ·exact (hw.arr (Hs':=pts a (bkObj x)::fqC b7 f q::cmC b5 c sg sp::LoneAt f (rseatF pl.r x.id c.lab).1::QuAt q pl.q::pts p (bookC b m1 m2)::MapAt m1 MF::MapAt m2 MB::FlsAt (A++C)::BksAt (A2++C2)::rpNew b6::Hs)).cons fun _ h=>h.cons fun _ h=>h.restTru2
  have hres:=hone.2 (by rw [if_neg h3,if_neg h4,if_neg h1,if_pos h5,if_neg (fun h=>h h0)])
  have hn2:(seatP (rseatF pl.r x.id c.lab).1 pl).n=x.flt:=(seat_ly hg h0).num.trans hm.num
  have hl2:BookL (b.put x.flt (seatP (rseatF pl.r x.id c.lab).1) b.L) (A++(f,q,seatP (rseatF pl.r x.id c.lab).1 pl)::C) (A2++(a,x)::C2):=⟨hl.fset hm (seatP (rseatF pl.r x.id c.lab).1),hl.bk⟩
  refine tell_tail (Hs:=fqC b7 f q::cmC b5 c sg sp::Hs) hl2 (by rw [hMF];exact (fl_vals hm.num hn2).symm) hMB hid ⟨hn2,hm.a,hm.c⟩ (fun sl sb w' hw=>?_) hw
  have hfin:=hK sl sb w'
  rw [hres] at hfin
  exact hfin (hw.cons fun _ h=>h.cons fun _ h=>h.cons fun _ h=>h.drop.drop)
 ·-- seats of themselves
  refine need_c (fun h=>.inl ⟨rfl,?_⟩) (fun h=>.inr ⟨_,rfl,hX 7 w (hone.2 ?_) (close hw)⟩)
  rotate_left
  ·have h1:x.state=3:=by simpa using h
   rw [if_neg h3,if_neg h4,if_pos h1]
  have h1:¬ x.state=3:=by simpa using h
  refine drw_rule hw fun w hw=>⟨some ⟨f,0,none⟩,At.own (fun _ h=>h) (by exact ⟨rfl,trivial⟩),NilP.mk rfl ⟨x.id,At.own (fun _ h=>h) (by exact ⟨rfl,trivial⟩),?_⟩⟩
  refine (lone_auto hw).use ?_
  clear hw
  rintro _ w ⟨t,rfl,hw⟩
  have hw:=hw.drop
  refine .inl ⟨_,_,rfl,?_⟩
  refine mustE_c (fun h0=>.inl ⟨rfl,?_⟩) (fun h0=>.inr ⟨_,rfl,hX _ w (hone.2 (by rw [if_neg h3,if_neg h4,if_neg h1,if_neg h5,if_pos h0])) ?_⟩)
  rotate_left
  ·rw [auto_no h0] at hw
   exact close hw
  have hres:=hone.2 (by rw [if_neg h3,if_neg h4,if_neg h1,if_neg h5,if_neg (fun h=>h h0)])
  have hn2:(seatP (rautoF pl.r x.id).1 pl).n=x.flt:=(auto_ly h0).num.trans hm.num
  have hl2:BookL (b.put x.flt (seatP (rautoF pl.r x.id).1) b.L) (A++(f,q,seatP (rautoF pl.r x.id).1 pl)::C) (A2++(a,x)::C2):=⟨hl.fset hm (seatP (rautoF pl.r x.id).1),hl.bk⟩
  refine tell_tail (Hs:=fqC b7 f q::cmC b5 c sg sp::Hs) hl2 (by rw [hMF];exact (fl_vals hm.num hn2).symm) hMB hid ⟨hn2,hm.a,hm.c⟩ (fun sl sb w' hw=>?_) hw
  have hfin:=hK sl sb w'
  rw [hres] at hfin
  exact hfin (hw.cons fun _ h=>h.cons fun _ h=>h.cons fun _ h=>h.drop.drop)
end Go.Proofs.YtfgbbckfikiomaaGreatDoor
/- Package booking: the sorted keys of its maps; the clock. Condition: bounds. -/
namespace Go.Proofs.YtfgbbckfikiomaaGreatDoor
set_option linter.unusedVariables false
open Go Go.VC
open Classical
variable {R:Cx} {Hs Rest:List HP} {w:World}
theorem sortI_eq {l m:List Int} (hp:l.Perm m) (h:m.Pairwise fun a b=>a<b):sortI l=m:=by
 have tr:∀ a b c:Int,decide (a≤b)=true→decide (b≤c)=true→decide (a≤c)=true:=fun a b c h1 h2=>by simp only [decide_eq_true_eq] at *;omega
 have to:∀ a b:Int,(decide (a≤b)||decide (b≤a))=true:=fun a b=>by simp only [Bool.or_eq_true,decide_eq_true_eq];omega
 exact List.Perm.eq_of_pairwise (fun a b _ _ h1 h2=>by simp only [decide_eq_true_eq] at h1 h2;omega) (List.pairwise_mergeSort tr to l) (h.imp fun hab=>by simp only [decide_eq_true_eq];omega) ((List.mergeSort_perm l _).trans hp)
theorem bk_keys {b:Book} {fs:List FE} {xs:List BE} (hl:BookL b fs xs):(xs.map bkV).map (·.1)=b.L.map Bk.id:=by
 rw [←hl.bk,List.map_map,List.map_map]
 rfl
theorem fl_keys {b:Book} {fs:List FE} {xs:List BE} (hl:BookL b fs xs):((fs.map flV).map (·.1)).Perm (b.fl.map Pl.n):=by
 have:=hl.fl.map Pl.n
 rw [List.map_map] at this ⊢
 exact this
theorem rise_ids {b:Book} (k:Core b):(b.L.map Bk.id).Pairwise fun a b=>a<b:=List.pairwise_map.2 k.ids
theorem rise_nums {b:Book} (k:Core b):(b.fl.map Pl.n).Pairwise fun a b=>a<b:=List.pairwise_map.2 k.nums
theorem nd_lt {l:List Int} (h:l.Pairwise fun a b=>a<b):l.Nodup:=h.imp fun hab=>by omega
theorem sortB_rule {m:Nat} {b:Book} {fs:List FE} {xs:List BE} {K:Sl→World→Prop} (k:Core b) (hl:BookL b fs xs) (hw:Sat R (MapAt m (xs.map bkV)::Hs) w)
  (kk:∀ s w',Sat R (Own s 3 (intsI (b.L.map Bk.id))::MapAt m (xs.map bkV)::Hs) w'→K s w'):
  Calls Tryz.prog 55 #[.map (some m)] w fun e w1=>∃ t:Value,e=.returned t∧Calls Tryz.prog 50 #[t] w1 fun e w2=>∃ t:Sl,e=.returned (.slice t.a t.len t.cap)∧K t w2:=by
 have hk:=bk_keys hl
 obtain ⟨l,c,hs,hst,hp⟩:=MapAt.iff.1 hw
 obtain ⟨D0,hown,hsz,hperm⟩:=keysI_map hs hst (by rw [hk];exact nd_lt (rise_ids k)) (fun i hi=>by
  rw [hk] at hi
  obtain ⟨x,hx,rfl⟩:=List.mem_map.1 hi
  have:=(k.each x hx).id
  have:=k.next
  omega) (by rw [List.length_map,bk_len hl];have:=k.many;omega) hp.at
 refine (callsIn_wide.1 (Tryz.maps_Keys_55 (some m) w)).mono ?_
 rintro _ _ ⟨rfl,rfl⟩
 refine ⟨_,rfl,?_⟩
 refine (callsIn_wide.1 (Tryz.slices_Sorted_keys_50_55 m _ D0 _ w hown (by unfold maxLen;omega) (by omega))).mono ?_
 rintro _ w' ⟨v,ss,rfl,hS,hrow,hnil,hb⟩
 have hw1:Sat R (MapAt m (xs.map bkV)::Hs) (w.alloc (.cells #[.map (some m)] 78)):=(Sat.alloc _ hw).drop
 obtain ⟨s,rfl,h3⟩:=Sat.ownsRow hw1 hb hrow
 refine ⟨s,rfl,kk s _ ?_⟩
 have e:=sortI_eq (List.Perm.of_eq hk) (rise_ids k)
 rw [←sortI_perm (hperm ss hS)] at e
 rw [←e]
 exact h3
theorem sortF_rule {m:Nat} {b:Book} {fs:List FE} {xs:List BE} {K:Sl→World→Prop} (k:Core b) (hl:BookL b fs xs) (hw:Sat R (MapAt m (fs.map flV)::Hs) w)
  (kk:∀ s w',Sat R (Own s 3 (intsI (b.fl.map Pl.n))::MapAt m (fs.map flV)::Hs) w'→K s w'):
  Calls Tryz.prog 51 #[.map (some m)] w fun e w1=>∃ t:Value,e=.returned t∧Calls Tryz.prog 50 #[t] w1 fun e w2=>∃ t:Sl,e=.returned (.slice t.a t.len t.cap)∧K t w2:=by
 have hk:=fl_keys hl
 obtain ⟨l,c,hs,hst,hp⟩:=MapAt.iff.1 hw
 obtain ⟨D0,hown,hsz,hperm⟩:=keysI_map hs hst (hk.nodup_iff.2 (nd_lt (rise_nums k))) (fun i hi=>by
  obtain ⟨x,hx,rfl⟩:=List.mem_map.1 (hk.mem_iff.1 hi)
  have:=(k.good x hx).num
  show -1000000000≤x.r.num∧x.r.num≤1000000000
  omega) (by rw [List.length_map,fl_len hl];have:=k.few;omega) hp.at
 refine (callsIn_wide.1 (Tryz.maps_Keys_51 (some m) w)).mono ?_
 rintro _ _ ⟨rfl,rfl⟩
 refine ⟨_,rfl,?_⟩
 refine (callsIn_wide.1 (Tryz.slices_Sorted_keys_50_51 m _ D0 _ w hown (by unfold maxLen;omega) (by omega))).mono ?_
 rintro _ w' ⟨v,ss,rfl,hS,hrow,hnil,hb⟩
 have hw1:Sat R (MapAt m (fs.map flV)::Hs) (w.alloc (.cells #[.map (some m)] 77)):=(Sat.alloc _ hw).drop
 obtain ⟨s,rfl,h3⟩:=Sat.ownsRow hw1 hb hrow
 refine ⟨s,rfl,kk s _ ?_⟩
 have e:=sortI_eq hk (rise_nums k)
 rw [←sortI_perm (hperm ss hS)] at e
 rw [←e]
 exact h3
theorem keys_x {g1 g2:FuncId} {m:Nat} {K:Sl→World→Prop} {E1 E2:Ending→World→Prop}
  (h:Calls Tryz.prog g1 #[.map (some m)] w fun e w1=>∃ t:Value,e=.returned t∧Calls Tryz.prog g2 #[t] w1 fun e w2=>∃ t:Sl,e=.returned (.slice t.a t.len t.cap)∧K t w2):
  Calls Tryz.prog g1 #[.map (some m)] w fun e w1=>(∃ t:Value,(e=.returned t)∧Calls Tryz.prog g2 #[t] w1 fun e w2=>(∃ t:Sl,(e=.returned (.slice t.a t.len t.cap))∧K t w2)∨E2 e w2)∨E1 e w1:=by
 refine h.mono ?_
 rintro _ w ⟨t,rfl,h⟩
 refine .inl ⟨t,rfl,h.mono ?_⟩
 rintro _ w ⟨t,rfl,h⟩
 exact .inl ⟨t,rfl,h⟩
theorem prom_book {p:Nat} {b:Book} {n:Int} (k:Core b) (hn:n∈b.fl.map Pl.n) (hw:Sat R (BookAt p b::Hs) w):
  Gets Tryz.prog 114 #[.pointer (some ⟨p,0,none⟩),.int .i64 n] w fun v w'=>v=.tuple #[]∧Sat R (BookAt p (promote n b)::Hs) w':=by
 obtain ⟨pl,hpl,hpn⟩:=List.mem_map.1 hn
 obtain ⟨m1,m2,fs,xs,hl,hw⟩:=Sat.book.1 hw
 refine (promote_spec k hl ((at_iff k).2 ⟨hpl,hpn⟩) hw).use ?_
 clear hw
 rintro _ w ⟨rfl,fs',xs',hl',h1,h2,hw⟩
 refine ⟨_,rfl,rfl,Sat.book.2 ⟨m1,m2,fs',xs',hl',?_⟩⟩
 rw [h1,h2]
 exact hw
structure ExpI (b:Book) (t:Int) (j:Nat) (b':Book):Prop where
 res:ticked b t=expAll (b.L.drop j) b'
 core:Core b'
 now:b'.now=t
 left:∀ x∈b.L.drop j,x∈b'.L
structure PromA (ns:List Int) (t:Int) (B:Book) (j:Nat) (b':Book):Prop where
 res:promAll ns B=promAll (ns.drop j) b'
 core:Core b'
 now:b'.now=t
 nums:b'.fl.map Pl.n=ns
set_option maxHeartbeats 4000000 in
theorem clock_spec {p:Nat} {b:Book} {c:Cm} {sg sp:Sl} (k:Core b) (hr:RightC c) (hw:Sat R (BookAt p b::Hs) w):
  GetsX Tryz.prog 44 #[.pointer (some ⟨p,0,none⟩),.agg #[.int .i64 c.kind,.string c.pnr,.int .i64 c.flt,.int .i64 c.cls,.int .i64 c.many,.int .i64 c.time,.float .f64 c.sc,.string c.lab,.int .i64 c.rows,.slice sg.a sg.len sg.cap,.slice sp.a sp.len sp.cap]] w
   (fun ch w'=>∃ e,ch=errP e∧clockB b c=(b,errR e)∧Sat R (BookAt p b::Hs) w')
   (fun v w'=>∃ sl sb:Sl,v=.agg (rpV (clockB b c).2 sl sb).toArray∧Sat R (Own sl 3 (intsI (clockB b c).2.left)::Own sb 9 ((clockB b c).2.labs.map Value.string)::BookAt p (clockB b c).1::Hs) w'):=by
 apply call44
 suffices H:∀ (X:List PanicEntry→World→Prop) (K:Value→World→Prop),(∀ e w',clockB b c=(b,errR e)→Sat R (BookAt p b::Hs) w'→X (errP e) w')→
   (∀ w',¬ c.time<b.now→Sat R (BookAt p (clockB b c).1::Hs) w'→K (.agg (rpV ⟨0,emS,0,0,0,0,c.time,[],[]⟩ nilSl nilSl).toArray) w')→B44 (some ⟨p,0,none⟩) c.kind c.pnr c.flt c.cls c.many c.time c.sc c.lab c.rows sg sp X K w from
  H _ _ (fun e w' h1 h2=>⟨e,rfl,h1,h2⟩) (fun w' h1 h2=>by
   have e:(clockB b c).2=⟨0,emS,0,0,0,0,c.time,[],[]⟩:=by unfold clockB;rw [if_neg h1]
   rw [e]
   exact ⟨nilSl,nilSl,rfl,Own.nil (Own.nil h2)⟩)
 intro X K hX hK
 have htm:=hr.time
 obtain ⟨m1,m2,fs,xs,hl,hw⟩:=Sat.book.1 hw
 refine new_rule hw fun b3 w hw=>new_rule hw fun b4 w hw=>?_
 have hw:Sat R (pts p (bookC b m1 m2)::MapAt m1 (fs.map flV)::MapAt m2 (xs.map bkV)::FlsAt fs::BksAt xs::rpNew b4::cmC b3 c sg sp::Hs) w:=by
  have hw:Sat R (rpNew b4::cmC b3 c sg sp::pts p (bookC b m1 m2)::MapAt m1 (fs.map flV)::MapAt m2 (xs.map bkV)::FlsAt fs::BksAt xs::Hs) w:=hw
  exact hw.arr
 refine drw_rule hw fun w hw=>⟨c.time,At.own (fun _ h=>h) (by exact ⟨rfl,trivial⟩),NilP.mk rfl ⟨b.now,At.own (fun _ h=>h) (by exact ⟨rfl,trivial⟩),?_⟩⟩
 refine need_c (fun h=>.inl ⟨rfl,hw,?_⟩) (fun h=>.inr ⟨_,rfl,hX 7 w ?_ ((Sat.book.2 ⟨m1,m2,fs,xs,hl,hw⟩).cons fun _ h=>h.drop.drop)⟩)
 rotate_left
 ·have:=of_decide_eq_false h
  unfold clockB
  rw [if_pos (by omega)]
 have ht:¬ c.time<b.now:=by have:=of_decide_eq_true h;omega
 have hclock:(clockB b c).1=promAll (b.fl.map Pl.n) (ticked b c.time):=by unfold clockB;rw [if_neg ht]
 refine ⟨c.time,At.own (eqS hw) (by exact ⟨rfl,trivial⟩),NilP.mk rfl ?_⟩
 rw [add_off]
 refine store_rule hw (by kernel_rfl) rfl (by simp [Value.cells]) fun w hw=>?_
 have k1:=core_now k htm
 obtain ⟨b1,hb1⟩:∃ b1,b1={ b with now:=c.time }:=⟨_,rfl⟩
 have hw:Sat R (pts p (bookC b1 m1 m2)::MapAt m1 (fs.map flV)::MapAt m2 (xs.map bkV)::FlsAt fs::BksAt xs::rpNew b4::cmC b3 c sg sp::Hs) w:=by
  rw [hb1]
  exact hw.re (pts p (bookC { b with now:=c.time } m1 m2))
 have hl1:BookL b1 fs xs:=by rw [hb1];exact ⟨hl.fl,hl.bk⟩
 rw [←hb1] at k1
 have hL1:b1.L=b.L:=by rw [hb1]
 refine NilP.mk rfl ⟨some m2,At.own (eqS hw) (by exact ⟨rfl,trivial⟩),?_⟩
 have hw:Sat R (MapAt m2 (xs.map bkV)::pts p (bookC b1 m1 m2)::MapAt m1 (fs.map flV)::FlsAt fs::BksAt xs::rpNew b4::cmC b3 c sg sp::Hs) w:=hw.arr
 refine keys_x (sortB_rule k1 hl1 hw ?_)
 clear hw
 intro s w hw
 have hw:Sat R (Own s 3 (intsI (b.L.map Bk.id))::BookAt p b1::rpNew b4::cmC b3 c sg sp::Hs) w:=by
  rw [hL1] at hw
  refine hw.cons fun _ hw=>Sat.book.2 ⟨m1,m2,fs,xs,hl1,?_⟩
  exact hw.arr
 obtain ⟨ids,hids⟩:∃ ids,ids=b.L.map Bk.id:=⟨_,rfl⟩
 have hil:ids.length=b.L.length:=by rw [hids,List.length_map]
 rw [←hids] at hw
 have hLm:=k.many
 refine ⟨fun t w=>∃ (j:Nat) (b':Book),t=j∧j≤b.L.length∧ExpI b c.time j b'∧Sat R (Own s 3 (intsI ids)::BookAt p b'::rpNew b4::cmC b3 c sg sp::Hs) w,fun t _=>b.L.length - t.toNat,⟨0,b1,rfl,Nat.zero_le _,⟨by rw [hb1];rfl,k1,by rw [hb1],fun x hx=>by rw [hL1];exact hx⟩,hw⟩,?_⟩
 clear hw
 rintro _ _ w ⟨j,b',rfl,hj,hi,hw⟩
 have hsl:=Own.len hw
 rw [List.length_map,hil] at hsl
 refine Br.d (fun hlt=>?_) (fun hge=>?_)
 ·have hjl:j<b.L.length:=by omega
  obtain ⟨x,hx⟩:∃ x,x=b.L[j]:=⟨_,rfl⟩
  have hdrop:b.L.drop j=x::b.L.drop (j + 1):=by rw [hx];exact List.drop_eq_getElem_cons hjl
  have hget:∀ h:j<ids.length,ids[j]=x.id:=fun h=>by subst hids;rw [List.getElem_map,hx]
  refine Own.ix hw (eqS hw) j rfl (by omega) ?_
  rw [hget]
  obtain ⟨m1,m2,fs,xs,hl,hw⟩:=Sat.book.1 hw.swap
  have hxL:x∈b'.L:=hi.left x (by rw [hdrop];simp)
  obtain ⟨pl,hat⟩:=hi.core.at_of hxL
  obtain ⟨A,f,q,C,rfl,hm⟩:=fl_split hl hi.core.nums hat
  obtain ⟨A2,a,C2,rfl,hbm⟩:=bk_split hl hi.core.ids hxL
  obtain ⟨MF,hMF⟩:∃ M,M=(A++(f,q,pl)::C).map flV:=⟨_,rfl⟩
  obtain ⟨MB,hMB⟩:∃ M,M=(A2++(a,x)::C2).map bkV:=⟨_,rfl⟩
  have hgetf:getM x.flt MF=some (.agg #[.pointer (some ⟨f,0,none⟩),.pointer (some ⟨q,0,none⟩)]):=by rw [hMF];exact fl_get hm
  have hgetb:getM x.id MB=some (.pointer (some ⟨a,0,none⟩)):=by rw [hMB];exact bk_get hbm
  rw [←hMF,←hMB] at hw
  have hw:Sat R (FlsAt (A++(f,q,pl)::C)::BksAt (A2++(a,x)::C2)::pts p (bookC b' m1 m2)::MapAt m1 MF::MapAt m2 MB::Own s 3 (intsI ids)::rpNew b4::cmC b3 c sg sp::Hs) w:=hw.arr
  have hw:=fls_mid.1 hw
  have hw:Sat R (BksAt (A2++(a,x)::C2)::LoneAt f pl.r::QuAt q pl.q::FlsAt (A++C)::pts p (bookC b' m1 m2)::MapAt m1 MF::MapAt m2 MB::Own s 3 (intsI ids)::rpNew b4::cmC b3 c sg sp::Hs) w:=hw.arr
  have hw:=bks_mid.1 hw
  have hw:Sat R (LoneAt f pl.r::QuAt q pl.q::pts a (bkObj x)::pts p (bookC b' m1 m2)::MapAt m1 MF::MapAt m2 MB::FlsAt (A++C)::BksAt (A2++C2)::Own s 3 (intsI ids)::rpNew b4::cmC b3 c sg sp::Hs) w:=hw.arr
  refine NilP.mk rfl ⟨some m2,At.own (eqS hw) (by exact ⟨rfl,trivial⟩),some ⟨a,0,none⟩,fun w' e=>?_,?_⟩
  ·rw [show w'=w from e]
   have hm1:Sat R (MapAt m2 MB::LoneAt f pl.r::QuAt q pl.q::pts a (bkObj x)::pts p (bookC b' m1 m2)::MapAt m1 MF::FlsAt (A++C)::BksAt (A2++C2)::Own s 3 (intsI ids)::rpNew b4::cmC b3 c sg sp::Hs) w:=hw.arr
   have:=MapAt.look bMap hm1 x.id false
   rw [hgetb] at this
   exact this
  refine ⟨fun t w=>t=old b'.now x∧Sat R (LoneAt f pl.r::QuAt q pl.q::pts a (bkObj x)::pts p (bookC b' m1 m2)::MapAt m1 MF::MapAt m2 MB::FlsAt (A++C)::BksAt (A2++C2)::Own s 3 (intsI ids)::rpNew b4::cmC b3 c sg sp::Hs) w,?_,?_⟩
  ·refine drw_rule hw fun w hw=>NilP.mk rfl ⟨x.state,At.own (fun _ h=>h) (by exact ⟨rfl,trivial⟩),Br.e (fun h1=>?_) (fun h1=>?_)⟩
   ·refine NilP.mk rfl ⟨x.till,At.own (fun _ h=>h) (by exact ⟨rfl,trivial⟩),NilP.mk rfl ⟨b'.now,At.own (fun _ h=>h) (by exact ⟨rfl,trivial⟩),?_,hw⟩⟩
    unfold old
    rw [decide_eq_true h1,Bool.true_and]
   ·refine ⟨?_,hw⟩
    unfold old
    rw [decide_eq_false h1,Bool.false_and]
  clear hw
  rintro _ _ w ⟨rfl,hw⟩
  have hexp:∀ b2,(if old b'.now x then dropB b' x else b')=b2→ticked b c.time=expAll (b.L.drop (j + 1)) b2:=fun b2 e=>by
   rw [hi.res,hdrop,←e]
   rfl
  have hwr:IntKind.i64.wrap ((j:Int) + 1)=((j + 1:Nat):Int):=by rw [wrap64 (by omega) (by omega)];omega
  rw [hwr]
  cases hold:old b'.now x with
  |false=>
   rw [hold] at hexp
   refine Br.f rfl ⟨⟨j + 1,b',rfl,hjl,⟨hexp _ rfl,hi.core,hi.now,fun y hy=>hi.left y (by rw [hdrop];exact List.mem_cons_of_mem _ hy)⟩,?_⟩,by dsimp only;omega⟩
   have hw:=open_close hl hMF hMB hw
   exact hw.swap
  |true=>
   rw [hold] at hexp
   have hst:x.state=1:=by
    unfold old at hold
    simp only [Bool.and_eq_true,decide_eq_true_eq] at hold
    exact hold.1
   refine Br.t rfl ?_
   refine drw_rule' (Sat R [pts p (bookC b' m1 m2),pts a (bkObj x),MapAt m1 MF,VC.tru]) hw (fun w hw=>?_) fun w hw=>?_
   ·exact (hw.arr (Hs':=pts p (bookC b' m1 m2)::pts a (bkObj x)::MapAt m1 MF::LoneAt f pl.r::QuAt q pl.q::MapAt m2 MB::FlsAt (A++C)::BksAt (A2++C2)::Own s 3 (intsI ids)::rpNew b4::cmC b3 c sg sp::Hs)).cons fun _ h=>h.cons fun _ h=>h.restTru2
   refine NilP.mk rfl ⟨some m1,At.own (fun _ h=>h) (by exact ⟨rfl,trivial⟩),NilP.mk rfl ⟨x.flt,At.own (fun _ h=>h) (by exact ⟨rfl,trivial⟩),some ⟨f,0,none⟩,some ⟨q,0,none⟩,fun w' h=>?_,?_⟩⟩
   ·have hm1:Sat R (MapAt m1 MF::pts p (bookC b' m1 m2)::pts a (bkObj x)::[VC.tru]) w':=Sat.arr h
    have:=MapAt.look pMap hm1 x.flt false
    rw [hgetf] at this
    exact this
   refine (lone_give hw).use ?_
   clear hw
   rintro _ w ⟨rfl,hw⟩
   refine .inl ⟨_,rfl,?_,NilP.mk rfl ⟨some m2,At.own (eqS hw) (by exact ⟨rfl,trivial⟩),?_⟩⟩
   ·exact (hw.arr (Hs':=pts p (bookC b' m1 m2)::pts a (bkObj x)::MapAt m1 MF::LoneAt f (rgiveF pl.r x.id).1::QuAt q pl.q::MapAt m2 MB::FlsAt (A++C)::BksAt (A2++C2)::Own s 3 (intsI ids)::rpNew b4::cmC b3 c sg sp::Hs)).cons fun _ h=>h.cons fun _ h=>h.restTru2
   have hw:Sat R (LoneAt f (giveP x.id pl).r::QuAt q (giveP x.id pl).q::pts a (bkObj x)::pts p (bookC (dropB b' x) m1 m2)::MapAt m1 MF::MapAt m2 MB::FlsAt (A++C)::BksAt (A2++C2)::Own s 3 (intsI ids)::rpNew b4::cmC b3 c sg sp::Hs) w:=hw
   have hw:Sat R (MapAt m2 MB::LoneAt f (giveP x.id pl).r::QuAt q (giveP x.id pl).q::pts a (bkObj x)::pts p (bookC (dropB b' x) m1 m2)::MapAt m1 MF::FlsAt (A++C)::BksAt (A2++C2)::Own s 3 (intsI ids)::rpNew b4::cmC b3 c sg sp::Hs) w:=hw.arr
   refine MapAt.del bMap hw x.id fun w hw=>?_
   rw [hMB,bk_vdel hbm] at hw
   have hn2:(giveP x.id pl).n=x.flt:=(give_num (r:=pl.r) (o:=x.id)).1.trans hm.num
   have hl2:BookL (dropB b' x) (A++(f,q,giveP x.id pl)::C) (A2++C2):=⟨hl.fset hm (giveP x.id),hl.bdel hi.core.ids⟩
   have hMF2:MF=(A++(f,q,giveP x.id pl)::C).map flV:=by rw [hMF];exact fl_vals hn2 hm.num
   have hlater:∀ y∈b.L.drop (j + 1),y.id≠x.id:=fun y hy=>by
    have h1:=k.ids.sublist (List.drop_sublist j b.L)
    rw [hdrop] at h1
    have:=(List.pairwise_cons.1 h1).1 y hy
    omega
   refine ⟨⟨j + 1,dropB b' x,rfl,hjl,⟨hexp _ rfl,core_drop hi.core hxL (by omega),hi.now,fun y hy=>?_⟩,?_⟩,by dsimp only;omega⟩
   ·exact mem_kdel.2 ⟨hi.left y (by rw [hdrop];exact List.mem_cons_of_mem _ hy),hlater y hy⟩
   ·have hw:Sat R (LoneAt f (giveP x.id pl).r::QuAt q (giveP x.id pl).q::pts p (bookC (dropB b' x) m1 m2)::MapAt m1 MF::MapAt m2 ((A2++C2).map bkV)::FlsAt (A++C)::BksAt (A2++C2)::Own s 3 (intsI ids)::pts a (bkObj x)::rpNew b4::cmC b3 c sg sp::Hs) w:=hw.arr
    have hw:=book_close hl2 hMF2 rfl hw
    exact hw.swap.cons fun _ h=>h.cons fun _ h=>h.drop
 ·have hje:j=b.L.length:=by omega
  subst hje
  have htk:ticked b c.time=b':=by rw [hi.res,List.drop_length];rfl
  obtain ⟨m1,m2,fs,xs,hl,hw⟩:=Sat.book.1 hw.swap
  refine NilP.mk rfl ⟨some m1,At.own (eqS hw) (by exact ⟨rfl,trivial⟩),?_⟩
  have hw:Sat R (MapAt m1 (fs.map flV)::pts p (bookC b' m1 m2)::MapAt m2 (xs.map bkV)::FlsAt fs::BksAt xs::Own s 3 (intsI ids)::rpNew b4::cmC b3 c sg sp::Hs) w:=hw.arr
  refine keys_x (sortF_rule hi.core hl hw ?_)
  clear hw
  intro s2 w hw
  obtain ⟨ns,hns⟩:∃ ns,ns=b'.fl.map Pl.n:=⟨_,rfl⟩
  rw [←hns] at hw
  have hnl:ns.length≤8:=by rw [hns,List.length_map];exact hi.core.few
  have hkeys:=(ticked_ok k htm).2.2.2.2
  rw [htk,←hns] at hkeys
  rw [←hkeys,htk] at hclock
  have hw:Sat R (Own s2 3 (intsI ns)::BookAt p b'::Own s 3 (intsI ids)::rpNew b4::cmC b3 c sg sp::Hs) w:=by
   refine hw.cons fun _ hw=>Sat.book.2 ⟨m1,m2,fs,xs,hl,?_⟩
   exact hw.arr
  refine ⟨fun t w=>∃ (j:Nat) (b2:Book),t=j∧j≤ns.length∧PromA ns c.time b' j b2∧Sat R (Own s2 3 (intsI ns)::BookAt p b2::Own s 3 (intsI ids)::rpNew b4::cmC b3 c sg sp::Hs) w,fun t _=>ns.length - t.toNat,⟨0,b',rfl,Nat.zero_le _,⟨rfl,hi.core,hi.now,hns.symm⟩,hw⟩,?_⟩
  clear hw
  rintro _ _ w ⟨j,b2,rfl,hj,hi2,hw⟩
  have hsl2:=Own.len hw
  rw [List.length_map] at hsl2
  refine Br.d (fun hlt=>?_) (fun hge=>?_)
  ·have hjl:j<ns.length:=by omega
   obtain ⟨n,hn⟩:∃ n,n=ns[j]:=⟨_,rfl⟩
   have hdrop:ns.drop j=n::ns.drop (j + 1):=by rw [hn];exact List.drop_eq_getElem_cons hjl
   refine Own.ix hw (eqS hw) j rfl hjl ?_
   rw [←hn]
   have hwr:IntKind.i64.wrap ((j:Int) + 1)=((j + 1:Nat):Int):=by rw [wrap64 (by omega) (by omega)];omega
   rw [hwr]
   refine (prom_book hi2.core (by rw [hi2.nums,hn];exact List.getElem_mem hjl) hw.swap).use ?_
   clear hw
   rintro _ w ⟨rfl,hw⟩
   have hok:=promote_ok (n:=n) hi2.core
   refine .inl ⟨rfl,⟨j + 1,promote n b2,rfl,hjl,⟨?_,hok.1,hok.2.1.now.trans hi2.now,hok.2.1.keys.trans hi2.nums⟩,hw.swap⟩,by dsimp only;omega⟩
   rw [hi2.res,hdrop]
   rfl
  ·have hje:j=ns.length:=by omega
   subst hje
   have hfin:promAll ns b'=b2:=by rw [hi2.res,List.drop_length];rfl
   rw [hfin] at hclock
   obtain ⟨m1,m2,fs,xs,hl,hw⟩:=Sat.book.1 hw.swap
   refine NilP.mk rfl ⟨b2.now,At.own (eqS hw) (by exact ⟨rfl,trivial⟩),?_⟩
   rw [hi2.now]
   have hw:Sat R (rpNew b4::pts p (bookC b2 m1 m2)::MapAt m1 (fs.map flV)::MapAt m2 (xs.map bkV)::FlsAt fs::BksAt xs::Own s2 3 (intsI ns)::Own s 3 (intsI ids)::cmC b3 c sg sp::Hs) w:=hw.arr
   refine store_rule hw (by kernel_rfl) rfl (by simp [Value.cells]) fun w hw=>?_
   have hw:=hw.re (rpC b4 ⟨0,emS,0,0,0,0,c.time,[],[]⟩ nilSl nilSl)
   refine ⟨_,_,_,_,_,_,_,nilSl,nilSl,At.own (eqS hw) (by exact ⟨rfl,rfl,rfl,rfl,rfl,rfl,rfl,rfl,rfl,trivial⟩),hK w ht ?_⟩
   rw [hclock]
   exact (Sat.book.2 ⟨m1,m2,fs,xs,hl,hw.drop⟩).cons fun _ h=>h.drop.drop.drop
end Go.Proofs.YtfgbbckfikiomaaGreatDoor
/- Package booking: Show, Apply. Condition: bounds. -/
namespace Go.Proofs.YtfgbbckfikiomaaGreatDoor
set_option linter.unusedVariables false
open Go Go.VC
open Classical
variable {R:Cx} {Hs Rest:List HP} {w:World}
abbrev cmA (c:Cm) (sg sp:Sl):Value:=.agg #[.int .i64 c.kind,.string c.pnr,.int .i64 c.flt,.int .i64 c.cls,.int .i64 c.many,.int .i64 c.time,.float .f64 c.sc,.string c.lab,.int .i64 c.rows,.slice sg.a sg.len sg.cap,.slice sp.a sp.len sp.cap]
abbrev RetK (b4:Nat) (K:Value→World→Prop) (w:World):Prop:=
 ∃ u:Int,∃ u1:ByteArray,∃ u2:Int,∃ u3:Int,∃ u4:Int,∃ u5:Int,∃ u6:Int,∃ u7:Sl,∃ u8:Sl,(At (fun w'=>w'=w) ⟨b4,0,none⟩ [.int .i64 u,.string u1,.int .i64 u2,.int .i64 u3,.int .i64 u4,.int .i64 u5,.int .i64 u6,.slice u7.a u7.len u7.cap,.slice u8.a u8.len u8.cap])∧
  K (.agg #[.int .i64 u,.string u1,.int .i64 u2,.int .i64 u3,.int .i64 u4,.int .i64 u5,.int .i64 u6,.slice u7.a u7.len u7.cap,.slice u8.a u8.len u8.cap]) w
theorem retK {b4:Nat} {r:Rp} {sl sb:Sl} {K:Value→World→Prop} (hw:Sat R (rpC b4 r sl sb::Hs) w) (k:K (.agg (rpV r sl sb).toArray) w):RetK b4 K w:=
 ⟨_,_,_,_,_,_,_,sl,sb,At.own (eqS hw) (by exact ⟨rfl,rfl,rfl,rfl,rfl,rfl,rfl,rfl,rfl,trivial⟩),k⟩
theorem reply_ok {b4:Nat} {r r0:Rp} {sl sb l0 b0:Sl} {K:Value→World→Prop} (hw:Sat R (rpC b4 r0 l0 b0::Hs) w) (k:∀ w',Sat R Hs w'→K (.agg (rpV r sl sb).toArray) w'):
  ∃ t0:Int,∃ t1:ByteArray,∃ t2:Int,∃ t3:Int,∃ t4:Int,∃ t5:Int,∃ t6:Int,∃ t7:Sl,∃ t8:Sl,(Ending.returned (.agg (rpV r sl sb).toArray)=.returned (.agg #[.int .i64 t0,.string t1,.int .i64 t2,.int .i64 t3,.int .i64 t4,.int .i64 t5,.int .i64 t6,.slice t7.a t7.len t7.cap,.slice t8.a t8.len t8.cap]))∧
   ∃ w_6:World,((Instr.storeAt 31 (.pointer ((some ⟨b4,0,none⟩))) (.agg #[.int .i64 t0,.string t1,.int .i64 t2,.int .i64 t3,.int .i64 t4,.int .i64 t5,.int .i64 t6,.slice t7.a t7.len t7.cap,.slice t8.a t8.len t8.cap])).run Tryz.prog w=.ok () w_6)∧
    LeaveF Tryz.prog 39 [.pointer ((some ⟨b4,0,none⟩))] .returning (RetK b4 K) w_6:=by
 refine ⟨_,_,_,_,_,_,_,sl,sb,rfl,?_⟩
 refine store_rule hw (by kernel_rfl) rfl (by simp [Value.cells]) fun w hw=>?_
 have hw:=hw.re (rpC b4 r sl sb)
 exact caughtR (retK hw (k w hw.drop))
theorem reply_err {b4:Nat} {r0:Rp} {l0 b0:Sl} {e:Int} {K:Value→World→Prop} (hw:Sat R (rpC b4 r0 l0 b0::Hs) w) (k:∀ w',Sat R Hs w'→K (.agg (rpV (errR e) nilSl nilSl).toArray) w'):
  LeaveF Tryz.prog 39 [.pointer ((some ⟨b4,0,none⟩))] (.panicking (errP e)) (RetK b4 K) w:=
 caughtP hw fun w hw=>retK hw (k w hw.drop)
theorem rpNew_c {b4:Nat} (hw:Sat R (rpNew b4::Hs) w):Sat R (rpC b4 ⟨0,emS,0,0,0,0,0,[],[]⟩ nilSl nilSl::Hs) w:=hw
def BookOp (p a:Nat) (b:Book) (x:Bk) (R:Cx) (Hs:List HP) (w:World):Prop:=∃ (m1 m2:Nat) (fs:List FE) (A2 C2:List BE),BookL b fs (A2++(a,x)::C2)∧BkMid A2 C2 x∧
 Sat R (pts p (bookC b m1 m2)::MapAt m1 (fs.map flV)::MapAt m2 ((A2++(a,x)::C2).map bkV)::FlsAt fs::BksAt (A2++(a,x)::C2)::Hs) w
theorem named_book {p:Nat} {b:Book} {s:ByteArray} (k:Core b) (hw:Sat R (BookAt p b::Hs) w):
  GetsX Tryz.prog 46 #[.pointer (some ⟨p,0,none⟩),.string s] w
   (fun ch w'=>∃ e,ch=errP e∧namedB b s=(none,e)∧Sat R (BookAt p b::Hs) w')
   (fun v w'=>∃ a x,v=.pointer (some ⟨a,0,none⟩)∧namedB b s=(some x,0)∧x∈b.L∧BookOp p a b x R Hs w'):=by
 obtain ⟨m1,m2,fs,xs,hl,hw⟩:=Sat.book.1 hw
 have hw:Sat R (pts p (bookC b m1 m2)::MapAt m2 (xs.map bkV)::MapAt m1 (fs.map flV)::FlsAt fs::BksAt xs::Hs) w:=hw.arr
 refine (bnamed_spec hw).use ?_ ?_
 ·clear hw
  rintro _ w ⟨⟨v1,h0,hg,rfl⟩,hw⟩
  refine .inl ⟨_,rfl,?_⟩
  cases hbk:b.bk (locRd (bytesL s)).1 with
  |none=>rw [(bk_none hl).2 hbk] at hg;cases hg
  |some x=>
   have hx:=(bk_iff k).1 hbk
   obtain ⟨A2,a,C2,rfl,hbm⟩:=bk_split hl k.ids hx.1
   have:=bk_get (a:=a) hbm
   rw [hx.2,hg] at this
   simp only [Option.some.injEq,Value.pointer.injEq] at this
   subst this
   refine ⟨a,x,rfl,?_,hx.1,m1,m2,fs,A2,C2,hl,hbm,?_⟩
   ·unfold namedB
    rw [if_neg (fun h=>h h0),hbk]
   ·exact hw.arr
 ·clear hw
  rintro _ w ⟨⟨e,rfl,he⟩,hw⟩
  refine .inr ⟨_,rfl,e,rfl,?_,Sat.book.2 ⟨m1,m2,fs,xs,hl,?_⟩⟩
  ·rcases he with ⟨h0,rfl⟩|⟨h0,rfl,hg⟩
   ·unfold namedB
    rw [if_pos h0]
   ·unfold namedB
    rw [if_neg (fun h=>h h0),(bk_none hl).1 hg]
  ·exact hw.arr
theorem BookOp.close {p a:Nat} {b:Book} {x:Bk} (h:BookOp p a b x R Hs w):Sat R (BookAt p b::Hs) w:=by
 obtain ⟨m1,m2,fs,A2,C2,hl,_,hw⟩:=h
 exact Sat.book.2 ⟨m1,m2,fs,_,hl,hw⟩
theorem told_book {p a:Nat} {b:Book} {x:Bk} (k:Core b) (h:BookOp p a b x R Hs w):
  Gets Tryz.prog 56 #[.pointer (some ⟨p,0,none⟩),.pointer (some ⟨a,0,none⟩)] w fun v w'=>∃ sl sb:Sl,v=.agg (rpV (tellB b x) sl sb).toArray∧
   Sat R (Own sl 3 (intsI (tellB b x).left)::Own sb 9 ((tellB b x).labs.map Value.string)::BookAt p b::Hs) w':=by
 obtain ⟨m1,m2,fs,A2,C2,hl,hbm,hw⟩:=h
 have hxL:x∈b.L:=by rw [←hl.bk];exact List.mem_map.2 ⟨(a,x),by simp,rfl⟩
 have hnx:=k.next
 have hbk:=(k.each x hxL).id
 obtain ⟨pl,hat⟩:=k.at_of hxL
 obtain ⟨A,f,q,C,rfl,hm⟩:=fl_split hl k.nums hat
 have htell:tellB b x=tellP pl x:=by unfold tellB;rw [hat]
 rw [htell]
 obtain ⟨MF,hMF⟩:∃ M,M=(A++(f,q,pl)::C).map flV:=⟨_,rfl⟩
 obtain ⟨MB,hMB⟩:∃ M,M=(A2++(a,x)::C2).map bkV:=⟨_,rfl⟩
 rw [←hMF,←hMB] at hw
 have hw:Sat R (FlsAt (A++(f,q,pl)::C)::BksAt (A2++(a,x)::C2)::pts p (bookC b m1 m2)::MapAt m1 MF::MapAt m2 MB::Hs) w:=hw.arr
 have hw:=fls_mid.1 hw
 have hw:Sat R (BksAt (A2++(a,x)::C2)::LoneAt f pl.r::QuAt q pl.q::FlsAt (A++C)::pts p (bookC b m1 m2)::MapAt m1 MF::MapAt m2 MB::Hs) w:=hw.arr
 have hw:=bks_mid.1 hw
 have hw:Sat R (pts p (bookC b m1 m2)::MapAt m1 MF::pts a (bkObj x)::LoneAt f pl.r::QuAt q pl.q::MapAt m2 MB::FlsAt (A++C)::BksAt (A2++C2)::Hs) w:=hw.arr
 rw [hMF] at hw
 refine (told_spec (by omega) hm hw).use ?_
 clear hw
 rintro _ w ⟨sl,sb,rfl,hw⟩
 refine ⟨_,rfl,sl,sb,rfl,?_⟩
 refine hw.cons fun _ hw=>hw.cons fun _ hw=>?_
 rw [←hMF] at hw
 have hw:Sat _ (LoneAt f pl.r::QuAt q pl.q::pts a (bkObj x)::pts p (bookC b m1 m2)::MapAt m1 MF::MapAt m2 MB::FlsAt (A++C)::BksAt (A2++C2)::Hs) w:=hw.arr
 exact open_close hl hMF hMB hw
set_option maxHeartbeats 1000000 in
theorem show_spec {p:Nat} {b:Book} {c:Cm} {sg sp:Sl} (k:Core b) (hg:RoI R sg c.grps) (hgl:c.grps.length≤17592186043904) (hp:sp.len=c.parts.length) (hw:Sat R (BookAt p b::Hs) w):
  Gets Tryz.prog 19 #[.pointer (some ⟨p,0,none⟩),cmA c sg sp] w
   fun v w'=>∃ sl sb:Sl,v=.agg (rpV (showB b c) sl sb).toArray∧Sat R (Own sl 3 (intsI (showB b c).left)::Own sb 9 ((showB b c).labs.map Value.string)::BookAt p b::Hs) w':=by
 apply call19
 suffices H:∀ K:Value→World→Prop,(∀ sl sb w',Sat R (Own sl 3 (intsI (showB b c).left)::Own sb 9 ((showB b c).labs.map Value.string)::BookAt p b::Hs) w'→K (.agg (rpV (showB b c) sl sb).toArray) w')→B19 (some ⟨p,0,none⟩) c.kind c.pnr c.flt c.cls c.many c.time c.sc c.lab c.rows sg sp K w from
  H _ (fun sl sb w' h=>⟨sl,sb,rfl,h⟩)
 intro K hK
 have hKe:∀ e w',showB b c=errR e→Sat R (BookAt p b::Hs) w'→K (.agg (rpV (errR e) nilSl nilSl).toArray) w':=fun e w' he hw=>by
  have:=hK nilSl nilSl w'
  rw [he] at this
  exact this (Own.nil (Own.nil hw))
 refine new_rule hw fun b3 w hw=>new_rule hw fun b4 w hw=>?_
 have hw:Sat R (rpNew b4::cmC b3 c sg sp::BookAt p b::Hs) w:=hw
 refine ⟨fun w=>(RightC c∧c.kind=9)∧Sat R (rpNew b4::cmC b3 c sg sp::BookAt p b::Hs) w,?_,?_⟩
 ·refine ⟨c.kind,c.pnr,c.flt,c.cls,c.many,c.time,c.sc,c.lab,c.rows,sg,sp,At.own (eqS hw) (by exact ⟨rfl,rfl,rfl,rfl,rfl,rfl,rfl,rfl,rfl,rfl,rfl,trivial⟩),?_⟩
  refine (bright_spec hg hgl hp hw).use ?_
  clear hw
  rintro _ w ⟨rfl,hw⟩
  refine .inl ⟨_,rfl,Br.d (fun hr=>?_) (fun hr=>?_)⟩
  ·refine ⟨c.kind,At.own (eqS hw) (by exact ⟨rfl,trivial⟩),?_⟩
   refine need_c (fun h=>.inl ⟨rfl,⟨hr,by simpa using h⟩,hw⟩) (fun h=>.inr ⟨_,rfl,reply_err (rpNew_c hw) fun w hw=>hKe 1 w ?_ hw.drop⟩)
   unfold showB
   rw [if_pos (.inr (by simpa using h))]
  ·refine need_c (fun h=>by cases h) (fun h=>.inr ⟨_,rfl,reply_err (rpNew_c hw) fun w hw=>hKe 1 w ?_ hw.drop⟩)
   unfold showB
   rw [if_pos (.inl hr)]
 clear hw
 rintro _ w ⟨hr,hw⟩
 have hno:¬ (¬ RightC c∨c.kind≠9):=fun h=>h.elim (fun h=>h hr.1) (fun h=>h hr.2)
 refine ⟨c.pnr,At.own (eqS hw) (by exact ⟨rfl,trivial⟩),Br.sne (fun hs=>?_) (fun hs=>?_)⟩
 ·refine ⟨c.pnr,At.own (eqS hw) (by exact ⟨rfl,trivial⟩),?_⟩
  have hs':c.pnr≠emS:=hs
  have hshow:∀ y,namedB b c.pnr=y→showB b c=(match y with|(none,e)=>errR e|(some x,_)=>tellB b x):=fun y hy=>by
   unfold showB
   rw [if_neg hno,if_pos hs',hy]
   obtain ⟨o,e⟩:=y
   cases o<;>rfl
  have hw:Sat R (BookAt p b::rpNew b4::cmC b3 c sg sp::Hs) w:=hw.arr
  refine (named_book k hw).use ?_ ?_
  ·clear hw
   rintro _ w ⟨a,x,rfl,hn,hxL,hw⟩
   have hsh:=hshow _ hn
   refine .inl ⟨_,rfl,?_⟩
   refine (told_book k hw).use ?_
   clear hw
   rintro _ w ⟨sl,sb,rfl,hw⟩
   refine .inl ?_
   have hw:Sat R (rpNew b4::Own sl 3 (intsI (tellB b x).left)::Own sb 9 ((tellB b x).labs.map Value.string)::BookAt p b::cmC b3 c sg sp::Hs) w:=hw.arr
   refine reply_ok (rpNew_c hw) fun w hw=>?_
   have:=hK sl sb w
   rw [hsh] at this
   exact this (hw.cons fun _ h=>h.cons fun _ h=>h.cons fun _ h=>h.drop)
  ·clear hw
   rintro _ w ⟨e,rfl,hn,hw⟩
   have hw:Sat R (rpNew b4::BookAt p b::cmC b3 c sg sp::Hs) w:=hw.swap
   exact .inr ⟨_,rfl,reply_err (rpNew_c hw) fun w hw=>hKe e w (hshow _ hn) (hw.cons fun _ h=>h.drop)⟩
 ·have hs':¬ c.pnr≠emS:=fun h=>h hs
  have hshow:∀ y,b.at c.flt=y→showB b c=(match y with|none=>errR 2|some p=>⟨0,emS,0,c.flt,0,(p.q.length:Int),0,rleftsF p.r,[]⟩):=fun y hy=>by
   unfold showB
   rw [if_neg hno,if_neg hs',hy]
   cases y<;>rfl
  refine ⟨c.flt,At.own (eqS hw) (by exact ⟨rfl,trivial⟩),?_⟩
  have hw:Sat R (BookAt p b::rpNew b4::cmC b3 c sg sp::Hs) w:=hw.arr
  obtain ⟨m1,m2,fs,xs,hl,hw⟩:=Sat.book.1 hw
  refine (bat_spec hw).use ?_ ?_
  ·clear hw
   rintro _ w ⟨⟨v1,v2,hgm,rfl⟩,hw⟩
   obtain ⟨A,f,q,C,pl,rfl,hm,hat,hv⟩:=fl_found hl k hgm
   simp only [Value.agg.injEq,Array.mk.injEq,List.cons.injEq,Value.pointer.injEq,and_true] at hv
   obtain ⟨rfl,rfl⟩:=hv
   have hsh:=hshow _ hat
   have hpl:=at_some hat
   have hqok:=k.qok pl hpl.1
   obtain ⟨MF,hMF⟩:∃ M,M=(A++(f,q,pl)::C).map flV:=⟨_,rfl⟩
   obtain ⟨MB,hMB⟩:∃ M,M=xs.map bkV:=⟨_,rfl⟩
   rw [←hMF,←hMB] at hw
   have hw:Sat R (FlsAt (A++(f,q,pl)::C)::cmC b3 c sg sp::rpNew b4::pts p (bookC b m1 m2)::MapAt m1 MF::MapAt m2 MB::BksAt xs::Hs) w:=hw.arr
   have hw:=fls_mid.1 hw
   refine .inl ⟨_,_,rfl,?_⟩
   refine new_rule hw fun b5 w hw=>?_
   refine store_rule hw (by kernel_rfl) rfl (by simp [Value.cells]) fun w hw=>?_
   have hw:=hw.re (fqC b5 f q)
   have toS:∀ {A:List HP} {R:Cx} {w:World},Sat R (cmC b3 c sg sp::fqC b5 f q::A) w→Sat R [cmC b3 c sg sp,fqC b5 f q,VC.tru] w:=fun h=>h.cons fun _ h=>h.restTru2
   refine drw_rule' (Sat R [cmC b3 c sg sp,fqC b5 f q,VC.tru]) hw (fun w hw=>?_) fun w hw=>?_
   ·exact toS (hw.arr (Hs':=cmC b3 c sg sp::fqC b5 f q::LoneAt f pl.r::QuAt q pl.q::FlsAt (A++C)::rpNew b4::pts p (bookC b m1 m2)::MapAt m1 MF::MapAt m2 MB::BksAt xs::Hs))
   refine ⟨c.flt,At.own (fun _ h=>h) (by exact ⟨rfl,trivial⟩),some ⟨f,0,none⟩,At.own (fun _ h=>h) (by exact ⟨rfl,trivial⟩),some ⟨q,0,none⟩,At.own (fun _ h=>h) (by exact ⟨rfl,trivial⟩),?_⟩
   refine (lone_left hw.swap).use ?_
   clear hw
   rintro _ w ⟨sl,rfl,hw⟩
   refine .inl ⟨sl,rfl,?_,?_⟩
   ·exact toS (hw.arr (Hs':=cmC b3 c sg sp::fqC b5 f q::Own sl 3 (intsI (rleftsF pl.r))::LoneAt f pl.r::QuAt q pl.q::FlsAt (A++C)::rpNew b4::pts p (bookC b m1 m2)::MapAt m1 MF::MapAt m2 MB::BksAt xs::Hs))
   have hw:Sat R (QuAt q pl.q::Own sl 3 (intsI (rleftsF pl.r))::LoneAt f pl.r::FlsAt (A++C)::cmC b3 c sg sp::fqC b5 f q::rpNew b4::pts p (bookC b m1 m2)::MapAt m1 MF::MapAt m2 MB::BksAt xs::Hs) w:=hw.arr
   refine (qall_spec (by have:=hqok.len;omega) hw).use ?_
   clear hw
   rintro _ w ⟨t,rfl,hw⟩
   have htl:=OwnN.len hw
   rw [List.length_map] at htl
   have hw:=hw.drop
   refine .inl ⟨t,rfl,?_,?_⟩
   ·exact toS (hw.arr (Hs':=cmC b3 c sg sp::fqC b5 f q::QuAt q pl.q::Own sl 3 (intsI (rleftsF pl.r))::LoneAt f pl.r::FlsAt (A++C)::rpNew b4::pts p (bookC b m1 m2)::MapAt m1 MF::MapAt m2 MB::BksAt xs::Hs))
   rw [htl]
   have hw:Sat R (rpNew b4::Own sl 3 (intsI (rleftsF pl.r))::LoneAt f pl.r::QuAt q pl.q::pts p (bookC b m1 m2)::MapAt m1 MF::MapAt m2 MB::FlsAt (A++C)::BksAt xs::cmC b3 c sg sp::fqC b5 f q::Hs) w:=hw.arr
   refine store_rule hw (by kernel_rfl) rfl (by simp [Value.cells]) fun w hw=>?_
   have hw:=hw.re (rpC b4 ⟨0,emS,0,c.flt,0,(pl.q.length:Int),0,rleftsF pl.r,[]⟩ sl nilSl)
   refine caughtR (retK hw ?_)
   have:=hK sl nilSl w
   rw [hsh] at this
   refine this ?_
   refine hw.drop.cons fun _ hw=>Own.nil ?_
   exact (book_close hl hMF hMB hw).cons fun _ h=>h.drop.drop
  ·clear hw
   rintro _ w ⟨rfl,hno2,hw⟩
   have hw:Sat R (rpNew b4::cmC b3 c sg sp::pts p (bookC b m1 m2)::MapAt m1 (fs.map flV)::MapAt m2 (xs.map bkV)::FlsAt fs::BksAt xs::Hs) w:=hw.arr
   refine .inr ⟨_,rfl,reply_err (rpNew_c hw) fun w hw=>hKe 2 w (hshow _ ((fl_none hl).1 hno2)) (Sat.book.2 ⟨m1,m2,fs,xs,hl,hw.drop⟩)⟩
theorem apply_part {g:FuncId} {ars:Array Value} {p b3 b4:Nat} {b nb:Book} {c:Cm} {res:Rp} {sg sp:Sl} {K:Value→World→Prop}
  (h:GetsX Tryz.prog g ars w (fun ch w'=>∃ e,ch=errP e∧(nb,res)=(b,errR e)∧Sat R (BookAt p b::rpNew b4::cmC b3 c sg sp::Hs) w')
   (fun v w'=>∃ sl sb:Sl,v=.agg (rpV res sl sb).toArray∧Sat R (Own sl 3 (intsI res.left)::Own sb 9 (res.labs.map Value.string)::BookAt p nb::rpNew b4::cmC b3 c sg sp::Hs) w'))
  (hK:∀ sl sb w',Sat R (Own sl 3 (intsI res.left)::Own sb 9 (res.labs.map Value.string)::BookAt p nb::Hs) w'→K (.agg (rpV res sl sb).toArray) w'):
  Calls Tryz.prog g ars w fun e w_5=>
   (∃ t0:Int,∃ t1:ByteArray,∃ t2:Int,∃ t3:Int,∃ t4:Int,∃ t5:Int,∃ t6:Int,∃ t7:Sl,∃ t8:Sl,(e=.returned (.agg #[.int .i64 t0,.string t1,.int .i64 t2,.int .i64 t3,.int .i64 t4,.int .i64 t5,.int .i64 t6,.slice t7.a t7.len t7.cap,.slice t8.a t8.len t8.cap]))∧
    ∃ w_6:World,((Instr.storeAt 31 (.pointer ((some ⟨b4,0,none⟩))) (.agg #[.int .i64 t0,.string t1,.int .i64 t2,.int .i64 t3,.int .i64 t4,.int .i64 t5,.int .i64 t6,.slice t7.a t7.len t7.cap,.slice t8.a t8.len t8.cap])).run Tryz.prog w_5=.ok () w_6)∧
    LeaveF Tryz.prog 39 [.pointer ((some ⟨b4,0,none⟩))] .returning (fun w_7=>RetK b4 K w_7) w_6)∨
   (∃ ch:List PanicEntry,(e=.panicked ch)∧LeaveF Tryz.prog 39 [.pointer ((some ⟨b4,0,none⟩))] (.panicking ch) (fun w_8=>RetK b4 K w_8) w_5):=by
 refine h.use ?_ ?_
 ·rintro _ w ⟨sl,sb,rfl,hw⟩
  have hw:Sat R (rpNew b4::Own sl 3 (intsI res.left)::Own sb 9 (res.labs.map Value.string)::BookAt p nb::cmC b3 c sg sp::Hs) w:=hw.arr
  exact .inl (reply_ok (rpNew_c hw) fun w hw=>hK sl sb w (hw.cons fun _ h=>h.cons fun _ h=>h.cons fun _ h=>h.drop))
 ·rintro _ w ⟨e,rfl,he,hw⟩
  have h1:=congrArg Prod.fst he
  have h2:=congrArg Prod.snd he
  dsimp only at h1 h2
  subst h1 h2
  exact .inr ⟨_,rfl,reply_err (rpNew_c hw.swap) fun w hw=>hK nilSl nilSl w (Own.nil (Own.nil (hw.cons fun _ h=>h.drop)))⟩
set_option maxHeartbeats 2000000 in
theorem apply_spec {p:Nat} {b:Book} {c:Cm} {sg sp:Sl} (k:BookOk b) (hsc:c.sc<18446744073709551616) (hg:RoI R sg c.grps) (hgl:c.grps.length≤17592186043904) (hp:SlR R.m sp (flts c.parts)) (hw:Sat R (BookAt p b::Hs) w):
  Gets Tryz.prog 15 #[.pointer (some ⟨p,0,none⟩),cmA c sg sp] w
   fun v w'=>∃ sl sb:Sl,v=.agg (rpV (applyB b c).2 sl sb).toArray∧Sat R (Own sl 3 (intsI (applyB b c).2.left)::Own sb 9 ((applyB b c).2.labs.map Value.string)::BookAt p (applyB b c).1::Hs) w':=by
 have hplen:sp.len=c.parts.length:=by have:=hp.len;simpa using this
 apply call15
 suffices H:∀ K:Value→World→Prop,(∀ sl sb w',Sat R (Own sl 3 (intsI (applyB b c).2.left)::Own sb 9 ((applyB b c).2.labs.map Value.string)::BookAt p (applyB b c).1::Hs) w'→K (.agg (rpV (applyB b c).2 sl sb).toArray) w')→B15 (some ⟨p,0,none⟩) c.kind c.pnr c.flt c.cls c.many c.time c.sc c.lab c.rows sg sp K w from
  H _ (fun sl sb w' h=>⟨sl,sb,rfl,h⟩)
 intro K hK
 refine new_rule hw fun b3 w hw=>new_rule hw fun b4 w hw=>?_
 have hw:Sat R (rpNew b4::cmC b3 c sg sp::BookAt p b::Hs) w:=hw
 refine ⟨c.kind,c.pnr,c.flt,c.cls,c.many,c.time,c.sc,c.lab,c.rows,sg,sp,At.own (eqS hw) (by exact ⟨rfl,rfl,rfl,rfl,rfl,rfl,rfl,rfl,rfl,rfl,rfl,trivial⟩),?_⟩
 refine (bright_spec hg hgl hplen hw).use ?_
 clear hw
 rintro _ w ⟨rfl,hw⟩
 refine .inl ⟨_,rfl,need_c (fun h=>.inl ⟨rfl,?_⟩) (fun h=>.inr ⟨_,rfl,?_⟩)⟩
 rotate_left
 ·have hr:¬ RightC c:=of_decide_eq_false h
  have e:applyB b c=(b,errR 1):=by unfold applyB;rw [if_pos hr]
  rw [e] at hK
  exact reply_err (rpNew_c hw) fun w hw=>hK nilSl nilSl w (Own.nil (Own.nil hw.drop))
 have hr:RightC c:=of_decide_eq_true h
 have hrr:¬ ¬ RightC c:=fun h=>h hr
 have hw:Sat R (BookAt p b::rpNew b4::cmC b3 c sg sp::Hs) w:=hw.arr
 refine ⟨c.kind,At.own (eqS hw) (by exact ⟨rfl,trivial⟩),Br.e (fun h1=>?_) (fun h1=>?_)⟩
 ·refine ⟨c.kind,c.pnr,c.flt,c.cls,c.many,c.time,c.sc,c.lab,c.rows,sg,sp,At.own (eqS hw) (by exact ⟨rfl,rfl,rfl,rfl,rfl,rfl,rfl,rfl,rfl,rfl,rfl,trivial⟩),?_⟩
  have e:applyB b c=openB b c:=by unfold applyB;rw [if_neg hrr,if_pos h1]
  rw [e] at hK
  refine apply_part (b:=b) (nb:=(openB b c).1) (res:=(openB b c).2) (c:=c) (p:=p) (b3:=b3) (sg:=sg) (sp:=sp) ?_ hK
  refine (bopen_spec (by have:=k.core.few;omega) hg hp hw).use ?_ ?_
  ·rintro _ w ⟨he,sl,rfl,hw⟩
   refine .inl ⟨_,rfl,sl,nilSl,?_⟩
   rw [he]
   exact ⟨rfl,hw.cons fun _ h=>Own.nil h⟩
  ·rintro _ w ⟨e,rfl,he,hw⟩
   exact .inr ⟨_,rfl,e,rfl,he,hw⟩
 refine ⟨fun t w=>t=decide (c.kind=2∨c.kind=7)∧Sat R (BookAt p b::rpNew b4::cmC b3 c sg sp::Hs) w,?_,?_⟩
 ·refine Br.e (fun h2=>⟨?_,hw⟩) (fun h2=>⟨?_,hw⟩)
  ·rw [decide_eq_true (.inl h2),h2];rfl
  ·by_cases h7:c.kind=7
   ·rw [decide_eq_true (.inr h7),h7];rfl
   ·rw [decide_eq_false (by omega)]
    exact beq_eq_false_iff_ne.2 h7
 clear hw
 rintro _ _ w ⟨rfl,hw⟩
 refine Br.d (fun h27=>?_) (fun h27=>?_)
 ·refine ⟨c.kind,c.pnr,c.flt,c.cls,c.many,c.time,c.sc,c.lab,c.rows,sg,sp,At.own (eqS hw) (by exact ⟨rfl,rfl,rfl,rfl,rfl,rfl,rfl,rfl,rfl,rfl,rfl,trivial⟩),?_⟩
  rcases h27 with h2|h7
  ·have e:applyB b c=heldB b c:=by unfold applyB;rw [if_neg hrr,if_neg h1,if_pos h2]
   rw [e] at hK
   exact apply_part (b:=b) (nb:=(heldB b c).1) (res:=(heldB b c).2) (c:=c) (p:=p) (ask2_spec h2 k.core hr hw) hK
  ·have e:applyB b c=waitB b c:=by unfold applyB;rw [if_neg hrr,if_neg h1,if_neg (by omega),if_pos h7]
   rw [e] at hK
   exact apply_part (b:=b) (nb:=(waitB b c).1) (res:=(waitB b c).2) (c:=c) (p:=p) (ask7_spec h7 k hr hsc hw) hK
 refine Br.e (fun h8=>?_) (fun h8=>Br.e (fun h9=>?_) (fun h9=>?_))
 ·refine ⟨c.kind,c.pnr,c.flt,c.cls,c.many,c.time,c.sc,c.lab,c.rows,sg,sp,At.own (eqS hw) (by exact ⟨rfl,rfl,rfl,rfl,rfl,rfl,rfl,rfl,rfl,rfl,rfl,trivial⟩),?_⟩
  have e:applyB b c=clockB b c:=by unfold applyB;rw [if_neg hrr,if_neg h1,if_neg (by omega),if_neg (by omega),if_pos h8]
  rw [e] at hK
  exact apply_part (b:=b) (nb:=(clockB b c).1) (res:=(clockB b c).2) (c:=c) (p:=p) (clock_spec k.core hr hw) hK
 ·refine ⟨c.kind,c.pnr,c.flt,c.cls,c.many,c.time,c.sc,c.lab,c.rows,sg,sp,At.own (eqS hw) (by exact ⟨rfl,rfl,rfl,rfl,rfl,rfl,rfl,rfl,rfl,rfl,rfl,trivial⟩),?_⟩
  have e:applyB b c=(b,showB b c):=by unfold applyB;rw [if_neg hrr,if_neg h1,if_neg (by omega),if_neg (by omega),if_neg h8,if_pos h9]
  rw [e] at hK
  refine apply_part (b:=b) (nb:=b) (res:=showB b c) (c:=c) (p:=p) (b3:=b3) (sg:=sg) (sp:=sp) ?_ hK
  refine (show_spec k.core hg hgl hplen hw).use ?_
  rintro _ w ⟨sl,sb,rfl,hw⟩
  exact .inl ⟨_,rfl,sl,sb,rfl,hw⟩
 ·have hap:∀ y,namedB b c.pnr=y→applyB b c=(match y with|(none,e)=>(b,errR e)|(some x,_)=>oneB b x c):=fun y hy=>by
   unfold applyB
   rw [if_neg hrr,if_neg h1,if_neg (by omega),if_neg (by omega),if_neg h8,if_neg h9,hy]
   obtain ⟨o,e⟩:=y
   cases o<;>rfl
  have hk36:c.kind=3∨c.kind=4∨c.kind=5∨c.kind=6:=by have:=hr.kind;omega
  have toS:∀ {A:List HP} {R:Cx} {w:World},Sat R (cmC b3 c sg sp::A) w→Sat R [cmC b3 c sg sp,VC.tru] w:=fun h=>h.restTru2
  refine drw_rule' (Sat R [cmC b3 c sg sp,VC.tru]) hw (fun w hw=>?_) fun w hw=>?_
  ·exact toS (hw.arr (Hs':=cmC b3 c sg sp::BookAt p b::rpNew b4::Hs))
  refine ⟨c.pnr,At.own (fun _ h=>h) (by exact ⟨rfl,trivial⟩),c.kind,c.pnr,c.flt,c.cls,c.many,c.time,c.sc,c.lab,c.rows,sg,sp,At.own (fun _ h=>h) (by exact ⟨rfl,rfl,rfl,rfl,rfl,rfl,rfl,rfl,rfl,rfl,rfl,trivial⟩),?_⟩
  refine (named_book k.core hw).use ?_ ?_
  ·clear hw
   rintro _ w ⟨a,x,rfl,hn,hxL,hop⟩
   have e:=hap _ hn
   rw [e] at hK
   refine .inl ⟨_,rfl,?_,?_⟩
   ·exact toS (hop.close.arr (Hs':=cmC b3 c sg sp::BookAt p b::rpNew b4::Hs))
   obtain ⟨m1,m2,fs,A2,C2,hl,hbm,hw⟩:=hop
   refine (one_spec hk36 k.core (by have:=hr.lab;omega) hl hbm hw).use ?_ ?_
   ·clear hw
    rintro _ w ⟨sl,sb,rfl,hw⟩
    have hS:=toS (hw.arr (Hs':=cmC b3 c sg sp::Own sl 3 (intsI (oneB b x c).2.left)::Own sb 9 ((oneB b x c).2.labs.map Value.string)::BookAt p (oneB b x c).1::rpNew b4::Hs))
    have hw:Sat R (rpNew b4::Own sl 3 (intsI (oneB b x c).2.left)::Own sb 9 ((oneB b x c).2.labs.map Value.string)::BookAt p (oneB b x c).1::cmC b3 c sg sp::Hs) w:=hw.arr
    refine .inl ?_
    obtain ⟨t0,t1,t2,t3,t4,t5,t6,t7,t8,he,h⟩:=reply_ok (r:=(oneB b x c).2) (sl:=sl) (sb:=sb) (K:=K) (rpNew_c hw) fun w hw=>hK sl sb w (hw.cons fun _ h=>h.cons fun _ h=>h.cons fun _ h=>h.drop)
    exact ⟨t0,t1,t2,t3,t4,t5,t6,t7,t8,he,hS,h⟩
   ·clear hw
    rintro _ w ⟨e,rfl,he,hw⟩
    dsimp only at hK
    rw [he] at hK
    exact .inr ⟨_,rfl,reply_err (rpNew_c hw.swap) fun w hw=>hK nilSl nilSl w (Own.nil (Own.nil (hw.cons fun _ h=>h.drop)))⟩
  ·clear hw
   rintro _ w ⟨e,rfl,hn,hw⟩
   have e2:=hap _ hn
   rw [e2] at hK
   exact .inr ⟨_,rfl,reply_err (rpNew_c hw.swap) fun w hw=>hK nilSl nilSl w (Own.nil (Own.nil (hw.cons fun _ h=>h.drop)))⟩
end Go.Proofs.YtfgbbckfikiomaaGreatDoor
/- Chapter 18: the arguments that are lists of commands. No condition. -/
namespace Go.Proofs.YtfgbbckfikiomaaGreatDoor
set_option linter.unusedVariables false
open Go Go.VC Go.ChangeShapes Go.WideShapes Go.ChangeAt Go.RowKit
variable {H:Type} {enc:TypeId × Value→H} {W:World} {r:Reach} {b0:Nat} {v:Value} {d:DataW H} {p:List MemPlace}
structure CmsR (R:Cx) (s:Sl) (cs:List CmS):Prop where
 rows:RoN 11 R s (cs.map cmRow)
 each:∀ c∈cs,FltC c.1∧RoI R c.2.1 c.1.grps∧SlR R.m c.2.2 (flts c.1.parts)
set_option maxRecDepth 100000 in
theorem cmds_in (hv:Value.okWide Tryz.prog W r b0 22 v) (h:DataW.Trod enc Tryz.prog W 0 (fun _=>true) true 22 v d p):
  ∃ (s:Sl) (cs:List CmS),v=.slice s.a s.len s.cap∧CmsR (Cx.of W) s cs:=by
 obtain ⟨a,n,c,rfl⟩:=okWide_slice Tryz.underlying22 hv
 obtain ⟨x,hx,ho⟩:=tr_arg (d:=8) (u:=.sl cmdU) (by kernel_rfl) h
 cases x<;>simp only [Tr.Ok] at ho
 rename_i s xs
 have ho:Tr.Ok (Cx.of W) (.sl cmdU) (.sl s xs):=by unfold Tr.Ok;exact ho
 obtain ⟨cs,h1,_,h3⟩:=sl_form (fun z:CmS=>cmRow z) (fun c=>FltC c.1∧RoI (Cx.of W) c.2.1 c.1.grps∧SlR (Cx.of W).m c.2.2 (flts c.1.parts)) ho fun x hx=>by
  obtain ⟨c,sg,sp,e,h1,h2,h3⟩:=cmd_form hx
  exact ⟨(c,sg,sp),e,h1,h2,h3⟩
 have e:[Value.slice s.a s.len s.cap]=[Value.slice a n c]:=by simpa [Tr.cells,Value.cells] using hx
 have e:=(List.cons.inj e).1
 simp only [Value.slice.injEq] at e
 obtain ⟨rfl,rfl,rfl⟩:=e
 exact ⟨s,cs,rfl,h1,h3⟩
end Go.Proofs.YtfgbbckfikiomaaGreatDoor

/- Chapter 18: BookingTime, BookingNames. Condition: none. -/
namespace Go.Proofs.YtfgbbckfikiomaaGreatDoor
set_option linter.unusedVariables false
open Go Go.VC
open Classical
variable {R:Cx} {Hs Rest:List HP} {w:World}
theorem applyK {l:Sl} {cs:List CmS} {k p:Nat} {b:Book} (hr:CmsR R l cs) (hm:∀ c∈cs.take 400,¬ Much c) (hk:k<400) (hkl:k<cs.length) (ok:BookOk b) (hw:Sat R (BookAt p b::Hs) w):
  Gets Tryz.prog 15 #[.pointer (some ⟨p,0,none⟩),cmA cs[k].1 cs[k].2.1 cs[k].2.2] w
   fun v w'=>∃ sl sb:Sl,v=.agg (rpV (applyB b cs[k].1).2 sl sb).toArray∧BookOk (applyB b cs[k].1).1∧Sat R (Own sl 3 (intsI (applyB b cs[k].1).2.left)::Own sb 9 ((applyB b cs[k].1).2.labs.map Value.string)::BookAt p (applyB b cs[k].1).1::Hs) w':=by
 obtain ⟨f,g,h⟩:=hr.each cs[k] (List.getElem_mem hkl)
 have hmk:=hm cs[k] (List.mem_take_iff_getElem.2 ⟨k,by omega,rfl⟩)
 have hgl:=g.len
 unfold Much at hmk
 refine (apply_spec ok f.sc g (by omega) h hw).mono ?_
 rintro _ w ⟨sl,sb,rfl,hw⟩
 exact ⟨sl,sb,rfl,ok_apply ok f.sc,hw⟩
end Go.Proofs.YtfgbbckfikiomaaGreatDoor
/- Chapter 18: a command is put behind a list of them, in whatever order; the sizes of what is handed. Condition: the sizes. -/
namespace Go.Proofs.YtfgbbckfikiomaaGreatDoor
set_option linter.unusedVariables false
open Go Go.VC
open Classical
variable {R:Cx} {Hs Rest:List HP} {w:World}
theorem elCmd:ElN Tryz.prog 22 22 38 11 136:=⟨Tryz.underlying22,⟨_,Tryz.underlying22⟩,by kernel_rfl⟩
theorem cmRow_one (c:CmS):oneAll (cmRow c)=true:=rfl
theorem cmRow_all (cs:List CmS):oneAll (cs.map cmRow).flatten=true:=by
 unfold oneAll
 rw [List.all_eq_true]
 intro v hv
 obtain ⟨r,h1,h2⟩:=List.mem_flatten.1 hv
 obtain ⟨x,_,rfl⟩:=List.mem_map.1 h1
 exact List.all_eq_true.1 (cmRow_one x) v h2
abbrev cmS (b:Nat) (c:Cm) (sg sp:Sl) (R:Cx):World→Prop:=Sat R [cmC b c sg sp,VC.tru]
abbrev newE:Obj:=.cells #[] 38 (0,0)
abbrev newCm (c:Cm) (sg sp:Sl):Obj:=.cells #[.int .i64 c.kind,.string c.pnr,.int .i64 c.flt,.int .i64 c.cls,.int .i64 c.many,.int .i64 c.time,.float .f64 c.sc,.string c.lab,.int .i64 c.rows,.slice sg.a sg.len sg.cap,.slice sp.a sp.len sp.cap] 38 (0,0)
abbrev mch (t:Sl) (S:World→Prop) (Tail:Bool→World→Prop) (w:World):Prop:=
 Calls Tryz.prog 13 #[.slice t.a t.len t.cap] w fun e w_8=>∃ t25:Bool,(e=.returned (.bool t25))∧(S w_8)∧Tail t25 w_8
theorem much2 {l:Sl} {cs:List CmS} {c:Cm} {sg sp:Sl} {b3:Nat} {Tail:Bool→World→Prop} (hr:CmsR R l cs) (hb:cs.length * 136≤140737488351232)
  (hT:∀ t w,(t=false→∀ x∈(cs++[(c,sg,sp)]).take 400,¬ Much x)→Sat R (cmC b3 c sg sp::Hs) w→Tail t w) (hw:Sat R (cmC b3 c sg sp::Hs) w):
  (New newE (fun b_t19 w_4=>
   (cmS b3 c sg sp R w_4)∧
   (∃ w_5:World,∃ t21:Sl,((Builtin.append_ #[ 22,22 ] 22 #[.slice ((some ⟨b_t19,0,none⟩)) 0 0,.slice l.a l.len l.cap]).run Tryz.prog w_4=.ok (.slice t21.a t21.len t21.cap) w_5)∧
   (cmS b3 c sg sp R w_5)∧
   New (newCm c sg sp) (fun b_t23 w_6=>
   ∃ w_7:World,∃ t24:Sl,((Builtin.append_ #[ 22,22 ] 22 #[.slice t21.a t21.len t21.cap,.slice ((some ⟨b_t23,0,none⟩)) 1 1]).run Tryz.prog w_6=.ok (.slice t24.a t24.len t24.cap) w_7)∧
   (cmS b3 c sg sp R w_7)∧mch t24 (cmS b3 c sg sp R) Tail w_7) w_5)∧
   New (newCm c sg sp) (fun b_t23_1 w_27=>
   ∃ w_28:World,∃ t21_1:Sl,((Builtin.append_ #[ 22,22 ] 22 #[.slice ((some ⟨b_t19,0,none⟩)) 0 0,.slice l.a l.len l.cap]).run Tryz.prog w_27=.ok (.slice t21_1.a t21_1.len t21_1.cap) w_28)∧
   (cmS b3 c sg sp R w_28)∧
   ∃ w_29:World,∃ t24_1:Sl,((Builtin.append_ #[ 22,22 ] 22 #[.slice t21_1.a t21_1.len t21_1.cap,.slice ((some ⟨b_t23_1,0,none⟩)) 1 1]).run Tryz.prog w_28=.ok (.slice t24_1.a t24_1.len t24_1.cap) w_29)∧
   (cmS b3 c sg sp R w_29)∧mch t24_1 (cmS b3 c sg sp R) Tail w_29) w_4) w)∧
  New (newCm c sg sp) (fun b_t23_2 w_49=>
   New newE (fun b_t19_1 w_50=>
   (cmS b3 c sg sp R w_50)∧
   ∃ w_51:World,∃ t21_2:Sl,((Builtin.append_ #[ 22,22 ] 22 #[.slice ((some ⟨b_t19_1,0,none⟩)) 0 0,.slice l.a l.len l.cap]).run Tryz.prog w_50=.ok (.slice t21_2.a t21_2.len t21_2.cap) w_51)∧
   (cmS b3 c sg sp R w_51)∧
   ∃ w_52:World,∃ t24_2:Sl,((Builtin.append_ #[ 22,22 ] 22 #[.slice t21_2.a t21_2.len t21_2.cap,.slice ((some ⟨b_t23_2,0,none⟩)) 1 1]).run Tryz.prog w_51=.ok (.slice t24_2.a t24_2.len t24_2.cap) w_52)∧
   (cmS b3 c sg sp R w_52)∧mch t24_2 (cmS b3 c sg sp R) Tail w_52) w_49) w:=by
 have toS:∀ {A:List HP} {R:Cx} {w:World},Sat R (cmC b3 c sg sp::A) w→cmS b3 c sg sp R w:=fun h=>h.restTru2
 have hn:cs.length≤1034834473171:=by omega
 have fin:∀ {w:World} {t:Sl},Sat R (OwnN 11 t 38 ((cs++[(c,sg,sp)]).map cmRow)::cmC b3 c sg sp::Hs) w→mch t (cmS b3 c sg sp R) Tail w:=fun {w t} hw=>by
  refine (much_spec (cs:=cs++[(c,sg,sp)]) (fun S hS=>OwnN.reads hw hS) hw).use ?_
  clear hw
  rintro _ w ⟨bm,rfl,hm,hw⟩
  exact ⟨bm,rfl,toS hw.drop,hT bm w hm hw.drop⟩
 have one:∀ {w:World} {b:Nat} {K:Sl→World→Prop} {Hs:List HP},Sat R (pts b newE::Hs) w→(∀ s' w',Sat R (OwnN 11 s' 38 (cs.map cmRow)::Hs) w'→K s' w')→
   ∃ w':World,∃ t:Sl,((Builtin.append_ #[ 22,22 ] 22 #[.slice ((some ⟨b,0,none⟩)) 0 0,.slice l.a l.len l.cap]).run Tryz.prog w=.ok (.slice t.a t.len t.cap) w')∧K t w':=fun {w b K Hs} hw k=>by
  have hs:=srcRoN elCmd.hk hw hr.rows (cmRow_all cs)
  exact appendN0_rule elCmd hw hs hr.rows.wid (by rw [List.length_map];omega) (by rw [List.length_map];omega) k
 have two:∀ {w:World} {b:Nat} {t:Sl} {K:Sl→World→Prop} {Hs:List HP},Sat R (OwnN 11 t 38 (cs.map cmRow)::pts b (newCm c sg sp)::Hs) w→(∀ s' w',Sat R (OwnN 11 s' 38 ((cs++[(c,sg,sp)]).map cmRow)::Hs) w'→K s' w')→
   ∃ w':World,∃ t':Sl,((Builtin.append_ #[ 22,22 ] 22 #[.slice t.a t.len t.cap,.slice ((some ⟨b,0,none⟩)) 1 1]).run Tryz.prog w=.ok (.slice t'.a t'.len t'.cap) w')∧K t' w':=fun {w b t K Hs} hw k=>by
  have hw0:Sat R (pts b (.cells (cmRow (c,sg,sp)).toArray 38 (0,0))::OwnN 11 t 38 (cs.map cmRow)::Hs) w:=hw.swap
  have hs:=SrcN_one (n:=11) (b:=b) (x:=cmRow (c,sg,sp)) elCmd.hk 1 hw0 rfl (cmRow_one (c,sg,sp))
  refine appendN_rule elCmd hw hs (Wid.one rfl) (by rw [List.length_map];simp only [List.length_cons,List.length_nil];omega) (by rw [List.length_map];simp only [List.length_cons,List.length_nil];omega) fun s' w' h=>k s' w' ?_
  rw [List.map_append]
  exact h.cons fun _ h=>h.drop
 refine ⟨new_rule hw fun b19 w hw=>⟨toS (hw.swap),?_,?_⟩,?_⟩
 ·refine one hw fun t w hw=>⟨toS hw.swap,?_⟩
  refine new_rule hw fun b23 w hw=>?_
  refine two hw.swap fun t w hw=>⟨toS hw.swap,fin hw⟩
 ·refine new_rule hw fun b23 w hw=>?_
  refine one hw.swap fun t w hw=>⟨?_,?_⟩
  ·exact toS (hw.arr (Hs':=cmC b3 c sg sp::OwnN 11 t 38 (cs.map cmRow)::pts b23 (newCm c sg sp)::Hs))
  refine two hw fun t w hw=>⟨toS hw.swap,fin hw⟩
 ·refine new_rule hw fun b23 w hw=>new_rule hw fun b19 w hw=>⟨?_,?_⟩
  ·exact toS (hw.arr (Hs':=cmC b3 c sg sp::pts b19 newE::pts b23 (newCm c sg sp)::Hs))
  refine one hw fun t w hw=>⟨?_,?_⟩
  ·exact toS (hw.arr (Hs':=cmC b3 c sg sp::OwnN 11 t 38 (cs.map cmRow)::pts b23 (newCm c sg sp)::Hs))
  refine two hw fun t w hw=>⟨toS hw.swap,fin hw⟩
end Go.Proofs.YtfgbbckfikiomaaGreatDoor
/- Chapter 18: BookingBack. Condition: the sizes of what is handed. -/
namespace Go.Proofs.YtfgbbckfikiomaaGreatDoor
set_option linter.unusedVariables false
open Go Go.VC
open Classical
variable {R:Cx} {Hs Rest:List HP} {w:World}
theorem much_take {cs:List CmS} {x:CmS} (h:∀ c∈(cs++[x]).take 400,¬ Much c):∀ c∈cs.take 400,¬ Much c:=fun c hc=>h c (by rw [List.take_append];exact List.mem_append_left _ hc)
end Go.Proofs.YtfgbbckfikiomaaGreatDoor
/- ROW, part 4: how large what is handed may be. No condition. -/
namespace Go.VC
set_option linter.unusedVariables false
open Go.ChangeShapes Go.WideShapes Go.ChangeAt Go.RowKit
variable {H:Type} {enc:TypeId × Value→H} {P:Program} {W:World} {base:Nat} {spare:Nat→Bool} {held:Bool}
def Light (P:Program) (t:TypeId) (d:DataW H):Prop:=∀ k∈d.weights P t,k≤reachBytes
theorem light_arg {ts:List TypeId} {ds:List (DataW H)} {j:Nat} {t:TypeId} {d:DataW H} (h:(DataW.weightsEach P ts ds).all (·≤reachBytes)=true) (ht:ts[j]? =some t) (hd:ds[j]? =some d):Light P t d:=fun k hk=>by
 have:=List.all_eq_true.1 h _ (DataW.weights_mem_each ht hd k hk)
 simpa using this
theorem light_slice {fuel:Nat} {t e:TypeId} {a:Option Addr} {n c:Nat} {d:DataW H} {p:List MemPlace} (ht:P.underlying t=some (.slice e)) (h:DataW.trod enc P W base spare held fuel t [.slice a n c]=some (d,p)) (hw:Light P t d):n * P.bytesOf e≤reachBytes:=by
 rcases DataW.trod_slice ht h with ⟨h1,_⟩|⟨a',len,cap,elems,rest,m,_,h1,h2,_,_,_,hel,_⟩
 ·simp only [List.cons.injEq,Value.slice.injEq,and_true] at h1
  rw [h1.2.1]
  omega
 ·simp only [List.cons.injEq,Value.slice.injEq,and_true] at h1
  have hd:d=.slice (elems.map (·.1)) (rest.map (·.1)):=congrArg Prod.fst h2
  have:=hw ((elems.length + rest.length) * P.bytesOf e) (by rw [hd];simp [DataW.weights,ht])
  rw [h1.2.1,←hel]
  exact Nat.le_trans (Nat.mul_le_mul_right _ (by omega)) this
theorem light_field {fuel:Nat} {t T:TypeId} {fs:Array Field} {cs:List Value} {d:DataW H} {p:List MemPlace} (i off n:Nat) (ht:P.underlying t=some (.struct fs)) (h:DataW.trod enc P W base spare held fuel t cs=some (d,p)) (hw:Light P t d)
  (hf:(fs[i]?).map (fun f=>(f.type,f.offset))=some (T,off)) (hn:P.cellsOf T=n):∃ (fuel':Nat) (d':DataW H) (p':List MemPlace),DataW.trod enc P W base spare held fuel' T ((cs.drop off).take n)=some (d',p')∧Light P T d':=by
 obtain ⟨xs,m,_,hx,_,hl,hxs⟩:=DataW.trod_struct ht h
 cases hfi:fs[i]? with
 |none=>rw [hfi] at hf;cases hf
 |some f=>
  rw [hfi] at hf
  simp only [Option.map_some,Option.some.injEq,Prod.mk.injEq] at hf
  obtain ⟨rfl,rfl⟩:=hf
  have hlt:i<xs.length:=by rw [hl];exact (Array.getElem?_eq_some_iff.1 hfi).1
  have h2:=hxs i f hfi
  rw [List.getElem?_eq_getElem hlt,hn] at h2
  refine ⟨m,xs[i].1,xs[i].2,h2,fun k hk=>hw k ?_⟩
  have hd:d=.agg (xs.map (·.1)):=congrArg Prod.fst hx
  rw [hd]
  simp only [DataW.weights,ht]
  refine DataW.weights_mem_each (j:=i) (t:=f.type) (d:=xs[i].1) ?_ ?_ k hk
  ·rw [List.getElem?_map,Array.getElem?_toList,hfi];rfl
  ·rw [List.getElem?_map,List.getElem?_eq_getElem hlt];rfl
theorem reach_eq:reachBytes=140737488351232:=rfl
end Go.VC
/- Chapter 18: how large commands that are handed may be. No condition. -/
namespace Go.Proofs.YtfgbbckfikiomaaGreatDoor
set_option linter.unusedVariables false
open Go Go.VC Go.ChangeShapes Go.WideShapes Go.ChangeAt Go.RowKit
variable {H:Type} {enc:TypeId × Value→H} {W:World} {d:DataW H} {p:List MemPlace}
theorem cmd_light {R:Cx} {c:Cm} {sg sp:Sl} (h:DataW.Trod enc Tryz.prog W 0 (fun _=>true) true 38 (.agg (cmV c sg sp).toArray) d p) (hw:Light Tryz.prog 38 d) (hg:RoI R sg c.grps) (hp:SlR R.m sp (flts c.parts)):
  c.grps.length≤17592186043904∧c.parts.length≤17592186043904:=by
 obtain ⟨fuel,h⟩:=h
 obtain ⟨f1,d1,p1,h1,w1⟩:=light_field (T:=35) 8 8 2 Tryz.underlying38 h hw (by kernel_rfl) (by kernel_rfl)
 have h1:DataW.trod enc Tryz.prog W 0 (fun _=>true) true f1 35 [.int .i64 c.rows,.slice sg.a sg.len sg.cap]=some (d1,p1):=h1
 obtain ⟨f2,d2,p2,h2,w2⟩:=light_field (T:=28) 1 1 1 Tryz.underlying35 h1 w1 (by kernel_rfl) (by kernel_rfl)
 have h2:DataW.trod enc Tryz.prog W 0 (fun _=>true) true f2 28 [.slice sg.a sg.len sg.cap]=some (d2,p2):=h2
 have h3:=light_slice Tryz.underlying28 h2 w2
 obtain ⟨f4,d4,p4,h4,w4⟩:=light_field (T:=36) 9 10 1 Tryz.underlying38 h hw (by kernel_rfl) (by kernel_rfl)
 have h4:DataW.trod enc Tryz.prog W 0 (fun _=>true) true f4 36 [.slice sp.a sp.len sp.cap]=some (d4,p4):=h4
 have h5:=light_slice Tryz.underlying36 h4 w4
 rw [show Tryz.prog.bytesOf 3=8 by kernel_rfl,reach_eq] at h3
 rw [show Tryz.prog.bytesOf 33=8 by kernel_rfl,reach_eq] at h5
 have e1:=hg.len
 have e2:=hp.len
 rw [List.length_map] at e2
 omega
theorem cmds_light {R:Cx} {s:Sl} {cs:List CmS} (h:DataW.Trod enc Tryz.prog W 0 (fun _=>true) true 22 (.slice s.a s.len s.cap) d p) (hw:Light Tryz.prog 22 d) (hr:CmsR R s cs):cs.length * 136≤140737488351232:=by
 obtain ⟨fuel,h⟩:=h
 have h:DataW.trod enc Tryz.prog W 0 (fun _=>true) true fuel 22 [.slice s.a s.len s.cap]=some (d,p):=h
 have h3:=light_slice Tryz.underlying22 h hw
 rw [show Tryz.prog.bytesOf 38=136 by kernel_rfl,reach_eq] at h3
 have e1:=hr.rows.len
 rw [List.length_map] at e1
 rw [←e1]
 exact h3
end Go.Proofs.YtfgbbckfikiomaaGreatDoor
/- Package queue: Encode. Condition: bounds. -/
namespace Go.Proofs.YtfgbbckfikiomaaGreatDoor
set_option linter.unusedVariables false
open Go Go.VC
open Classical
variable {R:Cx} {Hs Rest:List HP} {w:World}
theorem _root_.Go.VC.At.vals {S:World→Prop} {b:Nat} {vs:List Value} {T:TypeId} {fr:Nat × Nat} (hS:∀ w,S w→Sat R Hs w)
  [t:TakeP b Hs (.cells vs.toArray T fr) Rest] {i:Nat} (hi:i<vs.length):At S (Addr.add ⟨b,0,none⟩ i) [vs[i]]:=by
 rw [add_off]
 refine At.own hS ?_
 rw [Nat.zero_add,List.drop_eq_getElem_cons hi]
 exact ⟨rfl,trivial⟩
def wtN (x:Wt):List Nat:=[x.id.toNat,x.cls.toNat,x.many.toNat,x.time.toNat,keyF x.sc]
def numsN (l:List Nat):List Int:=(l.map numB).flatten
theorem wtB_N (x:Wt):wtB x=numsN (wtN x):=by
 simp [wtB,numsN,wtN,numsB,fltB]
theorem numsN_snoc {l:List Nat} {j:Nat} (hj:j<l.length):numsN (l.take (j + 1))=numsN (l.take j)++numB l[j]:=by
 unfold numsN
 rw [List.take_add_one,List.getElem?_eq_getElem hj,List.map_append,List.flatten_append]
 simp
theorem numsN_len {l:List Nat} (h:∀ x∈l,x<18446744073709551616):(numsN l).length≤9 * l.length:=flat_len fun x hx=>numB_len (h x hx)
theorem wtN_lt {x:Wt} (h:x.Ok) (hf:x.sc<18446744073709551616):∀ y∈wtN x,y<18446744073709551616:=by
 obtain ⟨h1,h2,h3,h4⟩:=h
 intro y hy
 simp only [wtN,List.mem_cons,List.not_mem_nil,or_false] at hy
 have:=key_lt hf
 omega
theorem flat_snoc {α β:Type} {f:α→List β} {l:List α} {j:Nat} (hj:j<l.length):((l.take (j + 1)).map f).flatten=((l.take j).map f).flatten++f l[j]:=by
 rw [List.take_add_one,List.getElem?_eq_getElem hj,List.map_append,List.flatten_append]
 simp
set_option maxHeartbeats 1000000 in
theorem qenc_spec {q:Nat} {l:List Wt} (hq:QOk l) (hw:Sat R (QuAt q l::Hs) w):
  Gets Tryz.prog 54 #[.pointer (some ⟨q,0,none⟩)] w fun v w'=>∃ t:Sl,v=.slice t.a t.len t.cap∧Sat R (Own t 5 (b8 (qB l))::QuAt q l::Hs) w':=by
 apply call54
 suffices H:∀ K:Value→World→Prop,(∀ (t:Sl) w',Sat R (Own t 5 (b8 (qB l))::QuAt q l::Hs) w'→K (.slice t.a t.len t.cap) w')→B54 (some ⟨q,0,none⟩) K w from H _ fun t w' h=>⟨t,rfl,h⟩
 intro K hK
 have hlen:=hq.len
 obtain ⟨s,hw⟩:=Sat.qu.1 hw
 have hsl:=OwnN.len hw.swap
 rw [List.length_map] at hsl
 refine NilP.mk rfl ⟨s,At.own (eqS hw) (by exact ⟨rfl,trivial⟩),?_⟩
 rw [wrapU64 (by omega) (by omega)]
 refine (number_spec (by omega) hw).use ?_
 clear hw
 rintro _ w ⟨t0,rfl,hw⟩
 refine ⟨t0,rfl,NilP.mk rfl ⟨s,At.own (eqS hw) (by exact ⟨rfl,trivial⟩),?_⟩⟩
 have e0:numB s.len=numsB [(l.length:Int)]:=by rw [hsl];simp [numsB]
 rw [e0] at hw
 refine ⟨fun t i w=>∃ k:Nat,i=k∧k≤l.length∧Sat R (Own t 5 (b8 (numsB [(l.length:Int)]++((l.take k).map wtB).flatten))::pts q (quCell s)::OwnN 5 s wtT (l.map wtV)::Hs) w,
  fun _ i _=>l.length - i.toNat,⟨0,rfl,by omega,by simpa using hw⟩,?_⟩
 clear hw
 rintro _ t _ w ⟨k,rfl,hk,hw⟩
 refine Br.d (fun h=>?_) (fun h=>?_)
 ·have hk2:k<l.length:=by omega
  have hx:=List.getElem_mem hk2
  have hok:=hq.ok _ hx
  have hfl:=hq.fl _ hx
  have hu:=wtN_lt hok hfl
  obtain ⟨h1,h2,h3,h4⟩:=id hok
  refine (OwnN.readsM (n:=5) (s:=s) (T:=wtT) (rows:=l.map wtV) hw (eqS hw)).rngM (E:=l) (g:=wtV) hk2 fun a _ he=>?_
  refine ⟨_,_,_,_,_,he.z (by exact ⟨rfl,rfl,rfl,rfl,rfl,trivial⟩),?_⟩
  refine new_rule hw fun b2 w hw=>?_
  refine store_rule hw (by kernel_rfl) rfl (by simp [Value.cells]) fun w hw=>?_
  have hw:=hw.re (wtC b2 l[k])
  refine drw_ruleT hw fun w hw=>?_
  refine ⟨l[k].id,At.own selfS (by exact ⟨rfl,trivial⟩),l[k].cls,At.own selfS (by exact ⟨rfl,trivial⟩),l[k].many,At.own selfS (by exact ⟨rfl,trivial⟩),l[k].time,At.own selfS (by exact ⟨rfl,trivial⟩),l[k].sc,At.own selfS (by exact ⟨rfl,trivial⟩),?_⟩
  refine (key_spec hfl hw).use ?_
  clear hw
  rintro _ w ⟨rfl,hw⟩
  refine ⟨_,rfl,hw,?_⟩
  rw [wrapU64 (x:=l[k].id) (by omega) (by omega),wrapU64 (x:=l[k].cls) (by omega) (by omega),wrapU64 (x:=l[k].many) (by omega) (by omega),wrapU64 (x:=l[k].time) (by omega) (by omega)]
  refine new_rule hw fun b5 w hw=>⟨hw.absorb,?_⟩
  obtain ⟨us,hus⟩:∃ us,us=wtN l[k]:=⟨_,rfl⟩
  have hul:us.length=5:=by rw [hus];rfl
  have hw:Sat R (pts b5 (.cells (us.map fun n=>Value.int .u64 (n:Nat)).toArray 134 (0,0))::wtC b2 l[k]::Own t 5 (b8 (numsB [(l.length:Int)]++((l.take k).map wtB).flatten))::pts q (quCell s)::OwnN 5 s wtT (l.map wtV)::Hs) w:=by
   have e:([.int .u64 l[k].id,.int .u64 l[k].cls,.int .u64 l[k].many,.int .u64 l[k].time,.int .u64 ((keyF l[k].sc:Nat):Int)]:List Value)=us.map fun n=>Value.int .u64 (n:Nat):=by
    subst hus
    simp only [wtN,List.map_cons,List.map_nil,Int.toNat_of_nonneg h2.1,Int.toNat_of_nonneg h4.1,Int.toNat_of_nonneg (show 0≤l[k].id by omega),Int.toNat_of_nonneg (show 0≤l[k].many by omega)]
   rw [←e]
   exact hw.cons fun _ h=>h.drop
  rw [←hus] at hu
  have hblen:=flat_len (l:=l.take k) (code:=wtB) (m:=45) fun w hw=>wtB_len (hq.ok w (List.mem_of_mem_take hw)) (hq.fl w (List.mem_of_mem_take hw))
  rw [List.length_take] at hblen
  have h0:=nums1_len (x:=(l.length:Int)) (by omega)
  obtain ⟨bs,hbs⟩:∃ bs,bs=numsB [(l.length:Int)]++((l.take k).map wtB).flatten:=⟨_,rfl⟩
  have hbl:bs.length≤10000:=by rw [hbs,List.length_append];omega
  rw [←hbs] at hw
  refine ⟨fun t i w=>∃ j:Nat,i=j∧j≤5∧Sat R (Own t 5 (b8 (bs++numsN (us.take j)))::pts b5 (.cells (us.map fun n=>Value.int .u64 (n:Nat)).toArray 134 (0,0))::wtC b2 l[k]::pts q (quCell s)::OwnN 5 s wtT (l.map wtV)::Hs) w,
   fun _ i _=>5 - i.toNat,⟨0,rfl,by omega,?_⟩,?_⟩
  ·have hw:Sat R (Own t 5 (b8 bs)::pts b5 (.cells (us.map fun n=>Value.int .u64 (n:Nat)).toArray 134 (0,0))::wtC b2 l[k]::pts q (quCell s)::OwnN 5 s wtT (l.map wtV)::Hs) w:=hw.arr
   simpa [numsN] using hw
  clear hw
  rintro _ t _ w ⟨j,rfl,hj,hw⟩
  refine Br.d (fun hj5=>?_) (fun hj5=>?_)
  ·have hj2:j<us.length:=by omega
   have hul2:=numsN_len (l:=us.take j) fun x hx=>hu x (List.mem_of_mem_take hx)
   rw [List.length_take] at hul2
   have huj:=hu _ (List.getElem_mem hj2)
   refine Rng.mk (by omega) (by omega) ⟨((us[j]:Nat):Int),?_,?_⟩
   ·have hjm:j<(us.map fun n=>Value.int .u64 (n:Nat)).length:=by rw [List.length_map];exact hj2
    have:=At.vals (b:=b5) (vs:=us.map fun n=>Value.int .u64 (n:Nat)) (eqS hw) hjm
    rw [List.getElem_map] at this
    exact this
   refine (number_spec huj hw).use ?_
   clear hw
   rintro _ w ⟨t1,rfl,hw⟩
   refine ⟨t1,rfl,?_⟩
   have hnb:=numB_len huj
   refine appendOO elB8 (s:=t) (n:=1099511627790) Tryz.underlying42 hw.swap (by rw [List.length_append];omega) (by omega) (by omega) fun s2 w hw=>?_
   have hw:=hw.cons fun _ h=>h.drop
   rw [wrap64 (x:=(j:Int) + 1) (by omega) (by omega)]
   refine ⟨⟨j + 1,by omega,by omega,?_⟩,by dsimp only;omega⟩
   rw [numsN_snoc hj2,←List.append_assoc]
   exact hw
  ·rw [List.take_of_length_le (by omega:us.length≤j),hus,←wtB_N,hbs,List.append_assoc,←flat_snoc hk2] at hw
   rw [wrap64 (x:=(k:Int) + 1) (by omega) (by omega)]
   exact ⟨⟨k + 1,by omega,by omega,hw.cons fun _ h=>h.drop.drop⟩,by dsimp only;omega⟩
 ·rw [List.take_of_length_le (by omega:l.length≤k)] at hw
  exact hK t w (hw.cons fun _ h=>Sat.qu.2 ⟨s,h⟩)
end Go.Proofs.YtfgbbckfikiomaaGreatDoor
/- Package booking: Save. Condition: bounds. -/
namespace Go.Proofs.YtfgbbckfikiomaaGreatDoor
set_option linter.unusedVariables false
open Go Go.VC
open Classical
variable {R:Cx} {Hs Rest:List HP} {w:World}
theorem nn3s {a b c:Int} (h0:0≤a) (h1:0≤b) (h2:0≤c):numsB ([a,b,c].map nn)=numsB [a]++(numsB [b]++numsB [c]):=by
 show numsB [nn a,nn b,nn c]=_
 rw [nn_id h0,nn_id h1,nn_id h2,numsB_sp a,numsB_sp b]
theorem nn6s {a b c d e f:Int} (h0:0≤a) (h1:0≤b) (h2:0≤c) (h3:0≤d) (h4:0≤e) (h5:0≤f):numsB ([a,b,c,d,e,f].map nn)=numsB [a]++(numsB [b]++(numsB [c]++(numsB [d]++(numsB [e]++numsB [f])))):=by
 show numsB [nn a,nn b,nn c,nn d,nn e,nn f]=_
 rw [nn_id h0,nn_id h1,nn_id h2,nn_id h3,nn_id h4,nn_id h5,numsB_sp a,numsB_sp b,numsB_sp c,numsB_sp d,numsB_sp e]
theorem wtext_own {p:Nat} {s:Sl} {d bs:List Int} {T:TypeId} (hl:bs.length + d.length≤1099511627776) (hd:d.length≤1099511627776) (hw:Sat R (Own s T (b8 d)::WrB p bs::Hs) w):
  Gets Tryz.prog 52 #[.pointer (some ⟨p,0,none⟩),.slice s.a s.len s.cap] w fun v w'=>v=.tuple #[]∧Sat R (WrB p (bs++textB d)::Hs) w':=by
 obtain ⟨R1,e1,g1,hw⟩:=Own.leak hw
 refine (wtext_spec hl hd (g1.ro (by rw [List.length_map];omega)) hw).mono ?_
 rintro _ w ⟨rfl,hw⟩
 exact ⟨rfl,e1.back hw⟩
set_option maxHeartbeats 2000000 in
theorem bsave_spec {p:Nat} {b:Book} (k:Core b) (hw:Sat R (BookAt p b::Hs) w):
  Gets Tryz.prog 18 #[.pointer (some ⟨p,0,none⟩)] w fun v w'=>∃ t:Sl,v=.slice t.a t.len t.cap∧Sat R (Own t 5 (b8 (saveB b))::BookAt p b::Hs) w':=by
 apply call18
 suffices H:∀ K:Value→World→Prop,(∀ (t:Sl) w',Sat R (Own t 5 (b8 (saveB b))::BookAt p b::Hs) w'→K (.slice t.a t.len t.cap) w')→B18 (some ⟨p,0,none⟩) K w from H _ fun t w' h=>⟨t,rfl,h⟩
 intro K hK
 have k1:=k.now
 have k2:=k.next
 have k3:=k.few
 have k4:=k.many
 have a1:=nums1_len (x:=b.now) (by omega)
 have a2:=nums1_len (x:=b.next) (by omega)
 have a3:=nums1_len (x:=(b.fl.length:Int)) (by omega)
 have a4:=nums1_len (x:=(b.L.length:Int)) (by omega)
 have a5:∀ j,(((b.fl.take j).map plB).flatten).length≤304000:=fun j=>by
  have:=flat_len (l:=b.fl.take j) (code:=plB) (m:=38000) fun p hp=>plB_len (k.good p (List.mem_of_mem_take hp)) (k.qok p (List.mem_of_mem_take hp))
  rw [List.length_take] at this
  omega
 have a6:∀ j,(((b.L.take j).map bkB).flatten).length≤16200:=fun j=>by
  have:=flat_len (l:=b.L.take j) (code:=bkB) (m:=54) fun x hx=>bkB_len k2.2 (k.each x (List.mem_of_mem_take hx))
  rw [List.length_take] at this
  omega
 obtain ⟨m1,m2,fs,xs,hl,hw⟩:=Sat.book.1 hw
 have hfl:=fl_len hl
 have hbl:=bk_len hl
 refine new_rule hw fun pw w hw=>?_
 have hw:Sat R (WrB pw []::pts p (bookC b m1 m2)::MapAt m1 (fs.map flV)::MapAt m2 (xs.map bkV)::FlsAt fs::BksAt xs::Hs) w:=Sat.wrB.2 ⟨nilSl,(Own.nil hw).swap⟩
 have toS:∀ {A:List HP} {R:Cx} {w:World},Sat R (pts p (bookC b m1 m2)::MapAt m1 (fs.map flV)::A) w→Sat R [pts p (bookC b m1 m2),MapAt m1 (fs.map flV),VC.tru] w:=fun h=>h.cons fun _ h=>h.restTru2
 refine drw_rule' (Sat R [pts p (bookC b m1 m2),MapAt m1 (fs.map flV),VC.tru]) hw (fun w hw=>?_) fun w hw=>?_
 ·exact toS (hw.arr (Hs':=pts p (bookC b m1 m2)::MapAt m1 (fs.map flV)::WrB pw []::MapAt m2 (xs.map bkV)::FlsAt fs::BksAt xs::Hs))
 refine NilP.mk rfl ⟨b.now,At.own (fun _ h=>h) (by exact ⟨rfl,trivial⟩),NilP.mk rfl ⟨b.next,At.own (fun _ h=>h) (by exact ⟨rfl,trivial⟩),NilP.mk rfl ⟨some m1,At.own (fun _ h=>h) (by exact ⟨rfl,trivial⟩),((fs.map flV).length:Int),fun w' h=>MapAt.len (by kernel_rfl) h.swap,?_⟩⟩⟩
 rw [List.length_map,hfl]
 refine new_rule hw fun b26 w hw=>⟨?_,?_⟩
 ·exact toS (hw.arr (Hs':=pts p (bookC b m1 m2)::MapAt m1 (fs.map flV)::pts b26 (.cells #[.int .i64 b.now,.int .i64 b.next,.int .i64 (b.fl.length:Int)] 3 (0,0))::WrB pw []::MapAt m2 (xs.map bkV)::FlsAt fs::BksAt xs::Hs))
 refine (wlit_spec (xs:=[b.now,b.next,(b.fl.length:Int)]) rfl (by simp;omega) (by simp) hw).use ?_
 clear hw
 rintro _ w ⟨rfl,hw⟩
 refine ⟨rfl,?_,?_⟩
 ·exact toS (hw.arr (Hs':=pts p (bookC b m1 m2)::MapAt m1 (fs.map flV)::WrB pw ([]++numsB ([b.now,b.next,(b.fl.length:Int)].map nn))::MapAt m2 (xs.map bkV)::FlsAt fs::BksAt xs::Hs))
 rw [nn3s (by omega) (by omega) (by omega),List.nil_append] at hw
 obtain ⟨h0,hh0⟩:∃ h,h=numsB [b.now]++(numsB [b.next]++numsB [(b.fl.length:Int)]):=⟨_,rfl⟩
 have hl0:h0.length≤27:=by rw [hh0];simp only [List.length_append];omega
 rw [←hh0] at hw
 have hw:Sat R (pts p (bookC b m1 m2)::MapAt m1 (fs.map flV)::WrB pw h0::MapAt m2 (xs.map bkV)::FlsAt fs::BksAt xs::Hs) w:=hw.arr
 refine NilP.mk rfl ⟨some m1,At.own (eqS hw) (by exact ⟨rfl,trivial⟩),?_⟩
 refine sortF_rule k hl hw.swap ?_
 clear hw
 intro s w hw
 have hsl:=Own.len hw
 rw [List.length_map,List.length_map] at hsl
 obtain ⟨MF,hMF⟩:∃ M,M=fs.map flV:=⟨_,rfl⟩
 obtain ⟨MB,hMB⟩:∃ M,M=xs.map bkV:=⟨_,rfl⟩
 obtain ⟨nums,hnums⟩:∃ n,n=b.fl.map Pl.n:=⟨_,rfl⟩
 have hnl:nums.length=b.fl.length:=by rw [hnums,List.length_map]
 rw [←hMF,←hMB,←hnums] at hw
 have hw:Sat R (WrB pw h0::Own s 3 (intsI nums)::pts p (bookC b m1 m2)::MapAt m1 MF::MapAt m2 MB::FlsAt fs::BksAt xs::Hs) w:=hw.arr
 refine ⟨fun i w=>∃ j:Nat,i=j∧j≤b.fl.length∧Sat R (WrB pw (h0++((b.fl.take j).map plB).flatten)::Own s 3 (intsI nums)::pts p (bookC b m1 m2)::MapAt m1 MF::MapAt m2 MB::FlsAt fs::BksAt xs::Hs) w,
  fun i _=>b.fl.length - i.toNat,⟨0,rfl,by omega,by simpa using hw⟩,?_⟩
 clear hw
 rintro _ _ w ⟨j,rfl,hj,hw⟩
 have hla:=a5 j
 refine Br.d (fun h=>?_) (fun h=>?_)
 ·have hj2:j<b.fl.length:=by omega
  obtain ⟨pl,hpl⟩:∃ pl,pl=b.fl[j]:=⟨_,rfl⟩
  have hmem:pl∈b.fl:=by rw [hpl];exact List.getElem_mem _
  have hat:b.at pl.n=some pl:=(at_iff k).2 ⟨hmem,rfl⟩
  have hnj:nums[j]'(by omega)=pl.n:=by subst hnums;rw [List.getElem_map,hpl]
  have hg:=k.good pl hmem
  have hq:=k.qok pl hmem
  have e1:=renc_tight hg
  have e2:=qB_len hq
  have hw2:Sat R (Own s 3 (intsI nums)::WrB pw (h0++((b.fl.take j).map plB).flatten)::pts p (bookC b m1 m2)::MapAt m1 MF::MapAt m2 MB::FlsAt fs::BksAt xs::Hs) w:=hw.swap
  refine Own.ix hw2 (eqS hw2) j rfl (by omega) ?_
  rw [hnj]
  refine NilP.mk rfl ⟨some m1,At.own (eqS hw) (by exact ⟨rfl,trivial⟩),?_⟩
  obtain ⟨A,f,q,C,hfs,hm⟩:=fl_split hl k.nums hat
  have hgm:getM pl.n MF=some (.agg #[.pointer (some ⟨f,0,none⟩),.pointer (some ⟨q,0,none⟩)]):=by rw [hMF,hfs];exact fl_get hm
  refine ⟨some ⟨f,0,none⟩,some ⟨q,0,none⟩,fun w' e=>?_,?_⟩
  ·rw [show w'=w from e]
   have hm1:Sat R (MapAt m1 MF::WrB pw (h0++((b.fl.take j).map plB).flatten)::Own s 3 (intsI nums)::pts p (bookC b m1 m2)::MapAt m2 MB::FlsAt fs::BksAt xs::Hs) w:=hw.arr
   have:=MapAt.look pMap hm1 pl.n false
   rw [hgm] at this
   exact this
  clear hw2
  refine new_rule hw fun b6 w hw=>?_
  refine store_rule hw (by kernel_rfl) rfl (by simp [Value.cells]) fun w hw=>?_
  have hw:=hw.re (fqC b6 f q)
  rw [hfs] at hw
  have hw:Sat R (FlsAt (A++(f,q,pl)::C)::fqC b6 f q::WrB pw (h0++((b.fl.take j).map plB).flatten)::Own s 3 (intsI nums)::pts p (bookC b m1 m2)::MapAt m1 MF::MapAt m2 MB::BksAt xs::Hs) w:=hw.arr
  have hw:=fls_mid.1 hw
  refine ⟨some ⟨f,0,none⟩,At.own (eqS hw) (by exact ⟨rfl,trivial⟩),?_⟩
  refine (lone_encode hw).use ?_
  clear hw
  rintro _ w ⟨t1,rfl,hw⟩
  refine ⟨t1,rfl,?_⟩
  have hw:Sat R (Own t1 5 (b8 (rencB pl.r))::WrB pw (h0++((b.fl.take j).map plB).flatten)::QuAt q pl.q::LoneAt f pl.r::FlsAt (A++C)::fqC b6 f q::Own s 3 (intsI nums)::pts p (bookC b m1 m2)::MapAt m1 MF::MapAt m2 MB::BksAt xs::Hs) w:=hw.arr
  refine (wtext_own (by rw [List.length_append];omega) (by omega) hw).use ?_
  clear hw
  rintro _ w ⟨rfl,hw⟩
  refine ⟨rfl,some ⟨q,0,none⟩,At.own (eqS hw) (by exact ⟨rfl,trivial⟩),?_⟩
  refine (qenc_spec hq hw.swap).use ?_
  clear hw
  rintro _ w ⟨t2,rfl,hw⟩
  refine ⟨t2,rfl,?_⟩
  have e3:=textB_len (d:=rencB pl.r) (by omega)
  have hw:Sat R (Own t2 5 (b8 (qB pl.q))::WrB pw (h0++((b.fl.take j).map plB).flatten++textB (rencB pl.r))::QuAt q pl.q::LoneAt f pl.r::FlsAt (A++C)::fqC b6 f q::Own s 3 (intsI nums)::pts p (bookC b m1 m2)::MapAt m1 MF::MapAt m2 MB::BksAt xs::Hs) w:=hw.arr
  refine (wtext_own (by simp only [List.length_append];omega) (by omega) hw).use ?_
  clear hw
  rintro _ w ⟨rfl,hw⟩
  rw [wrap64 (x:=(j:Int) + 1) (by omega) (by omega)]
  refine ⟨rfl,⟨j + 1,by omega,by omega,?_⟩,by dsimp only;omega⟩
  have ebs:h0++((b.fl.take j).map plB).flatten++textB (rencB pl.r)++textB (qB pl.q)=h0++((b.fl.take (j + 1)).map plB).flatten:=by
   rw [flat_snoc hj2,←hpl]
   unfold plB
   simp only [List.append_assoc]
  rw [ebs] at hw
  have hw:Sat R (LoneAt f pl.r::QuAt q pl.q::FlsAt (A++C)::WrB pw (h0++((b.fl.take (j + 1)).map plB).flatten)::fqC b6 f q::Own s 3 (intsI nums)::pts p (bookC b m1 m2)::MapAt m1 MF::MapAt m2 MB::BksAt xs::Hs) w:=hw.arr
  have hw:=fls_mid.2 hw
  rw [←hfs] at hw
  have hw:Sat R (fqC b6 f q::WrB pw (h0++((b.fl.take (j + 1)).map plB).flatten)::Own s 3 (intsI nums)::pts p (bookC b m1 m2)::MapAt m1 MF::MapAt m2 MB::FlsAt fs::BksAt xs::Hs) w:=hw.arr
  exact hw.drop
 ·have hjf:j=b.fl.length:=by omega
  rw [hjf,List.take_length] at hw
  have a50:=a5 b.fl.length
  rw [List.take_length] at a50
  refine NilP.mk rfl ⟨some m2,At.own (eqS hw) (by exact ⟨rfl,trivial⟩),(MB.length:Int),fun w' e=>?_,?_⟩
  ·rw [show w'=w from e]
   have hm2:Sat R (MapAt m2 MB::WrB pw (h0++(b.fl.map plB).flatten)::Own s 3 (intsI nums)::pts p (bookC b m1 m2)::MapAt m1 MF::FlsAt fs::BksAt xs::Hs) w:=hw.arr
   exact MapAt.len (by kernel_rfl) hm2
  rw [show MB.length=b.L.length by rw [hMB,List.length_map,hbl]]
  refine new_rule hw fun b62 w hw=>?_
  refine (wlit_spec (xs:=[(b.L.length:Int)]) rfl (by simp;omega) (by simp only [List.length_append,List.length_cons,List.length_nil];omega) hw).use ?_
  clear hw
  rintro _ w ⟨rfl,hw⟩
  rw [nn1 (by omega)] at hw
  obtain ⟨h1,hh1⟩:∃ h,h=h0++(b.fl.map plB).flatten++numsB [(b.L.length:Int)]:=⟨_,rfl⟩
  have hl1:h1.length≤305000:=by rw [hh1];simp only [List.length_append];omega
  rw [←hh1] at hw
  refine ⟨rfl,NilP.mk rfl ⟨some m2,At.own (eqS hw) (by exact ⟨rfl,trivial⟩),?_⟩⟩
  have hw:Sat R (MapAt m2 MB::WrB pw h1::pts p (bookC b m1 m2)::MapAt m1 MF::FlsAt fs::BksAt xs::Own s 3 (intsI nums)::Hs) w:=hw.arr
  rw [hMB] at hw
  refine sortB_rule k hl hw ?_
  clear hw
  intro s2 w hw
  have hsl2:=Own.len hw
  rw [List.length_map,List.length_map] at hsl2
  obtain ⟨ids,hids⟩:∃ n,n=b.L.map Bk.id:=⟨_,rfl⟩
  have hil:ids.length=b.L.length:=by rw [hids,List.length_map]
  rw [←hMB,←hids] at hw
  have hw:Sat R (WrB pw h1::Own s2 3 (intsI ids)::pts p (bookC b m1 m2)::MapAt m1 MF::MapAt m2 MB::FlsAt fs::BksAt xs::Hs) w:=by
   have h:Sat R (Own s 3 (intsI nums)::WrB pw h1::Own s2 3 (intsI ids)::pts p (bookC b m1 m2)::MapAt m1 MF::MapAt m2 MB::FlsAt fs::BksAt xs::Hs) w:=hw.arr
   exact h.drop
  refine ⟨fun i w=>∃ j:Nat,i=j∧j≤b.L.length∧Sat R (WrB pw (h1++((b.L.take j).map bkB).flatten)::Own s2 3 (intsI ids)::pts p (bookC b m1 m2)::MapAt m1 MF::MapAt m2 MB::FlsAt fs::BksAt xs::Hs) w,
   fun i _=>b.L.length - i.toNat,⟨0,rfl,by omega,by simpa using hw⟩,?_⟩
  clear hw
  rintro _ _ w ⟨j,rfl,hj,hw⟩
  have hlb:=a6 j
  refine Br.d (fun h=>?_) (fun h=>?_)
  ·have hj2:j<b.L.length:=by omega
   obtain ⟨x,hx⟩:∃ x,x=b.L[j]:=⟨_,rfl⟩
   have hmem:x∈b.L:=by rw [hx];exact List.getElem_mem _
   have hnj:ids[j]'(by omega)=x.id:=by subst hids;rw [List.getElem_map,hx]
   obtain ⟨A,a,C,hxs,hm⟩:=bk_split hl k.ids hmem
   have hgm:getM x.id MB=some (.pointer (some ⟨a,0,none⟩)):=by rw [hMB,hxs];exact bk_get hm
   have ke:=k.each x hmem
   have x1:=ke.id
   have x2:=ke.flt
   have x3:=ke.cls
   have x4:=ke.many
   have x5:=ke.state
   have x6:=ke.till
   have hw2:Sat R (Own s2 3 (intsI ids)::WrB pw (h1++((b.L.take j).map bkB).flatten)::pts p (bookC b m1 m2)::MapAt m1 MF::MapAt m2 MB::FlsAt fs::BksAt xs::Hs) w:=hw.swap
   refine Own.ix hw2 (eqS hw2) j rfl (by omega) ?_
   rw [hnj]
   refine NilP.mk rfl ⟨some m2,At.own (eqS hw) (by exact ⟨rfl,trivial⟩),?_⟩
   refine ⟨some ⟨a,0,none⟩,fun w' e=>?_,?_⟩
   ·rw [show w'=w from e]
    have hm1:Sat R (MapAt m2 MB::WrB pw (h1++((b.L.take j).map bkB).flatten)::Own s2 3 (intsI ids)::pts p (bookC b m1 m2)::MapAt m1 MF::FlsAt fs::BksAt xs::Hs) w:=hw.arr
    have:=MapAt.look bMap hm1 x.id false
    rw [hgm] at this
    exact this
   clear hw2
   rw [hxs] at hw
   have hw:Sat R (BksAt (A++(a,x)::C)::WrB pw (h1++((b.L.take j).map bkB).flatten)::Own s2 3 (intsI ids)::pts p (bookC b m1 m2)::MapAt m1 MF::MapAt m2 MB::FlsAt fs::Hs) w:=hw.arr
   have hw:=bks_mid.1 hw
   have toS2:∀ {A:List HP} {R:Cx} {w:World},Sat R (pts a (bkObj x)::A) w→Sat R [pts a (bkObj x),VC.tru] w:=fun h=>h.restTru2
   refine drw_rule' (Sat R [pts a (bkObj x),VC.tru]) hw (fun w hw=>toS2 hw) fun w hw=>?_
   refine NilP.mk rfl ⟨x.flt,At.own (fun _ h=>h) (by exact ⟨rfl,trivial⟩),NilP.mk rfl ⟨x.cls,At.own (fun _ h=>h) (by exact ⟨rfl,trivial⟩),NilP.mk rfl ⟨x.many,At.own (fun _ h=>h) (by exact ⟨rfl,trivial⟩),NilP.mk rfl ⟨x.state,At.own (fun _ h=>h) (by exact ⟨rfl,trivial⟩),NilP.mk rfl ⟨x.till,At.own (fun _ h=>h) (by exact ⟨rfl,trivial⟩),?_⟩⟩⟩⟩⟩
   have hw:Sat R (WrB pw (h1++((b.L.take j).map bkB).flatten)::pts a (bkObj x)::BksAt (A++C)::Own s2 3 (intsI ids)::pts p (bookC b m1 m2)::MapAt m1 MF::MapAt m2 MB::FlsAt fs::Hs) w:=hw.arr
   refine new_rule hw fun b103 w hw=>?_
   refine (wlit_spec (xs:=[x.id,x.flt,x.cls,x.many,x.state,x.till]) rfl (by simp;omega) (by simp only [List.length_append,List.length_cons,List.length_nil];omega) hw).use ?_
   clear hw
   rintro _ w ⟨rfl,hw⟩
   rw [nn6s (by omega) (by omega) (by omega) (by omega) (by omega) (by omega)] at hw
   have ebs:h1++((b.L.take j).map bkB).flatten++(numsB [x.id]++(numsB [x.flt]++(numsB [x.cls]++(numsB [x.many]++(numsB [x.state]++numsB [x.till])))))=h1++((b.L.take (j + 1)).map bkB).flatten:=by
    rw [flat_snoc hj2,←hx,List.append_assoc]
    rfl
   rw [ebs] at hw
   rw [wrap64 (x:=(j:Int) + 1) (by omega) (by omega)]
   have hw:Sat R (pts a (bkObj x)::BksAt (A++C)::WrB pw (h1++((b.L.take (j + 1)).map bkB).flatten)::Own s2 3 (intsI ids)::pts p (bookC b m1 m2)::MapAt m1 MF::MapAt m2 MB::FlsAt fs::Hs) w:=hw.arr
   refine ⟨rfl,toS2 hw,⟨j + 1,by omega,by omega,?_⟩,by dsimp only;omega⟩
   have hw:=bks_mid.2 hw
   rw [←hxs] at hw
   exact hw.arr
  ·have hjf:j=b.L.length:=by omega
   rw [hjf,List.take_length] at hw
   obtain ⟨t,hw⟩:=Sat.wrB.1 hw
   refine ⟨t,At.own (eqS hw) (by exact ⟨rfl,trivial⟩),hK t w ?_⟩
   have e:h1++(b.L.map bkB).flatten=saveB b:=by
    rw [hh1,hh0]
    unfold saveB
    simp only [List.append_assoc]
   rw [e] at hw
   rw [hMF,hMB] at hw
   have hw:=hw.drop
   refine hw.cons fun _ h=>Sat.book.2 ⟨m1,m2,fs,xs,hl,h.drop⟩
end Go.Proofs.YtfgbbckfikiomaaGreatDoor
/- Chapter 18: BookingRefused. Condition: the sizes of what is handed. -/
namespace Go.Proofs.YtfgbbckfikiomaaGreatDoor
set_option linter.unusedVariables false
open Go Go.VC
open Classical
variable {R:Cx} {Hs Rest:List HP} {w:World}
theorem conv_own {t:Sl} {bs:List Int} {T:TypeId} (hl:bs.length≤9223372036854775807) (hw:Sat R Hs w) [tk:Take (Own t T (b8 bs)) Hs Rest]:∀ w',(fun w'=>w'=w) w'→(convert 42 9 (.slice t.a t.len t.cap)).run Tryz.prog w'=.ok (.string (VC.strOf bs)) w':=fun w' e=>by
 rw [show w'=w from e]
 obtain ⟨_,q1,_,hw1,_⟩:=Own.lend (hw.perm tk.perm) (by rw [List.length_map];exact hl)
 exact convS_ro Tryz.underlying42 Tryz.underlying5 Tryz.underlying9 hw1 q1
theorem roI_nil:RoI R nilSl []:=⟨rfl,by show 0≤9223372036854775807;omega,fun h=>absurd rfl h⟩
theorem roS_nil:Ro R nilSl (strs []):=⟨rfl,by show 0≤9223372036854775807;omega,fun h=>absurd rfl h⟩
set_option maxHeartbeats 2000000 in
theorem brefused_lspec {l:Sl} {cs:List CmS} {c:Cm} {sg sp:Sl} (hr:CmsR R l cs) (hb:cs.length * 136≤140737488351232) (hf:FltC c) (hg:RoI R sg c.grps) (hgl:c.grps.length≤17592186043904) (hp:SlR R.m sp (flts c.parts)) (hw:Sat R Hs w):
  Gets Tryz.prog 5 #[.slice l.a l.len l.cap,cmA c sg sp] w fun v w'=>v=.bool true∧Sat R Hs w':=by
 have hlen:=hr.rows.len
 rw [List.length_map] at hlen
 have hplen:sp.len=c.parts.length:=by have:=hp.len;simpa using this
 apply call5
 suffices H:∀ K:Value→World→Prop,(∀ w',Sat R Hs w'→K (.bool true) w')→B5 l c.kind c.pnr c.flt c.cls c.many c.time c.sc c.lab c.rows sg sp K w from H _ fun w' h=>⟨rfl,h⟩
 intro K hK
 refine new_rule hw fun b3 w hw=>?_
 have hw:Sat R (cmC b3 c sg sp::Hs) w:=hw
 refine (aw18_spec hw).use ?_
 clear hw
 rintro _ w ⟨rfl,hw⟩
 refine ⟨_,rfl,?_⟩
 refine drw_rule' (cmS b3 c sg sp R) hw (fun w hw=>hw.restTru2) fun w hw=>?_
 refine ⟨c.kind,c.pnr,c.flt,c.cls,c.many,c.time,c.sc,c.lab,c.rows,sg,sp,At.own (fun _ h=>h) (by exact ⟨rfl,rfl,rfl,rfl,rfl,rfl,rfl,rfl,rfl,rfl,rfl,trivial⟩),?_⟩
 refine much2 hr hb (fun t w hm hw=>?_) hw
 refine ⟨fun w=>t=false∧Sat R (cmC b3 c sg sp::Hs) w,Br.f rfl (Br.mk (fun _=>hK _ hw.drop) (fun h=>⟨h,hw⟩)),?_⟩
 clear hw
 rintro _ w ⟨rfl,hw⟩
 have hm:=much_take (hm rfl)
 refine (bnew_spec hw).use ?_
 clear hw
 rintro _ w ⟨p,rfl,hw⟩
 refine ⟨_,rfl,?_⟩
 refine ⟨fun w=>∃ b:Book,BookOk b∧Sat R (BookAt p b::cmC b3 c sg sp::Hs) w,?_,?_⟩
 ·refine ⟨fun i w=>∃ (k:Nat) (b:Book),i=k∧k≤120∧BookOk b∧Sat R (BookAt p b::cmC b3 c sg sp::Hs) w,fun i _=>120 - i.toNat,⟨0,_,rfl,by omega,ok_new,hw⟩,?_⟩
  clear hw
  rintro _ _ w ⟨k,b,rfl,hk,ok,hw⟩
  with_reducible refine Br.d (fun h=>?_) (fun _=>⟨b,ok,hw⟩)
  with_reducible refine Br.d (fun h2=>?_) (fun _=>⟨b,ok,hw⟩)
  have hkl:k<cs.length:=by omega
  rw [wrap64 (x:=(k:Int) + 1) (by omega) (by omega)]
  have hS:=hr.rows.reads (eqS hw)
  refine hS.rngM hkl fun a _ el=>⟨cs[k].1.kind,cs[k].1.pnr,cs[k].1.flt,cs[k].1.cls,cs[k].1.many,cs[k].1.time,cs[k].1.sc,cs[k].1.lab,cs[k].1.rows,cs[k].2.1,cs[k].2.2,el.z (by exact ⟨rfl,rfl,rfl,rfl,rfl,rfl,rfl,rfl,rfl,rfl,rfl,trivial⟩),?_⟩
  refine (applyK hr hm (by omega) hkl ok hw).use ?_
  clear hw hS
  rintro _ w ⟨sl,sb,rfl,ok2,hw⟩
  exact ⟨_,_,_,_,_,_,_,sl,sb,rfl,⟨k + 1,_,by omega,by omega,ok2,hw.drop.drop⟩,by dsimp only;omega⟩
 clear hw
 rintro _ w ⟨b,ok,hw⟩
 have hsl:=saveB_len ok.core
 refine (bsave_spec ok.core hw).use ?_
 clear hw
 rintro _ w ⟨t1,rfl,hw⟩
 refine ⟨t1,rfl,c.kind,c.pnr,c.flt,c.cls,c.many,c.time,c.sc,c.lab,c.rows,sg,sp,At.own (eqS hw) (by exact ⟨rfl,rfl,rfl,rfl,rfl,rfl,rfl,rfl,rfl,rfl,rfl,trivial⟩),?_⟩
 refine (show_spec ok.core hg hgl hplen hw.swap).use ?_
 clear hw
 rintro _ w ⟨s1,s2,rfl,hw⟩
 refine ⟨_,_,_,_,_,_,_,s1,s2,rfl,?_⟩
 refine (bsave_spec ok.core hw.drop.drop).use ?_
 clear hw
 rintro _ w ⟨t2,rfl,hw⟩
 refine ⟨t2,rfl,c.kind,c.pnr,c.flt,c.cls,c.many,c.time,c.sc,c.lab,c.rows,sg,sp,At.own (eqS hw) (by exact ⟨rfl,rfl,rfl,rfl,rfl,rfl,rfl,rfl,rfl,rfl,rfl,trivial⟩),?_⟩
 refine (apply_spec ok hf.sc hg hgl hp hw.swap).use ?_
 clear hw
 rintro _ w ⟨sl,sb,rfl,hw⟩
 have herr:=err_apply (b:=b) (c:=c)
 have hshow:=show_same (b:=b) (c:=c)
 obtain ⟨rp,hrp⟩:∃ x,x=(applyB b c).2:=⟨_,rfl⟩
 obtain ⟨nb,hnb⟩:∃ x,x=(applyB b c).1:=⟨_,rfl⟩
 have herr:rp.code≠0→nb=b∧rp=errR rp.code:=fun h=>by
  rw [hrp] at h
  have:=herr h
  rw [hnb,hrp,this]
  exact ⟨rfl,rfl⟩
 rw [←hrp] at hw ⊢
 rw [←hnb] at hw hshow
 refine ⟨_,_,_,_,_,_,_,sl,sb,rfl,?_⟩
 refine new_rule hw fun br w hw=>?_
 refine store_rule hw (by kernel_rfl) rfl (by simp [Value.cells]) fun w hw=>?_
 have hw:=hw.re (rpC br rp sl sb)
 have c1:=conv_own (t:=t1) (T:=5) (bs:=saveB b) (by omega) hw
 have c2:=conv_own (t:=t2) (T:=5) (bs:=saveB b) (by omega) hw
 refine ⟨_,c1,_,c2,Br.sne (fun h=>absurd rfl h) (fun _=>?_)⟩
 have hw:Sat R (rpC br rp sl sb::Own sl 3 (intsI rp.left)::Own sb 9 (rp.labs.map Value.string)::BookAt p nb::Own t2 5 (b8 (saveB b))::Own t1 5 (b8 (saveB b))::cmC b3 c sg sp::Hs) w:=hw
 have done:∀ {w},Sat R (rpC br rp sl sb::Own sl 3 (intsI rp.left)::Own sb 9 (rp.labs.map Value.string)::BookAt p nb::Own t2 5 (b8 (saveB b))::Own t1 5 (b8 (saveB b))::cmC b3 c sg sp::Hs) w→K (.bool true) w:=fun hw=>hK _ hw.drop.drop.drop.drop.drop.drop.drop
 refine ⟨fun w=>nb=b∧Sat R (rpC br rp sl sb::Own sl 3 (intsI rp.left)::Own sb 9 (rp.labs.map Value.string)::BookAt p nb::Own t2 5 (b8 (saveB b))::Own t1 5 (b8 (saveB b))::cmC b3 c sg sp::Hs) w,?_,?_⟩
 ·refine ⟨rp.code,At.own (eqS hw) (by exact ⟨rfl,trivial⟩),Br.e (fun h0=>?_) (fun h0=>⟨(herr h0).1,hw⟩)⟩
  exact ⟨c.kind,At.own (eqS hw) (by exact ⟨rfl,trivial⟩),Br.ne (fun _=>done hw) (fun h9=>⟨hshow h9,hw⟩)⟩
 clear hw done c1 c2
 rintro _ w ⟨hnbb,hw⟩
 rw [hnbb] at hw
 have hw:Sat R (BookAt p b::rpC br rp sl sb::Own sl 3 (intsI rp.left)::Own sb 9 (rp.labs.map Value.string)::Own t2 5 (b8 (saveB b))::Own t1 5 (b8 (saveB b))::cmC b3 c sg sp::Hs) w:=hw.arr
 refine (bsave_spec ok.core hw).use ?_
 clear hw
 rintro _ w ⟨t3,rfl,hw⟩
 refine ⟨t3,rfl,?_⟩
 refine ⟨rp.code,rp.pnr,rp.state,rp.flt,rp.cls,rp.many,rp.time,sl,sb,At.own (eqS hw) (by exact ⟨rfl,rfl,rfl,rfl,rfl,rfl,rfl,rfl,rfl,trivial⟩),rp.code,At.own (eqS hw) (by exact ⟨rfl,trivial⟩),?_⟩
 have hin:=rpin_apply (c:=c) ok hf.sc
 rw [←hrp] at hin
 have hll:=hin.ll
 have hbl:=hin.bl
 have hw:Sat R (Own sl 3 (intsI rp.left)::Own sb 9 (strs rp.labs)::Own t3 5 (b8 (saveB b))::BookAt p b::rpC br rp sl sb::Own t2 5 (b8 (saveB b))::Own t1 5 (b8 (saveB b))::cmC b3 c sg sp::Hs) w:=hw.arr
 obtain ⟨R1,e1,r1,hw⟩:=Own.leak hw
 obtain ⟨R2,e2,r2,hw⟩:=Own.leak hw
 refine (same18_spec (b:=errR rp.code) (ma:=nilSl) (mb:=nilSl) (e2.ro (r1.ro (by rw [List.length_map];omega))) roI_nil (r2.ro (by rw [List.length_map];omega)) roS_nil hw).use ?_
 clear hw
 rintro _ w ⟨rfl,hw⟩
 refine ⟨_,rfl,?_⟩
 have c3:=conv_own (t:=t3) (T:=5) (bs:=saveB b) (by omega) hw
 have c1:=conv_own (t:=t1) (T:=5) (bs:=saveB b) (by omega) hw
 have fin:=fun v (h:v=true)=>(show K (.bool v) w by rw [h];exact hK _ (e1.back (e2.back hw.drop.drop.drop.drop.drop.drop)))
 refine ⟨_,c3,_,c1,Br.se (fun _=>?_) (fun h=>absurd rfl h)⟩
 refine ⟨rp.code,At.own (eqS hw) (by exact ⟨rfl,trivial⟩),Br.e (fun _=>fin _ rfl) (fun h0=>fin _ (decide_eq_true (herr h0).2))⟩
end Go.Proofs.YtfgbbckfikiomaaGreatDoor
