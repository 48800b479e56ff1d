/- Package booking: Save. Condition: bounds. -/
import Derived.Test.YtfgbbckfikiomaaGreatDoorB6
namespace Go.Proofs.YtfgbbckfikiomaaGreatDoor
set_option linter.unusedVariables false
open Go Go.VC
open Classical
variable {R:Cx} {Hs Rest:List HP} {w:World}
theorem nn3s {a b c:Int} (h0:0≤a) (h1:0≤b) (h2:0≤c):numsB ([a,b,c].map nn)=numsB [a]++(numsB [b]++numsB [c]):=by
 show numsB [nn a,nn b,nn c]=_
 rw [nn_id h0,nn_id h1,nn_id h2,numsB_sp a,numsB_sp b]
theorem nn6s {a b c d e f:Int} (h0:0≤a) (h1:0≤b) (h2:0≤c) (h3:0≤d) (h4:0≤e) (h5:0≤f):numsB ([a,b,c,d,e,f].map nn)=numsB [a]++(numsB [b]++(numsB [c]++(numsB [d]++(numsB [e]++numsB [f])))):=by
 show numsB [nn a,nn b,nn c,nn d,nn e,nn f]=_
 rw [nn_id h0,nn_id h1,nn_id h2,nn_id h3,nn_id h4,nn_id h5,numsB_sp a,numsB_sp b,numsB_sp c,numsB_sp d,numsB_sp e]
theorem wtext_own {p:Nat} {s:Sl} {d bs:List Int} {T:TypeId} (hl:bs.length + d.length≤1099511627776) (hd:d.length≤1099511627776) (hw:Sat R (Own s T (b8 d)::WrB p bs::Hs) w):
  Gets Tryz.prog 52 #[.pointer (some ⟨p,0,none⟩),.slice s.a s.len s.cap] w fun v w'=>v=.tuple #[]∧Sat R (WrB p (bs++textB d)::Hs) w':=by
 obtain ⟨R1,e1,g1,hw⟩:=Own.leak hw
 refine (wtext_spec hl hd (g1.ro (by rw [List.length_map];omega)) hw).mono ?_
 rintro _ w ⟨rfl,hw⟩
 exact ⟨rfl,e1.back hw⟩
set_option maxHeartbeats 2000000 in
theorem bsave_spec {p:Nat} {b:Book} (k:Core b) (hw:Sat R (BookAt p b::Hs) w):
  Gets Tryz.prog 18 #[.pointer (some ⟨p,0,none⟩)] w fun v w'=>∃ t:Sl,v=.slice t.a t.len t.cap∧Sat R (Own t 5 (b8 (saveB b))::BookAt p b::Hs) w':=by
 apply call18
 suffices H:∀ K:Value→World→Prop,(∀ (t:Sl) w',Sat R (Own t 5 (b8 (saveB b))::BookAt p b::Hs) w'→K (.slice t.a t.len t.cap) w')→B18 (some ⟨p,0,none⟩) K w from H _ fun t w' h=>⟨t,rfl,h⟩
 intro K hK
 have k1:=k.now
 have k2:=k.next
 have k3:=k.few
 have k4:=k.many
 have a1:=nums1_len (x:=b.now) (by omega)
 have a2:=nums1_len (x:=b.next) (by omega)
 have a3:=nums1_len (x:=(b.fl.length:Int)) (by omega)
 have a4:=nums1_len (x:=(b.L.length:Int)) (by omega)
 have a5:∀ j,(((b.fl.take j).map plB).flatten).length≤304000:=fun j=>by
  have:=flat_len (l:=b.fl.take j) (code:=plB) (m:=38000) fun p hp=>plB_len (k.good p (List.mem_of_mem_take hp)) (k.qok p (List.mem_of_mem_take hp))
  rw [List.length_take] at this
  omega
 have a6:∀ j,(((b.L.take j).map bkB).flatten).length≤16200:=fun j=>by
  have:=flat_len (l:=b.L.take j) (code:=bkB) (m:=54) fun x hx=>bkB_len k2.2 (k.each x (List.mem_of_mem_take hx))
  rw [List.length_take] at this
  omega
 obtain ⟨m1,m2,fs,xs,hl,hw⟩:=Sat.book.1 hw
 have hfl:=fl_len hl
 have hbl:=bk_len hl
 refine new_rule hw fun pw w hw=>?_
 have hw:Sat R (WrB pw []::pts p (bookC b m1 m2)::MapAt m1 (fs.map flV)::MapAt m2 (xs.map bkV)::FlsAt fs::BksAt xs::Hs) w:=Sat.wrB.2 ⟨nilSl,(Own.nil hw).swap⟩
 have toS:∀ {A:List HP} {R:Cx} {w:World},Sat R (pts p (bookC b m1 m2)::MapAt m1 (fs.map flV)::A) w→Sat R [pts p (bookC b m1 m2),MapAt m1 (fs.map flV),VC.tru] w:=fun h=>h.cons fun _ h=>h.restTru2
 refine drw_rule' (Sat R [pts p (bookC b m1 m2),MapAt m1 (fs.map flV),VC.tru]) hw (fun w hw=>?_) fun w hw=>?_
 ·exact toS (hw.arr (Hs':=pts p (bookC b m1 m2)::MapAt m1 (fs.map flV)::WrB pw []::MapAt m2 (xs.map bkV)::FlsAt fs::BksAt xs::Hs))
 refine NilP.mk rfl ⟨b.now,At.own (fun _ h=>h) (by exact ⟨rfl,trivial⟩),NilP.mk rfl ⟨b.next,At.own (fun _ h=>h) (by exact ⟨rfl,trivial⟩),NilP.mk rfl ⟨some m1,At.own (fun _ h=>h) (by exact ⟨rfl,trivial⟩),((fs.map flV).length:Int),fun w' h=>MapAt.len (by kernel_rfl) h.swap,?_⟩⟩⟩
 rw [List.length_map,hfl]
 refine new_rule hw fun b26 w hw=>⟨?_,?_⟩
 ·exact toS (hw.arr (Hs':=pts p (bookC b m1 m2)::MapAt m1 (fs.map flV)::pts b26 (.cells #[.int .i64 b.now,.int .i64 b.next,.int .i64 (b.fl.length:Int)] 3 (0,0))::WrB pw []::MapAt m2 (xs.map bkV)::FlsAt fs::BksAt xs::Hs))
 refine (wlit_spec (xs:=[b.now,b.next,(b.fl.length:Int)]) rfl (by simp;omega) (by simp) hw).use ?_
 clear hw
 rintro _ w ⟨rfl,hw⟩
 refine ⟨rfl,?_,?_⟩
 ·exact toS (hw.arr (Hs':=pts p (bookC b m1 m2)::MapAt m1 (fs.map flV)::WrB pw ([]++numsB ([b.now,b.next,(b.fl.length:Int)].map nn))::MapAt m2 (xs.map bkV)::FlsAt fs::BksAt xs::Hs))
 rw [nn3s (by omega) (by omega) (by omega),List.nil_append] at hw
 obtain ⟨h0,hh0⟩:∃ h,h=numsB [b.now]++(numsB [b.next]++numsB [(b.fl.length:Int)]):=⟨_,rfl⟩
 have hl0:h0.length≤27:=by rw [hh0];simp only [List.length_append];omega
 rw [←hh0] at hw
 have hw:Sat R (pts p (bookC b m1 m2)::MapAt m1 (fs.map flV)::WrB pw h0::MapAt m2 (xs.map bkV)::FlsAt fs::BksAt xs::Hs) w:=hw.arr
 refine NilP.mk rfl ⟨some m1,At.own (eqS hw) (by exact ⟨rfl,trivial⟩),?_⟩
 refine sortF_rule k hl hw.swap ?_
 clear hw
 intro s w hw
 have hsl:=Own.len hw
 rw [List.length_map,List.length_map] at hsl
 obtain ⟨MF,hMF⟩:∃ M,M=fs.map flV:=⟨_,rfl⟩
 obtain ⟨MB,hMB⟩:∃ M,M=xs.map bkV:=⟨_,rfl⟩
 obtain ⟨nums,hnums⟩:∃ n,n=b.fl.map Pl.n:=⟨_,rfl⟩
 have hnl:nums.length=b.fl.length:=by rw [hnums,List.length_map]
 rw [←hMF,←hMB,←hnums] at hw
 have hw:Sat R (WrB pw h0::Own s 3 (intsI nums)::pts p (bookC b m1 m2)::MapAt m1 MF::MapAt m2 MB::FlsAt fs::BksAt xs::Hs) w:=hw.arr
 refine ⟨fun i w=>∃ j:Nat,i=j∧j≤b.fl.length∧Sat R (WrB pw (h0++((b.fl.take j).map plB).flatten)::Own s 3 (intsI nums)::pts p (bookC b m1 m2)::MapAt m1 MF::MapAt m2 MB::FlsAt fs::BksAt xs::Hs) w,
  fun i _=>b.fl.length - i.toNat,⟨0,rfl,by omega,by simpa using hw⟩,?_⟩
 clear hw
 rintro _ _ w ⟨j,rfl,hj,hw⟩
 have hla:=a5 j
 refine Br.d (fun h=>?_) (fun h=>?_)
 ·have hj2:j<b.fl.length:=by omega
  obtain ⟨pl,hpl⟩:∃ pl,pl=b.fl[j]:=⟨_,rfl⟩
  have hmem:pl∈b.fl:=by rw [hpl];exact List.getElem_mem _
  have hat:b.at pl.n=some pl:=(at_iff k).2 ⟨hmem,rfl⟩
  have hnj:nums[j]'(by omega)=pl.n:=by subst hnums;rw [List.getElem_map,hpl]
  have hg:=k.good pl hmem
  have hq:=k.qok pl hmem
  have e1:=renc_tight hg
  have e2:=qB_len hq
  have hw2:Sat R (Own s 3 (intsI nums)::WrB pw (h0++((b.fl.take j).map plB).flatten)::pts p (bookC b m1 m2)::MapAt m1 MF::MapAt m2 MB::FlsAt fs::BksAt xs::Hs) w:=hw.swap
  refine Own.ix hw2 (eqS hw2) j rfl (by omega) ?_
  rw [hnj]
  refine NilP.mk rfl ⟨some m1,At.own (eqS hw) (by exact ⟨rfl,trivial⟩),?_⟩
  obtain ⟨A,f,q,C,hfs,hm⟩:=fl_split hl k.nums hat
  have hgm:getM pl.n MF=some (.agg #[.pointer (some ⟨f,0,none⟩),.pointer (some ⟨q,0,none⟩)]):=by rw [hMF,hfs];exact fl_get hm
  refine ⟨some ⟨f,0,none⟩,some ⟨q,0,none⟩,fun w' e=>?_,?_⟩
  ·rw [show w'=w from e]
   have hm1:Sat R (MapAt m1 MF::WrB pw (h0++((b.fl.take j).map plB).flatten)::Own s 3 (intsI nums)::pts p (bookC b m1 m2)::MapAt m2 MB::FlsAt fs::BksAt xs::Hs) w:=hw.arr
   have:=MapAt.look pMap hm1 pl.n false
   rw [hgm] at this
   exact this
  clear hw2
  refine new_rule hw fun b6 w hw=>?_
  refine store_rule hw (by kernel_rfl) rfl (by simp [Value.cells]) fun w hw=>?_
  have hw:=hw.re (fqC b6 f q)
  rw [hfs] at hw
  have hw:Sat R (FlsAt (A++(f,q,pl)::C)::fqC b6 f q::WrB pw (h0++((b.fl.take j).map plB).flatten)::Own s 3 (intsI nums)::pts p (bookC b m1 m2)::MapAt m1 MF::MapAt m2 MB::BksAt xs::Hs) w:=hw.arr
  have hw:=fls_mid.1 hw
  refine ⟨some ⟨f,0,none⟩,At.own (eqS hw) (by exact ⟨rfl,trivial⟩),?_⟩
  refine (lone_encode hw).use ?_
  clear hw
  rintro _ w ⟨t1,rfl,hw⟩
  refine ⟨t1,rfl,?_⟩
  have hw:Sat R (Own t1 5 (b8 (rencB pl.r))::WrB pw (h0++((b.fl.take j).map plB).flatten)::QuAt q pl.q::LoneAt f pl.r::FlsAt (A++C)::fqC b6 f q::Own s 3 (intsI nums)::pts p (bookC b m1 m2)::MapAt m1 MF::MapAt m2 MB::BksAt xs::Hs) w:=hw.arr
  refine (wtext_own (by rw [List.length_append];omega) (by omega) hw).use ?_
  clear hw
  rintro _ w ⟨rfl,hw⟩
  refine ⟨rfl,some ⟨q,0,none⟩,At.own (eqS hw) (by exact ⟨rfl,trivial⟩),?_⟩
  refine (qenc_spec hq hw.swap).use ?_
  clear hw
  rintro _ w ⟨t2,rfl,hw⟩
  refine ⟨t2,rfl,?_⟩
  have e3:=textB_len (d:=rencB pl.r) (by omega)
  have hw:Sat R (Own t2 5 (b8 (qB pl.q))::WrB pw (h0++((b.fl.take j).map plB).flatten++textB (rencB pl.r))::QuAt q pl.q::LoneAt f pl.r::FlsAt (A++C)::fqC b6 f q::Own s 3 (intsI nums)::pts p (bookC b m1 m2)::MapAt m1 MF::MapAt m2 MB::BksAt xs::Hs) w:=hw.arr
  refine (wtext_own (by simp only [List.length_append];omega) (by omega) hw).use ?_
  clear hw
  rintro _ w ⟨rfl,hw⟩
  rw [wrap64 (x:=(j:Int) + 1) (by omega) (by omega)]
  refine ⟨rfl,⟨j + 1,by omega,by omega,?_⟩,by dsimp only;omega⟩
  have ebs:h0++((b.fl.take j).map plB).flatten++textB (rencB pl.r)++textB (qB pl.q)=h0++((b.fl.take (j + 1)).map plB).flatten:=by
   rw [flat_snoc hj2,←hpl]
   unfold plB
   simp only [List.append_assoc]
  rw [ebs] at hw
  have hw:Sat R (LoneAt f pl.r::QuAt q pl.q::FlsAt (A++C)::WrB pw (h0++((b.fl.take (j + 1)).map plB).flatten)::fqC b6 f q::Own s 3 (intsI nums)::pts p (bookC b m1 m2)::MapAt m1 MF::MapAt m2 MB::BksAt xs::Hs) w:=hw.arr
  have hw:=fls_mid.2 hw
  rw [←hfs] at hw
  have hw:Sat R (fqC b6 f q::WrB pw (h0++((b.fl.take (j + 1)).map plB).flatten)::Own s 3 (intsI nums)::pts p (bookC b m1 m2)::MapAt m1 MF::MapAt m2 MB::FlsAt fs::BksAt xs::Hs) w:=hw.arr
  exact hw.drop
 ·have hjf:j=b.fl.length:=by omega
  rw [hjf,List.take_length] at hw
  have a50:=a5 b.fl.length
  rw [List.take_length] at a50
  refine NilP.mk rfl ⟨some m2,At.own (eqS hw) (by exact ⟨rfl,trivial⟩),(MB.length:Int),fun w' e=>?_,?_⟩
  ·rw [show w'=w from e]
   have hm2:Sat R (MapAt m2 MB::WrB pw (h0++(b.fl.map plB).flatten)::Own s 3 (intsI nums)::pts p (bookC b m1 m2)::MapAt m1 MF::FlsAt fs::BksAt xs::Hs) w:=hw.arr
   exact MapAt.len (by kernel_rfl) hm2
  rw [show MB.length=b.L.length by rw [hMB,List.length_map,hbl]]
  refine new_rule hw fun b62 w hw=>?_
  refine (wlit_spec (xs:=[(b.L.length:Int)]) rfl (by simp;omega) (by simp only [List.length_append,List.length_cons,List.length_nil];omega) hw).use ?_
  clear hw
  rintro _ w ⟨rfl,hw⟩
  rw [nn1 (by omega)] at hw
  obtain ⟨h1,hh1⟩:∃ h,h=h0++(b.fl.map plB).flatten++numsB [(b.L.length:Int)]:=⟨_,rfl⟩
  have hl1:h1.length≤305000:=by rw [hh1];simp only [List.length_append];omega
  rw [←hh1] at hw
  refine ⟨rfl,NilP.mk rfl ⟨some m2,At.own (eqS hw) (by exact ⟨rfl,trivial⟩),?_⟩⟩
  have hw:Sat R (MapAt m2 MB::WrB pw h1::pts p (bookC b m1 m2)::MapAt m1 MF::FlsAt fs::BksAt xs::Own s 3 (intsI nums)::Hs) w:=hw.arr
  rw [hMB] at hw
  refine sortB_rule k hl hw ?_
  clear hw
  intro s2 w hw
  have hsl2:=Own.len hw
  rw [List.length_map,List.length_map] at hsl2
  obtain ⟨ids,hids⟩:∃ n,n=b.L.map Bk.id:=⟨_,rfl⟩
  have hil:ids.length=b.L.length:=by rw [hids,List.length_map]
  rw [←hMB,←hids] at hw
  have hw:Sat R (WrB pw h1::Own s2 3 (intsI ids)::pts p (bookC b m1 m2)::MapAt m1 MF::MapAt m2 MB::FlsAt fs::BksAt xs::Hs) w:=by
   have h:Sat R (Own s 3 (intsI nums)::WrB pw h1::Own s2 3 (intsI ids)::pts p (bookC b m1 m2)::MapAt m1 MF::MapAt m2 MB::FlsAt fs::BksAt xs::Hs) w:=hw.arr
   exact h.drop
  refine ⟨fun i w=>∃ j:Nat,i=j∧j≤b.L.length∧Sat R (WrB pw (h1++((b.L.take j).map bkB).flatten)::Own s2 3 (intsI ids)::pts p (bookC b m1 m2)::MapAt m1 MF::MapAt m2 MB::FlsAt fs::BksAt xs::Hs) w,
   fun i _=>b.L.length - i.toNat,⟨0,rfl,by omega,by simpa using hw⟩,?_⟩
  clear hw
  rintro _ _ w ⟨j,rfl,hj,hw⟩
  have hlb:=a6 j
  refine Br.d (fun h=>?_) (fun h=>?_)
  ·have hj2:j<b.L.length:=by omega
   obtain ⟨x,hx⟩:∃ x,x=b.L[j]:=⟨_,rfl⟩
   have hmem:x∈b.L:=by rw [hx];exact List.getElem_mem _
   have hnj:ids[j]'(by omega)=x.id:=by subst hids;rw [List.getElem_map,hx]
   obtain ⟨A,a,C,hxs,hm⟩:=bk_split hl k.ids hmem
   have hgm:getM x.id MB=some (.pointer (some ⟨a,0,none⟩)):=by rw [hMB,hxs];exact bk_get hm
   have ke:=k.each x hmem
   have x1:=ke.id
   have x2:=ke.flt
   have x3:=ke.cls
   have x4:=ke.many
   have x5:=ke.state
   have x6:=ke.till
   have hw2:Sat R (Own s2 3 (intsI ids)::WrB pw (h1++((b.L.take j).map bkB).flatten)::pts p (bookC b m1 m2)::MapAt m1 MF::MapAt m2 MB::FlsAt fs::BksAt xs::Hs) w:=hw.swap
   refine Own.ix hw2 (eqS hw2) j rfl (by omega) ?_
   rw [hnj]
   refine NilP.mk rfl ⟨some m2,At.own (eqS hw) (by exact ⟨rfl,trivial⟩),?_⟩
   refine ⟨some ⟨a,0,none⟩,fun w' e=>?_,?_⟩
   ·rw [show w'=w from e]
    have hm1:Sat R (MapAt m2 MB::WrB pw (h1++((b.L.take j).map bkB).flatten)::Own s2 3 (intsI ids)::pts p (bookC b m1 m2)::MapAt m1 MF::FlsAt fs::BksAt xs::Hs) w:=hw.arr
    have:=MapAt.look bMap hm1 x.id false
    rw [hgm] at this
    exact this
   clear hw2
   rw [hxs] at hw
   have hw:Sat R (BksAt (A++(a,x)::C)::WrB pw (h1++((b.L.take j).map bkB).flatten)::Own s2 3 (intsI ids)::pts p (bookC b m1 m2)::MapAt m1 MF::MapAt m2 MB::FlsAt fs::Hs) w:=hw.arr
   have hw:=bks_mid.1 hw
   have toS2:∀ {A:List HP} {R:Cx} {w:World},Sat R (pts a (bkObj x)::A) w→Sat R [pts a (bkObj x),VC.tru] w:=fun h=>h.restTru2
   refine drw_rule' (Sat R [pts a (bkObj x),VC.tru]) hw (fun w hw=>toS2 hw) fun w hw=>?_
   refine NilP.mk rfl ⟨x.flt,At.own (fun _ h=>h) (by exact ⟨rfl,trivial⟩),NilP.mk rfl ⟨x.cls,At.own (fun _ h=>h) (by exact ⟨rfl,trivial⟩),NilP.mk rfl ⟨x.many,At.own (fun _ h=>h) (by exact ⟨rfl,trivial⟩),NilP.mk rfl ⟨x.state,At.own (fun _ h=>h) (by exact ⟨rfl,trivial⟩),NilP.mk rfl ⟨x.till,At.own (fun _ h=>h) (by exact ⟨rfl,trivial⟩),?_⟩⟩⟩⟩⟩
   have hw:Sat R (WrB pw (h1++((b.L.take j).map bkB).flatten)::pts a (bkObj x)::BksAt (A++C)::Own s2 3 (intsI ids)::pts p (bookC b m1 m2)::MapAt m1 MF::MapAt m2 MB::FlsAt fs::Hs) w:=hw.arr
   refine new_rule hw fun b103 w hw=>?_
   refine (wlit_spec (xs:=[x.id,x.flt,x.cls,x.many,x.state,x.till]) rfl (by simp;omega) (by simp only [List.length_append,List.length_cons,List.length_nil];omega) hw).use ?_
   clear hw
   rintro _ w ⟨rfl,hw⟩
   rw [nn6s (by omega) (by omega) (by omega) (by omega) (by omega) (by omega)] at hw
   have ebs:h1++((b.L.take j).map bkB).flatten++(numsB [x.id]++(numsB [x.flt]++(numsB [x.cls]++(numsB [x.many]++(numsB [x.state]++numsB [x.till])))))=h1++((b.L.take (j + 1)).map bkB).flatten:=by
    rw [flat_snoc hj2,←hx,List.append_assoc]
    rfl
   rw [ebs] at hw
   rw [wrap64 (x:=(j:Int) + 1) (by omega) (by omega)]
   have hw:Sat R (pts a (bkObj x)::BksAt (A++C)::WrB pw (h1++((b.L.take (j + 1)).map bkB).flatten)::Own s2 3 (intsI ids)::pts p (bookC b m1 m2)::MapAt m1 MF::MapAt m2 MB::FlsAt fs::Hs) w:=hw.arr
   refine ⟨rfl,toS2 hw,⟨j + 1,by omega,by omega,?_⟩,by dsimp only;omega⟩
   have hw:=bks_mid.2 hw
   rw [←hxs] at hw
   exact hw.arr
  ·have hjf:j=b.L.length:=by omega
   rw [hjf,List.take_length] at hw
   obtain ⟨t,hw⟩:=Sat.wrB.1 hw
   refine ⟨t,At.own (eqS hw) (by exact ⟨rfl,trivial⟩),hK t w ?_⟩
   have e:h1++(b.L.map bkB).flatten=saveB b:=by
    rw [hh1,hh0]
    unfold saveB
    simp only [List.append_assoc]
   rw [e] at hw
   rw [hMF,hMB] at hw
   have hw:=hw.drop
   refine hw.cons fun _ h=>Sat.book.2 ⟨m1,m2,fs,xs,hl,h.drop⟩
end Go.Proofs.YtfgbbckfikiomaaGreatDoor
/- Chapter 18: BookingRefused. Condition: the sizes of what is handed. -/
namespace Go.Proofs.YtfgbbckfikiomaaGreatDoor
set_option linter.unusedVariables false
open Go Go.VC
open Classical
variable {R:Cx} {Hs Rest:List HP} {w:World}
theorem conv_own {t:Sl} {bs:List Int} {T:TypeId} (hl:bs.length≤9223372036854775807) (hw:Sat R Hs w) [tk:Take (Own t T (b8 bs)) Hs Rest]:∀ w',(fun w'=>w'=w) w'→(convert 42 9 (.slice t.a t.len t.cap)).run Tryz.prog w'=.ok (.string (VC.strOf bs)) w':=fun w' e=>by
 rw [show w'=w from e]
 obtain ⟨_,q1,_,hw1,_⟩:=Own.lend (hw.perm tk.perm) (by rw [List.length_map];exact hl)
 exact convS_ro Tryz.underlying42 Tryz.underlying5 Tryz.underlying9 hw1 q1
end Go.Proofs.YtfgbbckfikiomaaGreatDoor
/- Package queue: Decode. Condition: a bound on the length. -/
namespace Go.Proofs.YtfgbbckfikiomaaGreatDoor
set_option linter.unusedVariables false
open Go Go.VC
open Classical
variable {R:Cx} {Hs Rest:List HP} {w:World}
theorem rdEach_add {α:Type} (one:Rd→α × Rd) (m:Nat):∀ (k:Nat) (r:Rd),(rdEach one (k + m) r).1=(rdEach one k r).1++(rdEach one m (rdEach one k r).2).1
  |0,r=>by rw [Nat.zero_add];rfl
  |k + 1,r=>by
    rw [show k + 1 + m=(k + m) + 1 by omega,rdEach_succ,rdEach_succ]
    dsimp only
    rw [rdEach_add one m k]
    rfl
theorem qnum_spec {br r:Nat} {rd:Rd} {most:Int} (h0:0≤most) (h1:most<9223372036854775808) (hb:Bytes rd.bs) (hw:Sat R (pts br (brCell r)::RdAt r rd::Hs) w):
    Gets Tryz.prog 169 #[.int .i64 most,.pointer (some ⟨br,0,none⟩)] w fun v w'=>v=.int .i64 (rdNum most rd).1∧Sat R (pts br (brCell r)::RdAt r (rdNum most rd).2::Hs) w':=by
  have hv:=rdNum_val (most:=most) hb h0
  apply call169
  refine NilP.mk rfl ⟨some ⟨r,0,none⟩,At.own (eqS hw) (by exact ⟨rfl,trivial⟩),?_⟩
  rw [wrapU64 (by omega) (by omega)]
  refine (rnum_spec (most:=most) hb hw.swap).use ?_
  rintro _ w ⟨rfl,hw⟩
  refine ⟨_,rfl,?_,hw.swap⟩
  rw [wrap64 (by omega) (by omega)]
theorem qread_step {l:List Wt} {x:Wt} (hl:QRight l) (hf:∀ y∈l,y.sc<18446744073709551616) (hn:l.length<200) (hx:x.sc<18446744073709551616):
    ((∃ h:0<l.length,0<(l[l.length - 1]'(by omega)).ord x)→¬ QRight (l++[x]))∧
    (¬ (∃ h:0<l.length,0<(l[l.length - 1]'(by omega)).ord x)→((qadd l x).2≠0→¬ QRight (l++[x]))∧((qadd l x).2=0→QRight (l++[x])∧(qadd l x).1=l++[x])):=by
  constructor
  · rintro ⟨h,ho⟩ hr
    have h1:=hr.last.2.2 l[l.length - 1] (List.getElem_mem _)
    have h2:=ord_pos.1 ho
    rw [ahead_asym h1] at h2
    cases h2
  · intro hno
    unfold qadd
    by_cases hok:x.Ok
    · rw [if_neg (fun h=>h hok)]
      by_cases hid:hasQ x.id l=true
      · rw [if_pos hid]
        refine ⟨fun _ hr=>?_,fun h=>by cases h⟩
        obtain ⟨y,hy,he⟩:=hasQ_iff.1 hid
        exact hr.last.2.1 y hy he
      · rw [if_neg hid,if_neg (by omega)]
        have hid:=hasQ_no.1 (by simpa using hid)
        have hall:∀ y∈l,y.ahead x=true:=by
          intro y hy
          obtain ⟨i,hi,rfl⟩:=List.getElem_of_mem hy
          have hl1:l[l.length - 1].ahead x=true:=by
            have h1:l[l.length - 1].id≠x.id:=hid _ (List.getElem_mem _)
            have h2:x.ahead l[l.length - 1]=false:=by
              cases h3:x.ahead l[l.length - 1] with
              |false=>rfl
              |true=>exact absurd ⟨by omega,ord_pos.2 h3⟩ hno
            exact ahead_tot (fun e=>h1 e.symm) h2
          by_cases hil:i=l.length - 1
          · subst hil;exact hl1
          · exact ahead_trans (qst_lt hl.st (i:=i) (j:=l.length - 1) (by omega) (by omega)) hl1
        exact ⟨fun h=>absurd rfl h,fun _=>⟨hl.snoc hok hid hall,insQ_end hall⟩⟩
    · rw [if_pos hok]
      exact ⟨fun _ hr=>hok hr.last.1,fun h=>by cases h⟩
theorem decQ_no {bs:List Int} {l m:List Wt} {x:Wt} (h:(qRaw bs).1=l++[x]++m) (hn:¬ QRight (l++[x])):decQ bs=none:=by
  unfold decQ
  rw [if_neg]
  rintro ⟨_,hq⟩
  rw [h] at hq
  exact hn hq.pre
set_option maxHeartbeats 2000000 in
theorem qdecode_spec {s:Sl} {bs:List Int} (hb:Bytes bs) (hl:bs.length≤1099511627776) (hs:Ro R s (b8 bs)) (hw:Sat R Hs w):
    Gets Tryz.prog 103 #[.slice s.a s.len s.cap] w fun v w'=>(decQ bs=none∧v=.tuple #[.pointer none,.int .i64 6]∧Sat R Hs w')∨(∃ l q,decQ bs=some l∧v=.tuple #[.pointer (some ⟨q,0,none⟩),.int .i64 0]∧Sat R (QuAt q l::Hs) w'):=by
  apply call103
  suffices H:∀ K:Value→World→Prop,(decQ bs=none→∀ w',Sat R Hs w'→K (.tuple #[.pointer none,.int .i64 6]) w')→(∀ l q w',decQ bs=some l→Sat R (QuAt q l::Hs) w'→K (.tuple #[.pointer (some ⟨q,0,none⟩),.int .i64 0]) w')→B103 s K w from
    H _ (fun e w' h=>.inl ⟨e,rfl,h⟩) fun l q w' e h=>.inr ⟨l,q,e,rfl,h⟩
  intro K hK1 hK2
  refine (fnew_spec hs hl hw).use ?_
  clear hw
  rintro _ w ⟨r,rfl,hw⟩
  refine ⟨_,rfl,?_⟩
  refine new_rule hw fun br w hw=>?_
  refine store_rule hw (by kernel_rfl) rfl (by simp [Value.cells]) fun w hw=>?_
  have hw:=hw.re (pts br (brCell r))
  refine (qnew_spec hw).use ?_
  clear hw
  rintro _ w ⟨q,rfl,hw⟩
  refine ⟨_,rfl,?_⟩
  have hw:Sat R (pts br (brCell r)::RdAt r ⟨bs,false⟩::QuAt q []::Hs) w:=hw.arr
  refine (qnum_spec (by omega) (by omega) hb hw).use ?_
  clear hw
  rintro _ w ⟨rfl,hw⟩
  refine ⟨_,rfl,?_⟩
  have hv:=rdNum_val (most:=200) (rd:=⟨bs,false⟩) hb (by omega)
  have hb0:Bytes (rdNum 200 ⟨bs,false⟩).2.bs:=rdNum_bd hb
  obtain ⟨n,hn⟩:∃ n:Nat,(rdNum 200 ⟨bs,false⟩).1=n:=⟨_,(Int.toNat_of_nonneg hv.1).symm⟩
  obtain ⟨r0,hr0⟩:∃ x,x=(rdNum 200 ⟨bs,false⟩).2:=⟨_,rfl⟩
  have hraw:qRaw bs=rdEach wtRd n r0:=by unfold qRaw;rw [hn,hr0,Int.toNat_natCast]
  rw [←hr0] at hw hb0
  rw [hn] at hv ⊢
  have inv:=fun k=>rdEach_inv (one:=wtRd) (P:=fun r=>Bytes r.bs) (Q:=fun x=>x.sc<18446744073709551616) (fun r hr=>⟨wtRd_fl hr,wtRd_bd hr⟩) k hb0
  refine ⟨fun i w=>∃ k:Nat,i=k∧k≤n∧QRight (rdEach wtRd k r0).1∧Sat R (pts br (brCell r)::RdAt r (rdEach wtRd k r0).2::QuAt q (rdEach wtRd k r0).1::Hs) w,fun i _=>(n - i).toNat,⟨0,rfl,by omega,QRight.nil,hw⟩,?_⟩
  clear hw
  rintro _ _ w ⟨k,rfl,hk,hq,hw⟩
  have hi:=inv k
  have hlen:=rdEach_len wtRd k r0
  have hsn:=rdEach_snoc wtRd k r0
  refine Br.d (fun h=>?_) (fun h=>?_)
  · have hkn:k<n:=by omega
    have hadd:(qRaw bs).1=(rdEach wtRd (k + 1) r0).1++(rdEach wtRd (n - (k + 1)) (rdEach wtRd (k + 1) r0).2).1:=by
      rw [hraw,←rdEach_add,show k + 1 + (n - (k + 1))=n by omega]
    obtain ⟨l,hll⟩:∃ l,l=(rdEach wtRd k r0).1:=⟨_,rfl⟩
    obtain ⟨rd,hrd⟩:∃ rd,rd=(rdEach wtRd k r0).2:=⟨_,rfl⟩
    rw [←hll] at hq hw hi hlen hsn
    rw [←hrd] at hw hi hsn
    have hb1:=hi.2
    refine (qnum_spec (by omega) (by omega) hb1 hw).use ?_
    clear hw
    rintro _ w ⟨rfl,hw⟩
    have hb2:Bytes (rdNum 28629151 rd).2.bs:=rdNum_bd hb1
    refine ⟨_,rfl,(qnum_spec (by omega) (by omega) hb2 hw).use ?_⟩
    clear hw
    rintro _ w ⟨rfl,hw⟩
    have hb3:Bytes (rdNum 7 (rdNum 28629151 rd).2).2.bs:=rdNum_bd hb2
    refine ⟨_,rfl,(qnum_spec (by omega) (by omega) hb3 hw).use ?_⟩
    clear hw
    rintro _ w ⟨rfl,hw⟩
    have hb4:Bytes (rdNum 600 (rdNum 7 (rdNum 28629151 rd).2).2).2.bs:=rdNum_bd hb3
    refine ⟨_,rfl,(qnum_spec (by omega) (by omega) hb4 hw).use ?_⟩
    clear hw
    rintro _ w ⟨rfl,hw⟩
    have hb5:Bytes (rdNum 1099511627776 (rdNum 600 (rdNum 7 (rdNum 28629151 rd).2).2).2).2.bs:=rdNum_bd hb4
    refine ⟨_,rfl,?_⟩
    refine new_rule hw fun bw w hw=>?_
    refine store_rule hw (by kernel_rfl) rfl (by simp [Value.cells]) fun w hw=>?_
    obtain ⟨x,hx⟩:∃ x,x=(wtRd rd).1:=⟨_,rfl⟩
    obtain ⟨rd',hrd'⟩:∃ x,x=(wtRd rd).2:=⟨_,rfl⟩
    have hw:Sat R (wtD bw { x with sc:=0 }::pts br (brCell r)::RdAt r (rdNum 1099511627776 (rdNum 600 (rdNum 7 (rdNum 28629151 rd).2).2).2).2::QuAt q l::Hs) w:=by rw [hx];exact hw
    refine ⟨some ⟨r,0,none⟩,At.own (eqS hw) (by exact ⟨rfl,trivial⟩),?_⟩
    have hw:Sat R (RdAt r (rdNum 1099511627776 (rdNum 600 (rdNum 7 (rdNum 28629151 rd).2).2).2).2::wtD bw { x with sc:=0 }::pts br (brCell r)::QuAt q l::Hs) w:=hw.arr
    have hv5:=rdNum_val (most:=18446744073709551615) hb5 (by omega)
    refine (rnum_spec (most:=18446744073709551615) hb5 hw).use ?_
    clear hw
    rintro _ w ⟨rfl,hw⟩
    refine ⟨_,rfl,?_⟩
    obtain ⟨u,hu⟩:∃ u:Nat,(rdNum 18446744073709551615 (rdNum 1099511627776 (rdNum 600 (rdNum 7 (rdNum 28629151 rd).2).2).2).2).1=u:=⟨_,(Int.toNat_of_nonneg hv5.1).symm⟩
    have hxs:x.sc=ofF u:=by
      rw [hx]
      show ofF (rdNum 18446744073709551615 (rdNum 1099511627776 (rdNum 600 (rdNum 7 (rdNum 28629151 rd).2).2).2).2).1.toNat=_
      rw [hu,Int.toNat_natCast]
    rw [hu] at hv5 ⊢
    refine (of_spec (by omega) hw).use ?_
    clear hw
    rintro _ w ⟨rfl,hw⟩
    refine ⟨_,rfl,?_⟩
    have hw:Sat R (wtD bw { x with sc:=0 }::RdAt r rd'::pts br (brCell r)::QuAt q l::Hs) w:=by rw [hrd'];exact hw.swap
    refine store_rule hw (by kernel_rfl) rfl (by simp [Value.cells,wtV]) fun w hw=>?_
    rw [←hxs] at hw
    have hw:=hw.re (wtD bw x)
    have hsn:rdEach wtRd (k + 1) r0=(l++[x],rd'):=by rw [hsn,hx,hrd']
    rw [hsn] at hadd
    have hxf:x.sc<18446744073709551616:=by rw [hx];exact wtRd_fl hb1
    obtain ⟨st1,st2⟩:=qread_step (x:=x) hq hi.1 (by omega) hxf
    have hqok:QOk l:=⟨hq.st,hq.ids,hq.ok,hi.1,by omega⟩
    have w1:IntKind.i64.wrap ((k:Int) + 1)=(k:Int) + 1:=wrap64 (by omega) (by omega)
    have hw:Sat R (QuAt q l::wtD bw x::RdAt r rd'::pts br (brCell r)::Hs) w:=hw.arr
    obtain ⟨s1,hw⟩:=Sat.qu.1 hw
    have hsl:=OwnN.len hw.swap
    rw [List.length_map] at hsl
    refine NilP.mk rfl ⟨s1,At.own (eqS hw) (by exact ⟨rfl,trivial⟩),?_⟩
    have fin:¬ (∃ h:0<l.length,0<(l[l.length - 1]'(by omega)).ord x)→∀ {w:World} {S:World→Prop},(∀ w,S w)→Sat R (QuAt q l::wtD bw x::RdAt r rd'::pts br (brCell r)::Hs) w→
        ∃ t53:Int,∃ t53_1:Int,∃ t53_2:Int,∃ t53_3:Int,∃ t53_4:Nat,(At (fun w'=>w'=w) ⟨bw,0,none⟩ [.int .i64 t53,.int .i64 t53_1,.int .i64 t53_2,.int .i64 t53_3,.float .f64 t53_4])∧
        Calls Tryz.prog 113 #[.pointer (some ⟨q,0,none⟩),.agg #[.int .i64 t53,.int .i64 t53_1,.int .i64 t53_2,.int .i64 t53_3,.float .f64 t53_4]] w fun e_10 w_18=>
        ∃ t54:Int,(e_10=.returned (.int .i64 t54))∧
        (S w_18)∧
        Br (t54 !=0)
         (K (.tuple #[.pointer none,.int .i64 6]) w_18)
         ((∃ k':Nat,IntKind.i64.wrap ((k:Int) + 1)=k'∧k'≤n∧QRight (rdEach wtRd k' r0).1∧Sat R (pts br (brCell r)::RdAt r (rdEach wtRd k' r0).2::QuAt q (rdEach wtRd k' r0).1::Hs) w_18)∧((n:Int) - IntKind.i64.wrap ((k:Int) + 1)).toNat<((n:Int) - k).toNat):=fun hno {w S} hS hw=>by
      refine ⟨x.id,x.cls,x.many,x.time,x.sc,At.own (eqS hw) (by exact ⟨rfl,rfl,rfl,rfl,rfl,trivial⟩),?_⟩
      refine (qadd_spec hqok hw).use ?_
      clear hw
      rintro _ w ⟨rfl,hw⟩
      obtain ⟨a1,a2⟩:=st2 hno
      refine ⟨_,rfl,hS _,Br.ne (fun h0=>hK1 (decQ_no hadd (a1 h0)) _ hw.drop.drop.drop.drop) (fun h0=>?_)⟩
      obtain ⟨b1,b2⟩:=a2 h0
      rw [b2] at hw
      rw [w1]
      refine ⟨⟨k + 1,by omega,by omega,?_,?_⟩,by omega⟩
      · rw [hsn];exact b1
      · rw [hsn]
        have hw:Sat R (wtD bw x::pts br (brCell r)::RdAt r rd'::QuAt q (l++[x])::Hs) w:=hw.arr
        exact hw.drop
    refine drw_rule' (fun _=>True) hw (fun _ _=>trivial) fun w hw=>?_
    refine Br.d (fun hpos=>?_) (fun hpos=>fin (fun ⟨h,_⟩=>by omega) (fun _=>trivial) (Sat.qu.2 ⟨s1,hw⟩))
    have hlp:0<l.length:=by omega
    refine NilP.mk rfl ⟨s1,At.own (eqS hw) (by exact ⟨rfl,trivial⟩),?_⟩
    rw [wrap64 (x:=(s1.len:Int) - 1) (by omega) (by omega),show (s1.len:Int) - 1=((l.length - 1:Nat):Int) by omega]
    have hw2:=hw.swap
    refine (OwnN.reads hw2 (S:=fun w'=>w'=w) (fun w' e=>by rw [e];exact hw2)).rngM (E:=l) (g:=wtV) (k:=l.length - 1) (by omega) fun a _ he=>?_
    refine ⟨_,_,_,_,_,he.z (by exact ⟨rfl,rfl,rfl,rfl,rfl,trivial⟩),x.id,x.cls,x.many,x.time,x.sc,At.own (eqS hw) (by exact ⟨rfl,rfl,rfl,rfl,rfl,trivial⟩),?_⟩
    refine (order_spec (a:=l[l.length - 1]) (b:=x) hw).use ?_
    clear hw hw2
    rintro _ w ⟨rfl,hw⟩
    refine ⟨_,rfl,trivial,Br.d (fun ho=>?_) (fun ho=>?_)⟩
    · exact hK1 (decQ_no hadd (st1 ⟨hlp,by omega⟩)) _ hw.drop.drop.drop.drop.drop
    · exact fin (fun ⟨_,h2⟩=>by omega) (fun _=>trivial) (Sat.qu.2 ⟨s1,hw⟩)
  · have hkn:k=n:=by omega
    subst hkn
    rw [←hraw] at hw hq
    refine ⟨some ⟨r,0,none⟩,At.own (eqS hw) (by exact ⟨rfl,trivial⟩),?_⟩
    refine (whole_spec hw.swap).use ?_
    clear hw
    rintro _ w ⟨rfl,hw⟩
    refine ⟨_,rfl,Br.nb (fun h0=>?_) (fun h0=>?_)⟩
    · refine hK1 ?_ _ hw.drop.drop.drop
      unfold decQ
      rw [if_neg (fun h=>by rw [h.1] at h0;cases h0)]
    · refine hK2 (qRaw bs).1 q _ ?_ hw.drop.drop
      unfold decQ
      rw [if_pos ⟨h0,hq⟩]
end Go.Proofs.YtfgbbckfikiomaaGreatDoor
/- Package booking: has a flight what a booking says? Condition: none. -/
namespace Go.Proofs.YtfgbbckfikiomaaGreatDoor
set_option linter.unusedVariables false
open Go Go.VC
open Classical
variable {R:Cx} {Hs Rest:List HP} {w:World}
abbrev bxC (b a:Nat):HP:=pts b (.cells [.pointer (some ⟨a,0,none⟩)].toArray 86 (0,0))
theorem hasw_spec {bx a:Nat} {x:Bk} {y:Wt} (hw:Sat R (bxC bx a::pts a (bkObj x)::Hs) w):
  Gets Tryz.prog 174 #[wtA y,.pointer (some ⟨bx,0,none⟩)] w fun v w'=>v=.bool (decide (y.id=x.id∧y.cls=x.cls∧y.many=x.many))∧Sat R (bxC bx a::pts a (bkObj x)::Hs) w':=by
 apply call174
 refine new_rule hw fun b w hw=>?_
 have hw:Sat R (wtD b y::bxC bx a::pts a (bkObj x)::Hs) w:=hw
 refine drw_rule hw fun w hw=>?_
 refine ⟨y.id,At.own selfS (by exact ⟨rfl,trivial⟩),NilP.mk rfl ⟨some ⟨a,0,none⟩,At.own selfS (by exact ⟨rfl,trivial⟩),NilP.mk rfl ⟨x.id,At.own selfS (by exact ⟨rfl,trivial⟩),Br.e (fun h1=>?_) (fun h1=>⟨?_,hw.drop⟩)⟩⟩⟩
 ·refine ⟨y.cls,At.own selfS (by exact ⟨rfl,trivial⟩),NilP.mk rfl ⟨some ⟨a,0,none⟩,At.own selfS (by exact ⟨rfl,trivial⟩),NilP.mk rfl ⟨x.cls,At.own selfS (by exact ⟨rfl,trivial⟩),Br.e (fun h2=>?_) (fun h2=>⟨?_,hw.drop⟩)⟩⟩⟩
  ·refine ⟨y.many,At.own selfS (by exact ⟨rfl,trivial⟩),NilP.mk rfl ⟨some ⟨a,0,none⟩,At.own selfS (by exact ⟨rfl,trivial⟩),NilP.mk rfl ⟨x.many,At.own selfS (by exact ⟨rfl,trivial⟩),?_,hw.drop⟩⟩⟩
   congr 1
   rw [Bool.eq_iff_iff,beq_iff_eq,decide_eq_true_iff]
   exact ⟨fun h3=>⟨h1,h2,h3⟩,fun h=>h.2.2⟩
  ·rw [decide_eq_false (fun h=>h2 h.2.1)]
 ·rw [decide_eq_false (fun h=>h1 h.1)]
theorem hash_spec {bx a:Nat} {x:Bk} {y:Hold} {t:Sl} (hw:Sat R (bxC bx a::pts a (bkObj x)::Hs) w):
  Gets Tryz.prog 176 #[.agg (rowH y t).toArray,.pointer (some ⟨bx,0,none⟩)] w fun v w'=>v=.bool (decide (y.owner=x.id∧y.cls=x.cls∧y.many=x.many))∧Sat R (bxC bx a::pts a (bkObj x)::Hs) w':=by
 apply call176
 refine new_rule hw fun b w hw=>?_
 have hw:Sat R (pts b (.cells (rowH y t).toArray 176 (0,0))::bxC bx a::pts a (bkObj x)::Hs) w:=hw
 refine drw_rule hw fun w hw=>?_
 refine ⟨y.owner,At.own selfS (by exact ⟨rfl,trivial⟩),NilP.mk rfl ⟨some ⟨a,0,none⟩,At.own selfS (by exact ⟨rfl,trivial⟩),NilP.mk rfl ⟨x.id,At.own selfS (by exact ⟨rfl,trivial⟩),Br.e (fun h1=>?_) (fun h1=>⟨?_,hw.drop⟩)⟩⟩⟩
 ·refine ⟨y.cls,At.own selfS (by exact ⟨rfl,trivial⟩),NilP.mk rfl ⟨some ⟨a,0,none⟩,At.own selfS (by exact ⟨rfl,trivial⟩),NilP.mk rfl ⟨x.cls,At.own selfS (by exact ⟨rfl,trivial⟩),Br.e (fun h2=>?_) (fun h2=>⟨?_,hw.drop⟩)⟩⟩⟩
  ·refine ⟨y.many,At.own selfS (by exact ⟨rfl,trivial⟩),NilP.mk rfl ⟨some ⟨a,0,none⟩,At.own selfS (by exact ⟨rfl,trivial⟩),NilP.mk rfl ⟨x.many,At.own selfS (by exact ⟨rfl,trivial⟩),?_,hw.drop⟩⟩⟩
   congr 1
   rw [Bool.eq_iff_iff,beq_iff_eq,decide_eq_true_iff]
   exact ⟨fun h3=>⟨h1,h2,h3⟩,fun h=>h.2.2⟩
  ·rw [decide_eq_false (fun h=>h2 h.2.1)]
 ·rw [decide_eq_false (fun h=>h1 h.1)]
theorem cfw_spec {s:Sl} {T:TypeId} {l:List Wt} {f:Value} {p:Wt→Bool} (hl:l.length≤1000000000)
  (hf:∀ x w,Sat R (OwnN 5 s T (l.map wtV)::Hs) w→CalW Tryz.prog cl f [wtA x] w fun e w'=>e=.returned (.bool (p x))∧Sat R (OwnN 5 s T (l.map wtV)::Hs) w')
  (hw:Sat R (OwnN 5 s T (l.map wtV)::Hs) w):
  Gets Tryz.prog 173 #[.slice s.a s.len s.cap,f] w fun v w'=>v=.bool (l.any p)∧Sat R (OwnN 5 s T (l.map wtV)::Hs) w':=by
 have hlen:=OwnN.len hw
 rw [List.length_map] at hlen
 apply call173
 have h1:Gets Tryz.prog 224 #[.slice s.a s.len s.cap,f] w fun v w'=>(∃ i:Int,v=.int .i64 i∧decide (i ≥ 0)=l.any p)∧Sat R (OwnN 5 s T (l.map wtV)::Hs) w':=by
  apply call224
  refine ⟨fun i w=>∃ j:Nat,i=j∧j≤l.length∧(l.take j).any p=false∧Sat R (OwnN 5 s T (l.map wtV)::Hs) w,fun i _=>l.length - i.toNat,⟨0,rfl,by omega,by simp,hw⟩,?_⟩
  clear hw
  rintro _ _ w ⟨j,rfl,hj,hn,hw⟩
  refine Br.d (fun h=>?_) (fun h=>?_)
  ·have hj2:j<l.length:=by omega
   refine (OwnN.reads hw (eqS hw)).rngM (E:=l) (g:=wtV) hj2 fun a _ he=>?_
   refine ⟨_,_,_,_,_,he.z (by exact ⟨rfl,rfl,rfl,rfl,rfl,trivial⟩),?_⟩
   refine (hf l[j] _ hw).mono ?_
   rintro _ w ⟨rfl,hw⟩
   refine ⟨_,rfl,Br.mk (fun h=>⟨⟨j,rfl,?_⟩,hw⟩) (fun h=>?_)⟩
   ·rw [decide_eq_true (by omega)]
    exact (List.any_eq_true.2 ⟨_,List.getElem_mem hj2,h⟩).symm
   rw [wrap64 (by omega) (by omega)]
   refine ⟨⟨j + 1,by omega,by omega,?_,hw⟩,by dsimp only;omega⟩
   rw [List.take_add_one,List.getElem?_eq_getElem hj2,List.any_append,hn]
   simp [h]
  ·rw [List.take_of_length_le (by omega)] at hn
   exact ⟨⟨-1,rfl,by rw [hn];rfl⟩,hw⟩
 refine h1.use ?_
 clear hw
 rintro _ w ⟨⟨i,rfl,hi⟩,hw⟩
 exact ⟨i,rfl,by rw [hi],hw⟩
theorem cfh_spec {s:Sl} {L:List Hold} {ts:List Sl} {f:Value} {p:Hold→Bool} (hl:L.length≤1000000000) (hr:HsR R s L ts)
  (hf:∀ x t w,Sat R Hs w→CalW Tryz.prog cl f [.agg (rowH x t).toArray] w fun e w'=>e=.returned (.bool (p x))∧Sat R Hs w') (hw:Sat R Hs w):
  Gets Tryz.prog 175 #[.slice s.a s.len s.cap,f] w fun v w'=>v=.bool (L.any p)∧Sat R Hs w':=by
 have hlen:s.len=L.length:=by rw [hr.rows.len,rowsH_len hr.len]
 have htl:=hr.len
 apply call175
 have h1:Gets Tryz.prog 225 #[.slice s.a s.len s.cap,f] w fun v w'=>(∃ i:Int,v=.int .i64 i∧decide (i ≥ 0)=L.any p)∧Sat R Hs w':=by
  apply call225
  refine ⟨fun i w=>∃ j:Nat,i=j∧j≤L.length∧(L.take j).any p=false∧Sat R Hs w,fun i _=>L.length - i.toNat,⟨0,rfl,by omega,by simp,hw⟩,?_⟩
  clear hw
  rintro _ _ w ⟨j,rfl,hj,hn,hw⟩
  refine Br.d (fun h=>?_) (fun h=>?_)
  ·have hj2:j<L.length:=by omega
   refine hr.row (eqS hw) hj2 (by omega) fun a he=>?_
   refine ⟨L[j].owner,L[j].cls,L[j].many,ts[j]'(by omega),he,?_⟩
   refine (hf L[j] (ts[j]'(by omega)) _ hw).mono ?_
   rintro _ w ⟨rfl,hw⟩
   refine ⟨_,rfl,Br.mk (fun h=>⟨⟨j,rfl,?_⟩,hw⟩) (fun h=>?_)⟩
   ·rw [decide_eq_true (by omega)]
    exact (List.any_eq_true.2 ⟨_,List.getElem_mem hj2,h⟩).symm
   rw [wrap64 (by omega) (by omega)]
   refine ⟨⟨j + 1,by omega,by omega,?_,hw⟩,by dsimp only;omega⟩
   rw [List.take_add_one,List.getElem?_eq_getElem hj2,List.any_append,hn]
   simp [h]
  ·rw [List.take_of_length_le (by omega)] at hn
   exact ⟨⟨-1,rfl,by rw [hn];rfl⟩,hw⟩
 refine h1.use ?_
 clear hw
 rintro _ w ⟨⟨i,rfl,hi⟩,hw⟩
 exact ⟨i,rfl,by rw [hi],hw⟩
set_option maxHeartbeats 1000000 in
theorem bhas_spec {f q a:Nat} {pl:Pl} {x:Bk} (g:Good pl.r) (hq:pl.q.length≤200) (hh:pl.r.L.length≤1000000) (hw:Sat R (pts a (bkObj x)::LoneAt f pl.r::QuAt q pl.q::Hs) w):
  Gets Tryz.prog 107 #[.agg #[.pointer (some ⟨f,0,none⟩),.pointer (some ⟨q,0,none⟩)],.pointer (some ⟨a,0,none⟩)] w fun v w'=>v=.bool (decide (HasP pl x))∧Sat R (pts a (bkObj x)::LoneAt f pl.r::QuAt q pl.q::Hs) w':=by
 apply call107
 suffices H:∀ K:Value→World→Prop,(∀ w',Sat R (pts a (bkObj x)::LoneAt f pl.r::QuAt q pl.q::Hs) w'→K (.bool (decide (HasP pl x))) w')→B107 (some ⟨f,0,none⟩) (some ⟨q,0,none⟩) (some ⟨a,0,none⟩) K w from H _ fun w' h=>⟨rfl,h⟩
 intro K hK
 refine new_rule hw fun b2 w hw=>new_rule hw fun bx w hw=>?_
 have hw:Sat R (bxC bx a::pts a (bkObj x)::fqC b2 f q::LoneAt f pl.r::QuAt q pl.q::Hs) w:=by
  have h:Sat R (bxC bx a::fqC b2 f q::pts a (bkObj x)::LoneAt f pl.r::QuAt q pl.q::Hs) w:=hw
  exact h.arr
 have fin:∀ {w},Sat R (bxC bx a::pts a (bkObj x)::fqC b2 f q::LoneAt f pl.r::QuAt q pl.q::Hs) w→K (.bool (decide (HasP pl x))) w:=fun hw=>hK _ (hw.drop.cons fun _ h=>h.drop)
 refine ⟨some ⟨f,0,none⟩,At.own (eqS hw) (by exact ⟨rfl,trivial⟩),Br.f rfl ?_⟩
 refine ⟨some ⟨a,0,none⟩,At.own (eqS hw) (by exact ⟨rfl,trivial⟩),NilP.mk rfl ⟨x.state,At.own (eqS hw) (by exact ⟨rfl,trivial⟩),Br.e (fun h3=>?_) (fun h3=>?_)⟩⟩
 ·have hdef:HasP pl x↔(∃ w∈pl.q,w.id=x.id∧w.cls=x.cls∧w.many=x.many)∧x.cls<pl.r.lims.length:=by unfold HasP;rw [if_pos h3]
  have toS:∀ {A:List HP} {R:Cx} {w:World},Sat R (bxC bx a::pts a (bkObj x)::fqC b2 f q::A) w→Sat R [bxC bx a,pts a (bkObj x),fqC b2 f q,VC.tru] w:=fun h=>h.cons fun _ h=>h.cons fun _ h=>h.restTru2
  refine drw_rule' (Sat R [bxC bx a,pts a (bkObj x),fqC b2 f q,VC.tru]) hw (fun w hw=>toS hw) fun w hw=>?_
  refine ⟨some ⟨a,0,none⟩,At.own (fun _ h=>h) (by exact ⟨rfl,trivial⟩),NilP.mk rfl ⟨x.cls,At.own (fun _ h=>h) (by exact ⟨rfl,trivial⟩),some ⟨f,0,none⟩,At.own (fun _ h=>h) (by exact ⟨rfl,trivial⟩),?_⟩⟩
  have hw:Sat R (LoneAt f pl.r::bxC bx a::pts a (bkObj x)::fqC b2 f q::QuAt q pl.q::Hs) w:=hw.arr
  refine (lone_left hw).use ?_
  clear hw
  rintro _ w ⟨sl,rfl,hw⟩
  have hlen:=Own.len hw
  rw [List.length_map,lefts_len] at hlen
  have hw:Sat R (bxC bx a::pts a (bkObj x)::fqC b2 f q::LoneAt f pl.r::QuAt q pl.q::Hs) w:=by
   have h:=hw.drop
   exact h.arr
  refine ⟨sl,rfl,toS hw,Br.d (fun hc=>?_) (fun hc=>?_)⟩
  ·refine ⟨some ⟨q,0,none⟩,At.own (fun _ h=>h) (by exact ⟨rfl,trivial⟩),?_⟩
   have hw:Sat R (QuAt q pl.q::bxC bx a::pts a (bkObj x)::fqC b2 f q::LoneAt f pl.r::Hs) w:=hw.arr
   refine (qall_spec (by omega) hw).use ?_
   clear hw
   rintro _ w ⟨t,rfl,hw⟩
   refine ⟨t,rfl,toS (hw.arr (Hs':=bxC bx a::pts a (bkObj x)::fqC b2 f q::OwnN 5 t 65 (pl.q.map wtV)::QuAt q pl.q::LoneAt f pl.r::Hs)),?_⟩
   have hw:Sat R (OwnN 5 t 65 (pl.q.map wtV)::bxC bx a::pts a (bkObj x)::fqC b2 f q::LoneAt f pl.r::QuAt q pl.q::Hs) w:=hw.arr
   refine (cfw_spec (p:=fun y=>decide (y.id=x.id∧y.cls=x.cls∧y.many=x.many)) (by omega) (fun y w hw=>CalW.mk (by kernel_rfl) ?_) hw).use ?_
   ·have hw:Sat R (bxC bx a::pts a (bkObj x)::OwnN 5 t 65 (pl.q.map wtV)::fqC b2 f q::LoneAt f pl.r::QuAt q pl.q::Hs) w:=hw.arr
    exact (hasw_spec hw).use fun v w' h=>⟨by rw [h.1],h.2.arr⟩
   clear hw
   rintro _ w ⟨rfl,hw⟩
   refine ⟨_,rfl,toS (hw.arr (Hs':=bxC bx a::pts a (bkObj x)::fqC b2 f q::OwnN 5 t 65 (pl.q.map wtV)::LoneAt f pl.r::QuAt q pl.q::Hs)),?_⟩
   have e:(pl.q.any fun y=>decide (y.id=x.id∧y.cls=x.cls∧y.many=x.many))=decide (HasP pl x):=by
    rw [Bool.eq_iff_iff,decide_eq_true_iff,hdef,List.any_eq_true]
    constructor
    ·rintro ⟨y,hy,h⟩
     exact ⟨⟨y,hy,of_decide_eq_true h⟩,by omega⟩
    ·rintro ⟨⟨y,hy,h⟩,_⟩
     exact ⟨y,hy,decide_eq_true h⟩
   rw [e]
   exact fin hw.drop
  ·have:=fin hw
   rw [decide_eq_false (fun h=>by have:=(hdef.1 h).2;omega)] at this
   exact this
 ·have hdef:HasP pl x↔∃ h∈pl.r.L,h.owner=x.id∧h.cls=x.cls∧h.many=x.many:=by unfold HasP;rw [if_neg h3]
  refine ⟨some ⟨f,0,none⟩,At.own (eqS hw) (by exact ⟨rfl,trivial⟩),?_⟩
  have hw:Sat R (LoneAt f pl.r::bxC bx a::pts a (bkObj x)::fqC b2 f q::QuAt q pl.q::Hs) w:=hw.arr
  refine (lone_holds hw).use ?_
  clear hw
  rintro _ w ⟨t,rfl,hw⟩
  refine ⟨t,rfl,?_⟩
  obtain ⟨R1,ts,e1,hr,hw⟩:=HoldsL.leak hw
  have hw:Sat R1 (bxC bx a::pts a (bkObj x)::fqC b2 f q::LoneAt f pl.r::QuAt q pl.q::Hs) w:=hw.arr
  refine (cfh_spec (p:=fun y=>decide (y.owner=x.id∧y.cls=x.cls∧y.many=x.many)) (by omega) hr (fun y t w hw=>CalW.mk (by kernel_rfl) ((hash_spec hw).use fun v w' h=>⟨by rw [h.1],h.2⟩)) hw).use ?_
  clear hw
  rintro _ w ⟨rfl,hw⟩
  refine ⟨_,rfl,?_⟩
  have e:(pl.r.L.any fun y=>decide (y.owner=x.id∧y.cls=x.cls∧y.many=x.many))=decide (HasP pl x):=by
   rw [Bool.eq_iff_iff,decide_eq_true_iff,hdef,List.any_eq_true]
   constructor
   ·rintro ⟨y,hy,h⟩
    exact ⟨y,hy,of_decide_eq_true h⟩
   ·rintro ⟨y,hy,h⟩
    exact ⟨y,hy,decide_eq_true h⟩
  rw [e]
  exact fin (e1.back hw)
theorem bhas_none {v:Option Addr} {a:Nat} {x:Bk} (hw:Sat R (pts a (bkObj x)::Hs) w):
  Gets Tryz.prog 107 #[.agg #[.pointer none,.pointer v],.pointer (some ⟨a,0,none⟩)] w fun v w'=>v=.bool false∧Sat R (pts a (bkObj x)::Hs) w':=by
 apply call107
 refine new_rule hw fun b2 w hw=>new_rule hw fun bx w hw=>?_
 have hw:Sat R (bxC bx a::plC b2 none v::pts a (bkObj x)::Hs) w:=hw
 exact ⟨none,At.own (eqS hw) (by exact ⟨rfl,trivial⟩),Br.t rfl ⟨rfl,hw.drop.drop⟩⟩
end Go.Proofs.YtfgbbckfikiomaaGreatDoor
/- A book that is loaded, plainly: step by step. No condition. -/
namespace Go.Proofs.YtfgbbckfikiomaaGreatDoor
set_option linter.unusedVariables false
open Go Go.VC
open Classical
theorem pls_zero (rd:Rd):plsRd 0 rd=some ([],rd):=rfl
theorem pls_some {m:Nat} {rd:Rd} {p:Pl} (h:(plRd rd).1=some p):plsRd (m + 1) rd=(plsRd m (plRd rd).2).map fun y=>(p::y.1,y.2):=by
 show (match (plRd rd).1 with|none=>none|some p=>(plsRd m (plRd rd).2).map fun x:List Pl × Rd=>(p::x.1,x.2))=_
 rw [h]
theorem pls_none {m:Nat} {rd:Rd} (h:(plRd rd).1=none):plsRd (m + 1) rd=none:=by
 show (match (plRd rd).1 with|none=>none|some p=>(plsRd m (plRd rd).2).map fun x:List Pl × Rd=>(p::x.1,x.2))=_
 rw [h]
def PlsI (n:Nat) (r0:Rd) (j:Nat) (rd:Rd) (pls:List Pl):Prop:=plsRd n r0=(plsRd (n - j) rd).map fun y=>(pls++y.1,y.2)
theorem plsI_zero {n:Nat} {r0:Rd}:PlsI n r0 0 r0 []:=by
 unfold PlsI
 rw [Nat.sub_zero]
 cases plsRd n r0<;>rfl
theorem plsI_some {n j:Nat} {r0 rd:Rd} {pls:List Pl} {p:Pl} (h:PlsI n r0 j rd pls) (hj:j<n) (hp:(plRd rd).1=some p):PlsI n r0 (j + 1) (plRd rd).2 (pls++[p]):=by
 unfold PlsI at h ⊢
 rw [h,show n - j=(n - (j + 1)) + 1 by omega,pls_some hp]
 cases plsRd (n - (j + 1)) (plRd rd).2 with
 |none=>rfl
 |some y=>simp
theorem plsI_none {n j:Nat} {r0 rd:Rd} {pls:List Pl} (h:PlsI n r0 j rd pls) (hj:j<n) (hp:(plRd rd).1=none):plsRd n r0=none:=by
 unfold PlsI at h
 rw [h,show n - j=(n - (j + 1)) + 1 by omega,pls_none hp]
 rfl
theorem plsI_end {n:Nat} {r0 rd:Rd} {pls:List Pl} (h:PlsI n r0 n rd pls):plsRd n r0=some (pls,rd):=by
 unfold PlsI at h
 rw [h,Nat.sub_self,pls_zero]
 simp
theorem plsI_pre {n j:Nat} {r0 rd:Rd} {pls:List Pl} {y:List Pl × Rd} (h:PlsI n r0 j rd pls) (hy:plsRd n r0=some y):∃ m,y.1=pls++m:=by
 unfold PlsI at h
 rw [hy] at h
 cases hz:plsRd (n - j) rd with
 |none=>rw [hz] at h;cases h
 |some z=>
  rw [hz] at h
  simp only [Option.map_some,Option.some.injEq] at h
  exact ⟨z.1,by rw [h]⟩
def ldNow (bs:List Int):Int × Rd:=rdNum 1099511627776 ⟨bs,false⟩
def ldNext (bs:List Int):Int × Rd:=rdNum 28629151 (ldNow bs).2
def ldMany (bs:List Int):Int × Rd:=rdNum 8 (ldNext bs).2
def ldBks (r1:Rd):List Bk × Rd:=rdEach bkRd (rdNum 300 r1).1.toNat (rdNum 300 r1).2
theorem raw_eq {bs:List Int}:rawB bs=match plsRd (ldMany bs).1.toNat (ldMany bs).2 with
  |none=>none
  |some y=>some (⟨(ldNow bs).1,(ldNext bs).1,y.1,(ldBks y.2).1⟩,(ldBks y.2).2):=rfl
theorem load_no0 {bs:List Int} (h:plsRd (ldMany bs).1.toNat (ldMany bs).2=none):loadB bs=none:=by
 unfold loadB
 rw [raw_eq,h]
theorem load_no1 {bs:List Int} (h:∀ y,plsRd (ldMany bs).1.toNat (ldMany bs).2=some y→¬ KRise Pl.n y.1):loadB bs=none:=by
 unfold loadB
 rw [raw_eq]
 cases hy:plsRd (ldMany bs).1.toNat (ldMany bs).2 with
 |none=>rfl
 |some y=>
  dsimp only
  rw [if_neg (fun hm=>h y hy hm.2.nums)]
theorem load_eq {bs:List Int} {pls:List Pl} {r1:Rd} (h:plsRd (ldMany bs).1.toNat (ldMany bs).2=some (pls,r1)):
  loadB bs=if rdWhole (ldBks r1).2=true∧MayB ⟨(ldNow bs).1,(ldNext bs).1,pls,(ldBks r1).1⟩ then some ⟨(ldNow bs).1,(ldNext bs).1,pls,(ldBks r1).1⟩ else none:=by
 unfold loadB
 rw [raw_eq,h]
def lastN (pls:List Pl):Int:=(pls.getLast?.map Pl.n).getD 0
theorem lastN_snoc (pls:List Pl) (p:Pl):lastN (pls++[p])=p.n:=by simp [lastN]
theorem rise_last {α:Type} {k:α→Int} {l:List α} {x:α} (h:KRise k l) (hx:x∈l):∃ y,l.getLast? =some y∧k x≤k y:=by
 have hne:l≠[]:=by rintro rfl;cases hx
 refine ⟨l.getLast hne,List.getLast?_eq_some_getLast hne,?_⟩
 obtain ⟨m,y,rfl⟩:∃ m y,l=m++[y]:=⟨l.dropLast,l.getLast hne,(List.dropLast_concat_getLast hne).symm⟩
 rw [List.getLast_concat]
 rcases List.mem_append.1 hx with h1|h1
 ·have:=(List.pairwise_append.1 h).2.2 x h1 y (by simp)
  omega
 ·rw [List.mem_singleton.1 h1];omega
theorem num_step {pls:List Pl} {p:Pl} (h:KRise Pl.n pls) (hp:1≤p.n):(lastN pls<p.n→KRise Pl.n (pls++[p]))∧(¬ lastN pls<p.n→∀ m,¬ KRise Pl.n (pls++[p]++m)):=by
 constructor
 ·intro hl
  refine krise_snoc h fun y hy=>?_
  obtain ⟨z,hz,hle⟩:=rise_last h hy
  unfold lastN at hl
  rw [hz] at hl
  simp at hl
  omega
 ·intro hl m hr
  unfold lastN at hl
  cases hz:pls.getLast? with
  |none=>rw [hz] at hl;simp at hl;omega
  |some z=>
   rw [hz] at hl
   simp at hl
   have h1:=(List.pairwise_append.1 (List.pairwise_append.1 hr).1).2.2 z (List.mem_of_getLast? hz) p (by simp)
   omega
theorem bkRd_bd {r:Rd} (hb:Bytes r.bs):Bytes (bkRd r).2.bs:=rdNum_bd (rdNum_bd (rdNum_bd (rdNum_bd (rdNum_bd (rdNum_bd hb)))))
structure BkIn (x:Bk):Prop where
 id:0≤x.id∧x.id≤28629151
 flt:0≤x.flt∧x.flt≤9999
 cls:0≤x.cls∧x.cls≤9999
 many:0≤x.many∧x.many≤9999
 state:0≤x.state∧x.state≤3
 till:0≤x.till∧x.till≤1099511627776
theorem bkRd_in {r:Rd} (hb:Bytes r.bs):BkIn (bkRd r).1:=
 ⟨rdNum_val hb (by omega),rdNum_val (rdNum_bd hb) (by omega),rdNum_val (rdNum_bd (rdNum_bd hb)) (by omega),rdNum_val (rdNum_bd (rdNum_bd (rdNum_bd hb))) (by omega),rdNum_val (rdNum_bd (rdNum_bd (rdNum_bd (rdNum_bd hb)))) (by omega),rdNum_val (rdNum_bd (rdNum_bd (rdNum_bd (rdNum_bd (rdNum_bd hb))))) (by omega)⟩
def lastI (L:List Bk):Int:=(L.getLast?.map Bk.id).getD 0
theorem lastI_snoc (L:List Bk) (x:Bk):lastI (L++[x])=x.id:=by simp [lastI]
structure Chk (b:Book) (L:List Bk) (x:Bk):Prop where
 last:lastI L<x.id
 next:x.id<b.next
 state:1≤x.state
 held:x.state=1↔b.now<x.till
 free:x.state=1∨x.till=0
 has:∃ p,b.at x.flt=some p∧HasP p x
theorem chk_yes {b:Book} {L:List Bk} {x:Bk} (h:Chk b L x) (hr:KRise Bk.id L) (hL:∀ y∈L,1≤y.id):BkMay b x∧KRise Bk.id (L++[x]):=by
 have h0:0≤lastI L:=by
  unfold lastI
  cases hz:L.getLast? with
  |none=>simp
  |some z=>have:=hL z (List.mem_of_getLast? hz);simp;omega
 refine ⟨⟨⟨by have:=h.last;omega,h.next⟩,h.state,h.held.1,fun hs=>h.free.resolve_left hs,h.has⟩,krise_snoc hr fun y hy=>?_⟩
 obtain ⟨z,hz,hle⟩:=rise_last hr hy
 have hl:=h.last
 unfold lastI at hl
 rw [hz] at hl
 simp at hl
 omega
theorem chk_of {b:Book} {L m:List Bk} {x:Bk} (h:MayB { b with L:=L++[x]++m }) (hn:0≤b.now):Chk b L x:=by
 have hx:=h.each x (by simp)
 have hid:=hx.id
 refine ⟨?_,hid.2,hx.state,⟨hx.held,fun ht=>?_⟩,?_,hx.has⟩
 ·unfold lastI
  cases hz:L.getLast? with
  |none=>simp;omega
  |some z=>
   have h1:=(List.pairwise_append.1 (List.pairwise_append.1 h.ids).1).2.2 z (List.mem_of_getLast? hz) x (by simp)
   simp;omega
 ·by_cases hs:x.state=1
  ·exact hs
  ·have:=hx.free hs;omega
 ·by_cases hs:x.state=1
  ·exact .inl hs
  ·exact .inr (hx.free hs)
theorem load_no2 {bs:List Int} {pls:List Pl} {r1:Rd} {L m:List Bk} {x:Bk} (h:plsRd (ldMany bs).1.toNat (ldMany bs).2=some (pls,r1)) (hb:(ldBks r1).1=L++[x]++m) (hn:0≤(ldNow bs).1)
  (hc:¬ Chk ⟨(ldNow bs).1,(ldNext bs).1,pls,[]⟩ L x):loadB bs=none:=by
 rw [load_eq h,if_neg]
 rintro ⟨_,hm⟩
 rw [hb] at hm
 exact hc (chk_of (b:=⟨(ldNow bs).1,(ldNext bs).1,pls,[]⟩) hm hn)
theorem Chk.same {b:Book} {L L':List Bk} {x:Bk}:Chk { b with L:=L' } L x↔Chk b L x:=⟨fun h=>⟨h.last,h.next,h.state,h.held,h.free,h.has⟩,fun h=>⟨h.last,h.next,h.state,h.held,h.free,h.has⟩⟩
end Go.Proofs.YtfgbbckfikiomaaGreatDoor
/- Package booking: Load. Condition: a bound on the length. -/
namespace Go.Proofs.YtfgbbckfikiomaaGreatDoor
set_option linter.unusedVariables false
open Go Go.VC
open Classical
variable {R:Cx} {Hs Rest:List HP} {w:World}
abbrev ldB (b p:Nat):HP:=pts b (.cells [.pointer (some ⟨p,0,none⟩)].toArray 25 (0,0))
abbrev ldE (b:Nat):HP:=pts b (.cells [.int .i64 0].toArray 27 (0,0))
abbrev ldR (b r:Nat):HP:=pts b (.cells [.pointer (some ⟨r,0,none⟩)].toArray 126 (0,0))
abbrev LdK (b2 e3:Nat) (K:Value→World→Prop) (w:World):Prop:=
 ∃ u:Option Addr,(At (fun w'=>w'=w) ⟨b2,0,none⟩ [.pointer u])∧∃ u_1:Int,(At (fun w'=>w'=w) ⟨e3,0,none⟩ [.int .i64 u_1])∧K (.tuple #[.pointer u,.int .i64 u_1]) w
theorem load_fail {b2 e3 p:Nat} {K:Value→World→Prop} (hw:Sat R (ldB b2 p::ldE e3::Hs) w) (k:∀ w',Sat R Hs w'→K (.tuple #[.pointer none,.int .i64 6]) w'):
  LeaveF Tryz.prog 99 [.pointer (some ⟨b2,0,none⟩),.pointer (some ⟨e3,0,none⟩)] (.panicking (errP 6)) (LdK b2 e3 K) w:=by
 unfold LeaveF
 refine CallsD.mono (callP99 (some ⟨b2,0,none⟩) (some ⟨e3,0,none⟩) (.iface 27 (.int .i64 6)) (LdK b2 e3 K) w ?_) ?_
 ·refine ⟨true,fun w' _=>by kernel_rfl,Br.t rfl ?_⟩
  refine drw_rule' (fun _=>True) hw (fun _ _=>trivial) fun w hw=>?_
  refine ⟨6,fun w' _=>by kernel_rfl,?_⟩
  refine store_rule hw (by kernel_rfl) rfl (by simp [Value.cells]) fun w hw=>⟨trivial,?_⟩
  have hw:Sat R (pts b2 (.cells [.pointer none].toArray 25 (0,0))::ldE e3::Hs) w:=hw
  refine store_rule hw (by kernel_rfl) rfl (by simp [Value.cells]) fun w hw=>?_
  have hw:Sat R (pts e3 (.cells [.int .i64 6].toArray 27 (0,0))::pts b2 (.cells [.pointer none].toArray 25 (0,0))::Hs) w:=hw
  exact ⟨none,At.own (eqS hw) (by exact ⟨rfl,trivial⟩),6,At.own (eqS hw) (by exact ⟨rfl,trivial⟩),k w hw.drop.drop⟩
 ·rintro e v w' ⟨hy,rfl,hk⟩
  exact ⟨hy,rfl,hk⟩
theorem load_ret {b2 e3 p:Nat} {K:Value→World→Prop} (hw:Sat R (ldB b2 p::ldE e3::Hs) w) (k:K (.tuple #[.pointer (some ⟨p,0,none⟩),.int .i64 0]) w):
  LeaveF Tryz.prog 99 [.pointer (some ⟨b2,0,none⟩),.pointer (some ⟨e3,0,none⟩)] .returning (LdK b2 e3 K) w:=by
 unfold LeaveF
 refine CallsD.mono (callR99 (some ⟨b2,0,none⟩) (some ⟨e3,0,none⟩) (LdK b2 e3 K) w ?_) ?_
 ·exact ⟨false,fun w' _=>by kernel_rfl,Br.f rfl ⟨_,At.own (eqS hw) (by exact ⟨rfl,trivial⟩),0,At.own (eqS hw) (by exact ⟨rfl,trivial⟩),k⟩⟩
 ·rintro e v w' ⟨hy,rfl,hk⟩
  exact ⟨hy,rfl,hk⟩
theorem form_c {b:Bool} {Q:Ending→World→Prop} (h1:b=true→Q (.returned (.tuple #[])) w) (h2:b=false→Q (.panicked (errP 6)) w):Calls Tryz.prog 100 #[.bool b] w Q:=by
 have h:GetsX Tryz.prog 100 #[.bool b] w (fun ch w'=>b=false∧ch=errP 6∧w'=w) (fun v w'=>b=true∧v=.tuple #[]∧w'=w):=by
  apply call100
  exact need_c (fun h=>.inl ⟨rfl,h,rfl,rfl⟩) (fun h=>.inr ⟨_,rfl,h,rfl,rfl⟩)
 refine h.use ?_ ?_
 ·rintro v w' ⟨hb,rfl,e⟩;rw [e];exact h1 hb
 ·rintro v w' ⟨hb,rfl,e⟩;rw [e];exact h2 hb
theorem ldnum_spec {b4 r:Nat} {rd:Rd} (hb:Bytes rd.bs) (hw:Sat R (RdAt r rd::ldR b4 r::Hs) w):
  Gets Tryz.prog 106 #[.pointer (some ⟨b4,0,none⟩)] w fun v w'=>v=.int .i64 (rdNum 9999 rd).1∧Sat R (RdAt r (rdNum 9999 rd).2::ldR b4 r::Hs) w':=by
 apply call106
 refine NilP.mk rfl ⟨some ⟨r,0,none⟩,At.own (eqS hw) (by exact ⟨rfl,trivial⟩),?_⟩
 refine (bnum_spec hb (by omega) (by omega) hw).use ?_
 rintro _ w ⟨rfl,hw⟩
 exact ⟨_,rfl,rfl,hw⟩
theorem lone_decode {s:Sl} {T:TypeId} {bs:List Int} (hb:Bytes bs) (hl:bs.length≤1099511627776) (hw:Sat R (Own s T (b8 bs)::Hs) w):
  Gets Tryz.prog 101 #[.slice s.a s.len s.cap] w fun v w'=>(decR bs=none∧v=.tuple #[.pointer none,.int .i64 6]∧Sat R Hs w')∨
   (∃ r p,decR bs=some r∧Good r∧v=.tuple #[.pointer (some ⟨p,0,none⟩),.int .i64 0]∧Sat R (LoneAt p r::Hs) w'):=by
 obtain ⟨R1,e1,g1,hw⟩:=Own.leak hw
 refine (decode_fspec hb (g1.ro (by rw [List.length_map];omega)) hl hw).mono ?_
 rintro v w' h
 rcases dec_tie hb with ⟨d1,d2⟩|⟨f,d1,d2,d3,d4,d5⟩
 ·have hn:decR bs=none:=by unfold decR;rw [if_neg d2]
  rcases h with ⟨_,rfl,hw⟩|⟨f,p,hf,_,_⟩
  ·exact .inl ⟨hn,rfl,e1.back hw⟩
  ·rw [d1] at hf;cases hf
 ·have hs:decR bs=some (rawR bs).rf:=by unfold decR;rw [if_pos ⟨d2,d3⟩]
  rcases h with ⟨hf,_,_⟩|⟨f',p,hf,rfl,hw⟩
  ·rw [d1] at hf;cases hf
  ·rw [d1] at hf
   obtain rfl:=Option.some.inj hf
   exact .inr ⟨_,p,hs,d5,rfl,Sat.lone.2 ⟨f,⟨d4,d5⟩,e1.back hw⟩⟩
theorem queue_decode {s:Sl} {T:TypeId} {bs:List Int} (hb:Bytes bs) (hl:bs.length≤1099511627776) (hw:Sat R (Own s T (b8 bs)::Hs) w):
  Gets Tryz.prog 103 #[.slice s.a s.len s.cap] w fun v w'=>(decQ bs=none∧v=.tuple #[.pointer none,.int .i64 6]∧Sat R Hs w')∨
   (∃ l q,decQ bs=some l∧QOk l∧v=.tuple #[.pointer (some ⟨q,0,none⟩),.int .i64 0]∧Sat R (QuAt q l::Hs) w'):=by
 obtain ⟨R1,e1,g1,hw⟩:=Own.leak hw
 refine (qdecode_spec hb hl (g1.ro (by rw [List.length_map];omega)) hw).mono ?_
 rintro v w' (⟨h1,rfl,hw⟩|⟨l,q,h1,rfl,hw⟩)
 ·exact .inl ⟨h1,rfl,e1.back hw⟩
 ·refine .inr ⟨l,q,h1,?_,rfl,e1.back hw⟩
  unfold decQ at h1
  split at h1
  ·rename_i h
   obtain rfl:=Option.some.inj h1
   exact h.ok hb
  ·cases h1
theorem HoldsL.len {s:Sl} {L:List Hold} (hw:Sat R (HoldsL s L::Hs) w):s.len=L.length:=by
 obtain ⟨_,ts,_,hr,_⟩:=HoldsL.leak hw
 rw [hr.rows.len,rowsH_len hr.len]
theorem put_new {k:Int} {v:Value} {es:List (Int × Value)} (h:∀ e∈es,e.1≠k):putM k v es=es++[(k,v)]:=by
 unfold putM
 rw [getM_ne.2 h]
 rfl
end Go.Proofs.YtfgbbckfikiomaaGreatDoor
/- Package booking: Load, whole. Condition: a bound on the length. -/
namespace Go.Proofs.YtfgbbckfikiomaaGreatDoor
set_option linter.unusedVariables false
open Go Go.VC
open Classical
variable {R:Cx} {Hs Rest:List HP} {w:World}
theorem plRd_eq (rd:Rd):plRd rd=(decPl (rdText 65536 rd).1 (rdText 65536 (rdText 65536 rd).2).1,(rdText 65536 (rdText 65536 rd).2).2):=rfl
theorem things_snoc (l:List Pl) (p:Pl):things (l++[p])=things l + (p.r.L.length + p.q.length):=by
 unfold things
 rw [List.map_append,List.sum_append]
 simp
theorem fls_keys {fs:List FE} {pls:List Pl} {p:Pl} (h:fs.map (fun e=>e.2.2)=pls) (hr:KRise Pl.n (pls++[p])):∀ e∈fs.map flV,e.1≠p.n:=by
 intro e he
 obtain ⟨x,hx,rfl⟩:=List.mem_map.1 he
 have h1:x.2.2∈pls:=by rw [←h];exact List.mem_map.2 ⟨x,hx,rfl⟩
 have:=(List.pairwise_append.1 hr).2.2 _ h1 p (by simp)
 show x.2.2.n≠p.n
 omega
theorem bks_keys {xs:List BE} {L:List Bk} {x:Bk} (h:xs.map (fun e=>e.2)=L) (hr:KRise Bk.id (L++[x])):∀ e∈xs.map bkV,e.1≠x.id:=by
 intro e he
 obtain ⟨y,hy,rfl⟩:=List.mem_map.1 he
 have h1:y.2∈L:=by rw [←h];exact List.mem_map.2 ⟨y,hy,rfl⟩
 have:=(List.pairwise_append.1 hr).2.2 _ h1 x (by simp)
 show y.2.id≠x.id
 omega
structure LdI (n:Nat) (r0:Rd) (j:Nat) (rd:Rd) (pls:List Pl) (fs:List FE):Prop where
 pre:PlsI n r0 j rd pls
 rise:KRise Pl.n pls
 ok:∀ p∈pls,Good p.r∧QOk p.q
 fl:fs.map (fun e=>e.2.2)=pls
 bytes:Bytes rd.bs
 len:rd.bs.length≤1099511627776
 few:things pls≤1000 * pls.length∧pls.length=j
structure LbI (b:Book) (r2:Rd) (k:Nat) (L:List Bk) (rd:Rd) (xs:List BE):Prop where
 pre:rdEach bkRd k r2=(L,rd)
 rise:KRise Bk.id L
 may:∀ x∈L,BkMay b x
 bk:xs.map (fun e=>e.2)=L
 bytes:Bytes rd.bs
set_option maxHeartbeats 8000000 in
theorem bload_spec {s:Sl} {bs:List Int} (hb:Bytes bs) (hl:bs.length≤1099511627776) (hs:Ro R s (b8 bs)) (hw:Sat R Hs w):
  Gets Tryz.prog 37 #[.slice s.a s.len s.cap] w fun v w'=>(loadB bs=none∧v=.tuple #[.pointer none,.int .i64 6]∧Sat R Hs w')∨
   (∃ b p,loadB bs=some b∧(∀ x∈b.fl,Good x.r∧QOk x.q)∧v=.tuple #[.pointer (some ⟨p,0,none⟩),.int .i64 0]∧Sat R (BookAt p b::Hs) w'):=by
 apply call37
 suffices H:∀ K:Value→World→Prop,(loadB bs=none→∀ w',Sat R Hs w'→K (.tuple #[.pointer none,.int .i64 6]) w')→(∀ b p w',loadB bs=some b→(∀ x∈b.fl,Good x.r∧QOk x.q)→Sat R (BookAt p b::Hs) w'→K (.tuple #[.pointer (some ⟨p,0,none⟩),.int .i64 0]) w')→B37 s K w from
  H _ (fun e w' h=>.inl ⟨e,rfl,h⟩) fun b p w' e h h2=>.inr ⟨b,p,e,h,rfl,h2⟩
 intro K hK1 hK2
 refine new_rule hw fun b2 w hw=>new_rule hw fun e3 w hw=>?_
 refine (fnew_spec hs hl hw).use ?_
 clear hw
 rintro _ w ⟨r,rfl,hw⟩
 refine .inl ⟨_,rfl,?_⟩
 refine new_rule hw fun b4 w hw=>?_
 refine store_rule hw (by kernel_rfl) rfl (by simp [Value.cells]) fun w hw=>?_
 refine (bnew_spec hw).use ?_
 clear hw
 rintro _ w ⟨p,rfl,hw⟩
 refine .inl ⟨_,rfl,?_⟩
 have hw:Sat R (BookAt p newBook::ldR b4 r::RdAt r ⟨bs,false⟩::ldE e3::pts b2 (.cells [.pointer none].toArray 25 (0,0))::Hs) w:=hw
 have hw:Sat R (pts b2 (.cells [.pointer none].toArray 25 (0,0))::BookAt p newBook::ldR b4 r::RdAt r ⟨bs,false⟩::ldE e3::Hs) w:=hw.arr
 refine store_rule hw (by kernel_rfl) rfl (by simp [Value.cells]) fun w hw=>?_
 have hw:Sat R (ldB b2 p::BookAt p newBook::ldR b4 r::RdAt r ⟨bs,false⟩::ldE e3::Hs) w:=hw
 have hw:Sat R (BookAt p newBook::RdAt r ⟨bs,false⟩::ldB b2 p::ldR b4 r::ldE e3::Hs) w:=hw.arr
 obtain ⟨m1,m2,fs,xs,hl0,hw⟩:=Sat.book.1 hw
 obtain rfl:xs=[]:=List.map_eq_nil_iff.1 hl0.bk
 obtain rfl:fs=[]:=by have:=fl_len hl0;exact List.length_eq_zero_iff.1 this
 have toS:∀ {A:List HP} {R:Cx} {w:World},Sat R (ldB b2 p::ldR b4 r::A) w→Sat R [ldB b2 p,ldR b4 r,VC.tru] w:=fun h=>h.cons fun _ h=>h.restTru2
 have hw:Sat R (RdAt r ⟨bs,false⟩::ldB b2 p::ldR b4 r::ldE e3::pts p (bookC newBook m1 m2)::MapAt m1 (([]:List FE).map flV)::MapAt m2 (([]:List BE).map bkV)::FlsAt []::BksAt []::Hs) w:=hw.arr
 refine drw_rule' (Sat R [ldB b2 p,ldR b4 r,VC.tru]) hw (fun w hw=>toS hw.drop) fun w hw=>?_
 refine ⟨some ⟨p,0,none⟩,At.own (fun _ h=>h) (by exact ⟨rfl,trivial⟩),some ⟨p,0,none⟩,At.own (fun _ h=>h) (by exact ⟨rfl,trivial⟩),some ⟨r,0,none⟩,At.own (fun _ h=>h) (by exact ⟨rfl,trivial⟩),some ⟨r,0,none⟩,At.own (fun _ h=>h) (by exact ⟨rfl,trivial⟩),?_⟩
 have v1:0≤(ldNow bs).1∧(ldNow bs).1≤1099511627776:=rdNum_val hb (by omega)
 have hb1:Bytes (ldNow bs).2.bs:=rdNum_bd hb
 have l1:(ldNow bs).2.bs.length≤1099511627776:=Nat.le_trans rdNum_len hl
 refine (bnum_spec (most:=1099511627776) hb (by omega) (by omega) hw).use ?_
 clear hw
 rintro _ w ⟨rfl,hw⟩
 have hw:Sat R (RdAt r (ldNow bs).2::ldB b2 p::ldR b4 r::ldE e3::pts p (bookC newBook m1 m2)::MapAt m1 (([]:List FE).map flV)::MapAt m2 (([]:List BE).map bkV)::FlsAt []::BksAt []::Hs) w:=hw
 refine .inl ⟨(ldNow bs).1,rfl,toS hw.drop,?_⟩
 have v2:0≤(ldNext bs).1∧(ldNext bs).1≤28629151:=rdNum_val hb1 (by omega)
 have hb2:Bytes (ldNext bs).2.bs:=rdNum_bd hb1
 have l2:(ldNext bs).2.bs.length≤1099511627776:=Nat.le_trans rdNum_len l1
 refine (bnum_spec (most:=28629151) hb1 (by omega) (by omega) hw).use ?_
 clear hw
 rintro _ w ⟨rfl,hw⟩
 have hw:Sat R (pts p (bookC newBook m1 m2)::RdAt r (ldNext bs).2::ldB b2 p::ldR b4 r::ldE e3::MapAt m1 (([]:List FE).map flV)::MapAt m2 (([]:List BE).map bkV)::FlsAt []::BksAt []::Hs) w:=by
  have h:Sat R (RdAt r (ldNext bs).2::ldB b2 p::ldR b4 r::ldE e3::pts p (bookC newBook m1 m2)::MapAt m1 (([]:List FE).map flV)::MapAt m2 (([]:List BE).map bkV)::FlsAt []::BksAt []::Hs) w:=hw
  exact h.arr
 refine .inl ⟨(ldNext bs).1,rfl,toS hw.drop.drop,NilP.mk rfl ?_⟩
 rw [add_off]
 refine store_rule hw (by kernel_rfl) rfl (by simp [Value.cells]) fun w hw=>?_
 have hw:=hw.re (pts p (bookC ⟨(ldNow bs).1,1,[],[]⟩ m1 m2))
 refine ⟨toS hw.drop.drop,NilP.mk rfl ?_⟩
 refine store_rule hw (by kernel_rfl) rfl (by simp [Value.cells]) fun w hw=>?_
 have hw:=hw.re (pts p (bookC ⟨(ldNow bs).1,(ldNext bs).1,[],[]⟩ m1 m2))
 obtain ⟨b0,hb0⟩:∃ b0:Book,b0=⟨(ldNow bs).1,(ldNext bs).1,[],[]⟩:=⟨_,rfl⟩
 rw [←hb0] at hw
 have hw:Sat R (RdAt r (ldNext bs).2::ldR b4 r::ldB b2 p::ldE e3::pts p (bookC b0 m1 m2)::MapAt m1 (([]:List FE).map flV)::MapAt m2 (([]:List BE).map bkV)::FlsAt []::BksAt []::Hs) w:=hw.arr
 refine ⟨some ⟨r,0,none⟩,At.own (eqS hw) (by exact ⟨rfl,trivial⟩),?_⟩
 have v3:0≤(ldMany bs).1∧(ldMany bs).1≤8:=rdNum_val hb2 (by omega)
 have hb3:Bytes (ldMany bs).2.bs:=rdNum_bd hb2
 have l3:(ldMany bs).2.bs.length≤1099511627776:=Nat.le_trans rdNum_len l2
 refine (bnum_spec (most:=8) hb2 (by omega) (by omega) hw).use ?_
 clear hw
 rintro _ w ⟨rfl,hw⟩
 have hw:Sat R (RdAt r (ldMany bs).2::ldR b4 r::ldB b2 p::ldE e3::pts p (bookC b0 m1 m2)::MapAt m1 (([]:List FE).map flV)::MapAt m2 (([]:List BE).map bkV)::FlsAt []::BksAt []::Hs) w:=hw
 refine .inl ⟨(ldMany bs).1,rfl,?_⟩
 obtain ⟨n,hn⟩:∃ n:Nat,(ldMany bs).1=n:=⟨_,(Int.toNat_of_nonneg v3.1).symm⟩
 obtain ⟨r0,hr0⟩:∃ x,x=(ldMany bs).2:=⟨_,rfl⟩
 have hnt:(ldMany bs).1.toNat=n:=by rw [hn,Int.toNat_natCast]
 rw [←hr0] at hw hb3 l3
 rw [hn] at v3 ⊢
 have no0:plsRd n r0=none→loadB bs=none:=fun h=>load_no0 (by rw [hnt,←hr0];exact h)
 have no1:(∀ y,plsRd n r0=some y→¬ KRise Pl.n y.1)→loadB bs=none:=fun h=>load_no1 (by rw [hnt,←hr0];exact h)
 have bad:∀ {w:World} {A:List HP},loadB bs=none→(∀ w',Sat R A w'→Sat R Hs w')→Sat R (ldB b2 p::ldE e3::A) w→LeaveF Tryz.prog 99 [.pointer (some ⟨b2,0,none⟩),.pointer (some ⟨e3,0,none⟩)] (.panicking (errP 6)) (LdK b2 e3 K) w:=fun {w A} h0 hA hw=>load_fail hw fun w' h=>hK1 h0 w' (hA w' h)
 refine ⟨fun last things i w=>∃ (j:Nat) (rd:Rd) (pls:List Pl) (fs:List FE),i=j∧j≤n∧LdI n r0 j rd pls fs∧last=lastN pls∧things=(Go.Proofs.YtfgbbckfikiomaaGreatDoor.things pls:Nat)∧
  Sat R (RdAt r rd::ldR b4 r::ldB b2 p::ldE e3::pts p (bookC b0 m1 m2)::MapAt m1 (fs.map flV)::MapAt m2 (([]:List BE).map bkV)::FlsAt fs::BksAt []::Hs) w,fun _ _ i _=>(n - i).toNat,
  ⟨0,r0,[],[],rfl,by omega,⟨plsI_zero,List.Pairwise.nil,fun _ h=>(by cases h),rfl,hb3,l3,by simp [things]⟩,rfl,rfl,hw⟩,?_⟩
 clear hw
 rintro _ _ _ _ w ⟨j,rd,pls,fs,rfl,hj,ld,rfl,rfl,hw⟩
 refine Br.d (fun h=>?_) (fun h=>?_)
 ·have hjn:j<n:=by omega
  have tl1:=rdText_len (most:=65536) (rd:=rd)
  have tb1:=rdText_bd (most:=65536) (rd:=rd) ld.bytes
  have tl2:=rdText_len (most:=65536) (rd:=(rdText 65536 rd).2)
  have tb2:=rdText_bd (most:=65536) (rd:=(rdText 65536 rd).2) tb1.2
  have hld:=ld.len
  refine ⟨some ⟨r,0,none⟩,At.own (eqS hw) (by exact ⟨rfl,trivial⟩),?_⟩
  refine (rtext_spec (most:=65536) (by omega) hld ld.bytes hw).use ?_
  clear hw
  rintro _ w ⟨t1,rfl,hw⟩
  refine .inl ⟨t1,rfl,?_⟩
  refine (lone_decode tb1.1 (by omega) hw).use ?_
  clear hw
  have w1:IntKind.i64.wrap ((j:Int) + 1)=(j:Int) + 1:=wrap64 (by omega) (by omega)
  rintro _ w (⟨d1,rfl,hw⟩|⟨rr,f,d1,gd,rfl,hw⟩)
  ·-- no flight
   refine .inl ⟨none,6,rfl,some ⟨r,0,none⟩,At.own (eqS hw) (by exact ⟨rfl,trivial⟩),?_⟩
   refine (rtext_spec (most:=65536) (by omega) (by omega) tb1.2 hw).use ?_
   clear hw
   rintro _ w ⟨t2,rfl,hw⟩
   refine .inl ⟨t2,rfl,?_⟩
   have hno:(plRd rd).1=none:=by rw [plRd_eq];unfold decPl;rw [d1]
   have hload:=no0 (plsI_none ld.pre hjn hno)
   refine (queue_decode tb2.1 (by omega) hw).use ?_
   clear hw
   rintro v0 w hq
   obtain ⟨v,c,A,rfl,hA,hw⟩:∃ (v:Option Addr) (c:Int) (A:List HP),v0=Value.tuple #[.pointer v,.int .i64 c]∧(∀ w',Sat R A w'→Sat R Hs w')∧Sat R (ldB b2 p::ldE e3::A) w:=by
    rcases hq with ⟨_,rfl,hw⟩|⟨l,q,_,_,rfl,hw⟩
    ·refine ⟨none,6,RdAt r (rdText 65536 (rdText 65536 rd).2).2::ldR b4 r::pts p (bookC b0 m1 m2)::MapAt m1 (fs.map flV)::MapAt m2 (([]:List BE).map bkV)::FlsAt fs::BksAt []::Hs,rfl,fun _ h=>h.drop.drop.drop.drop.drop.drop.drop,hw.arr⟩
    ·refine ⟨some ⟨q,0,none⟩,0,QuAt q l::RdAt r (rdText 65536 (rdText 65536 rd).2).2::ldR b4 r::pts p (bookC b0 m1 m2)::MapAt m1 (fs.map flV)::MapAt m2 (([]:List BE).map bkV)::FlsAt fs::BksAt []::Hs,rfl,fun _ h=>h.drop.drop.drop.drop.drop.drop.drop.drop,hw.arr⟩
   refine .inl ⟨v,c,rfl,fun _=>False,Br.e (fun h=>by omega) (fun _=>form_c (fun h=>by cases h) (fun _=>.inr ⟨_,rfl,bad hload hA hw⟩)),fun _ _ h=>h.elim⟩
  ·refine .inl ⟨some ⟨f,0,none⟩,0,rfl,some ⟨r,0,none⟩,At.own (eqS hw) (by exact ⟨rfl,trivial⟩),?_⟩
   refine (rtext_spec (most:=65536) (by omega) (by omega) tb1.2 hw.swap).use ?_
   clear hw
   rintro _ w ⟨t2,rfl,hw⟩
   refine .inl ⟨t2,rfl,?_⟩
   refine (queue_decode tb2.1 (by omega) hw).use ?_
   clear hw
   rintro _ w (⟨d2,rfl,hw⟩|⟨l,q,d2,qok,rfl,hw⟩)
   ·have hno:(plRd rd).1=none:=by rw [plRd_eq];unfold decPl;rw [d1,d2]
    have hload:=no0 (plsI_none ld.pre hjn hno)
    have hw:Sat R (ldB b2 p::ldE e3::RdAt r (rdText 65536 (rdText 65536 rd).2).2::LoneAt f rr::ldR b4 r::pts p (bookC b0 m1 m2)::MapAt m1 (fs.map flV)::MapAt m2 (([]:List BE).map bkV)::FlsAt fs::BksAt []::Hs) w:=hw.arr
    refine .inl ⟨none,6,rfl,fun _=>False,Br.e (fun _=>Br.e (fun h=>by omega) (fun _=>form_c (fun h=>by cases h) (fun _=>.inr ⟨_,rfl,bad hload (fun _ h=>h.drop.drop.drop.drop.drop.drop.drop.drop) hw⟩))) (fun h=>absurd rfl h),fun _ _ h=>h.elim⟩
   ·have hsome:(plRd rd).1=some ⟨rr,l⟩:=by rw [plRd_eq];unfold decPl;rw [d1,d2]
    have hpre:=plsI_some ld.pre hjn hsome
    obtain ⟨st1,st2⟩:=num_step (p:=⟨rr,l⟩) ld.rise gd.num.1
    have hrd':(plRd rd).2=(rdText 65536 (rdText 65536 rd).2).2:=rfl
    rw [hrd'] at hpre
    obtain ⟨rd2,hrd2⟩:∃ x,x=(rdText 65536 (rdText 65536 rd).2).2:=⟨_,rfl⟩
    rw [←hrd2] at hw hpre tl2 tb2
    have hw:Sat R (LoneAt f rr::QuAt q l::RdAt r rd2::ldR b4 r::ldB b2 p::ldE e3::pts p (bookC b0 m1 m2)::MapAt m1 (fs.map flV)::MapAt m2 (([]:List BE).map bkV)::FlsAt fs::BksAt []::Hs) w:=hw.arr
    refine .inl ⟨some ⟨q,0,none⟩,0,rfl,fun w=>KRise Pl.n (pls++[⟨rr,l⟩])∧Sat R (LoneAt f rr::QuAt q l::RdAt r rd2::ldR b4 r::ldB b2 p::ldE e3::pts p (bookC b0 m1 m2)::MapAt m1 (fs.map flV)::MapAt m2 (([]:List BE).map bkV)::FlsAt fs::BksAt []::Hs) w,?_,?_⟩
    ·refine Br.e (fun _=>Br.e (fun _=>?_) (fun h=>absurd rfl h)) (fun h=>absurd rfl h)
     refine (lone_number hw).use ?_
     clear hw
     rintro _ w ⟨rfl,hw⟩
     refine .inl ⟨_,rfl,form_c (fun hgt=>.inl ⟨rfl,st1 (of_decide_eq_true hgt),hw⟩) (fun hgt=>.inr ⟨_,rfl,?_⟩)⟩
     have hload:loadB bs=none:=no1 fun y hy=>by
      obtain ⟨m,hm⟩:=plsI_pre hpre hy
      rw [hm]
      exact st2 (of_decide_eq_false hgt) m
     have hw:Sat R (ldB b2 p::ldE e3::LoneAt f rr::QuAt q l::RdAt r rd2::ldR b4 r::pts p (bookC b0 m1 m2)::MapAt m1 (fs.map flV)::MapAt m2 (([]:List BE).map bkV)::FlsAt fs::BksAt []::Hs) w:=hw.arr
     exact bad hload (fun _ h=>h.drop.drop.drop.drop.drop.drop.drop.drop.drop) hw
    clear hw
    rintro _ w ⟨hrise,hw⟩
    refine (lone_number hw).use ?_
    clear hw
    rintro _ w ⟨rfl,hw⟩
    refine .inl ⟨rr.num,rfl,some ⟨p,0,none⟩,At.own (eqS hw) (by exact ⟨rfl,trivial⟩),NilP.mk rfl ⟨some m1,At.own (eqS hw) (by exact ⟨rfl,trivial⟩),?_⟩⟩
    have hw:Sat R (MapAt m1 (fs.map flV)::LoneAt f rr::QuAt q l::RdAt r rd2::ldR b4 r::ldB b2 p::ldE e3::pts p (bookC b0 m1 m2)::MapAt m2 (([]:List BE).map bkV)::FlsAt fs::BksAt []::Hs) w:=hw.arr
    refine MapAt.put pMap hw rr.num (.agg #[.pointer (some ⟨f,0,none⟩),.pointer (some ⟨q,0,none⟩)]) fun w hw=>?_
    rw [put_new (fls_keys (p:=⟨rr,l⟩) ld.fl hrise)] at hw
    have hmap:fs.map flV++[(rr.num,Value.agg #[.pointer (some ⟨f,0,none⟩),.pointer (some ⟨q,0,none⟩)])]=(fs++[((f,q,⟨rr,l⟩):FE)]).map flV:=by rw [List.map_append];rfl
    rw [hmap] at hw
    refine (lone_holds hw.swap).use ?_
    clear hw
    rintro _ w ⟨th,rfl,hw⟩
    have hth:=HoldsL.len hw
    refine .inl ⟨th,rfl,?_⟩
    have hw:=hw.drop
    have hw:Sat R (QuAt q l::LoneAt f rr::MapAt m1 ((fs++[((f,q,⟨rr,l⟩):FE)]).map flV)::RdAt r rd2::ldR b4 r::ldB b2 p::ldE e3::pts p (bookC b0 m1 m2)::MapAt m2 (([]:List BE).map bkV)::FlsAt fs::BksAt []::Hs) w:=hw.arr
    have hql:=qok.len
    refine (qall_spec (by omega) hw).use ?_
    clear hw
    rintro _ w ⟨ta,rfl,hw⟩
    have hta:=OwnN.len hw
    rw [List.length_map] at hta
    have hw:=hw.drop
    have hw:Sat R (LoneAt f rr::QuAt q l::FlsAt fs::RdAt r rd2::ldR b4 r::ldB b2 p::ldE e3::pts p (bookC b0 m1 m2)::MapAt m1 ((fs++[((f,q,⟨rr,l⟩):FE)]).map flV)::MapAt m2 (([]:List BE).map bkV)::BksAt []::Hs) w:=hw.arr
    have hw:=FlsAt.snoc (p:=⟨rr,l⟩) hw
    have hw:Sat R (RdAt r rd2::ldR b4 r::ldB b2 p::ldE e3::pts p (bookC b0 m1 m2)::MapAt m1 ((fs++[((f,q,⟨rr,l⟩):FE)]).map flV)::MapAt m2 (([]:List BE).map bkV)::FlsAt (fs++[((f,q,⟨rr,l⟩):FE)])::BksAt []::Hs) w:=hw.arr
    have hll:=gd.len.1
    obtain ⟨hf1,hf2⟩:=ld.few
    have w2:IntKind.i64.wrap ((th.len:Int) + (ta.len:Int))=((rr.L.length + l.length:Nat):Int):=by rw [wrap64 (by omega) (by omega)];omega
    have w3:IntKind.i64.wrap (((things pls:Nat):Int) + ((rr.L.length + l.length:Nat):Int))=((things (pls++[⟨rr,l⟩]):Nat):Int):=by rw [wrap64 (by omega) (by omega),things_snoc];simp
    refine .inl ⟨ta,rfl,?_⟩
    rw [w2,w3,w1]
    refine ⟨⟨j + 1,rd2,pls++[⟨rr,l⟩],fs++[(f,q,⟨rr,l⟩)],by omega,by omega,⟨hpre,hrise,fun x hx=>?_,?_,tb2.2,by omega,?_⟩,?_,rfl,hw⟩,by dsimp only;omega⟩
    ·rcases List.mem_append.1 hx with hx|hx
     ·exact ld.ok x hx
     ·rw [List.mem_singleton.1 hx];exact ⟨gd,qok⟩
    ·rw [List.map_append,ld.fl];rfl
    ·rw [things_snoc,List.length_append]
     refine ⟨?_,by simp;omega⟩
     simp only [List.length_cons,List.length_nil]
     omega
    ·rw [lastN_snoc]
 ·have hjn:j=n:=by omega
  subst hjn
  have hend:=plsI_end ld.pre
  have hload:=load_eq (bs:=bs) (by rw [hnt,←hr0];exact hend)
  have no2:=fun {L m:List Bk} {x:Bk}=>load_no2 (bs:=bs) (L:=L) (m:=m) (x:=x) (by rw [hnt,←hr0];exact hend)
  obtain ⟨b1,hb1'⟩:∃ b1:Book,b1=⟨(ldNow bs).1,(ldNext bs).1,pls,[]⟩:=⟨_,rfl⟩
  have hbc:bookC b0 m1 m2=bookC b1 m1 m2:=by rw [hb0,hb1']
  rw [hbc] at hw
  refine ⟨some ⟨r,0,none⟩,At.own (eqS hw) (by exact ⟨rfl,trivial⟩),?_⟩
  have v4:0≤(rdNum 300 rd).1∧(rdNum 300 rd).1≤300:=rdNum_val ld.bytes (by omega)
  have hb4:Bytes (rdNum 300 rd).2.bs:=rdNum_bd ld.bytes
  refine (bnum_spec (most:=300) ld.bytes (by omega) (by omega) hw).use ?_
  clear hw
  rintro _ w ⟨rfl,hw⟩
  refine .inl ⟨_,rfl,?_⟩
  have hbks:ldBks rd=rdEach bkRd (rdNum 300 rd).1.toNat (rdNum 300 rd).2:=rfl
  obtain ⟨n2,hn2⟩:∃ n:Nat,(rdNum 300 rd).1=n:=⟨_,(Int.toNat_of_nonneg v4.1).symm⟩
  obtain ⟨r2,hr2⟩:∃ x,x=(rdNum 300 rd).2:=⟨_,rfl⟩
  rw [hn2,Int.toNat_natCast,←hr2] at hbks
  rw [←hr2] at hw hb4
  rw [hn2] at v4 ⊢
  have inv:=fun k=>rdEach_inv (one:=bkRd) (P:=fun r=>Bytes r.bs) (Q:=fun x=>BkIn x) (fun r hr=>⟨bkRd_in hr,bkRd_bd hr⟩) k hb4
  refine ⟨fun last i w=>∃ (k:Nat) (L:List Bk) (rd3:Rd) (xs:List BE),i=k∧k≤n2∧LbI b1 r2 k L rd3 xs∧last=lastI L∧
   Sat R (RdAt r rd3::ldR b4 r::ldB b2 p::ldE e3::pts p (bookC b1 m1 m2)::MapAt m1 (fs.map flV)::MapAt m2 (xs.map bkV)::FlsAt fs::BksAt xs::Hs) w,fun _ i _=>(n2 - i).toNat,
   ⟨0,[],r2,[],rfl,by omega,⟨rfl,List.Pairwise.nil,fun _ h=>(by cases h),rfl,hb4⟩,rfl,hw⟩,?_⟩
  clear hw
  rintro _ _ _ w ⟨k,L,rd3,xs,rfl,hk,lb,rfl,hw⟩
  have hsn:=rdEach_snoc bkRd k r2
  rw [lb.pre] at hsn
  dsimp only at hsn
  refine Br.d (fun h=>?_) (fun h=>?_)
  ·have hkn:k<n2:=by omega
   obtain ⟨x,hx⟩:∃ x,x=(bkRd rd3).1:=⟨_,rfl⟩
   obtain ⟨rd4,hrd4⟩:∃ x,x=(bkRd rd3).2:=⟨_,rfl⟩
   have xin:=bkRd_in lb.bytes
   have xbd:=bkRd_bd lb.bytes
   have hadd:(ldBks rd).1=L++[x]++(rdEach bkRd (n2 - (k + 1)) rd4).1:=by
    rw [hbks]
    have:=rdEach_add bkRd (n2 - (k + 1)) (k + 1) r2
    rw [show k + 1 + (n2 - (k + 1))=n2 by omega,hsn] at this
    rw [this,hx,hrd4]
   rw [←hx] at xin
   rw [←hx,←hrd4] at hsn
   rw [←hrd4] at xbd
   have nochk:¬ Chk b1 L x→loadB bs=none:=fun hc=>no2 hadd v1.1 (by rw [←hb1'];exact hc)
   have y1:Bytes (rdNum 28629151 rd3).2.bs:=rdNum_bd lb.bytes
   have y2:Bytes (rdNum 9999 (rdNum 28629151 rd3).2).2.bs:=rdNum_bd y1
   have y3:Bytes (rdNum 9999 (rdNum 9999 (rdNum 28629151 rd3).2).2).2.bs:=rdNum_bd y2
   have y4:Bytes (rdNum 9999 (rdNum 9999 (rdNum 9999 (rdNum 28629151 rd3).2).2).2).2.bs:=rdNum_bd y3
   have y5:Bytes (rdNum 3 (rdNum 9999 (rdNum 9999 (rdNum 9999 (rdNum 28629151 rd3).2).2).2).2).2.bs:=rdNum_bd y4
   refine drw_rule' (Sat R [ldR b4 r,VC.tru]) hw (fun w hw=>hw.drop.restTru2) fun w hw=>?_
   refine ⟨some ⟨r,0,none⟩,At.own (fun _ h=>h) (by exact ⟨rfl,trivial⟩),some ⟨r,0,none⟩,At.own (fun _ h=>h) (by exact ⟨rfl,trivial⟩),some ⟨r,0,none⟩,At.own (fun _ h=>h) (by exact ⟨rfl,trivial⟩),?_⟩
   refine (bnum_spec (most:=28629151) lb.bytes (by omega) (by omega) hw).use ?_
   clear hw
   rintro _ w ⟨rfl,hw⟩
   refine .inl ⟨_,rfl,hw.drop.restTru2,(ldnum_spec y1 hw).use ?_⟩
   clear hw
   rintro _ w ⟨rfl,hw⟩
   refine .inl ⟨_,rfl,hw.drop.restTru2,(ldnum_spec y2 hw).use ?_⟩
   clear hw
   rintro _ w ⟨rfl,hw⟩
   refine .inl ⟨_,rfl,hw.drop.restTru2,(ldnum_spec y3 hw).use ?_⟩
   clear hw
   rintro _ w ⟨rfl,hw⟩
   refine .inl ⟨_,rfl,hw.drop.restTru2,(bnum_spec (most:=3) y4 (by omega) (by omega) hw).use ?_⟩
   clear hw
   rintro _ w ⟨rfl,hw⟩
   refine .inl ⟨_,rfl,hw.drop.restTru2,(bnum_spec (most:=1099511627776) y5 (by omega) (by omega) hw).use ?_⟩
   clear hw
   rintro _ w ⟨rfl,hw⟩
   refine .inl ⟨_,rfl,hw.drop.restTru2,?_⟩
   refine new_rule hw fun bx w hw=>⟨hw.drop.drop.restTru2,?_⟩
   have hw:Sat R (pts bx (bkObj x)::RdAt r rd4::ldR b4 r::ldB b2 p::ldE e3::pts p (bookC b1 m1 m2)::MapAt m1 (fs.map flV)::MapAt m2 (xs.map bkV)::FlsAt fs::BksAt xs::Hs) w:=by rw [hx,hrd4];exact hw
   have badx:∀ {w},¬ Chk b1 L x→Sat R (pts bx (bkObj x)::RdAt r rd4::ldR b4 r::ldB b2 p::ldE e3::pts p (bookC b1 m1 m2)::MapAt m1 (fs.map flV)::MapAt m2 (xs.map bkV)::FlsAt fs::BksAt xs::Hs) w→
     LeaveF Tryz.prog 99 [.pointer (some ⟨b2,0,none⟩),.pointer (some ⟨e3,0,none⟩)] (.panicking (errP 6)) (LdK b2 e3 K) w:=fun {w} hc hw=>by
    have hw:Sat R (ldB b2 p::ldE e3::pts bx (bkObj x)::RdAt r rd4::ldR b4 r::pts p (bookC b1 m1 m2)::MapAt m1 (fs.map flV)::MapAt m2 (xs.map bkV)::FlsAt fs::BksAt xs::Hs) w:=hw.arr
    exact bad (nochk hc) (fun _ h=>h.drop.drop.drop.drop.drop.drop.drop.drop) hw
   refine ⟨fun w=>(lastI L<x.id∧x.id<b1.next∧1≤x.state∧(x.state=1↔b1.now<x.till)∧(x.state=1∨x.till=0))∧Sat R (pts bx (bkObj x)::RdAt r rd4::ldR b4 r::ldB b2 p::ldE e3::pts p (bookC b1 m1 m2)::MapAt m1 (fs.map flV)::MapAt m2 (xs.map bkV)::FlsAt fs::BksAt xs::Hs) w,?_,?_⟩
   ·refine drw_rule hw fun w hw=>?_
    have no:∀ {w},¬ Chk b1 L x→Sat R (pts bx (bkObj x)::RdAt r rd4::ldR b4 r::ldB b2 p::ldE e3::pts p (bookC b1 m1 m2)::MapAt m1 (fs.map flV)::MapAt m2 (xs.map bkV)::FlsAt fs::BksAt xs::Hs) w→∀ {G:Ending→World→Prop},Calls Tryz.prog 100 #[.bool false] w fun e w_60=>(G e w_60)∨(∃ ch:List PanicEntry,(e=.panicked ch)∧LeaveF Tryz.prog 99 [.pointer (some ⟨b2,0,none⟩),.pointer (some ⟨e3,0,none⟩)] (.panicking ch) (LdK b2 e3 K) w_60):=fun {w} hc hw {G}=>
     form_c (fun h=>by cases h) (fun _=>.inr ⟨_,rfl,badx hc hw⟩)
    refine ⟨x.id,At.own selfS (by exact ⟨rfl,trivial⟩),Br.d (fun c1=>?_) (fun c1=>no (fun hc=>c1 hc.last) hw)⟩
    refine ⟨x.id,At.own selfS (by exact ⟨rfl,trivial⟩),some ⟨p,0,none⟩,At.own selfS (by exact ⟨rfl,trivial⟩),NilP.mk rfl ⟨b1.next,At.own selfS (by exact ⟨rfl,trivial⟩),Br.d (fun c2=>?_) (fun c2=>no (fun hc=>c2 hc.next) hw)⟩⟩
    refine ⟨x.state,At.own selfS (by exact ⟨rfl,trivial⟩),Br.d (fun c3=>?_) (fun c3=>no (fun hc=>c3 hc.state) hw)⟩
    refine ⟨x.state,At.own selfS (by exact ⟨rfl,trivial⟩),x.till,At.own selfS (by exact ⟨rfl,trivial⟩),some ⟨p,0,none⟩,At.own selfS (by exact ⟨rfl,trivial⟩),NilP.mk rfl ⟨b1.now,At.own selfS (by exact ⟨rfl,trivial⟩),Br.mk (fun c4=>?_) (fun c4=>no (fun hc=>?_) hw)⟩⟩
    rotate_left
    ·exact beq_eq_false_iff_ne.1 c4 (by rw [Bool.eq_iff_iff,beq_iff_eq,decide_eq_true_iff];exact hc.held)
    have c4:x.state=1↔b1.now<x.till:=by
     have h:=beq_iff_eq.1 c4
     rw [Bool.eq_iff_iff,beq_iff_eq,decide_eq_true_iff] at h
     exact h
    refine ⟨x.state,At.own selfS (by exact ⟨rfl,trivial⟩),Br.e (fun c5=>?_) (fun c5=>?_)⟩
    ·exact form_c (fun _=>.inl ⟨rfl,hw,⟨c1,c2,c3,c4,.inl c5⟩,hw⟩) (fun h=>by cases h)
    ·refine ⟨x.till,At.own selfS (by exact ⟨rfl,trivial⟩),form_c (fun c6=>.inl ⟨rfl,hw,⟨c1,c2,c3,c4,.inr (beq_iff_eq.1 c6)⟩,hw⟩) (fun c6=>.inr ⟨_,rfl,badx (fun hc=>?_) hw⟩)⟩
     exact beq_eq_false_iff_ne.1 c6 (hc.free.resolve_left c5)
   clear hw
   rintro _ w ⟨⟨c1,c2,c3,c4,c5⟩,hw⟩
   have hlb:BookL { b1 with L:=L } fs xs:=⟨by rw [ld.fl,hb1'],lb.bk⟩
   refine drw_rule hw fun w hw=>?_
   refine ⟨some ⟨p,0,none⟩,At.own selfS (by exact ⟨rfl,trivial⟩),NilP.mk rfl ⟨some m1,At.own selfS (by exact ⟨rfl,trivial⟩),x.flt,At.own selfS (by exact ⟨rfl,trivial⟩),?_⟩⟩
   have look:∀ w',Sat R (pts bx (bkObj x)::RdAt r rd4::ldR b4 r::ldB b2 p::ldE e3::pts p (bookC b1 m1 m2)::MapAt m1 (fs.map flV)::MapAt m2 (xs.map bkV)::FlsAt fs::BksAt xs::Hs) w'→
     (Instr.lookup 77 (.map (some m1)) (.int .i64 x.flt) false).run Tryz.prog w'=.ok ((getM x.flt (fs.map flV)).getD (.agg #[.pointer none,.pointer none])) w':=fun w' h=>by
    have h:Sat R (MapAt m1 (fs.map flV)::pts bx (bkObj x)::RdAt r rd4::ldR b4 r::ldB b2 p::ldE e3::pts p (bookC b1 m1 m2)::MapAt m2 (xs.map bkV)::FlsAt fs::BksAt xs::Hs) w':=h.arr
    exact MapAt.look pMap h x.flt false
   cases hat:b1.at x.flt with
   |none=>
    have hno:getM x.flt (fs.map flV)=none:=(fl_none hlb).2 hat
    rw [hno] at look
    refine ⟨none,none,look,(bhas_none hw).use ?_⟩
    clear hw
    rintro _ w ⟨rfl,hw⟩
    refine .inl ⟨_,rfl,hw,form_c (fun h=>by cases h) (fun _=>.inr ⟨_,rfl,badx (fun hc=>?_) hw⟩)⟩
    obtain ⟨q,hq,_⟩:=hc.has
    rw [hat] at hq
    cases hq
   |some pl=>
    have hpm:=at_some hat
    have hplin:pl∈pls:=by have:=hpm.1;rw [hb1'] at this;exact this
    obtain ⟨gd,qok⟩:=ld.ok pl hplin
    have hll:=gd.len.1
    have hrise1:KRise Pl.n b1.fl:=by rw [hb1'];exact ld.rise
    obtain ⟨A,f,q,C,hfs,hm⟩:=fl_split hlb hrise1 (show Book.at { b1 with L:=L } x.flt=some pl from hat)
    have hgm:getM x.flt (fs.map flV)=some (.agg #[.pointer (some ⟨f,0,none⟩),.pointer (some ⟨q,0,none⟩)]):=by rw [hfs];exact fl_get hm
    rw [hgm] at look
    refine ⟨some ⟨f,0,none⟩,some ⟨q,0,none⟩,look,?_⟩
    obtain ⟨MF,hMF⟩:∃ M,M=fs.map flV:=⟨_,rfl⟩
    rw [←hMF] at hw
    have hw:Sat R (FlsAt (A++(f,q,pl)::C)::pts bx (bkObj x)::RdAt r rd4::ldR b4 r::ldB b2 p::ldE e3::pts p (bookC b1 m1 m2)::MapAt m1 MF::MapAt m2 (xs.map bkV)::BksAt xs::Hs) w:=by rw [←hfs];exact hw.arr
    have hw:=fls_mid.1 hw
    have hw:Sat R (pts bx (bkObj x)::LoneAt f pl.r::QuAt q pl.q::FlsAt (A++C)::RdAt r rd4::ldR b4 r::ldB b2 p::ldE e3::pts p (bookC b1 m1 m2)::MapAt m1 MF::MapAt m2 (xs.map bkV)::BksAt xs::Hs) w:=hw.arr
    refine (bhas_spec gd qok.len (by omega) hw).use ?_
    clear hw
    rintro _ w ⟨rfl,hw⟩
    have hw:Sat R (LoneAt f pl.r::QuAt q pl.q::FlsAt (A++C)::pts bx (bkObj x)::RdAt r rd4::ldR b4 r::ldB b2 p::ldE e3::pts p (bookC b1 m1 m2)::MapAt m1 MF::MapAt m2 (xs.map bkV)::BksAt xs::Hs) w:=hw.arr
    have hw:=fls_mid.2 hw
    rw [←hfs,hMF] at hw
    have hw:Sat R (pts bx (bkObj x)::RdAt r rd4::ldR b4 r::ldB b2 p::ldE e3::pts p (bookC b1 m1 m2)::MapAt m1 (fs.map flV)::MapAt m2 (xs.map bkV)::FlsAt fs::BksAt xs::Hs) w:=hw.arr
    refine .inl ⟨_,rfl,hw,form_c (fun c6=>.inl ⟨rfl,hw,?_⟩) (fun c6=>.inr ⟨_,rfl,badx (fun hc=>?_) hw⟩)⟩
    rotate_left
    ·obtain ⟨q',hq',hh⟩:=hc.has
     rw [hat] at hq'
     obtain rfl:=Option.some.inj hq'
     exact of_decide_eq_false c6 hh
    have hchk:Chk b1 L x:=⟨c1,c2,c3,c4,c5,pl,hat,of_decide_eq_true c6⟩
    obtain ⟨hmay,hrise2⟩:=chk_yes hchk lb.rise fun y hy=>(lb.may y hy).id.1
    refine ⟨x.id,At.own (eqS hw) (by exact ⟨rfl,trivial⟩),?_⟩
    refine drw_rule hw fun w hw=>?_
    refine ⟨some ⟨p,0,none⟩,At.own selfS (by exact ⟨rfl,trivial⟩),NilP.mk rfl ⟨some m2,At.own selfS (by exact ⟨rfl,trivial⟩),x.id,At.own selfS (by exact ⟨rfl,trivial⟩),?_⟩⟩
    have hw:Sat R (MapAt m2 (xs.map bkV)::pts bx (bkObj x)::RdAt r rd4::ldR b4 r::ldB b2 p::ldE e3::pts p (bookC b1 m1 m2)::MapAt m1 (fs.map flV)::FlsAt fs::BksAt xs::Hs) w:=hw.arr
    refine MapAt.put bMap hw x.id (.pointer (some ⟨bx,0,none⟩)) fun w hw=>?_
    rw [put_new (bks_keys lb.bk hrise2)] at hw
    have hmap:xs.map bkV++[(x.id,Value.pointer (some ⟨bx,0,none⟩))]=(xs++[((bx,x):BE)]).map bkV:=by rw [List.map_append];rfl
    rw [hmap] at hw
    have hw:Sat R (pts bx (bkObj x)::BksAt xs::RdAt r rd4::ldR b4 r::ldB b2 p::ldE e3::pts p (bookC b1 m1 m2)::MapAt m1 (fs.map flV)::MapAt m2 ((xs++[((bx,x):BE)]).map bkV)::FlsAt fs::Hs) w:=hw.arr
    have hw:=bks_snoc hw
    have hw:Sat R (RdAt r rd4::ldR b4 r::ldB b2 p::ldE e3::pts p (bookC b1 m1 m2)::MapAt m1 (fs.map flV)::MapAt m2 ((xs++[((bx,x):BE)]).map bkV)::FlsAt fs::BksAt (xs++[((bx,x):BE)])::Hs) w:=hw.arr
    rw [wrap64 (x:=(k:Int) + 1) (by omega) (by omega)]
    refine ⟨⟨k + 1,L++[x],rd4,xs++[(bx,x)],by omega,by omega,⟨hsn,hrise2,fun y hy=>?_,?_,xbd⟩,?_,hw⟩,by dsimp only;omega⟩
    ·rcases List.mem_append.1 hy with hy|hy
     ·exact lb.may y hy
     ·rw [List.mem_singleton.1 hy];exact hmay
    ·rw [List.map_append,lb.bk];rfl
    ·rw [lastI_snoc]
  ·have hkn:k=n2:=by omega
   subst hkn
   have hall:ldBks rd=(L,rd3):=by rw [hbks,lb.pre]
   rw [hall] at hload
   dsimp only at hload
   have hLlen:L.length=k:=by have:=rdEach_len bkRd k r2;rw [lb.pre] at this;exact this
   have hb1L:({ b1 with L:=L }:Book)=⟨(ldNow bs).1,(ldNext bs).1,pls,L⟩:=by rw [hb1']
   rw [←hb1L] at hload
   have nomay:¬ (rdWhole rd3=true∧MayB { b1 with L:=L })→loadB bs=none:=fun h=>by rw [hload,if_neg h]
   refine ⟨some ⟨r,0,none⟩,At.own (eqS hw) (by exact ⟨rfl,trivial⟩),?_⟩
   refine (whole_spec hw).use ?_
   clear hw
   rintro _ w ⟨rfl,hw⟩
   have badw:∀ {w},¬ (rdWhole rd3=true∧MayB { b1 with L:=L })→Sat R (RdAt r rd3::ldR b4 r::ldB b2 p::ldE e3::pts p (bookC b1 m1 m2)::MapAt m1 (fs.map flV)::MapAt m2 (xs.map bkV)::FlsAt fs::BksAt xs::Hs) w→
     LeaveF Tryz.prog 99 [.pointer (some ⟨b2,0,none⟩),.pointer (some ⟨e3,0,none⟩)] (.panicking (errP 6)) (LdK b2 e3 K) w:=fun {w} hc hw=>by
    have hw:Sat R (ldB b2 p::ldE e3::RdAt r rd3::ldR b4 r::pts p (bookC b1 m1 m2)::MapAt m1 (fs.map flV)::MapAt m2 (xs.map bkV)::FlsAt fs::BksAt xs::Hs) w:=hw.arr
    exact bad (nomay hc) (fun _ h=>h.drop.drop.drop.drop.drop.drop.drop) hw
   refine .inl ⟨_,rfl,Br.mk (fun hwh=>?_) (fun hwh=>?_)⟩
   ·refine ⟨some ⟨p,0,none⟩,At.own (eqS hw) (by exact ⟨rfl,trivial⟩),NilP.mk rfl ⟨b1.next,At.own (eqS hw) (by exact ⟨rfl,trivial⟩),Br.d (fun hnx=>?_) (fun hnx=>?_)⟩⟩
    ·refine form_c (fun ht=>.inl ⟨rfl,?_⟩) (fun ht=>.inr ⟨_,rfl,badw (fun h=>?_) hw⟩)
     ·have hth:things pls=L.length:=by have:=beq_iff_eq.1 ht;omega
      have hmay:MayB { b1 with L:=L }:=by
       refine ⟨hnx,by rw [hb1'];exact ld.rise,lb.rise,fun x hx=>?_,by rw [hb1'];exact hth⟩
       have h:=lb.may x hx
       exact ⟨h.id,h.state,h.held,h.free,h.has⟩
      refine ⟨some ⟨p,0,none⟩,At.own (eqS hw) (by exact ⟨rfl,trivial⟩),?_⟩
      have hw:Sat R (ldB b2 p::ldE e3::RdAt r rd3::ldR b4 r::pts p (bookC b1 m1 m2)::MapAt m1 (fs.map flV)::MapAt m2 (xs.map bkV)::FlsAt fs::BksAt xs::Hs) w:=hw.arr
      refine store_rule hw (by kernel_rfl) rfl (by simp [Value.cells]) fun w hw=>?_
      have hw:=hw.re (ldB b2 p)
      refine store_rule hw (by kernel_rfl) rfl (by simp [Value.cells]) fun w hw=>?_
      have hw:=(hw.re (ldE e3)).swap
      refine load_ret hw (hK2 { b1 with L:=L } p w (by rw [hload,if_pos ⟨hwh,hmay⟩]) (fun x hx=>ld.ok x (by rw [hb1'] at hx;exact hx)) ?_)
      exact Sat.book.2 ⟨m1,m2,fs,xs,⟨by rw [ld.fl,hb1'],lb.bk⟩,hw.drop.drop.drop.drop⟩
     ·have h2:=h.2.things
      rw [hb1'] at h2
      have:things pls=L.length:=h2
      exact beq_eq_false_iff_ne.1 ht (by omega)
    ·exact form_c (fun h=>by cases h) (fun _=>.inr ⟨_,rfl,badw (fun h=>hnx h.2.next) hw⟩)
   ·exact form_c (fun h=>by cases h) (fun _=>.inr ⟨_,rfl,badw (fun h=>by rw [h.1] at hwh;cases hwh) hw⟩)
end Go.Proofs.YtfgbbckfikiomaaGreatDoor
/- Chapter 18: BookingLoaded. Condition: none. -/
namespace Go.Proofs.YtfgbbckfikiomaaGreatDoor
set_option linter.unusedVariables false
open Go Go.VC
open Classical
variable {R:Cx} {Hs Rest:List HP} {w:World}
theorem bytes_nums {l:List Int} (h:∀ x∈l,0≤x∧x<18446744073709551616):Bytes (numsB l):=numsB_bd h
theorem bytes_renc {r:RF} (g:Good r):Bytes (rencB r):=by
 have s:=good_small g
 obtain ⟨l1,l2,l3⟩:=layOk_iff.1 g.lay
 obtain ⟨m1,m2,m3⟩:=good_lims g
 have hlen:=g.len.1
 unfold rencB encB
 refine bytes_app (bytes_app (bytes_app (bytes_app (bytes_nums fun x hx=>?_) (listB_bd s.grps (by omega))) (listB_bd s.lims (by omega))) (bytes_num (by omega))) fun x hx=>?_
 ·have:=s.num
  have:=s.rows
  simp only [List.mem_cons,List.not_mem_nil,or_false] at hx
  omega
 ·exact holdsB_bd (fun h hh=>s.hs h hh) x hx
theorem bytes_wt {x:Wt} (h:x.Ok) (hf:x.sc<18446744073709551616):Bytes (wtB x):=by
 obtain ⟨h1,h2,h3,h4⟩:=h
 exact bytes_app (bytes_num (by omega)) (bytes_app (bytes_num (by omega)) (bytes_app (bytes_num (by omega)) (bytes_app (bytes_num (by omega)) (bytes_flt hf))))
theorem bytes_q {q:List Wt} (h:QOk q):Bytes (qB q):=bytes_app (bytes_num (by have:=h.len;omega)) (bytes_flat fun x hx=>bytes_wt (h.ok x hx) (h.fl x hx))
theorem bytes_pl {p:Pl} (g:Good p.r) (h:QOk p.q):Bytes (plB p):=
 bytes_app (bytes_text (bytes_renc g) (by have:=renc_tight g;omega)) (bytes_text (bytes_q h) (by have:=qB_len h;omega))
theorem bytes_bk {n:Int} {x:Bk} (hn:n≤28629151) (h:BkOk n x):Bytes (bkB x):=by
 have:=h.id
 have:=h.flt
 have:=h.cls
 have:=h.many
 have:=h.state
 have:=h.till
 exact bytes_app (bytes_num (by omega)) (bytes_app (bytes_num (by omega)) (bytes_app (bytes_num (by omega)) (bytes_app (bytes_num (by omega)) (bytes_app (bytes_num (by omega)) (bytes_num (by omega))))))
theorem bytes_save {b:Book} (k:Core b):Bytes (saveB b):=by
 have h1:=k.now
 have h2:=k.next
 have h3:=k.few
 have h4:=k.many
 exact bytes_app (bytes_num (by omega)) (bytes_app (bytes_num (by omega)) (bytes_app (bytes_num (by omega)) (bytes_app (bytes_flat fun p hp=>bytes_pl (k.good p hp) (k.qok p hp)) (bytes_app (bytes_num (by omega)) (bytes_flat fun x hx=>bytes_bk h2.2 (k.each x hx))))))
theorem load_saved {t:Sl} {b:Book} (ok:BookOk b) (hw:Sat R (Own t 5 (b8 (saveB b))::Hs) w):
  Gets Tryz.prog 37 #[.slice t.a t.len t.cap] w fun v w'=>∃ p,v=.tuple #[.pointer (some ⟨p,0,none⟩),.int .i64 0]∧Sat R (BookAt p b::Own t 5 (b8 (saveB b))::Hs) w':=by
 have hl:=saveB_len ok.core
 obtain ⟨R1,g1,_,hw,back⟩:=Own.lend hw (by rw [List.length_map];omega)
 refine (bload_spec (bytes_save ok.core) (by omega) g1 hw).mono ?_
 rintro v w' (⟨h,_,_⟩|⟨b',p,h,_,rfl,hw⟩)
 ·rw [load_save ok] at h;cases h
 ·rw [load_save ok] at h
  obtain rfl:=Option.some.inj h
  exact ⟨p,rfl,(back hw).swap⟩
set_option maxHeartbeats 2000000 in
theorem bloaded_lspec {l m:Sl} {cs ms:List CmS} (hr:CmsR R l cs) (hr2:CmsR R m ms) (hw:Sat R Hs w):Gets Tryz.prog 11 #[.slice l.a l.len l.cap,.slice m.a m.len m.cap] w fun v w'=>v=.bool true∧Sat R Hs w':=by
 have hlen:=hr.rows.len
 rw [List.length_map] at hlen
 have hlen2:=hr2.rows.len
 rw [List.length_map] at hlen2
 apply call11
 suffices H:∀ K:Value→World→Prop,(∀ w',Sat R Hs w'→K (.bool true) w')→B11 l m K w from H _ fun w' h=>⟨rfl,h⟩
 intro K hK
 refine (aw18_spec hw).use ?_
 clear hw
 rintro _ w ⟨rfl,hw⟩
 refine ⟨_,rfl,?_⟩
 refine (much_spec (cs:=cs) (fun S hS=>hr.rows.reads hS) hw).use ?_
 clear hw
 rintro _ w ⟨bm,rfl,hm,hw⟩
 refine ⟨_,rfl,?_⟩
 refine (much_spec (cs:=ms) (fun S hS=>hr2.rows.reads hS) hw).use ?_
 clear hw
 rintro _ w ⟨bm2,rfl,hm2,hw⟩
 refine ⟨_,rfl,fun w=>(bm=false∧bm2=false)∧Sat R Hs w,Br.f rfl (Br.mk (fun _=>hK _ hw) (fun h1=>Br.mk (fun _=>hK _ hw) (fun h2=>⟨⟨h1,h2⟩,hw⟩))),?_⟩
 clear hw
 rintro _ w ⟨⟨rfl,rfl⟩,hw⟩
 have hm:=hm rfl
 have hm2:=hm2 rfl
 refine (bnew_spec hw).use ?_
 clear hw
 rintro _ w ⟨p,rfl,hw⟩
 refine ⟨_,rfl,?_⟩
 refine ⟨fun w=>∃ b:Book,BookOk b∧Sat R (BookAt p b::Hs) w,?_,?_⟩
 ·refine ⟨fun i w=>∃ (k:Nat) (b:Book),i=k∧k≤60∧BookOk b∧Sat R (BookAt p b::Hs) w,fun i _=>60 - i.toNat,⟨0,_,rfl,by omega,ok_new,hw⟩,?_⟩
  clear hw
  rintro _ _ w ⟨k,b,rfl,hk,ok,hw⟩
  with_reducible refine Br.d (fun h=>?_) (fun _=>⟨b,ok,hw⟩)
  with_reducible refine Br.d (fun h2=>?_) (fun _=>⟨b,ok,hw⟩)
  have hkl:k<cs.length:=by omega
  rw [wrap64 (x:=(k:Int) + 1) (by omega) (by omega)]
  have hS:=hr.rows.reads (eqS hw)
  refine hS.rngM hkl fun a _ el=>⟨cs[k].1.kind,cs[k].1.pnr,cs[k].1.flt,cs[k].1.cls,cs[k].1.many,cs[k].1.time,cs[k].1.sc,cs[k].1.lab,cs[k].1.rows,cs[k].2.1,cs[k].2.2,el.z (by exact ⟨rfl,rfl,rfl,rfl,rfl,rfl,rfl,rfl,rfl,rfl,rfl,trivial⟩),?_⟩
  refine (applyK hr hm (by omega) hkl ok hw).use ?_
  clear hw hS
  rintro _ w ⟨sl,sb,rfl,ok2,hw⟩
  exact ⟨_,_,_,_,_,_,_,sl,sb,rfl,⟨k + 1,_,by omega,by omega,ok2,hw.drop.drop⟩,by dsimp only;omega⟩
 clear hw
 rintro _ w ⟨b,ok,hw⟩
 refine (bsave_spec ok.core hw).use ?_
 clear hw
 rintro _ w ⟨t1,rfl,hw⟩
 refine ⟨t1,rfl,?_⟩
 refine (load_saved ok hw).use ?_
 clear hw
 rintro _ w ⟨p2,rfl,hw⟩
 refine ⟨_,_,rfl,fun w=>Sat R (BookAt p b::BookAt p2 b::Hs) w,Br.ne (fun h=>absurd rfl h) (fun _=>Br.f rfl ?_),?_⟩
 ·have h:Sat R (Own t1 5 (b8 (saveB b))::BookAt p b::BookAt p2 b::Hs) w:=hw.arr
  exact h.drop
 clear hw
 rintro _ w hw
 refine ⟨fun i w=>∃ (k:Nat) (b:Book),i=k∧k≤60∧BookOk b∧Sat R (BookAt p b::BookAt p2 b::Hs) w,fun i _=>60 - i.toNat,⟨0,b,rfl,by omega,ok,hw⟩,?_⟩
 clear hw ok b
 rintro _ _ w ⟨k,b,rfl,hk,ok,hw⟩
 have hsl:=saveB_len ok.core
 have two:∀ {w:World} {Q:Bool→World→Prop},Sat R (BookAt p b::BookAt p2 b::Hs) w→(∀ w',Sat R Hs w'→Q true w')→Drw w fun S w_13=>
   Calls Tryz.prog 18 #[.pointer (some ⟨p,0,none⟩)] w_13 fun e_7 w_14=>
   ∃ t87:Sl,(e_7=.returned (.slice t87.a t87.len t87.cap))∧
   (S w_14)∧
   (∃ t88:ByteArray,(∀ w',(fun w'=>w'=w_14) w'→((convert 42 9 (.slice t87.a t87.len t87.cap))).run Tryz.prog w'=.ok (.string t88) w')∧
   Calls Tryz.prog 18 #[.pointer (some ⟨p2,0,none⟩)] w_14 fun e_8 w_15=>
   ∃ t90:Sl,(e_8=.returned (.slice t90.a t90.len t90.cap))∧
   (S w_15)∧
   ∃ t91:ByteArray,(∀ w',(fun w'=>w'=w_15) w'→((convert 42 9 (.slice t90.a t90.len t90.cap))).run Tryz.prog w'=.ok (.string t91) w')∧
   Q (t88.toList==t91.toList) w_15)∧
   Calls Tryz.prog 18 #[.pointer (some ⟨p2,0,none⟩)] w_14 fun e_9 w_16=>
   ∃ t90_1:Sl,(e_9=.returned (.slice t90_1.a t90_1.len t90_1.cap))∧
   (S w_16)∧
   (∃ t88_1:ByteArray,(∀ w',(fun w'=>w'=w_16) w'→((convert 42 9 (.slice t87.a t87.len t87.cap))).run Tryz.prog w'=.ok (.string t88_1) w')∧
   ∃ t91_1:ByteArray,(∀ w',(fun w'=>w'=w_16) w'→((convert 42 9 (.slice t90_1.a t90_1.len t90_1.cap))).run Tryz.prog w'=.ok (.string t91_1) w')∧
   Q (t88_1.toList==t91_1.toList) w_16)∧
   ∃ t91_2:ByteArray,(∀ w',(fun w'=>w'=w_16) w'→((convert 42 9 (.slice t90_1.a t90_1.len t90_1.cap))).run Tryz.prog w'=.ok (.string t91_2) w')∧
   ∃ t88_2:ByteArray,(∀ w',(fun w'=>w'=w_16) w'→((convert 42 9 (.slice t87.a t87.len t87.cap))).run Tryz.prog w'=.ok (.string t88_2) w')∧
   Q (t88_2.toList==t91_2.toList) w_16:=fun {w Q} hw hQ=>by
  refine drw_rule' (fun _=>True) hw (fun _ _=>trivial) fun w hw=>?_
  refine (bsave_spec ok.core hw).use ?_
  clear hw
  rintro _ w ⟨u1,rfl,hw⟩
  refine ⟨u1,rfl,trivial,?_,?_⟩
  ·refine ⟨_,conv_own (t:=u1) (T:=5) (bs:=saveB b) (by omega) hw,?_⟩
   have hw:Sat R (BookAt p2 b::Own u1 5 (b8 (saveB b))::BookAt p b::Hs) w:=hw.arr
   refine (bsave_spec ok.core hw).use ?_
   clear hw
   rintro _ w ⟨u2,rfl,hw⟩
   refine ⟨u2,rfl,trivial,_,conv_own (t:=u2) (T:=5) (bs:=saveB b) (by omega) hw,?_⟩
   rw [beq_self_eq_true]
   exact hQ _ hw.drop.drop.drop.drop
  ·have hw:Sat R (BookAt p2 b::Own u1 5 (b8 (saveB b))::BookAt p b::Hs) w:=hw.arr
   refine (bsave_spec ok.core hw).use ?_
   clear hw
   rintro _ w ⟨u2,rfl,hw⟩
   have c1:=conv_own (t:=u1) (T:=5) (bs:=saveB b) (by omega) hw
   have c2:=conv_own (t:=u2) (T:=5) (bs:=saveB b) (by omega) hw
   refine ⟨u2,rfl,trivial,⟨_,c1,_,c2,?_⟩,_,c2,_,c1,?_⟩
   ·rw [beq_self_eq_true]
    exact hQ _ hw.drop.drop.drop.drop
   ·rw [beq_self_eq_true]
    exact hQ _ hw.drop.drop.drop.drop
 refine ⟨fun w=>(k<60∧k<ms.length)∧Sat R (BookAt p b::BookAt p2 b::Hs) w,?_,?_⟩
 ·with_reducible refine Br.d (fun h=>?_) (fun _=>two (Q:=fun v w=>K (.bool v) w) hw hK)
  with_reducible refine Br.d (fun h2=>?_) (fun _=>two (Q:=fun v w=>K (.bool v) w) hw hK)
  exact ⟨⟨by omega,by omega⟩,hw⟩
 clear hw
 rintro _ w ⟨⟨hk2,hkl⟩,hw⟩
 rw [wrap64 (x:=(k:Int) + 1) (by omega) (by omega)]
 have hS:=hr2.rows.reads (eqS hw)
 refine hS.rngM hkl fun a _ el=>⟨ms[k].1.kind,ms[k].1.pnr,ms[k].1.flt,ms[k].1.cls,ms[k].1.many,ms[k].1.time,ms[k].1.sc,ms[k].1.lab,ms[k].1.rows,ms[k].2.1,ms[k].2.2,el.z (by exact ⟨rfl,rfl,rfl,rfl,rfl,rfl,rfl,rfl,rfl,rfl,rfl,trivial⟩),?_⟩
 refine (applyK hr2 hm2 (by omega) hkl ok hw).use ?_
 clear hw hS
 rintro _ w ⟨sl,sb,rfl,ok2,hw⟩
 obtain ⟨f,_,_⟩:=hr2.each ms[k] (List.getElem_mem hkl)
 have hin:=rpin_apply (c:=ms[k].1) ok f.sc
 refine ⟨_,_,_,_,_,_,_,sl,sb,rfl,?_⟩
 refine new_rule hw fun bx w hw=>?_
 refine store_rule hw (by kernel_rfl) rfl (by simp [Value.cells]) fun w hw=>?_
 obtain ⟨rp,hrp⟩:∃ x,x=(applyB b ms[k].1).2:=⟨_,rfl⟩
 have hw:=hw.re (rpC bx (applyB b ms[k].1).2 sl sb)
 have hw:Sat R (BookAt p2 b::rpC bx (applyB b ms[k].1).2 sl sb::Own sl 3 (intsI (applyB b ms[k].1).2.left)::Own sb 9 ((applyB b ms[k].1).2.labs.map Value.string)::BookAt p (applyB b ms[k].1).1::Hs) w:=hw.arr
 have hS:=hr2.rows.reads (eqS hw)
 refine hS.rngM hkl fun a _ el=>⟨ms[k].1.kind,ms[k].1.pnr,ms[k].1.flt,ms[k].1.cls,ms[k].1.many,ms[k].1.time,ms[k].1.sc,ms[k].1.lab,ms[k].1.rows,ms[k].2.1,ms[k].2.2,el.z (by exact ⟨rfl,rfl,rfl,rfl,rfl,rfl,rfl,rfl,rfl,rfl,rfl,trivial⟩),?_⟩
 refine (applyK hr2 hm2 (by omega) hkl ok hw).use ?_
 clear hw hS
 rintro _ w ⟨sl2,sb2,rfl,_,hw⟩
 obtain ⟨nb,hnb⟩:∃ x,x=(applyB b ms[k].1).1:=⟨_,rfl⟩
 rw [←hrp] at hw hin ⊢
 rw [←hnb] at hw ok2
 have hll:=hin.ll
 have hbl:=hin.bl
 refine ⟨_,_,_,_,_,_,_,sl2,sb2,rfl,?_⟩
 refine new_rule hw fun by2 w hw=>?_
 refine store_rule hw (by kernel_rfl) rfl (by simp [Value.cells]) fun w hw=>?_
 have hw:=hw.re (rpC by2 rp sl2 sb2)
 refine ⟨rp.code,rp.pnr,rp.state,rp.flt,rp.cls,rp.many,rp.time,sl,sb,At.own (eqS hw) (by exact ⟨rfl,rfl,rfl,rfl,rfl,rfl,rfl,rfl,rfl,trivial⟩),?_⟩
 refine ⟨rp.code,rp.pnr,rp.state,rp.flt,rp.cls,rp.many,rp.time,sl2,sb2,At.own (eqS hw) (by exact ⟨rfl,rfl,rfl,rfl,rfl,rfl,rfl,rfl,rfl,trivial⟩),?_⟩
 have hw:Sat R (Own sl 3 (intsI rp.left)::Own sb 9 (rp.labs.map Value.string)::Own sl2 3 (intsI rp.left)::Own sb2 9 (rp.labs.map Value.string)::rpC by2 rp sl2 sb2::rpC bx rp sl sb::BookAt p nb::BookAt p2 nb::Hs) w:=hw.arr
 obtain ⟨R1,e1,r1,hw⟩:=Own.leak hw
 obtain ⟨R2,e2,r2,hw⟩:=Own.leak hw
 obtain ⟨R3,e3,r3,hw⟩:=Own.leak hw
 obtain ⟨R4,e4,r4,hw⟩:=Own.leak hw
 refine (same18_spec (e4.ro (e3.ro (e2.ro (r1.ro (by rw [List.length_map];omega))))) (e4.ro (r3.ro (by rw [List.length_map];omega))) (e4.ro (e3.ro (r2.ro (by rw [List.length_map];omega)))) (r4.ro (by rw [List.length_map];omega)) hw).use ?_
 clear hw
 rintro _ w ⟨rfl,hw⟩
 rw [decide_eq_true rfl]
 refine ⟨_,rfl,Br.nb (fun h=>(by cases h)) (fun _=>?_)⟩
 exact ⟨⟨k + 1,nb,by omega,by omega,ok2,e1.back (e2.back (e3.back (e4.back hw.drop.drop)))⟩,by dsimp only;omega⟩
end Go.Proofs.YtfgbbckfikiomaaGreatDoor
