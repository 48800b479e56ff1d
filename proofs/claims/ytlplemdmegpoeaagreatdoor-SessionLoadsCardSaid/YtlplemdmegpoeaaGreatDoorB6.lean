/- Package booking: Load, whole. Condition: a bound on the length. -/
import Derived.Test.YtlplemdmegpoeaaGreatDoorB5
import Derived.Test.YtlplemdmegpoeaaGreatDoorB2
import GoSem.Instr.MapEntry
namespace Go.Proofs.YtlplemdmegpoeaaGreatDoor
set_option linter.unusedVariables false
set_option linter.unusedSimpArgs false
open Go Go.VC
open Classical
variable {R:Cx} {Hs Rest:List HP} {w:World}
theorem plRd_eq (rd:Rd):plRd rd=(decPl (rdText 65536 rd).1 (rdText 65536 (rdText 65536 rd).2).1,(rdText 65536 (rdText 65536 rd).2).2):=rfl
theorem things_snoc (l:List Pl) (p:Pl):things (l++[p])=things l + (p.r.L.length + p.q.length):=by
 unfold things
 rw [List.map_append,List.sum_append]
 simp
theorem fls_keys {fs:List FE} {pls:List Pl} {p:Pl} (h:fs.map (fun e=>e.2.2)=pls) (hr:KRise Pl.n (pls++[p])):∀ e∈fs.map flV,e.1≠p.n:=by
 intro e he
 obtain ⟨x,hx,rfl⟩:=List.mem_map.1 he
 have h1:x.2.2∈pls:=by rw [←h];exact List.mem_map.2 ⟨x,hx,rfl⟩
 have:=(List.pairwise_append.1 hr).2.2 _ h1 p (by simp)
 show x.2.2.n≠p.n
 omega
theorem bks_keys {xs:List BE} {L:List Bk} {x:Bk} (h:xs.map (fun e=>e.2)=L) (hr:KRise Bk.id (L++[x])):∀ e∈xs.map bkV,e.1≠x.id:=by
 intro e he
 obtain ⟨y,hy,rfl⟩:=List.mem_map.1 he
 have h1:y.2∈L:=by rw [←h];exact List.mem_map.2 ⟨y,hy,rfl⟩
 have:=(List.pairwise_append.1 hr).2.2 _ h1 x (by simp)
 show y.2.id≠x.id
 omega
structure LdI (n:Nat) (r0:Rd) (j:Nat) (rd:Rd) (pls:List Pl) (fs:List FE):Prop where
 pre:PlsI n r0 j rd pls
 rise:KRise Pl.n pls
 ok:∀ p∈pls,Good p.r∧QOk p.q
 fl:fs.map (fun e=>e.2.2)=pls
 bytes:Bytes rd.bs
 len:rd.bs.length≤1099511627776
 few:things pls≤1000 * pls.length∧pls.length=j
structure LbI (b:Book) (r2:Rd) (k:Nat) (L:List Bk) (rd:Rd) (xs:List BE):Prop where
 pre:rdEach bkRd k r2=(L,rd)
 rise:KRise Bk.id L
 may:∀ x∈L,BkMay b x
 bk:xs.map (fun e=>e.2)=L
 bytes:Bytes rd.bs
set_option maxHeartbeats 8000000 in
theorem bload_spec {s:Sl} {bs:List Int} (hb:Bytes bs) (hl:bs.length≤1099511627776) (hs:Ro R s (b8 bs)) (hw:Sat R Hs w):
  Gets Tryz.prog 95 #[.slice s.a s.len s.cap] w fun v w'=>(loadB bs=none∧v=.tuple #[.pointer none,.int .i64 6]∧Sat R Hs w')∨
   (∃ b p,loadB bs=some b∧(∀ x∈b.fl,Good x.r∧QOk x.q)∧v=.tuple #[.pointer (some ⟨p,0,none⟩),.int .i64 0]∧Sat R (BookAt p b::Hs) w'):=by
 apply call95
 suffices H:∀ K:Value→World→Prop,(loadB bs=none→∀ w',Sat R Hs w'→K (.tuple #[.pointer none,.int .i64 6]) w')→(∀ b p w',loadB bs=some b→(∀ x∈b.fl,Good x.r∧QOk x.q)→Sat R (BookAt p b::Hs) w'→K (.tuple #[.pointer (some ⟨p,0,none⟩),.int .i64 0]) w')→B95 s K w from
  H _ (fun e w' h=>.inl ⟨e,rfl,h⟩) fun b p w' e h h2=>.inr ⟨b,p,e,h,rfl,h2⟩
 intro K hK1 hK2
 refine new_rule hw fun b2 w hw=>new_rule hw fun e3 w hw=>?_
 refine (fnew_spec hs hl hw).use ?_
 clear hw
 rintro _ w ⟨r,rfl,hw⟩
 refine .inl ⟨_,rfl,?_⟩
 refine new_rule hw fun b4 w hw=>?_
 refine store_rule hw (by kernel_rfl) rfl (by simp [Value.cells]) fun w hw=>?_
 refine (bnew_spec hw).use ?_
 clear hw
 rintro _ w ⟨p,rfl,hw⟩
 refine .inl ⟨_,rfl,?_⟩
 have hw:Sat R (BookAt p newBook::ldR b4 r::RdAt r ⟨bs,false⟩::ldE e3::pts b2 (.cells [.pointer none].toArray 25 (0,0))::Hs) w:=hw
 have hw:Sat R (pts b2 (.cells [.pointer none].toArray 25 (0,0))::BookAt p newBook::ldR b4 r::RdAt r ⟨bs,false⟩::ldE e3::Hs) w:=hw.arr
 refine store_rule hw (by kernel_rfl) rfl (by simp [Value.cells]) fun w hw=>?_
 have hw:Sat R (ldB b2 p::BookAt p newBook::ldR b4 r::RdAt r ⟨bs,false⟩::ldE e3::Hs) w:=hw
 have hw:Sat R (BookAt p newBook::RdAt r ⟨bs,false⟩::ldB b2 p::ldR b4 r::ldE e3::Hs) w:=hw.arr
 obtain ⟨m1,m2,fs,xs,hl0,hw⟩:=Sat.book.1 hw
 obtain rfl:xs=[]:=List.map_eq_nil_iff.1 hl0.bk
 obtain rfl:fs=[]:=by have:=fl_len hl0;exact List.length_eq_zero_iff.1 this
 have toS:∀ {A:List HP} {R:Cx} {w:World},Sat R (ldB b2 p::ldR b4 r::A) w→Sat R [ldB b2 p,ldR b4 r,VC.tru] w:=fun h=>h.cons fun _ h=>h.restTru2
 have hw:Sat R (RdAt r ⟨bs,false⟩::ldB b2 p::ldR b4 r::ldE e3::pts p (bookC newBook m1 m2)::MapAt m1 (([]:List FE).map flV)::MapAt m2 (([]:List BE).map bkV)::FlsAt []::BksAt []::Hs) w:=hw.arr
 refine drw_rule' (Sat R [ldB b2 p,ldR b4 r,VC.tru]) hw (fun w hw=>toS hw.drop) fun w hw=>?_
 refine ⟨some ⟨p,0,none⟩,At.own (fun _ h=>h) (by exact ⟨rfl,trivial⟩),some ⟨p,0,none⟩,At.own (fun _ h=>h) (by exact ⟨rfl,trivial⟩),some ⟨r,0,none⟩,At.own (fun _ h=>h) (by exact ⟨rfl,trivial⟩),some ⟨r,0,none⟩,At.own (fun _ h=>h) (by exact ⟨rfl,trivial⟩),?_⟩
 have v1:0≤(ldNow bs).1∧(ldNow bs).1≤1099511627776:=rdNum_val hb (by omega)
 have hb1:Bytes (ldNow bs).2.bs:=rdNum_bd hb
 have l1:(ldNow bs).2.bs.length≤1099511627776:=Nat.le_trans rdNum_len hl
 refine (bnum_spec (most:=1099511627776) hb (by omega) (by omega) hw).use ?_
 clear hw
 rintro _ w ⟨rfl,hw⟩
 have hw:Sat R (RdAt r (ldNow bs).2::ldB b2 p::ldR b4 r::ldE e3::pts p (bookC newBook m1 m2)::MapAt m1 (([]:List FE).map flV)::MapAt m2 (([]:List BE).map bkV)::FlsAt []::BksAt []::Hs) w:=hw
 refine .inl ⟨(ldNow bs).1,rfl,toS hw.drop,?_⟩
 have v2:0≤(ldNext bs).1∧(ldNext bs).1≤28629151:=rdNum_val hb1 (by omega)
 have hb2:Bytes (ldNext bs).2.bs:=rdNum_bd hb1
 have l2:(ldNext bs).2.bs.length≤1099511627776:=Nat.le_trans rdNum_len l1
 refine (bnum_spec (most:=28629151) hb1 (by omega) (by omega) hw).use ?_
 clear hw
 rintro _ w ⟨rfl,hw⟩
 have hw:Sat R (pts p (bookC newBook m1 m2)::RdAt r (ldNext bs).2::ldB b2 p::ldR b4 r::ldE e3::MapAt m1 (([]:List FE).map flV)::MapAt m2 (([]:List BE).map bkV)::FlsAt []::BksAt []::Hs) w:=by
  have h:Sat R (RdAt r (ldNext bs).2::ldB b2 p::ldR b4 r::ldE e3::pts p (bookC newBook m1 m2)::MapAt m1 (([]:List FE).map flV)::MapAt m2 (([]:List BE).map bkV)::FlsAt []::BksAt []::Hs) w:=hw
  exact h.arr
 refine .inl ⟨(ldNext bs).1,rfl,toS hw.drop.drop,NilP.mk rfl ?_⟩
 rw [add_off]
 refine store_rule hw (by kernel_rfl) rfl (by simp [Value.cells]) fun w hw=>?_
 have hw:=hw.re (pts p (bookC ⟨(ldNow bs).1,1,[],[]⟩ m1 m2))
 refine ⟨toS hw.drop.drop,NilP.mk rfl ?_⟩
 refine store_rule hw (by kernel_rfl) rfl (by simp [Value.cells]) fun w hw=>?_
 have hw:=hw.re (pts p (bookC ⟨(ldNow bs).1,(ldNext bs).1,[],[]⟩ m1 m2))
 obtain ⟨b0,hb0⟩:∃ b0:Book,b0=⟨(ldNow bs).1,(ldNext bs).1,[],[]⟩:=⟨_,rfl⟩
 rw [←hb0] at hw
 have hw:Sat R (RdAt r (ldNext bs).2::ldR b4 r::ldB b2 p::ldE e3::pts p (bookC b0 m1 m2)::MapAt m1 (([]:List FE).map flV)::MapAt m2 (([]:List BE).map bkV)::FlsAt []::BksAt []::Hs) w:=hw.arr
 refine ⟨some ⟨r,0,none⟩,At.own (eqS hw) (by exact ⟨rfl,trivial⟩),?_⟩
 have v3:0≤(ldMany bs).1∧(ldMany bs).1≤8:=rdNum_val hb2 (by omega)
 have hb3:Bytes (ldMany bs).2.bs:=rdNum_bd hb2
 have l3:(ldMany bs).2.bs.length≤1099511627776:=Nat.le_trans rdNum_len l2
 refine (bnum_spec (most:=8) hb2 (by omega) (by omega) hw).use ?_
 clear hw
 rintro _ w ⟨rfl,hw⟩
 have hw:Sat R (RdAt r (ldMany bs).2::ldR b4 r::ldB b2 p::ldE e3::pts p (bookC b0 m1 m2)::MapAt m1 (([]:List FE).map flV)::MapAt m2 (([]:List BE).map bkV)::FlsAt []::BksAt []::Hs) w:=hw
 refine .inl ⟨(ldMany bs).1,rfl,?_⟩
 obtain ⟨n,hn⟩:∃ n:Nat,(ldMany bs).1=n:=⟨_,(Int.toNat_of_nonneg v3.1).symm⟩
 obtain ⟨r0,hr0⟩:∃ x,x=(ldMany bs).2:=⟨_,rfl⟩
 have hnt:(ldMany bs).1.toNat=n:=by rw [hn,Int.toNat_natCast]
 rw [←hr0] at hw hb3 l3
 rw [hn] at v3 ⊢
 have no0:plsRd n r0=none→loadB bs=none:=fun h=>load_no0 (by rw [hnt,←hr0];exact h)
 have no1:(∀ y,plsRd n r0=some y→¬ KRise Pl.n y.1)→loadB bs=none:=fun h=>load_no1 (by rw [hnt,←hr0];exact h)
 have bad:∀ {w:World} {A:List HP},loadB bs=none→(∀ w',Sat R A w'→Sat R Hs w')→Sat R (ldB b2 p::ldE e3::A) w→LeaveF Tryz.prog 155 [.pointer (some ⟨b2,0,none⟩),.pointer (some ⟨e3,0,none⟩)] (.panicking (errP 6)) (LdK b2 e3 K) w:=fun {w A} h0 hA hw=>load_fail hw fun w' h=>hK1 h0 w' (hA w' h)
 refine ⟨fun last things i w=>∃ (j:Nat) (rd:Rd) (pls:List Pl) (fs:List FE),i=j∧j≤n∧LdI n r0 j rd pls fs∧last=lastN pls∧things=(Go.Proofs.YtlplemdmegpoeaaGreatDoor.things pls:Nat)∧
  Sat R (RdAt r rd::ldR b4 r::ldB b2 p::ldE e3::pts p (bookC b0 m1 m2)::MapAt m1 (fs.map flV)::MapAt m2 (([]:List BE).map bkV)::FlsAt fs::BksAt []::Hs) w,fun _ _ i _=>(n - i).toNat,
  ⟨0,r0,[],[],rfl,by omega,⟨plsI_zero,List.Pairwise.nil,fun _ h=>(by cases h),rfl,hb3,l3,by simp [things]⟩,rfl,rfl,hw⟩,?_⟩
 clear hw
 rintro _ _ _ _ w ⟨j,rd,pls,fs,rfl,hj,ld,rfl,rfl,hw⟩
 refine Br.d (fun h=>?_) (fun h=>?_)
 ·have hjn:j<n:=by omega
  have tl1:=rdText_len (most:=65536) (rd:=rd)
  have tb1:=rdText_bd (most:=65536) (rd:=rd) ld.bytes
  have tl2:=rdText_len (most:=65536) (rd:=(rdText 65536 rd).2)
  have tb2:=rdText_bd (most:=65536) (rd:=(rdText 65536 rd).2) tb1.2
  have hld:=ld.len
  refine ⟨some ⟨r,0,none⟩,At.own (eqS hw) (by exact ⟨rfl,trivial⟩),?_⟩
  refine (rtext_spec (most:=65536) (by omega) hld ld.bytes hw).use ?_
  clear hw
  rintro _ w ⟨t1,rfl,hw⟩
  refine .inl ⟨t1,rfl,?_⟩
  refine (lone_decode tb1.1 (by omega) hw).use ?_
  clear hw
  have w1:IntKind.i64.wrap ((j:Int) + 1)=(j:Int) + 1:=wrap64 (by omega) (by omega)
  rintro _ w (⟨d1,rfl,hw⟩|⟨rr,f,d1,gd,rfl,hw⟩)
  ·-- no flight
   refine .inl ⟨none,6,rfl,some ⟨r,0,none⟩,At.own (eqS hw) (by exact ⟨rfl,trivial⟩),?_⟩
   refine (rtext_spec (most:=65536) (by omega) (by omega) tb1.2 hw).use ?_
   clear hw
   rintro _ w ⟨t2,rfl,hw⟩
   refine .inl ⟨t2,rfl,?_⟩
   have hno:(plRd rd).1=none:=by rw [plRd_eq];unfold decPl;rw [d1]
   have hload:=no0 (plsI_none ld.pre hjn hno)
   refine (queue_decode tb2.1 (by omega) hw).use ?_
   clear hw
   rintro v0 w hq
   obtain ⟨v,c,A,rfl,hA,hw⟩:∃ (v:Option Addr) (c:Int) (A:List HP),v0=Value.tuple #[.pointer v,.int .i64 c]∧(∀ w',Sat R A w'→Sat R Hs w')∧Sat R (ldB b2 p::ldE e3::A) w:=by
    rcases hq with ⟨_,rfl,hw⟩|⟨l,q,_,_,rfl,hw⟩
    ·refine ⟨none,6,RdAt r (rdText 65536 (rdText 65536 rd).2).2::ldR b4 r::pts p (bookC b0 m1 m2)::MapAt m1 (fs.map flV)::MapAt m2 (([]:List BE).map bkV)::FlsAt fs::BksAt []::Hs,rfl,fun _ h=>h.drop.drop.drop.drop.drop.drop.drop,hw.arr⟩
    ·refine ⟨some ⟨q,0,none⟩,0,QuAt q l::RdAt r (rdText 65536 (rdText 65536 rd).2).2::ldR b4 r::pts p (bookC b0 m1 m2)::MapAt m1 (fs.map flV)::MapAt m2 (([]:List BE).map bkV)::FlsAt fs::BksAt []::Hs,rfl,fun _ h=>h.drop.drop.drop.drop.drop.drop.drop.drop,hw.arr⟩
   refine .inl ⟨v,c,rfl,fun _=>False,Br.e (fun h=>by omega) (fun _=>form_c (fun h=>by cases h) (fun _=>.inr ⟨_,rfl,bad hload hA hw⟩)),fun _ _ h=>h.elim⟩
  ·refine .inl ⟨some ⟨f,0,none⟩,0,rfl,some ⟨r,0,none⟩,At.own (eqS hw) (by exact ⟨rfl,trivial⟩),?_⟩
   refine (rtext_spec (most:=65536) (by omega) (by omega) tb1.2 hw.swap).use ?_
   clear hw
   rintro _ w ⟨t2,rfl,hw⟩
   refine .inl ⟨t2,rfl,?_⟩
   refine (queue_decode tb2.1 (by omega) hw).use ?_
   clear hw
   rintro _ w (⟨d2,rfl,hw⟩|⟨l,q,d2,qok,rfl,hw⟩)
   ·have hno:(plRd rd).1=none:=by rw [plRd_eq];unfold decPl;rw [d1,d2]
    have hload:=no0 (plsI_none ld.pre hjn hno)
    have hw:Sat R (ldB b2 p::ldE e3::RdAt r (rdText 65536 (rdText 65536 rd).2).2::LoneAt f rr::ldR b4 r::pts p (bookC b0 m1 m2)::MapAt m1 (fs.map flV)::MapAt m2 (([]:List BE).map bkV)::FlsAt fs::BksAt []::Hs) w:=hw.arr
    refine .inl ⟨none,6,rfl,fun _=>False,Br.e (fun _=>Br.e (fun h=>by omega) (fun _=>form_c (fun h=>by cases h) (fun _=>.inr ⟨_,rfl,bad hload (fun _ h=>h.drop.drop.drop.drop.drop.drop.drop.drop) hw⟩))) (fun h=>absurd rfl h),fun _ _ h=>h.elim⟩
   ·have hsome:(plRd rd).1=some ⟨rr,l⟩:=by rw [plRd_eq];unfold decPl;rw [d1,d2]
    have hpre:=plsI_some ld.pre hjn hsome
    obtain ⟨st1,st2⟩:=num_step (p:=⟨rr,l⟩) ld.rise gd.num.1
    have hrd':(plRd rd).2=(rdText 65536 (rdText 65536 rd).2).2:=rfl
    rw [hrd'] at hpre
    obtain ⟨rd2,hrd2⟩:∃ x,x=(rdText 65536 (rdText 65536 rd).2).2:=⟨_,rfl⟩
    rw [←hrd2] at hw hpre tl2 tb2
    have hw:Sat R (LoneAt f rr::QuAt q l::RdAt r rd2::ldR b4 r::ldB b2 p::ldE e3::pts p (bookC b0 m1 m2)::MapAt m1 (fs.map flV)::MapAt m2 (([]:List BE).map bkV)::FlsAt fs::BksAt []::Hs) w:=hw.arr
    refine .inl ⟨some ⟨q,0,none⟩,0,rfl,fun w=>KRise Pl.n (pls++[⟨rr,l⟩])∧Sat R (LoneAt f rr::QuAt q l::RdAt r rd2::ldR b4 r::ldB b2 p::ldE e3::pts p (bookC b0 m1 m2)::MapAt m1 (fs.map flV)::MapAt m2 (([]:List BE).map bkV)::FlsAt fs::BksAt []::Hs) w,?_,?_⟩
    ·refine Br.e (fun _=>Br.e (fun _=>?_) (fun h=>absurd rfl h)) (fun h=>absurd rfl h)
     refine (lone_number hw).use ?_
     clear hw
     rintro _ w ⟨rfl,hw⟩
     refine .inl ⟨_,rfl,form_c (fun hgt=>.inl ⟨rfl,st1 (of_decide_eq_true hgt),hw⟩) (fun hgt=>.inr ⟨_,rfl,?_⟩)⟩
     have hload:loadB bs=none:=no1 fun y hy=>by
      obtain ⟨m,hm⟩:=plsI_pre hpre hy
      rw [hm]
      exact st2 (of_decide_eq_false hgt) m
     have hw:Sat R (ldB b2 p::ldE e3::LoneAt f rr::QuAt q l::RdAt r rd2::ldR b4 r::pts p (bookC b0 m1 m2)::MapAt m1 (fs.map flV)::MapAt m2 (([]:List BE).map bkV)::FlsAt fs::BksAt []::Hs) w:=hw.arr
     exact bad hload (fun _ h=>h.drop.drop.drop.drop.drop.drop.drop.drop.drop) hw
    clear hw
    rintro _ w ⟨hrise,hw⟩
    refine (lone_number hw).use ?_
    clear hw
    rintro _ w ⟨rfl,hw⟩
    refine .inl ⟨rr.num,rfl,some ⟨p,0,none⟩,At.own (eqS hw) (by exact ⟨rfl,trivial⟩),NilP.mk rfl ⟨some m1,At.own (eqS hw) (by exact ⟨rfl,trivial⟩),?_⟩⟩
    have hw:Sat R (MapAt m1 (fs.map flV)::LoneAt f rr::QuAt q l::RdAt r rd2::ldR b4 r::ldB b2 p::ldE e3::pts p (bookC b0 m1 m2)::MapAt m2 (([]:List BE).map bkV)::FlsAt fs::BksAt []::Hs) w:=hw.arr
    refine MapAt.put pMap hw rr.num (.agg #[.pointer (some ⟨f,0,none⟩),.pointer (some ⟨q,0,none⟩)]) fun w hw=>?_
    rw [put_new (fls_keys (p:=⟨rr,l⟩) ld.fl hrise)] at hw
    have hmap:fs.map flV++[(rr.num,Value.agg #[.pointer (some ⟨f,0,none⟩),.pointer (some ⟨q,0,none⟩)])]=(fs++[((f,q,⟨rr,l⟩):FE)]).map flV:=by rw [List.map_append];rfl
    rw [hmap] at hw
    refine (lone_holds hw.swap).use ?_
    clear hw
    rintro _ w ⟨th,rfl,hw⟩
    have hth:=HoldsL.len hw
    refine .inl ⟨th,rfl,?_⟩
    have hw:=hw.drop
    have hw:Sat R (QuAt q l::LoneAt f rr::MapAt m1 ((fs++[((f,q,⟨rr,l⟩):FE)]).map flV)::RdAt r rd2::ldR b4 r::ldB b2 p::ldE e3::pts p (bookC b0 m1 m2)::MapAt m2 (([]:List BE).map bkV)::FlsAt fs::BksAt []::Hs) w:=hw.arr
    have hql:=qok.len
    refine (qall_spec (by omega) hw).use ?_
    clear hw
    rintro _ w ⟨ta,rfl,hw⟩
    have hta:=OwnN.len hw
    rw [List.length_map] at hta
    have hw:=hw.drop
    have hw:Sat R (LoneAt f rr::QuAt q l::FlsAt fs::RdAt r rd2::ldR b4 r::ldB b2 p::ldE e3::pts p (bookC b0 m1 m2)::MapAt m1 ((fs++[((f,q,⟨rr,l⟩):FE)]).map flV)::MapAt m2 (([]:List BE).map bkV)::BksAt []::Hs) w:=hw.arr
    have hw:=FlsAt.snoc (p:=⟨rr,l⟩) hw
    have hw:Sat R (RdAt r rd2::ldR b4 r::ldB b2 p::ldE e3::pts p (bookC b0 m1 m2)::MapAt m1 ((fs++[((f,q,⟨rr,l⟩):FE)]).map flV)::MapAt m2 (([]:List BE).map bkV)::FlsAt (fs++[((f,q,⟨rr,l⟩):FE)])::BksAt []::Hs) w:=hw.arr
    have hll:=gd.len.1
    obtain ⟨hf1,hf2⟩:=ld.few
    have w2:IntKind.i64.wrap ((th.len:Int) + (ta.len:Int))=((rr.L.length + l.length:Nat):Int):=by rw [wrap64 (by omega) (by omega)];omega
    have w3:IntKind.i64.wrap (((things pls:Nat):Int) + ((rr.L.length + l.length:Nat):Int))=((things (pls++[⟨rr,l⟩]):Nat):Int):=by rw [wrap64 (by omega) (by omega),things_snoc];simp
    refine .inl ⟨ta,rfl,?_⟩
    rw [w2,w3,w1]
    refine ⟨⟨j + 1,rd2,pls++[⟨rr,l⟩],fs++[(f,q,⟨rr,l⟩)],by omega,by omega,⟨hpre,hrise,fun x hx=>?_,?_,tb2.2,by omega,?_⟩,?_,rfl,hw⟩,by dsimp only;omega⟩
    ·rcases List.mem_append.1 hx with hx|hx
     ·exact ld.ok x hx
     ·rw [List.mem_singleton.1 hx];exact ⟨gd,qok⟩
    ·rw [List.map_append,ld.fl];rfl
    ·rw [things_snoc,List.length_append]
     refine ⟨?_,by simp;omega⟩
     simp only [List.length_cons,List.length_nil]
     omega
    ·rw [lastN_snoc]
 ·have hjn:j=n:=by omega
  subst hjn
  have hend:=plsI_end ld.pre
  have hload:=load_eq (bs:=bs) (by rw [hnt,←hr0];exact hend)
  have no2:=fun {L m:List Bk} {x:Bk}=>load_no2 (bs:=bs) (L:=L) (m:=m) (x:=x) (by rw [hnt,←hr0];exact hend)
  obtain ⟨b1,hb1'⟩:∃ b1:Book,b1=⟨(ldNow bs).1,(ldNext bs).1,pls,[]⟩:=⟨_,rfl⟩
  have hbc:bookC b0 m1 m2=bookC b1 m1 m2:=by rw [hb0,hb1']
  rw [hbc] at hw
  refine ⟨some ⟨r,0,none⟩,At.own (eqS hw) (by exact ⟨rfl,trivial⟩),?_⟩
  have v4:0≤(rdNum 300 rd).1∧(rdNum 300 rd).1≤300:=rdNum_val ld.bytes (by omega)
  have hb4:Bytes (rdNum 300 rd).2.bs:=rdNum_bd ld.bytes
  refine (bnum_spec (most:=300) ld.bytes (by omega) (by omega) hw).use ?_
  clear hw
  rintro _ w ⟨rfl,hw⟩
  refine .inl ⟨_,rfl,?_⟩
  have hbks:ldBks rd=rdEach bkRd (rdNum 300 rd).1.toNat (rdNum 300 rd).2:=rfl
  obtain ⟨n2,hn2⟩:∃ n:Nat,(rdNum 300 rd).1=n:=⟨_,(Int.toNat_of_nonneg v4.1).symm⟩
  obtain ⟨r2,hr2⟩:∃ x,x=(rdNum 300 rd).2:=⟨_,rfl⟩
  rw [hn2,Int.toNat_natCast,←hr2] at hbks
  rw [←hr2] at hw hb4
  rw [hn2] at v4 ⊢
  have inv:=fun k=>rdEach_inv (one:=bkRd) (P:=fun r=>Bytes r.bs) (Q:=fun x=>BkIn x) (fun r hr=>⟨bkRd_in hr,bkRd_bd hr⟩) k hb4
  refine ⟨fun last i w=>∃ (k:Nat) (L:List Bk) (rd3:Rd) (xs:List BE),i=k∧k≤n2∧LbI b1 r2 k L rd3 xs∧last=lastI L∧
   Sat R (RdAt r rd3::ldR b4 r::ldB b2 p::ldE e3::pts p (bookC b1 m1 m2)::MapAt m1 (fs.map flV)::MapAt m2 (xs.map bkV)::FlsAt fs::BksAt xs::Hs) w,fun _ i _=>(n2 - i).toNat,
   ⟨0,[],r2,[],rfl,by omega,⟨rfl,List.Pairwise.nil,fun _ h=>(by cases h),rfl,hb4⟩,rfl,hw⟩,?_⟩
  clear hw
  rintro _ _ _ w ⟨k,L,rd3,xs,rfl,hk,lb,rfl,hw⟩
  have hsn:=rdEach_snoc bkRd k r2
  rw [lb.pre] at hsn
  dsimp only at hsn
  refine Br.d (fun h=>?_) (fun h=>?_)
  ·have hkn:k<n2:=by omega
   obtain ⟨x,hx⟩:∃ x,x=(bkRd rd3).1:=⟨_,rfl⟩
   obtain ⟨rd4,hrd4⟩:∃ x,x=(bkRd rd3).2:=⟨_,rfl⟩
   have xin:=bkRd_in lb.bytes
   have xbd:=bkRd_bd lb.bytes
   have hadd:(ldBks rd).1=L++[x]++(rdEach bkRd (n2 - (k + 1)) rd4).1:=by
    rw [hbks]
    have:=rdEach_add bkRd (n2 - (k + 1)) (k + 1) r2
    rw [show k + 1 + (n2 - (k + 1))=n2 by omega,hsn] at this
    rw [this,hx,hrd4]
   rw [←hx] at xin
   rw [←hx,←hrd4] at hsn
   rw [←hrd4] at xbd
   have nochk:¬ Chk b1 L x→loadB bs=none:=fun hc=>no2 hadd v1.1 (by rw [←hb1'];exact hc)
   have y1:Bytes (rdNum 28629151 rd3).2.bs:=rdNum_bd lb.bytes
   have y2:Bytes (rdNum 9999 (rdNum 28629151 rd3).2).2.bs:=rdNum_bd y1
   have y3:Bytes (rdNum 9999 (rdNum 9999 (rdNum 28629151 rd3).2).2).2.bs:=rdNum_bd y2
   have y4:Bytes (rdNum 9999 (rdNum 9999 (rdNum 9999 (rdNum 28629151 rd3).2).2).2).2.bs:=rdNum_bd y3
   have y5:Bytes (rdNum 3 (rdNum 9999 (rdNum 9999 (rdNum 9999 (rdNum 28629151 rd3).2).2).2).2).2.bs:=rdNum_bd y4
   refine drw_rule' (Sat R [ldR b4 r,VC.tru]) hw (fun w hw=>hw.drop.restTru2) fun w hw=>?_
   refine ⟨some ⟨r,0,none⟩,At.own (fun _ h=>h) (by exact ⟨rfl,trivial⟩),some ⟨r,0,none⟩,At.own (fun _ h=>h) (by exact ⟨rfl,trivial⟩),some ⟨r,0,none⟩,At.own (fun _ h=>h) (by exact ⟨rfl,trivial⟩),?_⟩
   refine (bnum_spec (most:=28629151) lb.bytes (by omega) (by omega) hw).use ?_
   clear hw
   rintro _ w ⟨rfl,hw⟩
   refine .inl ⟨_,rfl,hw.drop.restTru2,(ldnum_spec y1 hw).use ?_⟩
   clear hw
   rintro _ w ⟨rfl,hw⟩
   refine .inl ⟨_,rfl,hw.drop.restTru2,(ldnum_spec y2 hw).use ?_⟩
   clear hw
   rintro _ w ⟨rfl,hw⟩
   refine .inl ⟨_,rfl,hw.drop.restTru2,(ldnum_spec y3 hw).use ?_⟩
   clear hw
   rintro _ w ⟨rfl,hw⟩
   refine .inl ⟨_,rfl,hw.drop.restTru2,(bnum_spec (most:=3) y4 (by omega) (by omega) hw).use ?_⟩
   clear hw
   rintro _ w ⟨rfl,hw⟩
   refine .inl ⟨_,rfl,hw.drop.restTru2,(bnum_spec (most:=1099511627776) y5 (by omega) (by omega) hw).use ?_⟩
   clear hw
   rintro _ w ⟨rfl,hw⟩
   refine .inl ⟨_,rfl,hw.drop.restTru2,?_⟩
   refine new_rule hw fun bx w hw=>⟨hw.drop.drop.restTru2,?_⟩
   have hw:Sat R (pts bx (bkObj x)::RdAt r rd4::ldR b4 r::ldB b2 p::ldE e3::pts p (bookC b1 m1 m2)::MapAt m1 (fs.map flV)::MapAt m2 (xs.map bkV)::FlsAt fs::BksAt xs::Hs) w:=by rw [hx,hrd4];exact hw
   have badx:∀ {w},¬ Chk b1 L x→Sat R (pts bx (bkObj x)::RdAt r rd4::ldR b4 r::ldB b2 p::ldE e3::pts p (bookC b1 m1 m2)::MapAt m1 (fs.map flV)::MapAt m2 (xs.map bkV)::FlsAt fs::BksAt xs::Hs) w→
     LeaveF Tryz.prog 155 [.pointer (some ⟨b2,0,none⟩),.pointer (some ⟨e3,0,none⟩)] (.panicking (errP 6)) (LdK b2 e3 K) w:=fun {w} hc hw=>by
    have hw:Sat R (ldB b2 p::ldE e3::pts bx (bkObj x)::RdAt r rd4::ldR b4 r::pts p (bookC b1 m1 m2)::MapAt m1 (fs.map flV)::MapAt m2 (xs.map bkV)::FlsAt fs::BksAt xs::Hs) w:=hw.arr
    exact bad (nochk hc) (fun _ h=>h.drop.drop.drop.drop.drop.drop.drop.drop) hw
   refine ⟨fun w=>(lastI L<x.id∧x.id<b1.next∧1≤x.state∧(x.state=1↔b1.now<x.till)∧(x.state=1∨x.till=0))∧Sat R (pts bx (bkObj x)::RdAt r rd4::ldR b4 r::ldB b2 p::ldE e3::pts p (bookC b1 m1 m2)::MapAt m1 (fs.map flV)::MapAt m2 (xs.map bkV)::FlsAt fs::BksAt xs::Hs) w,?_,?_⟩
   ·refine drw_rule hw fun w hw=>?_
    have no:∀ {w},¬ Chk b1 L x→Sat R (pts bx (bkObj x)::RdAt r rd4::ldR b4 r::ldB b2 p::ldE e3::pts p (bookC b1 m1 m2)::MapAt m1 (fs.map flV)::MapAt m2 (xs.map bkV)::FlsAt fs::BksAt xs::Hs) w→∀ {G:Ending→World→Prop},Calls Tryz.prog 156 #[.bool false] w fun e w_60=>(G e w_60)∨(∃ ch:List PanicEntry,(e=.panicked ch)∧LeaveF Tryz.prog 155 [.pointer (some ⟨b2,0,none⟩),.pointer (some ⟨e3,0,none⟩)] (.panicking ch) (LdK b2 e3 K) w_60):=fun {w} hc hw {G}=>
     form_c (fun h=>by cases h) (fun _=>.inr ⟨_,rfl,badx hc hw⟩)
    refine ⟨x.id,At.own selfS (by exact ⟨rfl,trivial⟩),Br.d (fun c1=>?_) (fun c1=>no (fun hc=>c1 hc.last) hw)⟩
    refine ⟨x.id,At.own selfS (by exact ⟨rfl,trivial⟩),some ⟨p,0,none⟩,At.own selfS (by exact ⟨rfl,trivial⟩),NilP.mk rfl ⟨b1.next,At.own selfS (by exact ⟨rfl,trivial⟩),Br.d (fun c2=>?_) (fun c2=>no (fun hc=>c2 hc.next) hw)⟩⟩
    refine ⟨x.state,At.own selfS (by exact ⟨rfl,trivial⟩),Br.d (fun c3=>?_) (fun c3=>no (fun hc=>c3 hc.state) hw)⟩
    refine ⟨x.state,At.own selfS (by exact ⟨rfl,trivial⟩),x.till,At.own selfS (by exact ⟨rfl,trivial⟩),some ⟨p,0,none⟩,At.own selfS (by exact ⟨rfl,trivial⟩),NilP.mk rfl ⟨b1.now,At.own selfS (by exact ⟨rfl,trivial⟩),Br.mk (fun c4=>?_) (fun c4=>no (fun hc=>?_) hw)⟩⟩
    rotate_left
    ·exact beq_eq_false_iff_ne.1 c4 (by rw [Bool.eq_iff_iff,beq_iff_eq,decide_eq_true_iff];exact hc.held)
    have c4:x.state=1↔b1.now<x.till:=by
     have h:=beq_iff_eq.1 c4
     rw [Bool.eq_iff_iff,beq_iff_eq,decide_eq_true_iff] at h
     exact h
    refine ⟨x.state,At.own selfS (by exact ⟨rfl,trivial⟩),Br.e (fun c5=>?_) (fun c5=>?_)⟩
    ·exact form_c (fun _=>.inl ⟨rfl,hw,⟨c1,c2,c3,c4,.inl c5⟩,hw⟩) (fun h=>by cases h)
    ·refine ⟨x.till,At.own selfS (by exact ⟨rfl,trivial⟩),form_c (fun c6=>.inl ⟨rfl,hw,⟨c1,c2,c3,c4,.inr (beq_iff_eq.1 c6)⟩,hw⟩) (fun c6=>.inr ⟨_,rfl,badx (fun hc=>?_) hw⟩)⟩
     exact beq_eq_false_iff_ne.1 c6 (hc.free.resolve_left c5)
   clear hw
   rintro _ w ⟨⟨c1,c2,c3,c4,c5⟩,hw⟩
   have hlb:BookL { b1 with L:=L } fs xs:=⟨by rw [ld.fl,hb1'],lb.bk⟩
   refine drw_rule hw fun w hw=>?_
   refine ⟨some ⟨p,0,none⟩,At.own selfS (by exact ⟨rfl,trivial⟩),NilP.mk rfl ⟨some m1,At.own selfS (by exact ⟨rfl,trivial⟩),x.flt,At.own selfS (by exact ⟨rfl,trivial⟩),?_⟩⟩
   have look:∀ w',Sat R (pts bx (bkObj x)::RdAt r rd4::ldR b4 r::ldB b2 p::ldE e3::pts p (bookC b1 m1 m2)::MapAt m1 (fs.map flV)::MapAt m2 (xs.map bkV)::FlsAt fs::BksAt xs::Hs) w'→
     (Instr.lookup 77 (.map (some m1)) (.int .i64 x.flt) false).run Tryz.prog w'=.ok ((getM x.flt (fs.map flV)).getD (.agg #[.pointer none,.pointer none])) w':=fun w' h=>by
    have h:Sat R (MapAt m1 (fs.map flV)::pts bx (bkObj x)::RdAt r rd4::ldR b4 r::ldB b2 p::ldE e3::pts p (bookC b1 m1 m2)::MapAt m2 (xs.map bkV)::FlsAt fs::BksAt xs::Hs) w':=h.arr
    exact MapAt.look pMap h x.flt false
   cases hat:b1.at x.flt with
   |none=>
    have hno:getM x.flt (fs.map flV)=none:=(fl_none hlb).2 hat
    rw [hno] at look
    refine ⟨none,none,look,(bhas_none hw).use ?_⟩
    clear hw
    rintro _ w ⟨rfl,hw⟩
    refine .inl ⟨_,rfl,hw,form_c (fun h=>by cases h) (fun _=>.inr ⟨_,rfl,badx (fun hc=>?_) hw⟩)⟩
    obtain ⟨q,hq,_⟩:=hc.has
    rw [hat] at hq
    cases hq
   |some pl=>
    have hpm:=at_some hat
    have hplin:pl∈pls:=by have:=hpm.1;rw [hb1'] at this;exact this
    obtain ⟨gd,qok⟩:=ld.ok pl hplin
    have hll:=gd.len.1
    have hrise1:KRise Pl.n b1.fl:=by rw [hb1'];exact ld.rise
    obtain ⟨A,f,q,C,hfs,hm⟩:=fl_split hlb hrise1 (show Book.at { b1 with L:=L } x.flt=some pl from hat)
    have hgm:getM x.flt (fs.map flV)=some (.agg #[.pointer (some ⟨f,0,none⟩),.pointer (some ⟨q,0,none⟩)]):=by rw [hfs];exact fl_get hm
    rw [hgm] at look
    refine ⟨some ⟨f,0,none⟩,some ⟨q,0,none⟩,look,?_⟩
    obtain ⟨MF,hMF⟩:∃ M,M=fs.map flV:=⟨_,rfl⟩
    rw [←hMF] at hw
    have hw:Sat R (FlsAt (A++(f,q,pl)::C)::pts bx (bkObj x)::RdAt r rd4::ldR b4 r::ldB b2 p::ldE e3::pts p (bookC b1 m1 m2)::MapAt m1 MF::MapAt m2 (xs.map bkV)::BksAt xs::Hs) w:=by rw [←hfs];exact hw.arr
    have hw:=fls_mid.1 hw
    have hw:Sat R (pts bx (bkObj x)::LoneAt f pl.r::QuAt q pl.q::FlsAt (A++C)::RdAt r rd4::ldR b4 r::ldB b2 p::ldE e3::pts p (bookC b1 m1 m2)::MapAt m1 MF::MapAt m2 (xs.map bkV)::BksAt xs::Hs) w:=hw.arr
    refine (bhas_spec gd qok.len (by omega) hw).use ?_
    clear hw
    rintro _ w ⟨rfl,hw⟩
    have hw:Sat R (LoneAt f pl.r::QuAt q pl.q::FlsAt (A++C)::pts bx (bkObj x)::RdAt r rd4::ldR b4 r::ldB b2 p::ldE e3::pts p (bookC b1 m1 m2)::MapAt m1 MF::MapAt m2 (xs.map bkV)::BksAt xs::Hs) w:=hw.arr
    have hw:=fls_mid.2 hw
    rw [←hfs,hMF] at hw
    have hw:Sat R (pts bx (bkObj x)::RdAt r rd4::ldR b4 r::ldB b2 p::ldE e3::pts p (bookC b1 m1 m2)::MapAt m1 (fs.map flV)::MapAt m2 (xs.map bkV)::FlsAt fs::BksAt xs::Hs) w:=hw.arr
    refine .inl ⟨_,rfl,hw,form_c (fun c6=>.inl ⟨rfl,hw,?_⟩) (fun c6=>.inr ⟨_,rfl,badx (fun hc=>?_) hw⟩)⟩
    rotate_left
    ·obtain ⟨q',hq',hh⟩:=hc.has
     rw [hat] at hq'
     obtain rfl:=Option.some.inj hq'
     exact of_decide_eq_false c6 hh
    have hchk:Chk b1 L x:=⟨c1,c2,c3,c4,c5,pl,hat,of_decide_eq_true c6⟩
    obtain ⟨hmay,hrise2⟩:=chk_yes hchk lb.rise fun y hy=>(lb.may y hy).id.1
    refine ⟨x.id,At.own (eqS hw) (by exact ⟨rfl,trivial⟩),?_⟩
    refine drw_rule hw fun w hw=>?_
    refine ⟨some ⟨p,0,none⟩,At.own selfS (by exact ⟨rfl,trivial⟩),NilP.mk rfl ⟨some m2,At.own selfS (by exact ⟨rfl,trivial⟩),x.id,At.own selfS (by exact ⟨rfl,trivial⟩),?_⟩⟩
    have hw:Sat R (MapAt m2 (xs.map bkV)::pts bx (bkObj x)::RdAt r rd4::ldR b4 r::ldB b2 p::ldE e3::pts p (bookC b1 m1 m2)::MapAt m1 (fs.map flV)::FlsAt fs::BksAt xs::Hs) w:=hw.arr
    refine MapAt.put bMap hw x.id (.pointer (some ⟨bx,0,none⟩)) fun w hw=>?_
    rw [put_new (bks_keys lb.bk hrise2)] at hw
    have hmap:xs.map bkV++[(x.id,Value.pointer (some ⟨bx,0,none⟩))]=(xs++[((bx,x):BE)]).map bkV:=by rw [List.map_append];rfl
    rw [hmap] at hw
    have hw:Sat R (pts bx (bkObj x)::BksAt xs::RdAt r rd4::ldR b4 r::ldB b2 p::ldE e3::pts p (bookC b1 m1 m2)::MapAt m1 (fs.map flV)::MapAt m2 ((xs++[((bx,x):BE)]).map bkV)::FlsAt fs::Hs) w:=hw.arr
    have hw:=bks_snoc hw
    have hw:Sat R (RdAt r rd4::ldR b4 r::ldB b2 p::ldE e3::pts p (bookC b1 m1 m2)::MapAt m1 (fs.map flV)::MapAt m2 ((xs++[((bx,x):BE)]).map bkV)::FlsAt fs::BksAt (xs++[((bx,x):BE)])::Hs) w:=hw.arr
    rw [wrap64 (x:=(k:Int) + 1) (by omega) (by omega)]
    refine ⟨⟨k + 1,L++[x],rd4,xs++[(bx,x)],by omega,by omega,⟨hsn,hrise2,fun y hy=>?_,?_,xbd⟩,?_,hw⟩,by dsimp only;omega⟩
    ·rcases List.mem_append.1 hy with hy|hy
     ·exact lb.may y hy
     ·rw [List.mem_singleton.1 hy];exact hmay
    ·rw [List.map_append,lb.bk];rfl
    ·rw [lastI_snoc]
  ·have hkn:k=n2:=by omega
   subst hkn
   have hall:ldBks rd=(L,rd3):=by rw [hbks,lb.pre]
   rw [hall] at hload
   dsimp only at hload
   have hLlen:L.length=k:=by have:=rdEach_len bkRd k r2;rw [lb.pre] at this;exact this
   have hb1L:({ b1 with L:=L }:Book)=⟨(ldNow bs).1,(ldNext bs).1,pls,L⟩:=by rw [hb1']
   rw [←hb1L] at hload
   have nomay:¬ (rdWhole rd3=true∧MayB { b1 with L:=L })→loadB bs=none:=fun h=>by rw [hload,if_neg h]
   refine ⟨some ⟨r,0,none⟩,At.own (eqS hw) (by exact ⟨rfl,trivial⟩),?_⟩
   refine (whole_spec hw).use ?_
   clear hw
   rintro _ w ⟨rfl,hw⟩
   have badw:∀ {w},¬ (rdWhole rd3=true∧MayB { b1 with L:=L })→Sat R (RdAt r rd3::ldR b4 r::ldB b2 p::ldE e3::pts p (bookC b1 m1 m2)::MapAt m1 (fs.map flV)::MapAt m2 (xs.map bkV)::FlsAt fs::BksAt xs::Hs) w→
     LeaveF Tryz.prog 155 [.pointer (some ⟨b2,0,none⟩),.pointer (some ⟨e3,0,none⟩)] (.panicking (errP 6)) (LdK b2 e3 K) w:=fun {w} hc hw=>by
    have hw:Sat R (ldB b2 p::ldE e3::RdAt r rd3::ldR b4 r::pts p (bookC b1 m1 m2)::MapAt m1 (fs.map flV)::MapAt m2 (xs.map bkV)::FlsAt fs::BksAt xs::Hs) w:=hw.arr
    exact bad (nomay hc) (fun _ h=>h.drop.drop.drop.drop.drop.drop.drop) hw
   refine .inl ⟨_,rfl,Br.mk (fun hwh=>?_) (fun hwh=>?_)⟩
   ·refine ⟨some ⟨p,0,none⟩,At.own (eqS hw) (by exact ⟨rfl,trivial⟩),NilP.mk rfl ⟨b1.next,At.own (eqS hw) (by exact ⟨rfl,trivial⟩),Br.d (fun hnx=>?_) (fun hnx=>?_)⟩⟩
    ·refine form_c (fun ht=>.inl ⟨rfl,?_⟩) (fun ht=>.inr ⟨_,rfl,badw (fun h=>?_) hw⟩)
     ·have hth:things pls=L.length:=by have:=beq_iff_eq.1 ht;omega
      have hmay:MayB { b1 with L:=L }:=by
       refine ⟨hnx,by rw [hb1'];exact ld.rise,lb.rise,fun x hx=>?_,by rw [hb1'];exact hth⟩
       have h:=lb.may x hx
       exact ⟨h.id,h.state,h.held,h.free,h.has⟩
      refine ⟨some ⟨p,0,none⟩,At.own (eqS hw) (by exact ⟨rfl,trivial⟩),?_⟩
      have hw:Sat R (ldB b2 p::ldE e3::RdAt r rd3::ldR b4 r::pts p (bookC b1 m1 m2)::MapAt m1 (fs.map flV)::MapAt m2 (xs.map bkV)::FlsAt fs::BksAt xs::Hs) w:=hw.arr
      refine store_rule hw (by kernel_rfl) rfl (by simp [Value.cells]) fun w hw=>?_
      have hw:=hw.re (ldB b2 p)
      refine store_rule hw (by kernel_rfl) rfl (by simp [Value.cells]) fun w hw=>?_
      have hw:=(hw.re (ldE e3)).swap
      refine load_ret hw (hK2 { b1 with L:=L } p w (by rw [hload,if_pos ⟨hwh,hmay⟩]) (fun x hx=>ld.ok x (by rw [hb1'] at hx;exact hx)) ?_)
      exact Sat.book.2 ⟨m1,m2,fs,xs,⟨by rw [ld.fl,hb1'],lb.bk⟩,hw.drop.drop.drop.drop⟩
     ·have h2:=h.2.things
      rw [hb1'] at h2
      have:things pls=L.length:=h2
      exact beq_eq_false_iff_ne.1 ht (by omega)
    ·exact form_c (fun h=>by cases h) (fun _=>.inr ⟨_,rfl,badw (fun h=>hnx h.2.next) hw⟩)
   ·exact form_c (fun h=>by cases h) (fun _=>.inr ⟨_,rfl,badw (fun h=>by rw [h.1] at hwh;cases hwh) hw⟩)
end Go.Proofs.YtlplemdmegpoeaaGreatDoor
/- Chapter 18: BookingLoaded. Condition: none. -/
namespace Go.Proofs.YtlplemdmegpoeaaGreatDoor
set_option linter.unusedVariables false
set_option linter.unusedSimpArgs false
open Go Go.VC
open Classical
variable {R:Cx} {Hs Rest:List HP} {w:World}
theorem bytes_wt {x:Wt} (h:x.Ok) (hf:x.sc<18446744073709551616):Bytes (wtB x):=by
 obtain ⟨h1,h2,h3,h4⟩:=h
 exact bytes_app (bytes_num (by omega)) (bytes_app (bytes_num (by omega)) (bytes_app (bytes_num (by omega)) (bytes_app (bytes_num (by omega)) (bytes_flt hf))))
theorem bytes_q {q:List Wt} (h:QOk q):Bytes (qB q):=bytes_app (bytes_num (by have:=h.len;omega)) (bytes_flat fun x hx=>bytes_wt (h.ok x hx) (h.fl x hx))
end Go.Proofs.YtlplemdmegpoeaaGreatDoor
/- Package session, plain: what Load asks holds of what was applied; what is saved as bytes. Condition: bounds. -/
namespace Go.Proofs.YtlplemdmegpoeaaGreatDoor
set_option linter.unusedVariables false
set_option linter.unusedSimpArgs false
open Go Go.VC
open Classical
variable {R:Cx} {Hs Rest:List HP} {w:World}
theorem clB_eq {n:Int} {c:Cl} (h:ClOk n c):clB c=numsB [c.id]++(numsB [c.tok]++(numsB [c.last]++textB c.rep)):=by
 have h1:=h.id
 have h2:=h.tok
 have h3:=h.last
 unfold clB
 rw [nn3s (by omega) h2.1 h3.1]
 simp only [List.append_assoc]
theorem saveT_eq {t:Tb} (k:TbC t):saveT t=numsB [t.next]++(numsB [(t.cl.length:Int)]++((t.cl.map clB).flatten++textB (saveB t.bk))):=by
 have h1:=k.nx
 unfold saveT
 show numsB [nn t.next,nn (t.cl.length:Int)]++_++_=_
 rw [nn_id (by omega),nn_id (by omega),numsB_sp t.next]
 simp only [List.append_assoc]
end Go.Proofs.YtlplemdmegpoeaaGreatDoor
/- Package session, plain: Load. Condition: none. -/
namespace Go.Proofs.YtlplemdmegpoeaaGreatDoor
set_option linter.unusedVariables false
set_option linter.unusedSimpArgs false
open Go Go.VC
open Classical
def clRd (r:Rd):Cl × Rd:=
 let a:=rdNum mI r
 let k:=rdNum mI a.2
 let l:=rdNum mI k.2
 let d:=rdText 65536 l.2
 (⟨a.1,k.1,l.1,d.1⟩,d.2)
structure MayT (next:Int) (l:List Cl):Prop where
 rise:(l.map Cl.id).Pairwise fun a b=>a<b
 ids:∀ c∈l,1≤c.id∧c.id<next
 toks:(l.map Cl.tok).Nodup
 live:∀ c∈l,0<c.last∨c.rep=[]
abbrev tN (bs:List Int):=rdNum mI ⟨bs,false⟩
abbrev tM (bs:List Int):=rdNum 64 (tN bs).2
abbrev tZ (bs:List Int):=rdEach clRd (tM bs).1.toNat (tM bs).2
abbrev tD (bs:List Int):=rdText 1048576 (tZ bs).2
noncomputable def loadT (bs:List Int):Option Tb:=match loadB (tD bs).1 with
 |none=>none
 |some b=>if rdWhole (tD bs).2=true∧1≤(tN bs).1∧MayT (tN bs).1 (tZ bs).1 then some ⟨(tN bs).1,(tZ bs).1,b⟩ else none
end Go.Proofs.YtlplemdmegpoeaaGreatDoor
/- Package session, plain: Load step by step; what was loaded is saved as it was. Condition: none. -/
namespace Go.Proofs.YtlplemdmegpoeaaGreatDoor
set_option linter.unusedVariables false
set_option linter.unusedSimpArgs false
open Go Go.VC
open Classical
def lastC (l:List Cl):Int:=(l.getLast?.map Cl.id).getD 0
theorem lastC_snoc (l:List Cl) (c:Cl):lastC (l++[c])=c.id:=by simp [lastC]
theorem MayT.nil {n:Int}:MayT n []:=⟨List.Pairwise.nil,fun _ h=>(by cases h),List.nodup_nil,fun _ h=>(by cases h)⟩
theorem MayT.pre {n:Int} {l m:List Cl} (h:MayT n (l++m)):MayT n l:=by
 refine ⟨?_,fun c hc=>h.ids c (List.mem_append_left _ hc),?_,fun c hc=>h.live c (List.mem_append_left _ hc)⟩
 ·have:=h.rise
  rw [List.map_append,List.pairwise_append] at this
  exact this.1
 ·have:=h.toks
  rw [List.map_append,List.nodup_append] at this
  exact this.1
theorem lastC_le {n:Int} {l:List Cl} (h:MayT n l):0≤lastC l∧∀ c∈l,c.id≤lastC l:=by
 constructor
 ·unfold lastC
  cases hz:l.getLast? with
  |none=>simp
  |some z=>have:=h.ids z (List.mem_of_getLast? hz);simp;omega
 ·intro c hc
  obtain ⟨z,hz,hle⟩:=rise_last (k:=Cl.id) (List.pairwise_map.1 h.rise) hc
  unfold lastC
  rw [hz]
  simpa using hle
theorem may_step {n:Int} {l:List Cl} {c:Cl}:MayT n (l++[c])↔MayT n l∧lastC l<c.id∧c.id<n∧c.tok ∉ l.map Cl.tok∧(0<c.last∨c.rep=[]):=by
 constructor
 ·intro h
  have hl:=h.pre
  refine ⟨hl,?_,(h.ids c (by simp)).2,?_,h.live c (by simp)⟩
  ·unfold lastC
   cases hz:l.getLast? with
   |none=>have:=(h.ids c (by simp)).1;simp;omega
   |some z=>
    have:=h.rise
    rw [List.map_append,List.pairwise_append] at this
    have:=this.2.2 z.id (List.mem_map.2 ⟨z,List.mem_of_getLast? hz,rfl⟩) c.id (by simp)
    simpa using this
  ·have:=h.toks
   rw [List.map_append,List.nodup_append] at this
   exact fun h2=>this.2.2 _ h2 c.tok (by simp) rfl
 ·rintro ⟨h,h1,h2,h3,h4⟩
  obtain ⟨g1,g2⟩:=lastC_le h
  refine ⟨?_,fun d hd=>?_,?_,fun d hd=>?_⟩
  ·rw [List.map_append,List.pairwise_append]
   refine ⟨h.rise,by simp,fun x hx y hy=>?_⟩
   obtain ⟨d,hd,rfl⟩:=List.mem_map.1 hx
   have:=g2 d hd
   simp only [List.map_cons,List.map_nil,List.mem_singleton] at hy
   omega
  ·rcases List.mem_append.1 hd with hd|hd
   ·exact h.ids d hd
   ·rw [List.mem_singleton.1 hd];omega
  ·rw [List.map_append,List.nodup_append]
   refine ⟨h.toks,by simp,fun x hx y hy e=>?_⟩
   simp only [List.map_cons,List.map_nil,List.mem_singleton] at hy
   rw [e,hy] at hx
   exact h3 hx
  ·rcases List.mem_append.1 hd with hd|hd
   ·exact h.live d hd
   ·rw [List.mem_singleton.1 hd];exact h4
theorem clRd_bd {r:Rd} (hb:Bytes r.bs):Bytes (clRd r).2.bs:=(rdText_bd (rdNum_bd (rdNum_bd (rdNum_bd hb)))).2
structure ClIn (c:Cl):Prop where
 id:0≤c.id∧c.id≤1099511627776
 tok:0≤c.tok∧c.tok≤1099511627776
 last:0≤c.last∧c.last≤1099511627776
 rep:c.rep.length≤65536
 by':Bytes c.rep
theorem clRd_in {r:Rd} (hb:Bytes r.bs):ClIn (clRd r).1:=
 ⟨rdNum_val hb (by show (0:Int)≤1099511627776;omega),rdNum_val (rdNum_bd hb) (by show (0:Int)≤1099511627776;omega),rdNum_val (rdNum_bd (rdNum_bd hb)) (by show (0:Int)≤1099511627776;omega),(by have:=rdText_most (most:=65536) (rdNum_bd (most:=mI) (rdNum_bd (most:=mI) (rdNum_bd (most:=mI) hb)));exact this),(rdText_bd (rdNum_bd (rdNum_bd (rdNum_bd hb)))).1⟩
theorem loadT_eq {bs:List Int} {n:Nat} {l:List Cl} {r0 rd:Rd} (hn:(tM bs).1.toNat=n) (h0:(tM bs).2=r0) (h:rdEach clRd n r0=(l,rd)):
  loadT bs=match loadB (rdText 1048576 rd).1 with
   |none=>none
   |some b=>if rdWhole (rdText 1048576 rd).2=true∧1≤(tN bs).1∧MayT (tN bs).1 l then some ⟨(tN bs).1,l,b⟩ else none:=by
 have e:tZ bs=(l,rd):=by show rdEach clRd (tM bs).1.toNat (tM bs).2=_;rw [hn,h0,h]
 unfold loadT
 show (match loadB (rdText 1048576 (tZ bs).2).1 with|none=>none|some b=>if rdWhole (rdText 1048576 (tZ bs).2).2=true∧1≤(tN bs).1∧MayT (tN bs).1 (tZ bs).1 then some (⟨(tN bs).1,(tZ bs).1,b⟩:Tb) else none)=_
 rw [e]
end Go.Proofs.YtlplemdmegpoeaaGreatDoor
/- Reference 17: who waits, in memory; place, Add, Remove, First. Condition: none. -/
namespace Go.Proofs.YtlplemdmegpoeaaGreatDoor
set_option linter.unusedVariables false
set_option linter.unusedSimpArgs false
open Go Go.VC
open Classical
variable {R:Cx} {Hs Rest:List HP} {w:World}
abbrev rqCell (s:Sl):Obj:=.cells [.slice s.a s.len s.cap].toArray 109 (0,0)
abbrev waT:TypeId:=168
def RQuAt (q:Nat) (l:List Wt):HP:=exs fun s:Sl=>Star [pts q (rqCell s),OwnN 5 s waT (l.map wtV)]
theorem Sat.rqu {q:Nat} {l:List Wt}:Sat R (RQuAt q l::Hs) w↔∃ s:Sl,Sat R (pts q (rqCell s)::OwnN 5 s waT (l.map wtV)::Hs) w:=by
 unfold RQuAt
 rw [Sat.exs]
 exact ⟨fun ⟨s,h⟩=>⟨s,Sat.star.1 h⟩,fun ⟨s,h⟩=>⟨s,Sat.star.2 h⟩⟩
theorem rqright_spec {x:Wt} (hw:Sat R Hs w):Gets Tryz.prog 189 #[wtA x] w fun v w'=>v=.bool (decide x.Ok)∧Sat R Hs w':=by
 apply call189
 suffices H:∀ K:Value→World→Prop,(∀ w',Sat R Hs w'→K (.bool (decide x.Ok)) w')→B189 x.id x.cls x.many x.time x.sc K w from H _ fun w' h=>⟨rfl,h⟩
 intro K hK
 refine new_rule hw fun b w hw=>?_
 have hw:Sat R (wtD b x::Hs) w:=hw
 have no:¬ x.Ok→K (.bool false) w:=fun h=>by have:=hK w hw.drop;rwa [decide_eq_false h] at this
 unfold Wt.Ok at no
 refine ⟨x.id,At.own (eqS hw) (by exact ⟨rfl,trivial⟩),Br.d (fun h1=>?_) (fun h=>no fun h2=>h (by omega))⟩
 refine ⟨x.id,At.own (eqS hw) (by exact ⟨rfl,trivial⟩),Br.d (fun h3=>?_) (fun h=>no fun h2=>h (by omega))⟩
 refine ⟨x.cls,At.own (eqS hw) (by exact ⟨rfl,trivial⟩),Br.d (fun h4=>?_) (fun h=>no fun h2=>h (by omega))⟩
 refine ⟨x.cls,At.own (eqS hw) (by exact ⟨rfl,trivial⟩),Br.d (fun h5=>?_) (fun h=>no fun h2=>h (by omega))⟩
 refine ⟨x.many,At.own (eqS hw) (by exact ⟨rfl,trivial⟩),Br.d (fun h6=>?_) (fun h=>no fun h2=>h (by omega))⟩
 refine ⟨x.many,At.own (eqS hw) (by exact ⟨rfl,trivial⟩),Br.d (fun h7=>?_) (fun h=>no fun h2=>h (by omega))⟩
 refine ⟨x.time,At.own (eqS hw) (by exact ⟨rfl,trivial⟩),Br.d (fun h8=>?_) (fun h=>no fun h2=>h (by omega))⟩
 refine ⟨x.time,At.own (eqS hw) (by exact ⟨rfl,trivial⟩),?_⟩
 have:=hK w hw.drop
 have e:decide x.Ok=decide (x.time≤1099511627776):=by
  refine decide_eq_decide.2 ?_
  unfold Wt.Ok
  omega
 rwa [e] at this
theorem rqahead_spec {a b:Wt} (hw:Sat R Hs w):Gets Tryz.prog 191 #[wtA a,wtA b] w fun v w'=>v=.bool (a.ahead b)∧Sat R Hs w':=by
 apply call191
 suffices H:∀ K:Value→World→Prop,(∀ w',Sat R Hs w'→K (.bool (a.ahead b)) w')→B191 a.id a.cls a.many a.time a.sc b.id b.cls b.many b.time b.sc K w from H _ fun w' h=>⟨rfl,h⟩
 intro K hK
 refine new_rule hw fun p w hw=>new_rule hw fun q w hw=>?_
 have hw:Sat R (wtD q b::wtD p a::Hs) w:=hw
 refine ⟨a.sc,At.own (eqS hw) (by exact ⟨rfl,trivial⟩),b.sc,At.own (eqS hw) (by exact ⟨rfl,trivial⟩),?_⟩
 refine (rrank_spec hw).use ?_
 clear hw
 rintro _ w ⟨rfl,hw⟩
 have hk:=fun {v:Bool} (h:a.ahead b=v)=>(show K (.bool v) w by rw [←h];exact hK w hw.drop.drop)
 refine ⟨_,rfl,Br.ne (fun h0=>?_) (fun h0=>?_)⟩
 ·refine hk ?_
  have hne:¬ kvF a.sc=kvF b.sc:=fun e=>h0 (by unfold rankF;rw [if_neg (by omega),if_pos e])
  unfold Wt.ahead
  rw [if_neg hne]
  refine decide_eq_decide.2 ?_
  unfold rankF
  rw [if_neg hne]
  split<;>omega
 ·have he:kvF a.sc=kvF b.sc:=by
   unfold rankF at h0
   split at h0
   ·omega
   ·split at h0
    ·assumption
    ·omega
  unfold Wt.ahead at hk
  rw [if_pos he] at hk
  refine ⟨a.time,At.own (eqS hw) (by exact ⟨rfl,trivial⟩),b.time,At.own (eqS hw) (by exact ⟨rfl,trivial⟩),Br.ne (fun h1=>?_) (fun h1=>?_)⟩
  ·exact ⟨a.time,At.own (eqS hw) (by exact ⟨rfl,trivial⟩),b.time,At.own (eqS hw) (by exact ⟨rfl,trivial⟩),hk (by rw [if_neg h1])⟩
  ·exact ⟨a.id,At.own (eqS hw) (by exact ⟨rfl,trivial⟩),b.id,At.own (eqS hw) (by exact ⟨rfl,trivial⟩),hk (by rw [if_pos h1])⟩
theorem rqplace_spec {q:Nat} {l:List Wt} {id:Int} (hl:l.length≤1000000000) (hw:Sat R (RQuAt q l::Hs) w):
  Gets Tryz.prog 190 #[.pointer (some ⟨q,0,none⟩),.int .i64 id] w fun v w'=>(∃ i:Int,v=.int .i64 i∧((i=-1∧hasQ id l=false)∨∃ k:Nat,i=k∧∃ (hk:k<l.length),l[k].id=id∧hasQ id (l.take k)=false))∧Sat R (RQuAt q l::Hs) w':=by
 obtain ⟨s,hw⟩:=Sat.rqu.1 hw
 have hlen:=OwnN.len hw.swap
 rw [List.length_map] at hlen
 apply call190
 refine ⟨fun i w=>∃ j:Nat,i=j∧j≤l.length∧hasQ id (l.take j)=false∧Sat R (pts q (rqCell s)::OwnN 5 s waT (l.map wtV)::Hs) w,fun i _=>l.length - i.toNat,⟨0,rfl,by omega,by simp [hasQ],hw⟩,?_⟩
 clear hw
 rintro _ _ w ⟨j,rfl,hj,hn,hw⟩
 refine NilP.mk rfl ⟨s,At.own (eqS hw) (by exact ⟨rfl,trivial⟩),Br.d (fun h=>?_) (fun h=>?_)⟩
 ·have hj2:j<l.length:=by omega
  refine NilP.mk rfl ⟨s,At.own (eqS hw) (by exact ⟨rfl,trivial⟩),?_⟩
  have hw2:=hw.swap
  refine (OwnN.reads hw2 (S:=fun w'=>w'=w) (Hs':=pts q (rqCell s)::Hs) (fun w' e=>by rw [e];exact hw2)).rngM (E:=l) (g:=wtV) hj2 fun a _ he=>⟨l[j].id,he.zz (by exact ⟨rfl,trivial⟩),?_⟩
  refine Br.e (fun h1=>⟨⟨j,rfl,.inr ⟨j,rfl,hj2,h1,hn⟩⟩,Sat.rqu.2 ⟨s,hw⟩⟩) (fun h1=>?_)
  rw [wrap64 (x:=(j:Int) + 1) (by omega) (by omega)]
  refine ⟨⟨j + 1,by omega,by omega,?_,hw⟩,by dsimp only;omega⟩
  unfold hasQ at hn ⊢
  rw [List.take_add_one,List.getElem?_eq_getElem hj2,List.any_append,hn]
  simp [h1]
 ·rw [List.take_of_length_le (by omega)] at hn
  exact ⟨⟨-1,rfl,.inl ⟨rfl,hn⟩⟩,Sat.rqu.2 ⟨s,hw⟩⟩
theorem insQ_lin {x:Wt}:∀ {l:List Wt} {k:Nat},k≤l.length→(∀ i (hi:i<l.length),i<k→l[i].ahead x=true)→(∀ h:k<l.length,l[k].ahead x=false)→insQ x l=l.take k++x::l.drop k
 |[],k,hk,_,_=>by simp at hk;subst hk;rfl
 |a::l,0,_,_,h2=>by
  have:=h2 (by simp)
  rw [insQ_cons,if_neg (by simpa using this)]
  rfl
 |a::l,k + 1,hk,h1,h2=>by
  have:=h1 0 (by simp) (by omega)
  rw [insQ_cons,if_pos (by simpa using this),insQ_lin (l:=l) (k:=k) (by simpa using hk) (fun i hi hik=>h1 (i + 1) (by simpa using hi) (by omega)) (fun h=>h2 (by simpa using h))]
  rfl
theorem wtV_take (l:List Wt) (k:Nat):oneAll ((l.map wtV).take k).flatten=true:=by rw [←List.map_take];exact wtV_all _
theorem wtV_drop (l:List Wt) (k:Nat):oneAll ((l.map wtV).drop k).flatten=true:=by rw [←List.map_drop];exact wtV_all _
set_option maxHeartbeats 1000000 in
theorem rqadd_spec {q:Nat} {l:List Wt} {x:Wt} (hq:l.length≤1000) (hw:Sat R (RQuAt q l::Hs) w):
  Gets Tryz.prog 112 #[.pointer (some ⟨q,0,none⟩),wtA x] w fun v w'=>v=.int .i64 (qadd l x).2∧Sat R (RQuAt q (qadd l x).1::Hs) w':=by
 apply call112
 suffices H:∀ K:Value→World→Prop,(∀ w',Sat R (RQuAt q (qadd l x).1::Hs) w'→K (.int .i64 (qadd l x).2) w')→B112 (some ⟨q,0,none⟩) x.id x.cls x.many x.time x.sc K w from H _ fun w' h=>⟨rfl,h⟩
 intro K hK
 refine new_rule hw fun b w hw=>?_
 have hw:Sat R (wtD b x::RQuAt q l::Hs) w:=hw
 refine ⟨x.id,x.cls,x.many,x.time,x.sc,At.own (eqS hw) (by exact ⟨rfl,rfl,rfl,rfl,rfl,trivial⟩),?_⟩
 refine (rqright_spec hw).use ?_
 clear hw
 rintro _ w ⟨rfl,hw⟩
 refine ⟨_,rfl,Br.nd (fun h0=>?_) (fun h0=>?_)⟩
 ·rw [show qadd l x=(l,1) by unfold qadd;rw [if_pos h0]] at hK;exact hK w hw.drop
 have n0:¬ ¬ x.Ok:=fun h=>h h0
 refine ⟨x.id,At.own (eqS hw) (by exact ⟨rfl,trivial⟩),?_⟩
 refine (rqplace_spec (by omega) hw.swap).use ?_
 clear hw
 rintro _ w ⟨⟨i,rfl,hi⟩,hw⟩
 refine ⟨i,rfl,Br.d (fun h1=>?_) (fun h1=>?_)⟩
 ·have hh:hasQ x.id l=true:=by
   rcases hi with ⟨rfl,_⟩|⟨k,rfl,hk,e,_⟩
   ·omega
   ·exact hasQ_iff.2 ⟨_,List.getElem_mem hk,e⟩
  rw [show qadd l x=(l,7) by unfold qadd;rw [if_neg n0,if_pos hh]] at hK
  exact hK w (hw.cons fun _ h=>h.drop)
 have hh:¬ hasQ x.id l=true:=by
  rcases hi with ⟨_,h⟩|⟨k,rfl,_,_,_⟩
  ·rw [h];simp
  ·omega
 obtain ⟨s,hw⟩:=Sat.rqu.1 hw
 have hlen:=OwnN.len hw.swap
 rw [List.length_map] at hlen
 have hcap:=OwnN.cap (by omega) hw.swap
 refine NilP.mk rfl ⟨s,At.own (eqS hw) (by exact ⟨rfl,trivial⟩),Br.d (fun h2=>?_) (fun h2=>?_)⟩
 ·rw [show qadd l x=(l,3) by unfold qadd;rw [if_neg n0,if_neg hh,if_pos (by omega)]] at hK
  exact hK w (Sat.rqu.2 ⟨s,hw.cons fun _ h=>h.cons fun _ h=>h.drop⟩)
 rw [show qadd l x=(insQ x l,0) by unfold qadd;rw [if_neg n0,if_neg hh,if_neg (by omega)]] at hK
 have hw:Sat R (OwnN 5 s waT (l.map wtV)::pts q (rqCell s)::wtD b x::Hs) w:=hw.swap
 refine ⟨fun at6 w=>∃ k:Nat,at6=k∧k≤l.length∧insQ x l=l.take k++x::l.drop k∧Sat R (OwnN 5 s waT (l.map wtV)::pts q (rqCell s)::wtD b x::Hs) w,?_,?_⟩
 ·refine ⟨fun at6 w=>∃ k:Nat,at6=k∧k≤l.length∧(∀ i (hi:i<l.length),i<k→l[i].ahead x=true)∧Sat R (OwnN 5 s waT (l.map wtV)::pts q (rqCell s)::wtD b x::Hs) w,fun at6 _=>l.length - at6.toNat,⟨0,rfl,by omega,fun i _ hi=>by omega,hw⟩,?_⟩
  clear hw
  rintro _ _ w ⟨k,rfl,hk,hlt,hw⟩
  refine drw_rule hw fun w hw=>?_
  refine NilP.mk rfl ⟨s,At.own selfS (by exact ⟨rfl,trivial⟩),Br.d (fun h5=>?_) (fun h5=>⟨k,rfl,hk,insQ_lin hk hlt (fun h=>by omega),hw⟩)⟩
  have hk2:k<l.length:=by omega
  refine NilP.mk rfl ⟨s,At.own selfS (by exact ⟨rfl,trivial⟩),?_⟩
  refine (OwnN.reads hw (S:=Sat R (OwnN 5 s waT (l.map wtV)::pts q (rqCell s)::wtD b x::Hs)) (fun _ h=>h)).rngM (E:=l) (g:=wtV) hk2 fun a _ he=>?_
  refine ⟨_,_,_,_,_,he.z (by exact ⟨rfl,rfl,rfl,rfl,rfl,trivial⟩),x.id,x.cls,x.many,x.time,x.sc,At.own selfS (by exact ⟨rfl,rfl,rfl,rfl,rfl,trivial⟩),?_⟩
  refine (rqahead_spec (a:=l[k]) (b:=x) hw).use ?_
  clear hw
  rintro _ w ⟨rfl,hw⟩
  refine ⟨_,rfl,hw,Br.mk (fun h6=>?_) (fun h6=>⟨k,rfl,hk,insQ_lin hk hlt (fun _=>h6),hw⟩)⟩
  rw [wrap64 (x:=(k:Int) + 1) (by omega) (by omega)]
  refine ⟨⟨k + 1,by omega,by omega,fun i hi hik=>?_,hw⟩,by dsimp only;omega⟩
  by_cases hik2:i=k
  ·subst hik2;exact h6
  ·exact hlt i hi (by omega)
 clear hw
 rintro _ _ w ⟨k,rfl,hk,hins,hw⟩
 obtain ⟨R',hro,⟨xh,hx⟩,hw,back⟩:=OwnN.lend hw
 have hml:(l.map wtV).length=l.length:=List.length_map ..
 refine new_rule hw fun b5 w hw=>NilP.mk rfl ⟨s,At.own (eqS hw) (by exact ⟨rfl,trivial⟩),by omega,by omega,?_⟩
 refine appendN0_rule (b:=b5) (ys:=(l.map wtV).take k) elWt hw (srcRoN ⟨_,Tryz.underlying100⟩ hw (hro.take (h:=k) (by omega) s.cap) (wtV_take l k)) hro.wid.take (by rw [List.length_take];omega) (by rw [List.length_take];omega) fun s1 w hw=>?_
 refine ⟨x.id,x.cls,x.many,x.time,x.sc,At.own (eqS hw) (by exact ⟨rfl,rfl,rfl,rfl,rfl,trivial⟩),?_⟩
 refine pushN_rule (x:=wtV x) elWt hw rfl rfl (by rw [List.length_take];omega) (by rw [List.length_take];omega) fun s2 w hw=>?_
 refine NilP.mk rfl ⟨s,At.own (eqS hw) (by exact ⟨rfl,trivial⟩),by omega,by omega,?_⟩
 have hsub:=hro.sub (l:=k) (h:=s.len) (m:=s.cap) (by omega) (by omega) (by omega)
 rw [List.take_of_length_le (show (l.map wtV).length≤s.len by omega)] at hsub
 refine appendN_rule (ys:=(l.map wtV).drop k) elWt hw (srcRoN ⟨_,Tryz.underlying100⟩ hw hsub (wtV_drop l k)) hro.wid.drop (by simp only [List.length_append,List.length_take,List.length_drop,List.length_singleton];omega) (by simp only [List.length_append,List.length_take,List.length_drop,List.length_singleton];omega) fun s3 w hw=>NilP.mk rfl ?_
 have hw:=back hw
 have hw:Sat R (pts q (rqCell s)::OwnN 5 s3 waT ((l.map wtV).take k++[wtV x]++(l.map wtV).drop k)::OwnN 5 s waT (l.map wtV)::wtD b x::Hs) w:=hw.arr
 refine store_rule hw (by kernel_rfl) rfl (by simp [Value.cells]) fun w hw=>?_
 have hw:=hw.re (pts q (rqCell s3))
 have e:(l.map wtV).take k++[wtV x]++(l.map wtV).drop k=(insQ x l).map wtV:=by
  rw [hins,←List.map_take,←List.map_drop]
  simp
 rw [e] at hw
 exact hK w (Sat.rqu.2 ⟨s3,hw.cons fun _ h=>h.cons fun _ h=>h.drop.drop⟩)
end Go.Proofs.YtlplemdmegpoeaaGreatDoor
/- Reference 16: Of; reference 17: Encode, Decode. Condition: bounds. -/
namespace Go.Proofs.YtlplemdmegpoeaaGreatDoor
set_option linter.unusedVariables false
set_option linter.unusedSimpArgs false
open Go Go.VC
open Classical
variable {R:Cx} {Hs Rest:List HP} {w:World}
set_option maxHeartbeats 1000000 in
theorem rqenc_spec {q:Nat} {l:List Wt} (hlen:l.length≤1000) (hok:∀ x∈l,x.Ok) (hfls:∀ x∈l,x.sc<18446744073709551616) (hw:Sat R (RQuAt q l::Hs) w):
  Gets Tryz.prog 70 #[.pointer (some ⟨q,0,none⟩)] w fun v w'=>∃ t:Sl,v=.slice t.a t.len t.cap∧Sat R (Own t 5 (b8 (qB l))::RQuAt q l::Hs) w':=by
 apply call70
 suffices H:∀ K:Value→World→Prop,(∀ (t:Sl) w',Sat R (Own t 5 (b8 (qB l))::RQuAt q l::Hs) w'→K (.slice t.a t.len t.cap) w')→B70 (some ⟨q,0,none⟩) K w from H _ fun t w' h=>⟨t,rfl,h⟩
 intro K hK
 obtain ⟨s,hw⟩:=Sat.rqu.1 hw
 have hsl:=OwnN.len hw.swap
 rw [List.length_map] at hsl
 refine NilP.mk rfl ⟨s,At.own (eqS hw) (by exact ⟨rfl,trivial⟩),?_⟩
 rw [wrapU64 (by omega) (by omega)]
 refine (rnumber_spec (by omega) hw).use ?_
 clear hw
 rintro _ w ⟨t0,rfl,hw⟩
 refine ⟨t0,rfl,?_⟩
 have e0:numB s.len=numsB [(l.length:Int)]:=by rw [hsl];simp [numsB]
 rw [e0] at hw
 refine ⟨fun t i w=>∃ k:Nat,i=k∧k≤l.length∧Sat R (Own t 5 (b8 (numsB [(l.length:Int)]++((l.take k).map wtB).flatten))::pts q (rqCell s)::OwnN 5 s waT (l.map wtV)::Hs) w,
  fun _ i _=>l.length - i.toNat,⟨0,rfl,by omega,by simpa using hw⟩,?_⟩
 clear hw
 rintro _ t _ w ⟨k,rfl,hk,hw⟩
 refine NilP.mk rfl ⟨s,At.own (eqS hw) (by exact ⟨rfl,trivial⟩),Br.d (fun h=>?_) (fun h=>?_)⟩
 ·have hk2:k<l.length:=by omega
  have hx:=List.getElem_mem hk2
  have hok1:=hok _ hx
  have hfl:=hfls _ hx
  have hu:=wtN_lt hok1 hfl
  obtain ⟨h1,h2,h3,h4⟩:=id hok1
  refine NilP.mk rfl ⟨s,At.own (eqS hw) (by exact ⟨rfl,trivial⟩),?_⟩
  refine (OwnN.readsM (n:=5) (s:=s) (T:=waT) (rows:=l.map wtV) hw (eqS hw)).rngM (E:=l) (g:=wtV) hk2 fun a _ he=>?_
  refine ⟨_,_,_,_,_,he.z (by exact ⟨rfl,rfl,rfl,rfl,rfl,trivial⟩),?_⟩
  refine new_rule hw fun b2 w hw=>?_
  refine store_rule hw (by kernel_rfl) rfl (by simp [Value.cells]) fun w hw=>?_
  have hw:=hw.re (wtD b2 l[k])
  refine drw_ruleT hw fun w hw=>?_
  refine ⟨l[k].id,At.own selfS (by exact ⟨rfl,trivial⟩),l[k].cls,At.own selfS (by exact ⟨rfl,trivial⟩),l[k].many,At.own selfS (by exact ⟨rfl,trivial⟩),l[k].time,At.own selfS (by exact ⟨rfl,trivial⟩),l[k].sc,At.own selfS (by exact ⟨rfl,trivial⟩),?_⟩
  refine (rkey_spec hfl hw).use ?_
  clear hw
  rintro _ w ⟨rfl,hw⟩
  refine ⟨_,rfl,hw,?_⟩
  rw [wrapU64 (x:=l[k].id) (by omega) (by omega),wrapU64 (x:=l[k].cls) (by omega) (by omega),wrapU64 (x:=l[k].many) (by omega) (by omega),wrapU64 (x:=l[k].time) (by omega) (by omega)]
  refine new_rule hw fun b5 w hw=>⟨hw.absorb,?_⟩
  obtain ⟨us,hus⟩:∃ us,us=wtN l[k]:=⟨_,rfl⟩
  have hul:us.length=5:=by rw [hus];rfl
  have hw:Sat R (pts b5 (.cells (us.map fun n=>Value.int .u64 (n:Nat)).toArray 141 (0,0))::wtD b2 l[k]::Own t 5 (b8 (numsB [(l.length:Int)]++((l.take k).map wtB).flatten))::pts q (rqCell s)::OwnN 5 s waT (l.map wtV)::Hs) w:=by
   have e:([.int .u64 l[k].id,.int .u64 l[k].cls,.int .u64 l[k].many,.int .u64 l[k].time,.int .u64 ((keyF l[k].sc:Nat):Int)]:List Value)=us.map fun n=>Value.int .u64 (n:Nat):=by
    subst hus
    simp only [wtN,List.map_cons,List.map_nil,Int.toNat_of_nonneg h2.1,Int.toNat_of_nonneg h4.1,Int.toNat_of_nonneg (show 0≤l[k].id by omega),Int.toNat_of_nonneg (show 0≤l[k].many by omega)]
   rw [←e]
   exact hw.cons fun _ h=>h.drop
  rw [←hus] at hu
  have hblen:=flat_len (l:=l.take k) (code:=wtB) (m:=45) fun w hw=>wtB_len (hok w (List.mem_of_mem_take hw)) (hfls w (List.mem_of_mem_take hw))
  rw [List.length_take] at hblen
  have h0:=nums1_len (x:=(l.length:Int)) (by omega)
  obtain ⟨bs,hbs⟩:∃ bs,bs=numsB [(l.length:Int)]++((l.take k).map wtB).flatten:=⟨_,rfl⟩
  have hbl:bs.length≤100000:=by rw [hbs,List.length_append];omega
  rw [←hbs] at hw
  refine ⟨fun t i w=>∃ j:Nat,i=j∧j≤5∧Sat R (Own t 5 (b8 (bs++numsN (us.take j)))::pts b5 (.cells (us.map fun n=>Value.int .u64 (n:Nat)).toArray 141 (0,0))::wtD b2 l[k]::pts q (rqCell s)::OwnN 5 s waT (l.map wtV)::Hs) w,
   fun _ i _=>5 - i.toNat,⟨0,rfl,by omega,?_⟩,?_⟩
  ·have hw:Sat R (Own t 5 (b8 bs)::pts b5 (.cells (us.map fun n=>Value.int .u64 (n:Nat)).toArray 141 (0,0))::wtD b2 l[k]::pts q (rqCell s)::OwnN 5 s waT (l.map wtV)::Hs) w:=hw.arr
   simpa [numsN] using hw
  clear hw
  rintro _ t _ w ⟨j,rfl,hj,hw⟩
  refine Br.d (fun hj5=>?_) (fun hj5=>?_)
  ·have hj2:j<us.length:=by omega
   have hul2:=numsN_len (l:=us.take j) fun x hx=>hu x (List.mem_of_mem_take hx)
   rw [List.length_take] at hul2
   have huj:=hu _ (List.getElem_mem hj2)
   refine Rng.mk (by omega) (by omega) ⟨((us[j]:Nat):Int),?_,?_⟩
   ·have hjm:j<(us.map fun n=>Value.int .u64 (n:Nat)).length:=by rw [List.length_map];exact hj2
    have:=At.vals (b:=b5) (vs:=us.map fun n=>Value.int .u64 (n:Nat)) (eqS hw) hjm
    rw [List.getElem_map] at this
    exact this
   refine (rnumber_spec huj hw).use ?_
   clear hw
   rintro _ w ⟨t1,rfl,hw⟩
   refine ⟨t1,rfl,?_⟩
   have hnb:=numB_len huj
   refine appendOO elB8 (s:=t) (n:=1099511627790) Tryz.underlying47 hw.swap (by rw [List.length_append];omega) (by omega) (by omega) fun s2 w hw=>?_
   have hw:=hw.cons fun _ h=>h.drop
   rw [wrap64 (x:=(j:Int) + 1) (by omega) (by omega)]
   refine ⟨⟨j + 1,by omega,by omega,?_⟩,by dsimp only;omega⟩
   rw [numsN_snoc hj2,←List.append_assoc]
   exact hw
  ·rw [List.take_of_length_le (by omega:us.length≤j),hus,←wtB_N,hbs,List.append_assoc,←flat_snoc hk2] at hw
   rw [wrap64 (x:=(k:Int) + 1) (by omega) (by omega)]
   exact ⟨⟨k + 1,by omega,by omega,hw.cons fun _ h=>h.drop.drop⟩,by dsimp only;omega⟩
 ·rw [List.take_of_length_le (by omega:l.length≤k)] at hw
  exact hK t w (hw.cons fun _ h=>Sat.rqu.2 ⟨s,h⟩)
end Go.Proofs.YtlplemdmegpoeaaGreatDoor

/- Reference 18: the book in memory; flight, has. Condition: none. -/
namespace Go.Proofs.YtlplemdmegpoeaaGreatDoor
set_option linter.unusedVariables false
set_option linter.unusedSimpArgs false
open Go Go.VC
open Classical
variable {R:Cx} {Hs Rest:List HP} {w:World}
abbrev plT:TypeId:=107
abbrev rkT:TypeId:=125
def rfqV (e:FE):List Value:=[.pointer (some ⟨e.1,0,none⟩),.pointer (some ⟨e.2.1,0,none⟩)]
def rkV (x:Bk):List Value:=[.int .i64 x.id,.int .i64 x.flt,.int .i64 x.cls,.int .i64 x.many,.int .i64 x.state,.int .i64 x.till]
abbrev rkC (b:Nat) (x:Bk):HP:=pts b (.cells (rkV x).toArray rkT (0,0))
def rplAt (e:FE):HP:=Star [RFAt e.1 e.2.2.r,RQuAt e.2.1 e.2.2.q]
def RPlsAt (fs:List FE):HP:=Star (fs.map rplAt)
theorem rpls_mid {A C:List FE} {f q:Nat} {p:Pl}:Sat R (RPlsAt (A++(f,q,p)::C)::Hs) w↔Sat R (RFAt f p.r::RQuAt q p.q::RPlsAt (A++C)::Hs) w:=by
 unfold RPlsAt
 rw [List.map_append,List.map_cons,star_mid,List.map_append]
 exact Sat.star
abbrev rbCell (now next:Int) (sf sb:Sl):Obj:=.cells [.int .i64 now,.int .i64 next,.slice sf.a sf.len sf.cap,.slice sb.a sb.len sb.cap].toArray 46 (0,0)
abbrev RBO (p:Nat) (now next:Int) (L:List Bk) (sf sb:Sl) (fs:List FE) (Hs:List HP):List HP:=pts p (rbCell now next sf sb)::OwnN 2 sf plT (fs.map rfqV)::OwnN 6 sb rkT (L.map rkV)::RPlsAt fs::Hs
def RBookAt (p:Nat) (b:Book):HP:=exs fun sf:Sl=>exs fun sb:Sl=>exs fun fs:List FE=>Star [pur ((fs.map fun e=>e.2.2)=b.fl),pts p (rbCell b.now b.next sf sb),OwnN 2 sf plT (fs.map rfqV),OwnN 6 sb rkT (b.L.map rkV),RPlsAt fs]
theorem Sat.rbook {p:Nat} {b:Book}:Sat R (RBookAt p b::Hs) w↔∃ sf sb fs,(fs.map fun e=>e.2.2)=b.fl∧Sat R (RBO p b.now b.next b.L sf sb fs Hs) w:=by
 unfold RBookAt
 simp only [Sat.exs]
 constructor
 ·rintro ⟨sf,sb,fs,h⟩
  obtain ⟨h1,h2⟩:=Sat.pur.1 (Sat.star.1 h)
  exact ⟨sf,sb,fs,h1,h2⟩
 ·rintro ⟨sf,sb,fs,h1,h2⟩
  exact ⟨sf,sb,fs,Sat.star.2 (Sat.pur.2 ⟨h1,h2⟩)⟩
theorem rf_num {q:Nat} {r:RF} (hw:Sat R Hs w) [tk:Take (RFAt q r) Hs Rest]:At (fun w'=>w'=w) (Addr.add ⟨q,0,none⟩ 0) [.int .i64 r.num]:=by
 obtain ⟨sg,sl,s,ts,hl,hs⟩:=Sat.rf.1 (hw.perm tk.perm)
 have hs:=hs.take (pts q (rCells r sg sl s))
 rw [add_off]
 exact At.own (eqS hs) (by exact ⟨rfl,trivial⟩)
theorem fe_split {fs:List FE} {j:Nat} (hj:j<fs.length):∃ f q p,fs[j]=(f,q,p)∧fs=fs.take j++(f,q,p)::fs.drop (j + 1):=by
 refine ⟨fs[j].1,fs[j].2.1,fs[j].2.2,rfl,?_⟩
 have h:=List.drop_eq_getElem_cons hj
 have h2:=List.take_append_drop j fs
 rw [h] at h2
 exact h2.symm
theorem rflight_spec {p:Nat} {now next n:Int} {L:List Bk} {sf sb:Sl} {fs:List FE} (hl:fs.length≤1000000) (hw:Sat R (RBO p now next L sf sb fs Hs) w):
  Gets Tryz.prog 58 #[.pointer (some ⟨p,0,none⟩),.int .i64 n] w fun v w'=>(∃ i:Int,v=.int .i64 i∧((i=-1∧∀ e∈fs,e.2.2.n≠n)∨∃ k:Nat,i=k∧∃ hk:k<fs.length,fs[k].2.2.n=n))∧Sat R (RBO p now next L sf sb fs Hs) w':=by
 have hlen:=OwnN.len (Sat.swap hw)
 rw [List.length_map] at hlen
 apply call58
 refine ⟨fun i w=>∃ j:Nat,i=j∧j≤fs.length∧(∀ e∈fs.take j,e.2.2.n≠n)∧Sat R (RBO p now next L sf sb fs Hs) w,fun i _=>fs.length - i.toNat,⟨0,rfl,by omega,by simp,hw⟩,?_⟩
 clear hw
 rintro _ _ w ⟨j,rfl,hj,hn,hw⟩
 refine NilP.mk rfl ⟨sf,At.own (eqS hw) (by exact ⟨rfl,trivial⟩),Br.d (fun h=>?_) (fun h=>?_)⟩
 ·have hj2:j<fs.length:=by omega
  obtain ⟨f,q,pl,he,hsp⟩:=fe_split hj2
  refine NilP.mk rfl ⟨sf,At.own (eqS hw) (by exact ⟨rfl,trivial⟩),?_⟩
  refine (OwnN.readsM (n:=2) (s:=sf) (T:=plT) (rows:=fs.map rfqV) hw (eqS hw)).rngM (E:=fs) (g:=rfqV) hj2 fun a _ hr=>?_
  refine ⟨some ⟨f,0,none⟩,hr.zz (by rw [he];exact ⟨rfl,trivial⟩),NilP.mk rfl ⟨pl.r.num,?_,?_⟩⟩
  ·have h2:Sat R (RPlsAt fs::pts p (rbCell now next sf sb)::OwnN 2 sf plT (fs.map rfqV)::OwnN 6 sb rkT (L.map rkV)::Hs) w:=hw.arr
   rw [hsp] at h2
   exact rf_num (rpls_mid.1 h2)
  refine Br.e (fun h1=>⟨⟨j,rfl,.inr ⟨j,rfl,hj2,by rw [he];exact h1⟩⟩,hw⟩) (fun h1=>?_)
  rw [wrap64 (by omega) (by omega)]
  refine ⟨⟨j + 1,by omega,by omega,fun e hm=>?_,hw⟩,by dsimp only;omega⟩
  rw [List.take_add_one,List.getElem?_eq_getElem hj2] at hm
  rcases List.mem_append.1 hm with hm|hm
  ·exact hn e hm
  ·have hm2:e=fs[j]:=by simpa using hm
   rw [hm2,he];exact h1
 ·rw [List.take_of_length_le (by omega)] at hn
  exact ⟨⟨-1,rfl,.inl ⟨rfl,hn⟩⟩,hw⟩
end Go.Proofs.YtlplemdmegpoeaaGreatDoor
/- Reference 18: may. Condition: bounds. -/
namespace Go.Proofs.YtlplemdmegpoeaaGreatDoor
set_option linter.unusedVariables false
set_option linter.unusedSimpArgs false
open Go Go.VC
open Classical
variable {R:Cx} {Hs Rest:List HP} {w:World}
theorem fe_mid {fs:List FE} {k:Nat} (hk:k<fs.length):fs=fs.take k++(fs[k].1,fs[k].2.1,fs[k].2.2)::fs.drop (k + 1):=by
 have h:=List.drop_eq_getElem_cons hk
 have h2:=List.take_append_drop k fs
 rw [h] at h2
 exact h2.symm
abbrev RBR (p:Nat) (now next:Int) (L:List Bk) (sf sb:Sl) (fs:List FE) (k:Nat) (Hs:List HP):List HP:=RPlsAt (fs.take k++fs.drop (k + 1))::pts p (rbCell now next sf sb)::OwnN 2 sf plT (fs.map rfqV)::OwnN 6 sb rkT (L.map rkV)::Hs
theorem RBO.fl {p:Nat} {now next:Int} {L:List Bk} {sf sb:Sl} {fs:List FE} {k:Nat} (hk:k<fs.length):Sat R (RBO p now next L sf sb fs Hs) w↔Sat R (RFAt fs[k].1 fs[k].2.2.r::RQuAt fs[k].2.1 fs[k].2.2.q::RBR p now next L sf sb fs k Hs) w:=by
 have e:RPlsAt fs=RPlsAt (fs.take k++(fs[k].1,fs[k].2.1,fs[k].2.2)::fs.drop (k + 1)):=congrArg RPlsAt (fe_mid hk)
 constructor
 ·intro hw
  have h2:Sat R (RPlsAt fs::pts p (rbCell now next sf sb)::OwnN 2 sf plT (fs.map rfqV)::OwnN 6 sb rkT (L.map rkV)::Hs) w:=Sat.arr (Hs:=RBO p now next L sf sb fs Hs) hw
  rw [e] at h2
  exact rpls_mid.1 h2
 ·intro hw
  have h2:=rpls_mid.2 hw
  rw [←e] at h2
  exact Sat.arr (Hs:=RPlsAt fs::pts p (rbCell now next sf sb)::OwnN 2 sf plT (fs.map rfqV)::OwnN 6 sb rkT (L.map rkV)::Hs) h2
theorem fl_num {S:World→Prop} {p:Nat} {now next:Int} {L:List Bk} {sf sb:Sl} {fs:List FE} {k:Nat} (hS:∀ w,S w→Sat R (RBO p now next L sf sb fs Hs) w) (hk:k<fs.length):At S (Addr.add ⟨fs[k].1,0,none⟩ 0) [.int .i64 fs[k].2.2.n]:=
 fun w' hs i v hv=>(rf_num (r:=fs[k].2.2.r) ((RBO.fl hk).1 (hS w' hs))) w' rfl i v hv
theorem RBO.lens {p:Nat} {now next:Int} {L:List Bk} {sf sb:Sl} {fs:List FE} (hw:Sat R (RBO p now next L sf sb fs Hs) w):sf.len=fs.length∧sb.len=L.length:=by
 have h1:=OwnN.len (Sat.swap hw)
 have h2:Sat R (OwnN 6 sb rkT (L.map rkV)::pts p (rbCell now next sf sb)::OwnN 2 sf plT (fs.map rfqV)::RPlsAt fs::Hs) w:=Sat.arr (Hs:=RBO p now next L sf sb fs Hs) hw
 have h3:=OwnN.len h2
 rw [List.length_map] at h1 h3
 exact ⟨h1,h3⟩
theorem things_app (a b:List Pl):things (a++b)=things a + things b:=by simp [things]
theorem things_one (p:Pl):things [p]=p.r.L.length + p.q.length:=by simp [things]
theorem things_le {fl:List Pl} {j:Nat}:things (fl.take j)≤things fl:=by
 have h:=things_app (fl.take j) (fl.drop j)
 rw [List.take_append_drop] at h
 omega
structure BkSm (b:Book):Prop where
 good:∀ p∈b.fl,Good p.r
 qok:∀ p∈b.fl,QOk p.q
 few:b.fl.length≤8
 many:b.L.length≤300
end Go.Proofs.YtlplemdmegpoeaaGreatDoor
/- Reference 17: Decode of any bytes. Condition: a bound on the length. -/
namespace Go.Proofs.YtlplemdmegpoeaaGreatDoor
set_option linter.unusedVariables false
set_option linter.unusedSimpArgs false
open Go Go.VC
open Classical
variable {R:Cx} {Hs Rest:List HP} {w:World}
structure RqI (r0:Rd) (k:Nat) (l:List Wt) (rd:Rd):Prop where
 pre:rdEach wtRd k r0=(l,rd)
 ids:QIds l
 ok:∀ w∈l,w.Ok
 fl:∀ w∈l,w.sc<18446744073709551616
 bytes:Bytes rd.bs
theorem rqi_len {r0 rd:Rd} {k:Nat} {l:List Wt} (h:RqI r0 k l rd):l.length=k:=by have:=rdEach_len wtRd k r0;rw [h.pre] at this;exact this
theorem rdEach_bad {α:Type} {one:Rd→α × Rd} (h1:∀ r:Rd,r.bad=true→(one r).2.bad=true):∀ (n:Nat) {r:Rd},r.bad=true→(rdEach one n r).2.bad=true
 |0,_,h=>h
 |n + 1,_,h=>rdEach_bad h1 n (h1 _ h)
theorem rdEach_add2 {α:Type} (one:Rd→α × Rd) (m:Nat):∀ (k:Nat) (r:Rd),(rdEach one (k + m) r).2=(rdEach one m (rdEach one k r).2).2
 |0,r=>by rw [Nat.zero_add];rfl
 |k + 1,r=>by
  rw [show k + 1 + m=(k + m) + 1 by omega,rdEach_succ,rdEach_succ]
  exact rdEach_add2 one m k _
theorem badWhole5 {r:Rd} (h:r.bad=true):rdWhole r=false:=by unfold rdWhole;rw [h];rfl
theorem rq_no {bs:List Int} {n k:Nat} {r0 rd:Rd} {l:List Wt} (hn:(rdNum 200 ⟨bs,false⟩).1.toNat=n) (hr0:(rdNum 200 ⟨bs,false⟩).2=r0) (h:RqI r0 k l rd) (hk:k<n) (hn2:n≤200) (hb:(wtRd rd).2.bad=true∨(qadd (insAll l) (wtRd rd).1).2≠0):decQ bs=none:=by
 unfold decQ
 rw [if_neg]
 rintro ⟨h1,h2⟩
 have hs:=rdEach_snoc wtRd k r0
 rw [h.pre] at hs
 dsimp only at hs
 have hq:qRaw bs=rdEach wtRd n r0:=by unfold qRaw;rw [hn,hr0]
 have hadd:=rdEach_add wtRd (n - (k + 1)) (k + 1) r0
 have hadd2:=rdEach_add2 wtRd (n - (k + 1)) (k + 1) r0
 rw [show k + 1 + (n - (k + 1))=n by omega,hs] at hadd hadd2
 dsimp only at hadd hadd2
 rw [hq] at h1 h2
 rcases hb with hb|hb
 ·rw [hadd2] at h1
  rw [badWhole5 (rdEach_bad (fun r hr=>by rw [wtRd_bad hr];exact hr) _ hb)] at h1
  cases h1
 ·rw [hadd] at h2
  obtain ⟨a1,a2,_⟩:=h2.pre.last
  refine hb ?_
  have hl:=rqi_len h
  unfold qadd
  rw [if_neg (fun e=>e a1),if_neg (by rw [hasQ_no.2 fun x hx=>a2 x (insAll_mem x|>.1 hx)];simp),if_neg (by rw [insAll_len];omega)]
theorem rq_step {r0 rd:Rd} {k:Nat} {l:List Wt} (h:RqI r0 k l rd) (hb:(wtRd rd).2.bad=false) (h0:(qadd (insAll l) (wtRd rd).1).2=0):RqI r0 (k + 1) (l++[(wtRd rd).1]) (wtRd rd).2∧(qadd (insAll l) (wtRd rd).1).1=insAll (l++[(wtRd rd).1]):=by
 have hs:=rdEach_snoc wtRd k r0
 rw [h.pre] at hs
 unfold qadd at h0 ⊢
 split at h0
 ·exact absurd h0 (by show ¬ (1:Int)=0;decide)
 rename_i c1
 split at h0
 ·exact absurd h0 (by show ¬ (7:Int)=0;decide)
 rename_i c2
 split at h0
 ·exact absurd h0 (by show ¬ (3:Int)=0;decide)
 rename_i c3
 rw [if_neg c1,if_neg c2,if_neg c3]
 have c1:(wtRd rd).1.Ok:=Classical.byContradiction c1
 have c2:=hasQ_no.1 (by simpa using c2)
 refine ⟨⟨hs,List.pairwise_append.2 ⟨h.ids,List.pairwise_singleton _ _,fun a ha b hb2=>?_⟩,fun w hw=>?_,fun w hw=>?_,wtRd_bd h.bytes⟩,(insAll_snoc _ _).symm⟩
 ·rw [List.mem_singleton.1 hb2]
  exact c2 a (insAll_mem a|>.2 ha)
 ·rcases List.mem_append.1 hw with hw|hw
  ·exact h.ok w hw
  ·rw [List.mem_singleton.1 hw];exact c1
 ·rcases List.mem_append.1 hw with hw|hw
  ·exact h.fl w hw
  ·rw [List.mem_singleton.1 hw];exact wtRd_fl h.bytes
theorem rq_end {bs:List Int} {n:Nat} {r0 rd:Rd} {l:List Wt} (hb:Bytes bs) (hn:(rdNum 200 ⟨bs,false⟩).1.toNat=n) (hr0:(rdNum 200 ⟨bs,false⟩).2=r0) (h:RqI r0 n l rd) (hn2:n≤200):
  (rdWhole rd=true→qB (insAll l)=bs→decQ bs=some (insAll l)∧QOk (insAll l))∧(rdWhole rd=false→decQ bs=none)∧(rdWhole rd=true→qB (insAll l)≠bs→decQ bs=none):=by
 have hq:qRaw bs=(l,rd):=by unfold qRaw;rw [hn,hr0,h.pre]
 have hl:=rqi_len h
 have hst:=insAll_st h.ids
 have in1:(insAll l).length≤200∧(∀ w∈insAll l,w.Ok)∧∀ w∈insAll l,w.sc<18446744073709551616:=⟨by rw [insAll_len];omega,fun w hw=>h.ok w (insAll_mem w|>.1 hw),fun w hw=>h.fl w (insAll_mem w|>.1 hw)⟩
 refine ⟨fun h1 h2=>?_,fun h1=>?_,fun h1 h2=>?_⟩
 ·have hc:=qRaw_code hb (by rw [hq];exact h1)
  rw [hq] at hc
  have e:insAll l=l:=qB_inj in1 ⟨by omega,h.ok,h.fl⟩ (by rw [h2];exact hc)
  rw [e] at hst ⊢
  refine ⟨?_,hst.1,hst.2,h.ok,h.fl,by omega⟩
  unfold decQ
  rw [if_pos ⟨by rw [hq];exact h1,by rw [hq];exact ⟨hst.1,hst.2,h.ok⟩⟩,hq]
 ·unfold decQ
  rw [if_neg]
  rintro ⟨h3,_⟩
  rw [hq,h1] at h3
  cases h3
 ·unfold decQ
  rw [if_neg]
  rintro ⟨_,h3⟩
  rw [hq] at h3
  have hc:=qRaw_code hb (by rw [hq];exact h1)
  rw [hq] at hc
  exact h2 (by rw [insAll_right h3.st];exact hc.symm)
set_option maxHeartbeats 2000000 in
theorem rqdec_spec {s:Sl} {bs:List Int} (hb:Bytes bs) (hl:bs.length≤1099511627776) (hs:SlR R.m s (b8 bs)) (hw:Sat R Hs w):
  Gets Tryz.prog 145 #[.slice s.a s.len s.cap] w fun v w'=>(decQ bs=none∧v=.tuple #[.pointer none,.int .i64 6]∧Sat R Hs w')∨(∃ l q,decQ bs=some l∧QOk l∧v=.tuple #[.pointer (some ⟨q,0,none⟩),.int .i64 0]∧Sat R (RQuAt q l::Hs) w'):=by
 apply call145
 suffices H:∀ K:Value→World→Prop,(decQ bs=none→∀ w',Sat R Hs w'→K (.tuple #[.pointer none,.int .i64 6]) w')→(∀ l q w',decQ bs=some l→QOk l→Sat R (RQuAt q l::Hs) w'→K (.tuple #[.pointer (some ⟨q,0,none⟩),.int .i64 0]) w')→B145 s K w from
  H _ (fun e w' h=>.inl ⟨e,rfl,h⟩) fun l q w' e ok h=>.inr ⟨l,q,e,ok,rfl,h⟩
 intro K hK1 hK2
 have v0:=rdNum_val (most:=200) (rd:=⟨bs,false⟩) hb (by omega)
 have b0:Bytes (rdNum 200 ⟨bs,false⟩).2.bs:=rdNum_bd (rd:=⟨bs,false⟩) hb
 obtain ⟨n,hn⟩:∃ n:Nat,(rdNum 200 ⟨bs,false⟩).1.toNat=n:=⟨_,rfl⟩
 obtain ⟨r0,hr0⟩:∃ r,(rdNum 200 ⟨bs,false⟩).2=r:=⟨_,rfl⟩
 have hn3:(rdNum 200 ⟨bs,false⟩).1=(n:Int):=by omega
 have hn2:n≤200:=by omega
 refine new_rule hw fun b w hw=>?_
 have hw:Sat R (pts b (rrCells s 0 false)::Hs) w:=hw
 have hw:Sat R (RRdAt b s bs ⟨bs,false⟩::Hs) w:=Sat.rrd.2 ⟨0,⟨by omega,rfl⟩,hw⟩
 refine (rrnum_spec hl hb hs hw).use ?_
 clear hw
 rintro _ w ⟨rfl,hw⟩
 rw [hr0] at hw b0
 rw [hn3]
 refine ⟨_,rfl,?_⟩
 refine new_rule hw fun q w hw=>?_
 have hw:Sat R (pts q (rqCell ⟨none,0,0⟩)::RRdAt b s bs r0::Hs) w:=hw
 have hw:Sat R (RQuAt q []::RRdAt b s bs r0::Hs) w:=Sat.rqu.2 ⟨⟨none,0,0⟩,Sat.swap (OwnN.nil hw)⟩
 refine ⟨fun i w=>∃ (k:Nat) (l:List Wt) (rd:Rd),i=k∧k≤n∧RqI r0 k l rd∧Sat R (RRdAt b s bs rd::RQuAt q (insAll l)::Hs) w,fun i _=>n - i.toNat,⟨0,[],r0,rfl,by omega,⟨rfl,List.Pairwise.nil,fun _ h=>(by cases h),fun _ h=>(by cases h),b0⟩,hw.swap⟩,?_⟩
 clear hw
 rintro _ _ w ⟨k,l,rd,rfl,hk,hi,hw⟩
 have hll:=rqi_len hi
 refine Br.d (fun h=>?_) (fun h=>?_)
 ·have hk2:k<n:=by omega
  have no:=rq_no hn hr0 hi hk2 hn2
  have st:=rq_step hi
  have y0:=hi.bytes
  have y1:Bytes (rdNum 28629151 rd).2.bs:=rdNum_bd y0
  have y2:Bytes (rdNum 7 (rdNum 28629151 rd).2).2.bs:=rdNum_bd y1
  have y3:Bytes (rdNum 600 (rdNum 7 (rdNum 28629151 rd).2).2).2.bs:=rdNum_bd y2
  have y4:Bytes (rdNum 1099511627776 (rdNum 600 (rdNum 7 (rdNum 28629151 rd).2).2).2).2.bs:=rdNum_bd y3
  have z1:=rdNum_val (most:=28629151) y0 (by omega)
  have z2:=rdNum_val (most:=7) y1 (by omega)
  have z3:=rdNum_val (most:=600) y2 (by omega)
  have z4:=rdNum_val (most:=1099511627776) y3 (by omega)
  have z5:=rdNum_val (most:=18446744073709551615) y4 (by omega)
  refine (rrnum_spec (most:=28629151) hl hb hs hw).use ?_
  clear hw
  rintro _ w ⟨rfl,hw⟩
  refine ⟨_,rfl,?_⟩
  refine (rrnum_spec (most:=7) hl hb hs hw).use ?_
  clear hw
  rintro _ w ⟨rfl,hw⟩
  refine ⟨_,rfl,?_⟩
  refine (rrnum_spec (most:=600) hl hb hs hw).use ?_
  clear hw
  rintro _ w ⟨rfl,hw⟩
  refine ⟨_,rfl,?_⟩
  refine (rrnum_spec (most:=1099511627776) hl hb hs hw).use ?_
  clear hw
  rintro _ w ⟨rfl,hw⟩
  refine ⟨_,rfl,?_⟩
  obtain ⟨x,hx⟩:∃ x,x=(wtRd rd).1:=⟨_,rfl⟩
  obtain ⟨rd2,hrd2⟩:∃ x,x=(wtRd rd).2:=⟨_,rfl⟩
  have x1:(rdNum 28629151 rd).1=x.id:=by rw [hx];rfl
  have x2:(rdNum 7 (rdNum 28629151 rd).2).1=x.cls:=by rw [hx];rfl
  have x3:(rdNum 600 (rdNum 7 (rdNum 28629151 rd).2).2).1=x.many:=by rw [hx];rfl
  have x4:(rdNum 1099511627776 (rdNum 600 (rdNum 7 (rdNum 28629151 rd).2).2).2).1=x.time:=by rw [hx];rfl
  have x5:ofF (rdNum 18446744073709551615 (rdNum 1099511627776 (rdNum 600 (rdNum 7 (rdNum 28629151 rd).2).2).2).2).1.toNat=x.sc:=by rw [hx];rfl
  have x6:(rdNum 18446744073709551615 (rdNum 1099511627776 (rdNum 600 (rdNum 7 (rdNum 28629151 rd).2).2).2).2).2=rd2:=by rw [hrd2];rfl
  rw [x1] at z1
  rw [x2] at z2
  rw [x3] at z3
  rw [x4] at z4
  rw [x1,x2,x3,x4]
  refine new_rule hw fun bw w hw=>?_
  refine store_rule hw (by kernel_rfl) rfl (by simp [Value.cells]) fun w hw=>?_
  rw [wrap64 (x:=x.id) (by omega) (by omega),wrap64 (x:=x.cls) (by omega) (by omega),wrap64 (x:=x.many) (by omega) (by omega),wrap64 (x:=x.time) (by omega) (by omega)] at hw
  have hw:=hw.re (wtD bw { x with sc:=0 })
  refine (rrnum_spec (most:=18446744073709551615) hl hb hs hw.swap).use ?_
  clear hw
  rintro _ w ⟨rfl,hw⟩
  rw [x6] at hw
  refine ⟨_,rfl,?_⟩
  obtain ⟨m,hm⟩:∃ m:Nat,(rdNum 18446744073709551615 (rdNum 1099511627776 (rdNum 600 (rdNum 7 (rdNum 28629151 rd).2).2).2).2).1=m:=⟨_,(Int.toNat_of_nonneg z5.1).symm⟩
  rw [hm] at x5 z5 ⊢
  rw [Int.toNat_natCast] at x5
  refine (rof_spec (by omega) hw).use ?_
  clear hw
  rintro _ w ⟨rfl,hw⟩
  rw [x5]
  refine ⟨_,rfl,?_⟩
  have hw:=hw.swap
  refine store_rule hw (by kernel_rfl) rfl (by simp [Value.cells,wtV]) fun w hw=>?_
  have hw:=hw.re (wtD bw x)
  refine ⟨x.id,x.cls,x.many,x.time,x.sc,At.own (eqS hw) (by exact ⟨rfl,rfl,rfl,rfl,rfl,trivial⟩),?_⟩
  have hw:Sat R (RQuAt q (insAll l)::wtD bw x::RRdAt b s bs rd2::Hs) w:=hw.arr
  refine (rqadd_spec (by rw [insAll_len];omega) hw).use ?_
  clear hw
  rintro _ w ⟨rfl,hw⟩
  rw [←hx,←hrd2] at no st
  generalize qadd (insAll l) x=Z at *
  refine ⟨_,rfl,?_⟩
  have hw:Sat R (RRdAt b s bs rd2::RQuAt q Z.1::wtD bw x::Hs) w:=hw.arr
  obtain ⟨nn,hnn,hw2⟩:=Sat.rrd.1 hw
  refine ⟨rd2.bad,At.own (eqS hw2) (by exact ⟨rfl,trivial⟩),Br.mk (fun hbd=>?_) (fun hbd=>Br.ne (fun h0=>?_) (fun h0=>?_))⟩
  ·exact hK1 (no (.inl hbd)) _ hw.drop.drop.drop
  ·exact hK1 (no (.inr h0)) _ hw.drop.drop.drop
  ·obtain ⟨s1,s2⟩:=st hbd h0
   rw [wrapU64 (by omega) (by omega)]
   rw [s2] at hw
   have hw3:Sat R (wtD bw x::RRdAt b s bs rd2::RQuAt q (insAll (l++[x]))::Hs) w:=hw.arr
   exact ⟨⟨k + 1,_,_,by omega,by omega,s1,hw3.drop⟩,by dsimp only;omega⟩
 ·have hk2:k=n:=by omega
  subst hk2
  obtain ⟨n1,n2,n3⟩:=rq_end hb hn hr0 hi hn2
  refine (rrwhole_spec hs hw).use ?_
  clear hw
  rintro _ w ⟨rfl,hw⟩
  have hw:=hw.drop
  refine ⟨_,rfl,?_⟩
  have hro:Ro R s (b8 bs):=hs.ro (by rw [List.length_map];omega)
  refine drw_rule' (Sat R [RQuAt q (insAll l),VC.tru]) hw (fun w hw=>hw.restTru2) fun w hw=>Br.nb (fun hwh=>?_) (fun hwh=>?_)
  ·exact hK1 (n2 hwh) _ hw.drop
  refine ⟨VC.strOf bs,fun w' hs=>convS_ro u8s Tryz.underlying5 Tryz.underlying9 hs hro,?_⟩
  refine (rqenc_spec (by rw [insAll_len];omega) (fun w hw=>hi.ok w (insAll_mem w|>.1 hw)) (fun w hw=>hi.fl w (insAll_mem w|>.1 hw)) hw).use ?_
  clear hw
  rintro _ w ⟨t,rfl,hw⟩
  have hqok:QOk (insAll l):=⟨(insAll_st hi.ids).1,(insAll_st hi.ids).2,fun w hw=>hi.ok w (insAll_mem w|>.1 hw),fun w hw=>hi.fl w (insAll_mem w|>.1 hw),by rw [insAll_len];omega⟩
  have hql:=qB_len hqok
  refine ⟨t,rfl,hw.drop.restTru2,VC.strOf (qB (insAll l)),conv_own (t:=t) (T:=5) (bs:=qB (insAll l)) (by omega) hw,?_⟩
  refine Br.sne (fun h1=>?_) (fun h1=>?_)
  ·exact hK1 (n3 hwh (fun e=>h1 (by rw [e]))) _ hw.drop.drop
  ·have e:qB (insAll l)=bs:=by
    rw [←bytesL_strOf hb,←h1,bytesL_strOf (bytes_q hqok)]
   obtain ⟨a1,a2⟩:=n1 hwh e
   exact hK2 _ _ _ a1 a2 hw.drop
end Go.Proofs.YtlplemdmegpoeaaGreatDoor
/- Reference 18: may a book be. Condition: bounds. -/
namespace Go.Proofs.YtlplemdmegpoeaaGreatDoor
set_option linter.unusedVariables false
set_option linter.unusedSimpArgs false
open Go Go.VC
open Classical
variable {R:Cx} {Hs Rest:List HP} {w:World}
theorem has_q {q:List Wt} {x:Bk} {n:Nat} {k:Nat} (hq:QIds q) (hk:k<q.length) (hid:q[k].id=x.id):((∃ w∈q,w.id=x.id∧w.cls=x.cls∧w.many=x.many)∧x.cls<n)↔(q[k].cls=x.cls∧q[k].many=x.many∧x.cls<n):=by
 constructor
 ·rintro ⟨⟨y,hy,e1,e2,e3⟩,h⟩
  obtain ⟨i,hi,rfl⟩:=List.getElem_of_mem hy
  have:i=k:=by
   rcases Nat.lt_trichotomy i k with h1|h1|h1
   ·exact absurd (e1.trans hid.symm) (List.pairwise_iff_getElem.1 hq i k hi hk h1)
   ·exact h1
   ·exact absurd (hid.trans e1.symm) (List.pairwise_iff_getElem.1 hq k i hk hi h1)
  subst this
  exact ⟨e2,e3,h⟩
 ·rintro ⟨e2,e3,h⟩
  exact ⟨⟨_,List.getElem_mem hk,hid,e2,e3⟩,h⟩
theorem has_h {L:List Hold} {x:Bk} {k:Nat} (hq:L.Pairwise fun a b=>a.owner<b.owner) (hk:k<L.length) (hid:L[k].owner=x.id):(∃ h∈L,h.owner=x.id∧h.cls=x.cls∧h.many=x.many)↔(L[k].cls=x.cls∧L[k].many=x.many):=by
 constructor
 ·rintro ⟨y,hy,e1,e2,e3⟩
  obtain ⟨i,hi,rfl⟩:=List.getElem_of_mem hy
  have:i=k:=by
   rcases Nat.lt_trichotomy i k with h1|h1|h1
   ·have:=List.pairwise_iff_getElem.1 hq i k hi hk h1
    omega
   ·exact h1
   ·have:=List.pairwise_iff_getElem.1 hq k i hk hi h1
    omega
  subst this
  exact ⟨e2,e3⟩
 ·rintro ⟨e2,e3⟩
  exact ⟨_,List.getElem_mem hk,hid,e2,e3⟩
set_option maxHeartbeats 2000000 in
theorem rhas2_spec {f q:Nat} {p:Pl} {x:Bk} (g:Good p.r) (hq:QIds p.q) (hlq:p.q.length≤1000) (hlr:p.r.L.length≤1000000) (hw:Sat R (RFAt f p.r::RQuAt q p.q::Hs) w):
  Gets Tryz.prog 221 #[.agg (rfqV (f,q,p)).toArray,.agg (rkV x).toArray] w fun v w'=>v=.bool (decide (HasP p x))∧Sat R (RFAt f p.r::RQuAt q p.q::Hs) w':=by
 apply call221
 suffices H:∀ K:Value→World→Prop,(∀ b w',(b=true↔HasP p x)→Sat R (RFAt f p.r::RQuAt q p.q::Hs) w'→K (.bool b) w')→B221 (some ⟨f,0,none⟩) (some ⟨q,0,none⟩) x.id x.flt x.cls x.many x.state x.till K w from H _ fun b w' hb h=>⟨by rw [Value.bool.injEq,Bool.eq_iff_iff,hb,decide_eq_true_iff],h⟩
 intro K hK
 obtain ⟨sg,sl,s,ts,R',e,hr,hw,back,hl⟩:=Sat.rfO hw
 have hsl:=hr.len
 have hll:sl.len=p.r.lims.length:=by have:=hr.lims.len;rwa [List.length_map] at this
 refine new_rule hw fun b2 w hw=>new_rule hw fun bx w hw=>?_
 have hw:Sat R' (rkC bx x::pts b2 (.cells (rfqV (f,q,p)).toArray plT (0,0))::pts f (rCells p.r sg sl s)::RQuAt q p.q::Hs) w:=hw
 have fin:∀ {b:Bool} {w:World},(b=true↔HasP p x)→Sat R' (rkC bx x::pts b2 (.cells (rfqV (f,q,p)).toArray plT (0,0))::pts f (rCells p.r sg sl s)::RQuAt q p.q::Hs) w→K (.bool b) w:=fun hb hw=>
  hK _ _ hb (Sat.rf.2 ⟨sg,sl,s,ts,hl,back _ _ hw.drop.drop⟩)
 refine ⟨x.state,At.own (eqS hw) (by exact ⟨rfl,trivial⟩),Br.e (fun h3=>?_) (fun h3=>?_)⟩
 ·have hdef:HasP p x↔((∃ w∈p.q,w.id=x.id∧w.cls=x.cls∧w.many=x.many)∧x.cls<p.r.lims.length):=by unfold HasP;rw [if_pos h3]
  refine ⟨fun i w=>∃ j:Nat,i=j∧j≤p.q.length∧(∀ k (hk:k<p.q.length),k<j→p.q[k].id≠x.id)∧Sat R' (rkC bx x::pts b2 (.cells (rfqV (f,q,p)).toArray plT (0,0))::pts f (rCells p.r sg sl s)::RQuAt q p.q::Hs) w,fun i _=>p.q.length - i.toNat,⟨0,rfl,by omega,fun k _ h=>by omega,hw⟩,?_⟩
  clear hw
  rintro _ _ w ⟨j,rfl,hj,hno,hw⟩
  have hw:Sat R' (RQuAt q p.q::rkC bx x::pts b2 (.cells (rfqV (f,q,p)).toArray plT (0,0))::pts f (rCells p.r sg sl s)::Hs) w:=hw.arr
  obtain ⟨sq,hw⟩:=Sat.rqu.1 hw
  have hlen:=OwnN.len hw.swap
  rw [List.length_map] at hlen
  have re:∀ {w:World} {A:List HP},Sat R' (pts q (rqCell sq)::OwnN 5 sq waT (p.q.map wtV)::A) w→Sat R' (RQuAt q p.q::A) w:=fun h=>Sat.rqu.2 ⟨sq,h⟩
  refine ⟨some ⟨q,0,none⟩,At.own (eqS hw) (by exact ⟨rfl,trivial⟩),NilP.mk rfl ⟨sq,At.own (eqS hw) (by exact ⟨rfl,trivial⟩),Br.d (fun hlt=>?_) (fun hlt=>?_)⟩⟩
  rotate_left
  ·have hw:=re hw
   have hw:Sat R' (rkC bx x::pts b2 (.cells (rfqV (f,q,p)).toArray plT (0,0))::pts f (rCells p.r sg sl s)::RQuAt q p.q::Hs) w:=hw.arr
   refine fin ⟨fun h=>(by cases h),fun h=>?_⟩ hw
   obtain ⟨⟨y,hy,e1,_⟩,_⟩:=hdef.1 h
   obtain ⟨k,hk,rfl⟩:=List.getElem_of_mem hy
   exact absurd e1 (hno k hk (by omega))
  have hj2:j<p.q.length:=by omega
  refine ⟨some ⟨q,0,none⟩,At.own (eqS hw) (by exact ⟨rfl,trivial⟩),NilP.mk rfl ⟨sq,At.own (eqS hw) (by exact ⟨rfl,trivial⟩),?_⟩⟩
  refine (OwnN.readsM (n:=5) (s:=sq) (T:=waT) (rows:=p.q.map wtV) hw (eqS hw)).rngM (E:=p.q) (g:=wtV) hj2 fun a _ he=>?_
  refine ⟨_,_,_,_,_,he.z (by exact ⟨rfl,rfl,rfl,rfl,rfl,trivial⟩),?_⟩
  refine new_rule hw fun bw w hw=>?_
  refine store_rule hw (by kernel_rfl) rfl (by simp [Value.cells]) fun w hw=>?_
  have hw:=hw.re (wtD bw p.q[j])
  have out:∀ {w:World},Sat R' (wtD bw p.q[j]::pts q (rqCell sq)::OwnN 5 sq waT (p.q.map wtV)::rkC bx x::pts b2 (.cells (rfqV (f,q,p)).toArray plT (0,0))::pts f (rCells p.r sg sl s)::Hs) w→Sat R' (rkC bx x::pts b2 (.cells (rfqV (f,q,p)).toArray plT (0,0))::pts f (rCells p.r sg sl s)::RQuAt q p.q::Hs) w:=fun hw=>by
   have hw:=re hw.drop
   exact hw.arr
  have hw:Sat R' (wtD bw p.q[j]::pts q (rqCell sq)::OwnN 5 sq waT (p.q.map wtV)::rkC bx x::pts b2 (.cells (rfqV (f,q,p)).toArray plT (0,0))::pts f (rCells p.r sg sl s)::Hs) w:=hw.arr
  refine ⟨p.q[j].id,At.own (eqS hw) (by exact ⟨rfl,trivial⟩),x.id,At.own (eqS hw) (by exact ⟨rfl,trivial⟩),Br.e (fun h1=>?_) (fun h1=>?_)⟩
  ·have hd:=hdef.trans (has_q hq hj2 h1)
   refine drw_rule hw fun w hw=>?_
   refine ⟨p.q[j].cls,At.own selfS (by exact ⟨rfl,trivial⟩),x.cls,At.own selfS (by exact ⟨rfl,trivial⟩),Br.e (fun c1=>?_) (fun c1=>fin ⟨fun h=>(by cases h),fun h=>absurd (hd.1 h).1 c1⟩ (out hw))⟩
   refine ⟨p.q[j].many,At.own selfS (by exact ⟨rfl,trivial⟩),x.many,At.own selfS (by exact ⟨rfl,trivial⟩),Br.e (fun c2=>?_) (fun c2=>fin ⟨fun h=>(by cases h),fun h=>absurd (hd.1 h).2.1 c2⟩ (out hw))⟩
   refine ⟨x.cls,At.own selfS (by exact ⟨rfl,trivial⟩),some ⟨f,0,none⟩,At.own selfS (by exact ⟨rfl,trivial⟩),NilP.mk rfl ⟨sl,At.own selfS (by exact ⟨rfl,trivial⟩),?_⟩⟩
   rw [hll]
   exact fin ⟨fun h=>hd.2 ⟨c1,c2,of_decide_eq_true h⟩,fun h=>decide_eq_true (hd.1 h).2.2⟩ (out hw)
  ·rw [wrap64 (by omega) (by omega)]
   refine ⟨⟨j + 1,by omega,by omega,fun k hk hkj=>?_,out hw⟩,by dsimp only;omega⟩
   by_cases e2:k=j
   ·subst e2;exact h1
   ·exact hno k hk (by omega)
 ·have hdef:HasP p x↔(∃ h∈p.r.L,h.owner=x.id∧h.cls=x.cls∧h.many=x.many):=by unfold HasP;rw [if_neg h3]
  refine ⟨fun i w=>∃ j:Nat,i=j∧j≤p.r.L.length∧(∀ k (hk:k<p.r.L.length),k<j→p.r.L[k].owner≠x.id)∧Sat R' (rkC bx x::pts b2 (.cells (rfqV (f,q,p)).toArray plT (0,0))::pts f (rCells p.r sg sl s)::RQuAt q p.q::Hs) w,fun i _=>p.r.L.length - i.toNat,⟨0,rfl,by omega,fun k _ h=>by omega,hw⟩,?_⟩
  clear hw
  rintro _ _ w ⟨j,rfl,hj,hno,hw⟩
  refine ⟨some ⟨f,0,none⟩,At.own (eqS hw) (by exact ⟨rfl,trivial⟩),NilP.mk rfl ⟨s,At.own (eqS hw) (by exact ⟨rfl,trivial⟩),Br.d (fun hlt=>?_) (fun hlt=>?_)⟩⟩
  rotate_left
  ·refine fin ⟨fun h=>(by cases h),fun h=>?_⟩ hw
   obtain ⟨y,hy,e1,_⟩:=hdef.1 h
   obtain ⟨k,hk,rfl⟩:=List.getElem_of_mem hy
   exact absurd e1 (hno k hk (by omega))
  have hj2:j<p.r.L.length:=by omega
  refine ⟨some ⟨f,0,none⟩,At.own (eqS hw) (by exact ⟨rfl,trivial⟩),NilP.mk rfl ⟨s,At.own (eqS hw) (by exact ⟨rfl,trivial⟩),?_⟩⟩
  refine hr.hs.row (eqS hw) hj2 (by omega) fun a he=>?_
  refine ⟨p.r.L[j].owner,p.r.L[j].cls,p.r.L[j].many,ts[j]'(by omega),he,?_⟩
  refine new_rule hw fun bh w hw=>?_
  refine store_rule hw (by kernel_rfl) rfl (by simp [Value.cells]) fun w hw=>?_
  have hw:=hw.re (pts bh (.cells (rowH p.r.L[j] (ts[j]'(by omega))).toArray 197 (0,0)))
  refine ⟨p.r.L[j].owner,At.own (eqS hw) (by exact ⟨rfl,trivial⟩),x.id,At.own (eqS hw) (by exact ⟨rfl,trivial⟩),Br.e (fun h1=>?_) (fun h1=>?_)⟩
  ·have hd:=hdef.trans (has_h g.rise hj2 h1)
   refine ⟨p.r.L[j].cls,At.own (eqS hw) (by exact ⟨rfl,trivial⟩),x.cls,At.own (eqS hw) (by exact ⟨rfl,trivial⟩),Br.e (fun c1=>?_) (fun c1=>fin ⟨fun h=>(by cases h),fun h=>absurd (hd.1 h).1 c1⟩ hw.drop)⟩
   refine ⟨p.r.L[j].many,At.own (eqS hw) (by exact ⟨rfl,trivial⟩),x.many,At.own (eqS hw) (by exact ⟨rfl,trivial⟩),?_⟩
   exact fin ⟨fun h=>hd.2 ⟨c1,by simpa using h⟩,fun h=>by simpa using (hd.1 h).2⟩ hw.drop
  ·rw [wrap64 (by omega) (by omega)]
   refine ⟨⟨j + 1,by omega,by omega,fun k hk hkj=>?_,hw.drop⟩,by dsimp only;omega⟩
   by_cases e2:k=j
   ·subst e2;exact h1
   ·exact hno k hk (by omega)
end Go.Proofs.YtlplemdmegpoeaaGreatDoor
/- Reference 18: whether a book may be. Condition: bounds. -/
namespace Go.Proofs.YtlplemdmegpoeaaGreatDoor
set_option linter.unusedVariables false
set_option linter.unusedSimpArgs false
open Go Go.VC
open Classical
variable {R:Cx} {Hs Rest:List HP} {w:World}
theorem krise_get {α:Type} {f:α→Int} {l:List α} {j:Nat} (hj:j<l.length) (h:KRise f (l.take j)) (h2:0<j→f (l[j - 1]'(by omega))<f l[j]):KRise f (l.take (j + 1)):=by
 refine List.pairwise_iff_getElem.2 fun a c ha hc hac=>?_
 rw [List.length_take] at ha hc
 rw [List.getElem_take,List.getElem_take]
 have old:∀ {a c:Nat} (hc:c<j) (hac:a<c),f (l[a]'(by omega))<f (l[c]'(by omega)):=fun {a c} hc hac=>by
  have:=List.pairwise_iff_getElem.1 h a c (by rw [List.length_take];omega) (by rw [List.length_take];omega) hac
  rwa [List.getElem_take,List.getElem_take] at this
 by_cases hcj:c=j
 ·subst hcj
  have h3:=h2 (by omega)
  by_cases haj:a=c - 1
  ·subst haj;exact h3
  ·have:=old (a:=a) (c:=c - 1) (by omega) (by omega)
   omega
 ·exact old (by omega) hac
theorem krise_no {α:Type} {f:α→Int} {l:List α} {j:Nat} (hj:j<l.length) (h0:0<j) (h:¬ f (l[j - 1]'(by omega))<f l[j]):¬ KRise f l:=fun hr=>
 h (List.pairwise_iff_getElem.1 hr (j - 1) j (by omega) hj (by omega))
set_option maxHeartbeats 4000000 in
theorem rmay2_spec {p:Nat} {b:Book} (hs:BkSm b) (hw:Sat R (RBookAt p b::Hs) w):
  Gets Tryz.prog 146 #[.pointer (some ⟨p,0,none⟩)] w fun v w'=>v=.bool (decide (MayB b))∧Sat R (RBookAt p b::Hs) w':=by
 obtain ⟨sf,sb,fs,hfl,hw⟩:=Sat.rbook.1 hw
 obtain ⟨hl1,hl2⟩:=RBO.lens hw
 have hfn:fs.length=b.fl.length:=by rw [←hfl,List.length_map]
 have hget:∀ {k:Nat} (hk:k<fs.length),fs[k].2.2∈b.fl:=fun hk=>by rw [←hfl];exact List.mem_map.2 ⟨_,List.getElem_mem hk,rfl⟩
 have hix:∀ {k:Nat} (hk:k<fs.length),b.fl[k]'(by omega)=fs[k].2.2:=fun {k} hk=>by
  have:b.fl[k]? =some fs[k].2.2:=by rw [←hfl,List.getElem?_map,List.getElem?_eq_getElem hk];rfl
  rw [List.getElem?_eq_getElem (by omega)] at this
  exact Option.some.inj this
 have hfew:=hs.few
 have hmany:=hs.many
 have hsz:∀ j,things (b.fl.take j)≤10000000:=fun j=>by
  have h1:=things_le (fl:=b.fl) (j:=j)
  have h2:∀ l:List Pl,(∀ p∈l,Good p.r∧QOk p.q)→things l≤1000000 * l.length:=fun l=>by
   induction l with
   |nil=>intro _;exact Nat.le_refl _
   |cons a l ih=>
    intro h
    have i1:=ih fun p hp=>h p (List.mem_cons_of_mem _ hp)
    obtain ⟨g1,g2⟩:=h a List.mem_cons_self
    have g3:=g1.len.1
    have g4:=g2.len
    have e:things (a::l)=things [a] + things l:=things_app [a] l
    rw [e,things_one,List.length_cons]
    omega
  have h3:=h2 b.fl fun p hp=>⟨hs.good p hp,hs.qok p hp⟩
  omega
 apply call146
 suffices H:∀ K:Value→World→Prop,(∀ v w',(v=true↔MayB b)→Sat R (RBO p b.now b.next b.L sf sb fs Hs) w'→K (.bool v) w')→B146 (some ⟨p,0,none⟩) K w from
  H _ fun v w' hv h=>⟨by rw [Value.bool.injEq,Bool.eq_iff_iff,hv,decide_eq_true_iff],Sat.rbook.2 ⟨sf,sb,fs,hfl,h⟩⟩
 intro K hK
 have no:∀ {w:World},¬ MayB b→Sat R (RBO p b.now b.next b.L sf sb fs Hs) w→K (.bool false) w:=fun h hw=>hK false _ ⟨fun h=>(by cases h),fun h2=>absurd h2 h⟩ hw
 refine NilP.mk rfl ⟨b.next,At.own (eqS hw) (by exact ⟨rfl,trivial⟩),Br.d (fun h1=>no (fun h=>by have:=h.next;omega) hw) (fun hn1=>?_)⟩
 refine ⟨fun t i w=>∃ j:Nat,i=j∧j≤fs.length∧t=(things (b.fl.take j):Nat)∧KRise Pl.n (b.fl.take j)∧Sat R (RBO p b.now b.next b.L sf sb fs Hs) w,fun _ i _=>fs.length - i.toNat,⟨0,rfl,by omega,rfl,List.Pairwise.nil,hw⟩,?_⟩
 clear hw
 rintro _ _ _ w ⟨j,rfl,hj,rfl,hr,hw⟩
 refine NilP.mk rfl ⟨sf,At.own (eqS hw) (by exact ⟨rfl,trivial⟩),Br.d (fun h=>?_) (fun h=>?_)⟩
 ·have hj2:j<fs.length:=by omega
  refine ⟨fun w=>KRise Pl.n (b.fl.take (j + 1))∧Sat R (RBO p b.now b.next b.L sf sb fs Hs) w,?_,?_⟩
  ·refine drw_rule hw fun w hw=>Br.d (fun h0=>?_) (fun h0=>⟨krise_get (by omega) hr (fun h=>by omega),hw⟩)
   refine NilP.mk rfl ⟨sf,At.own selfS (by exact ⟨rfl,trivial⟩),?_⟩
   refine (OwnN.readsM (n:=2) (s:=sf) (T:=plT) (rows:=fs.map rfqV) hw selfS).rngM (E:=fs) (g:=rfqV) hj2 fun a _ hr=>?_
   refine ⟨some ⟨fs[j].1,0,none⟩,hr.zz (by exact ⟨rfl,trivial⟩),NilP.mk rfl ⟨fs[j].2.2.n,fl_num selfS hj2,?_⟩⟩
   refine NilP.mk rfl ⟨sf,At.own selfS (by exact ⟨rfl,trivial⟩),?_⟩
   rw [wrap64 (x:=(j:Int) - 1) (by omega) (by omega),show (j:Int) - 1=((j - 1:Nat):Int) by omega]
   have hj3:j - 1<fs.length:=by omega
   refine (OwnN.readsM (n:=2) (s:=sf) (T:=plT) (rows:=fs.map rfqV) hw selfS).rngM (E:=fs) (g:=rfqV) hj3 fun a _ hr2=>?_
   refine ⟨some ⟨fs[j - 1].1,0,none⟩,hr2.zz (by exact ⟨rfl,trivial⟩),NilP.mk rfl ⟨fs[j - 1].2.2.n,fl_num selfS hj3,Br.d (fun h2=>?_) (fun h2=>?_)⟩⟩
   ·exact no (fun hm=>krise_no (j:=j) (by omega) (by omega) (by rw [hix hj2,hix hj3];omega) hm.nums) hw
   ·exact ⟨krise_get (by omega) (by assumption) (fun _=>by rw [hix hj2,hix hj3];omega),hw⟩
  clear hw
  rintro _ w ⟨hr2,hw⟩
  have hw:=(RBO.fl hj2).1 hw
  have e1:b.fl.take (j + 1)=b.fl.take j++[fs[j].2.2]:=by
   have:b.fl[j]? =some fs[j].2.2:=by rw [←hfl,List.getElem?_map,List.getElem?_eq_getElem hj2];rfl
   rw [List.take_add_one,this]
   rfl
  have e2:things (b.fl.take (j + 1))=things (b.fl.take j) + (fs[j].2.2.r.L.length + fs[j].2.2.q.length):=by rw [e1,things_app,things_one]
  have e3:=hsz (j + 1)
  have hop:=@RBO.fl R Hs
  generalize hpl:fs[j]=pl at hw e2
  obtain ⟨f,q,pl⟩:=pl
  dsimp only at hw e2
  obtain ⟨sg,sl,s,ts,hts,hw⟩:=Sat.rf.1 hw
  have hw:Sat R (RQuAt q pl.q::RO f pl.r sg sl s ts (RBR p b.now b.next b.L sf sb fs j Hs)) w:=hw.arr
  obtain ⟨sq,hw⟩:=Sat.rqu.1 hw
  have hlq:=OwnN.len hw.swap
  rw [List.length_map] at hlq
  have hw:Sat R (OwnN 4 s 197 (rowsH pl.r.L ts)::pts f (rCells pl.r sg sl s)::pts q (rqCell sq)::OwnN 5 sq waT (pl.q.map wtV)::Reads sg (intsI pl.r.grps)::Reads sl (intsI pl.r.lims)::SeatsAt pl.r.L ts::RBR p b.now b.next b.L sf sb fs j Hs) w:=hw.arr
  have hls:=OwnN.len hw
  rw [rowsH_len hts] at hls
  refine drw_rule hw fun w hw=>?_
  refine NilP.mk rfl ⟨sf,At.own selfS (by exact ⟨rfl,trivial⟩),?_⟩
  refine (OwnN.readsM (n:=2) (s:=sf) (T:=plT) (rows:=fs.map rfqV) hw selfS).rngM (E:=fs) (g:=rfqV) hj2 fun a _ hr=>?_
  rw [hpl] at hr
  refine ⟨some ⟨f,0,none⟩,hr.zz (by exact ⟨rfl,trivial⟩),NilP.mk rfl ⟨s,At.own selfS (by exact ⟨rfl,trivial⟩),?_⟩⟩
  refine NilP.mk rfl ⟨sf,At.own selfS (by exact ⟨rfl,trivial⟩),?_⟩
  refine (OwnN.readsM (n:=2) (s:=sf) (T:=plT) (rows:=fs.map rfqV) hw selfS).rngM (E:=fs) (g:=rfqV) hj2 fun a _ hr=>?_
  rw [hpl] at hr
  refine ⟨some ⟨q,0,none⟩,hr.f 1 (by exact ⟨rfl,trivial⟩),NilP.mk rfl ⟨sq,At.own selfS (by exact ⟨rfl,trivial⟩),?_⟩⟩
  rw [hls,hlq,wrap64 (x:=(things (b.fl.take j):Int) + (pl.r.L.length:Int)) (by omega) (by omega),wrap64 (x:=(things (b.fl.take j):Int) + (pl.r.L.length:Int) + (pl.q.length:Int)) (by omega) (by omega),wrap64 (x:=(j:Int) + 1) (by omega) (by omega)]
  refine ⟨⟨j + 1,by omega,by omega,by rw [e2];omega,hr2,?_⟩,by dsimp only;omega⟩
  have hw:Sat R (pts q (rqCell sq)::OwnN 5 sq waT (pl.q.map wtV)::RO f pl.r sg sl s ts (RBR p b.now b.next b.L sf sb fs j Hs)) w:=hw.arr
  have hw:Sat R (RO f pl.r sg sl s ts (RQuAt q pl.q::RBR p b.now b.next b.L sf sb fs j Hs)) w:=(Sat.rqu.2 ⟨sq,hw⟩).arr
  have hw:=Sat.rf.2 ⟨sg,sl,s,ts,hts,hw⟩
  refine (RBO.fl hj2).2 ?_
  rw [hpl]
  exact hw
 ·have hj2:j=b.fl.length:=by omega
  subst hj2
  rw [List.take_length] at hr
  rw [List.take_length]
  refine ⟨fun i w=>∃ j:Nat,i=j∧j≤b.L.length∧KRise Bk.id (b.L.take j)∧(∀ x∈b.L.take j,BkMay b x)∧Sat R (RBO p b.now b.next b.L sf sb fs Hs) w,fun i _=>b.L.length - i.toNat,⟨0,rfl,by omega,List.Pairwise.nil,fun _ h=>(by cases h),hw⟩,?_⟩
  clear hw h hj
  rintro _ _ w ⟨i,rfl,hi,hri,hma,hw⟩
  refine NilP.mk rfl ⟨sb,At.own (eqS hw) (by exact ⟨rfl,trivial⟩),Br.d (fun h=>?_) (fun h=>?_)⟩
  ·have hi2:i<b.L.length:=by omega
   refine NilP.mk rfl ⟨sb,At.own (eqS hw) (by exact ⟨rfl,trivial⟩),?_⟩
   refine (OwnN.readsM (n:=6) (s:=sb) (T:=rkT) (rows:=b.L.map rkV) hw (eqS hw)).rngM (E:=b.L) (g:=rkV) hi2 fun a _ he2=>?_
   refine ⟨_,_,_,_,_,_,he2.z (by exact ⟨rfl,rfl,rfl,rfl,rfl,rfl,trivial⟩),?_⟩
   refine new_rule hw fun bx w hw=>?_
   refine store_rule hw (by kernel_rfl) rfl (by simp [Value.cells]) fun w hw=>?_
   have hw:=hw.re (rkC bx b.L[i])
   obtain ⟨x,hxe⟩:∃ x,x=b.L[i]:=⟨_,rfl⟩
   have hxm:x∈b.L:=by rw [hxe];exact List.getElem_mem hi2
   rw [←hxe] at hw
   have hw:Sat R (RBO p b.now b.next b.L sf sb fs (rkC bx x::Hs)) w:=hw.arr
   refine ⟨x.flt,At.own (eqS hw) (by exact ⟨rfl,trivial⟩),?_⟩
   refine (rflight_spec (n:=x.flt) (by omega) hw).use ?_
   clear hw
   rintro _ w ⟨⟨fi,rfl,hfi⟩,hw⟩
   have hw:Sat R (rkC bx x::RBO p b.now b.next b.L sf sb fs Hs) w:=hw.arr
   have nox:∀ {w:World},¬ BkMay b x→Sat R (rkC bx x::RBO p b.now b.next b.L sf sb fs Hs) w→K (.bool false) w:=fun h hw=>no (fun hm=>h (hm.each x hxm)) hw.drop
   refine ⟨fi,rfl,fun w=>(1≤x.id∧x.id<b.next∧KRise Bk.id (b.L.take (i + 1))∧1≤x.state∧0≤fi)∧Sat R (rkC bx x::RBO p b.now b.next b.L sf sb fs Hs) w,?_,?_⟩
   ·refine drw_rule hw fun w hw=>?_
    have tail:KRise Bk.id (b.L.take (i + 1))→1≤x.id→x.id<b.next→Br (decide (fi<0)) (K (.bool false) w) (∃ t,At (Sat R (rkC bx x::RBO p b.now b.next b.L sf sb fs Hs)) ⟨bx,0 + 4,none⟩ [.int .i64 t]∧Br (decide (t<1)) (K (.bool false) w) ((1≤x.id∧x.id<b.next∧KRise Bk.id (b.L.take (i + 1))∧1≤x.state∧0≤fi)∧Sat R (rkC bx x::RBO p b.now b.next b.L sf sb fs Hs) w)):=fun k1 k2 k3=>by
     refine Br.d (fun c4=>nox (fun hm=>?_) hw) (fun c4=>⟨x.state,At.own selfS (by exact ⟨rfl,trivial⟩),Br.d (fun c5=>nox (fun hm=>by have:=hm.state;omega) hw) (fun c5=>⟨⟨k2,k3,k1,by omega,by omega⟩,hw⟩)⟩)
     rcases hfi with ⟨_,h0⟩|⟨k,rfl,_⟩
     ·obtain ⟨pl,hpl,_⟩:=hm.has
      obtain ⟨hp1,hp2⟩:=at_some hpl
      rw [←hfl] at hp1
      obtain ⟨e,he,rfl⟩:=List.mem_map.1 hp1
      exact h0 e he hp2
     ·omega
    refine ⟨x.id,At.own selfS (by exact ⟨rfl,trivial⟩),Br.d (fun c1=>nox (fun hm=>by have:=hm.id;omega) hw) (fun c1=>⟨x.id,At.own selfS (by exact ⟨rfl,trivial⟩),NilP.mk rfl ⟨b.next,At.own selfS (by exact ⟨rfl,trivial⟩),Br.d (fun c2=>nox (fun hm=>by have:=hm.id;omega) hw) (fun c2=>Br.d (fun h0=>?_) (fun h0=>?_))⟩⟩)⟩
    ·refine ⟨x.id,At.own selfS (by exact ⟨rfl,trivial⟩),NilP.mk rfl ⟨sb,At.own selfS (by exact ⟨rfl,trivial⟩),?_⟩⟩
     rw [wrap64 (x:=(i:Int) - 1) (by omega) (by omega),show (i:Int) - 1=((i - 1:Nat):Int) by omega]
     have hi3:i - 1<b.L.length:=by omega
     refine (OwnN.readsM (n:=6) (s:=sb) (T:=rkT) (rows:=b.L.map rkV) hw selfS).rngM (E:=b.L) (g:=rkV) hi3 fun a _ hr=>?_
     refine ⟨b.L[i - 1].id,hr.zz (by exact ⟨rfl,trivial⟩),Br.d (fun c3=>?_) (fun c3=>?_)⟩
     ·exact no (fun hm=>krise_no (j:=i) hi2 (by omega) (by rw [←hxe];omega) hm.ids) hw.drop
     ·exact tail (krise_get hi2 hri (fun _=>by rw [←hxe];omega)) (by omega) (by omega)
    ·exact tail (krise_get hi2 hri (fun h=>by omega)) (by omega) (by omega)
   clear hw
   rintro _ w ⟨⟨c1,c2,c3,c4,c5⟩,hw⟩
   obtain ⟨k,rfl,hk,hkn⟩:∃ k:Nat,fi=k∧∃ hk:k<fs.length,fs[k].2.2.n=x.flt:=by
    rcases hfi with ⟨h0,_⟩|h0
    ·omega
    ·exact h0
   have hat:b.at x.flt=some fs[k].2.2:=(kget_iff hr).2 ⟨hget hk,hkn⟩
   refine ⟨fun w=>((x.state=1→b.now<x.till)∧(x.state≠1→x.till=0))∧Sat R (rkC bx x::RBO p b.now b.next b.L sf sb fs Hs) w,?_,?_⟩
   ·refine drw_rule hw fun w hw=>?_
    refine ⟨x.state,At.own selfS (by exact ⟨rfl,trivial⟩),Br.e (fun h1=>?_) (fun h1=>?_)⟩
    ·refine ⟨x.till,At.own selfS (by exact ⟨rfl,trivial⟩),NilP.mk rfl ⟨b.now,At.own selfS (by exact ⟨rfl,trivial⟩),Br.d (fun c6=>nox (fun hm=>by have:=hm.held h1;omega) hw) (fun c6=>⟨x.state,At.own selfS (by exact ⟨rfl,trivial⟩),Br.f (by simp [h1]) ⟨⟨fun _=>by omega,fun h=>absurd h1 h⟩,hw⟩⟩)⟩⟩
    ·exact ⟨x.state,At.own selfS (by exact ⟨rfl,trivial⟩),Br.t (by simp [h1]) ⟨x.till,At.own selfS (by exact ⟨rfl,trivial⟩),Br.ne (fun c6=>nox (fun hm=>c6 (hm.free h1)) hw) (fun c6=>⟨⟨fun h=>absurd h h1,fun _=>c6⟩,hw⟩)⟩⟩
   clear hw
   rintro _ w ⟨⟨c6,c7⟩,hw⟩
   refine drw_rule hw fun w hw=>?_
   refine NilP.mk rfl ⟨sf,At.own selfS (by exact ⟨rfl,trivial⟩),?_⟩
   refine (OwnN.readsM (n:=2) (s:=sf) (T:=plT) (rows:=fs.map rfqV) hw selfS).rngM (E:=fs) (g:=rfqV) hk fun a _ hr=>?_
   refine ⟨some ⟨fs[k].1,0,none⟩,some ⟨fs[k].2.1,0,none⟩,hr.z (by exact ⟨rfl,rfl,trivial⟩),x.id,x.flt,x.cls,x.many,x.state,x.till,At.own selfS (by exact ⟨rfl,rfl,rfl,rfl,rfl,rfl,trivial⟩),?_⟩
   have hw2:Sat R (RBO p b.now b.next b.L sf sb fs (rkC bx x::Hs)) w:=hw.arr
   have hw2:=(RBO.fl hk).1 hw2
   have hgp:=hs.good _ (hget hk)
   have hqp:=hs.qok _ (hget hk)
   refine (rhas2_spec (x:=x) hgp hqp.ids (by have:=hqp.len;omega) (by have:=hgp.len.1;omega) hw2).use ?_
   clear hw hw2
   rintro _ w ⟨rfl,hw⟩
   have hw:=(RBO.fl hk).2 hw
   have hw:Sat R (rkC bx x::RBO p b.now b.next b.L sf sb fs Hs) w:=hw.arr
   refine ⟨_,rfl,hw,Br.nd (fun h8=>?_) (fun h8=>?_)⟩
   ·refine nox (fun hm=>?_) hw
    obtain ⟨pl,hpl,hh⟩:=hm.has
    rw [hat] at hpl
    obtain rfl:=Option.some.inj hpl
    exact h8 hh
   ·rw [wrap64 (x:=(i:Int) + 1) (by omega) (by omega)]
    refine ⟨⟨i + 1,by omega,by omega,c3,fun y hy=>?_,hw.drop⟩,by dsimp only;omega⟩
    rw [List.take_add_one,List.getElem?_eq_getElem hi2,←hxe] at hy
    rcases List.mem_append.1 hy with hy|hy
    ·exact hma y hy
    ·have:y=x:=by simpa using hy
     rw [this]
     exact ⟨⟨c1,c2⟩,c4,c6,c7,_,hat,h8⟩
  ·have hi2:i=b.L.length:=by omega
   subst hi2
   rw [List.take_length] at hri hma
   refine NilP.mk rfl ⟨sb,At.own (eqS hw) (by exact ⟨rfl,trivial⟩),?_⟩
   rw [hl2]
   refine hK _ _ ⟨fun h=>⟨by omega,hr,hri,hma,?_⟩,fun h=>?_⟩ hw
   ·have:=beq_iff_eq.1 h
    omega
   ·have:=h.things
    exact beq_iff_eq.2 (by omega)
end Go.Proofs.YtlplemdmegpoeaaGreatDoor
/- Reference 18: Load of what was saved. Condition: none. -/
namespace Go.Proofs.YtlplemdmegpoeaaGreatDoor
set_option linter.unusedVariables false
set_option linter.unusedSimpArgs false
open Go Go.VC
open Classical
variable {R:Cx} {Hs Rest:List HP} {w:World}
theorem elPl:ElN Tryz.prog 43 43 plT 2 16:=⟨Tryz.underlying43,⟨_,Tryz.underlying43⟩,by kernel_rfl⟩
theorem elRk:ElN Tryz.prog 44 44 rkT 6 48:=⟨Tryz.underlying44,⟨_,Tryz.underlying44⟩,by kernel_rfl⟩
end Go.Proofs.YtlplemdmegpoeaaGreatDoor
/- Reference 18: Load of any bytes. Condition: a bound on the length. -/
namespace Go.Proofs.YtlplemdmegpoeaaGreatDoor
set_option linter.unusedVariables false
set_option linter.unusedSimpArgs false
open Go Go.VC
open Classical
variable {R:Cx} {Hs Rest:List HP} {w:World}
theorem rlone_decode {s:Sl} {bs:List Int} (hb:Bytes bs) (hl:bs.length≤1099511627776) (hs:SlR R.m s (b8 bs)) (hw:Sat R Hs w):
  Gets Tryz.prog 144 #[.slice s.a s.len s.cap] w fun v w'=>(decR bs=none∧v=.tuple #[.pointer none,.int .i64 6]∧Sat R Hs w')∨
   (∃ r p,decR bs=some r∧Good r∧v=.tuple #[.pointer (some ⟨p,0,none⟩),.int .i64 0]∧Sat R (RFAt p r::Hs) w'):=by
 refine (rdecode_fspec hb hs hl hw).mono ?_
 rintro v w' (⟨h,rfl,hw⟩|⟨h1,h2,p,rfl,hw⟩)
 ·exact .inl ⟨by unfold decR;rw [if_neg h],rfl,hw⟩
 ·have hd:decR bs=some (rawR bs).rf:=by unfold decR;rw [if_pos ⟨h1,h2⟩]
  rcases dec_tie hb with ⟨_,d2⟩|⟨f,_,_,_,_,d5⟩
  ·exact absurd ⟨h1,h2⟩ d2
  ·exact .inr ⟨_,p,hd,d5,rfl,hw⟩
theorem rdText_bad1 {most:Int} {r:Rd} (h:(rdText most r).2.bad=true):(rdText most r).1=[]:=by
 unfold rdText at *
 split
 ·rfl
 ·rename_i hr
  rw [if_neg hr] at h
  split at h
  ·rename_i n neg k hp
   split at h
   ·cases h
   ·rename_i hc
    rw [if_neg hc]
  ·rfl
theorem decQ_nil:decQ []=none:=by
 unfold decQ
 rw [if_neg]
 rintro ⟨h,_⟩
 have e:qRaw []=([],⟨[],true⟩):=rfl
 rw [e] at h
 cases h
theorem pl_bad {rd:Rd} (h:(plRd rd).2.bad=true):(plRd rd).1=none:=by
 have h2:(rdText 65536 (rdText 65536 rd).2).1=[]:=rdText_bad1 h
 show decPl _ _=none
 unfold decPl
 rw [h2,decQ_nil]
 cases decR (rdText 65536 rd).1<;>rfl
structure RlI (n:Nat) (r0:Rd) (j:Nat) (rd:Rd) (pls:List Pl) (fs:List FE):Prop where
 pre:PlsI n r0 j rd pls
 ok:∀ p∈pls,Good p.r∧QOk p.q
 fl:fs.map (fun e=>e.2.2)=pls
 bytes:Bytes rd.bs
 len:rd.bs.length≤1099511627776
 few:pls.length=j
set_option maxHeartbeats 8000000 in
theorem r18load2_spec {s:Sl} {bs:List Int} (hb:Bytes bs) (hl:bs.length≤1099511627776) (hs:SlR R.m s (b8 bs)) (hw:Sat R Hs w):
  Gets Tryz.prog 79 #[.slice s.a s.len s.cap] w fun v w'=>(loadB bs=none∧v=.tuple #[.pointer none,.int .i64 6]∧Sat R Hs w')∨
   (∃ b p,loadB bs=some b∧v=.tuple #[.pointer (some ⟨p,0,none⟩),.int .i64 0]∧Sat R (RBookAt p b::Hs) w'):=by
 apply call79
 suffices H:∀ K:Value→World→Prop,(loadB bs=none→∀ w',Sat R Hs w'→K (.tuple #[.pointer none,.int .i64 6]) w')→(∀ b p w',loadB bs=some b→Sat R (RBookAt p b::Hs) w'→K (.tuple #[.pointer (some ⟨p,0,none⟩),.int .i64 0]) w')→B79 s K w from
  H _ (fun e w' h=>.inl ⟨e,rfl,h⟩) fun b p w' e h=>.inr ⟨b,p,e,rfl,h⟩
 intro K hK1 hK2
 have v1:0≤(ldNow bs).1∧(ldNow bs).1≤1099511627776:=rdNum_val hb (by omega)
 have hb1:Bytes (ldNow bs).2.bs:=rdNum_bd hb
 have l1:(ldNow bs).2.bs.length≤1099511627776:=Nat.le_trans rdNum_len hl
 have v2:0≤(ldNext bs).1∧(ldNext bs).1≤28629151:=rdNum_val hb1 (by omega)
 have hb2:Bytes (ldNext bs).2.bs:=rdNum_bd hb1
 have l2:(ldNext bs).2.bs.length≤1099511627776:=Nat.le_trans rdNum_len l1
 have v3:0≤(ldMany bs).1∧(ldMany bs).1≤8:=rdNum_val hb2 (by omega)
 have hb3:Bytes (ldMany bs).2.bs:=rdNum_bd hb2
 have l3:(ldMany bs).2.bs.length≤1099511627776:=Nat.le_trans rdNum_len l2
 refine new_rule hw fun br w hw=>?_
 have hw:Sat R (pts br (rrCells s 0 false)::Hs) w:=hw
 have hw:Sat R (RRdAt br s bs ⟨bs,false⟩::Hs) w:=Sat.rrd.2 ⟨0,⟨by omega,rfl⟩,hw⟩
 refine (rrnum_spec (most:=1099511627776) hl hb hs hw).use ?_
 clear hw
 rintro _ w ⟨rfl,hw⟩
 refine ⟨_,rfl,?_⟩
 refine (rrnum_spec (most:=28629151) hl hb hs hw).use ?_
 clear hw
 rintro _ w ⟨rfl,hw⟩
 refine ⟨_,rfl,?_⟩
 have hw:Sat R (RRdAt br s bs (ldNext bs).2::Hs) w:=hw
 have e1:IntKind.i64.wrap (rdNum 1099511627776 ⟨bs,false⟩).1=(ldNow bs).1:=wrap64 (x:=(ldNow bs).1) (by omega) (by omega)
 have e2:IntKind.i64.wrap (rdNum 28629151 (rdNum 1099511627776 ⟨bs,false⟩).2).1=(ldNext bs).1:=wrap64 (x:=(ldNext bs).1) (by omega) (by omega)
 rw [e1,e2]
 refine new_rule hw fun p w hw=>?_
 obtain ⟨now,hnow⟩:∃ x,x=(ldNow bs).1:=⟨_,rfl⟩
 obtain ⟨next,hnext⟩:∃ x,x=(ldNext bs).1:=⟨_,rfl⟩
 have hw:Sat R (RRdAt br s bs (ldNext bs).2::pts p (rbCell now next ⟨none,0,0⟩ ⟨none,0,0⟩)::Hs) w:=by rw [hnow,hnext];exact hw.swap
 refine (rrnum_spec (most:=8) hl hb hs hw).use ?_
 clear hw
 rintro _ w ⟨rfl,hw⟩
 refine ⟨_,rfl,?_⟩
 obtain ⟨n,hn⟩:∃ n:Nat,(ldMany bs).1=n:=⟨_,(Int.toNat_of_nonneg v3.1).symm⟩
 obtain ⟨r0,hr0⟩:∃ x,x=(ldMany bs).2:=⟨_,rfl⟩
 have hnt:(ldMany bs).1.toNat=n:=by rw [hn,Int.toNat_natCast]
 have e3:(rdNum 8 (ldNext bs).2).1=n:=hn
 have e4:(rdNum 8 (ldNext bs).2).2=r0:=hr0.symm
 rw [e4] at hw
 rw [e3]
 rw [←hr0] at hb3 l3
 rw [hn] at v3
 have no0:plsRd n r0=none→loadB bs=none:=fun h=>load_no0 (by rw [hnt,←hr0];exact h)
 have hw:Sat R (RRdAt br s bs r0::RBO p now next [] ⟨none,0,0⟩ ⟨none,0,0⟩ [] Hs) w:=by
  have a1:=OwnN.nil (n:=2) (T:=plT) hw
  have a2:=OwnN.nil (n:=6) (T:=rkT) a1
  have a3:Sat R (RPlsAt []::OwnN 6 ⟨none,0,0⟩ rkT []::OwnN 2 ⟨none,0,0⟩ plT []::RRdAt br s bs r0::pts p (rbCell now next ⟨none,0,0⟩ ⟨none,0,0⟩)::Hs) w:=by
   unfold RPlsAt
   exact Sat.star.2 a2
  have a4:Sat R (RRdAt br s bs r0::pts p (rbCell now next ⟨none,0,0⟩ ⟨none,0,0⟩)::OwnN 2 ⟨none,0,0⟩ plT []::OwnN 6 ⟨none,0,0⟩ rkT []::RPlsAt []::Hs) w:=a3.arr
  exact a4
 refine ⟨fun i w=>∃ (j:Nat) (rd:Rd) (pls:List Pl) (fs:List FE) (sf:Sl),i=j∧j≤n∧RlI n r0 j rd pls fs∧Sat R (RRdAt br s bs rd::RBO p now next [] sf ⟨none,0,0⟩ fs Hs) w,fun i _=>n - i.toNat,
  ⟨0,r0,[],[],⟨none,0,0⟩,rfl,by omega,⟨plsI_zero,fun _ h=>(by cases h),rfl,hb3,l3,rfl⟩,hw⟩,?_⟩
 clear hw
 rintro _ _ w ⟨j,rd,pls,fs,sf,rfl,hj,ld,hw⟩
 have hfn:fs.length=j:=by rw [←ld.few,←ld.fl,List.length_map]
 refine Br.d (fun h=>?_) (fun h=>?_)
 ·have hj2:j<n:=by omega
  have hld:=ld.len
  have tl1:=rdText_len (most:=65536) (rd:=rd)
  have tb1:=rdText_bd (most:=65536) (rd:=rd) ld.bytes
  have tl2:=rdText_len (most:=65536) (rd:=(rdText 65536 rd).2)
  have tb2:=rdText_bd (most:=65536) (rd:=(rdText 65536 rd).2) tb1.2
  have hbad:=pl_bad (rd:=rd)
  have hprd:plRd rd=(decPl (rdText 65536 rd).1 (rdText 65536 (rdText 65536 rd).2).1,(rdText 65536 (rdText 65536 rd).2).2):=rfl
  have hno:=fun h=>no0 (plsI_none ld.pre hj2 h)
  have hso:=fun {pl} h=>plsI_some (p:=pl) ld.pre hj2 h
  refine (rrtext_spec (most:=65536) (by omega) hl hb hs hw).use ?_
  clear hw
  rintro _ w ⟨u1,rfl,hw⟩
  refine ⟨u1,rfl,?_⟩
  obtain ⟨R1,x1,g1,hw⟩:=Own.leak hw
  refine (rlone_decode tb1.1 (by omega) g1 hw).use ?_
  clear hw
  rintro _ w (⟨d1,rfl,hw⟩|⟨rr,f,d1,gd,rfl,hw⟩)
  ·have hpn:(plRd rd).1=none:=by rw [hprd];unfold decPl;rw [d1]
   have hload:=hno hpn
   refine ⟨none,6,rfl,?_⟩
   refine (rrtext_spec (most:=65536) (by omega) hl hb (x1.slR hs) hw).use ?_
   clear hw
   rintro _ w ⟨u2,rfl,hw⟩
   refine ⟨u2,rfl,?_⟩
   obtain ⟨R2,x2,g2,hw⟩:=Own.leak hw
   refine (rqdec_spec tb2.1 (by omega) g2 hw).use ?_
   clear hw
   have out:∀ {w:World} {v:Option Addr} {e:Int} {A:List HP},(∀ w',Sat R A w'→Sat R Hs w')→Sat R (RRdAt br s bs (plRd rd).2::A) w→∃ t:Bool,At (fun w'=>w'=w) ⟨br,0 + 2,none⟩ [.bool t]∧Br t (K (.tuple #[.pointer none,.int .i64 6]) w) (Br ((6:Int) !=0) (K (.tuple #[.pointer none,.int .i64 6]) w) (Br (e !=0) (K (.tuple #[.pointer none,.int .i64 6]) w) False)):=fun {w v e A} hA hw=>by
    obtain ⟨nn,hnn,hw2⟩:=Sat.rrd.1 hw
    exact ⟨_,At.own (eqS hw2) (by exact ⟨rfl,trivial⟩),Br.mk (fun _=>hK1 hload _ (hA _ hw.drop)) (fun _=>Br.t rfl (hK1 hload _ (hA _ hw.drop)))⟩
   rintro _ w (⟨_,rfl,hw⟩|⟨l,q,_,_,rfl,hw⟩)
   ·have hw:=x1.back (x2.back hw)
    exact ⟨none,6,rfl,fun _=>False,out (v:=none) (fun _ h=>h.drop.drop.drop.drop) hw,fun _ _ h=>h.elim⟩
   ·have hw:=(x1.back (x2.back hw)).swap
    exact ⟨some ⟨q,0,none⟩,0,rfl,fun _=>False,out (v:=none) (fun _ h=>h.drop.drop.drop.drop.drop) hw,fun _ _ h=>h.elim⟩
  refine ⟨some ⟨f,0,none⟩,0,rfl,?_⟩
  refine (rrtext_spec (most:=65536) (by omega) hl hb (x1.slR hs) hw.swap).use ?_
  clear hw
  rintro _ w ⟨u2,rfl,hw⟩
  refine ⟨u2,rfl,?_⟩
  obtain ⟨R2,x2,g2,hw⟩:=Own.leak hw
  refine (rqdec_spec tb2.1 (by omega) g2 hw).use ?_
  clear hw
  rintro _ w (⟨d2,rfl,hw⟩|⟨l,q,d2,qok,rfl,hw⟩)
  ·have hpn:(plRd rd).1=none:=by rw [hprd];unfold decPl;rw [d1,d2]
   have hload:=hno hpn
   have hw:=x1.back (x2.back hw)
   have hw:Sat R (RRdAt br s bs (plRd rd).2::RFAt f rr::RBO p now next [] sf ⟨none,0,0⟩ fs Hs) w:=hw
   refine ⟨none,6,rfl,fun _=>False,?_,fun _ _ h=>h.elim⟩
   obtain ⟨nn,hnn,hw2⟩:=Sat.rrd.1 hw
   exact ⟨_,At.own (eqS hw2) (by exact ⟨rfl,trivial⟩),Br.mk (fun _=>hK1 hload _ hw.drop.drop.drop.drop.drop.drop) (fun _=>Br.f rfl (Br.t rfl (hK1 hload _ hw.drop.drop.drop.drop.drop.drop)))⟩
  have hps:(plRd rd).1=some ⟨rr,l⟩:=by rw [hprd];unfold decPl;rw [d1,d2]
  have hpre:=hso hps
  have hgood:(plRd rd).2.bad=false:=by
   cases h:(plRd rd).2.bad with
   |false=>rfl
   |true=>rw [hbad h] at hps;cases hps
  have hbs2:Bytes (plRd rd).2.bs:=tb2.2
  have hln2:(plRd rd).2.bs.length≤1099511627776:=by show (rdText 65536 (rdText 65536 rd).2).2.bs.length≤_;omega
  have hw:=x1.back (x2.back hw)
  have hw:Sat R (RQuAt q l::RRdAt br s bs (plRd rd).2::RFAt f rr::RBO p now next [] sf ⟨none,0,0⟩ fs Hs) w:=hw
  generalize (plRd rd).2=rd2 at *
  refine ⟨some ⟨q,0,none⟩,0,rfl,?_⟩
  have hw:Sat R (RRdAt br s bs rd2::RFAt f rr::RQuAt q l::RBO p now next [] sf ⟨none,0,0⟩ fs Hs) w:=hw.arr
  refine ⟨fun w=>Sat R (RRdAt br s bs rd2::RFAt f rr::RQuAt q l::RBO p now next [] sf ⟨none,0,0⟩ fs Hs) w,?_,?_⟩
  ·obtain ⟨nn,hnn,hw2⟩:=Sat.rrd.1 hw
   exact ⟨_,At.own (eqS hw2) (by exact ⟨rfl,trivial⟩),Br.f hgood (Br.f rfl (Br.f rfl hw))⟩
  clear hw
  intro _ w hw
  refine ⟨sf,At.own (eqS hw) (by exact ⟨rfl,trivial⟩),?_⟩
  refine new_rule hw fun bp w hw=>?_
  obtain ⟨pl,hpl⟩:∃ pl:Pl,pl=⟨rr,l⟩:=⟨_,rfl⟩
  have hw:Sat R (pts bp (.cells (rfqV (f,q,pl)).toArray plT (0,0))::RRdAt br s bs rd2::RFAt f pl.r::RQuAt q pl.q::RBO p now next [] sf ⟨none,0,0⟩ fs Hs) w:=by rw [hpl];exact hw
  have hw:Sat R (OwnN 2 sf plT (fs.map rfqV)::pts bp (.cells (rfqV (f,q,pl)).toArray plT (0,0))::RRdAt br s bs rd2::RFAt f pl.r::RQuAt q pl.q::pts p (rbCell now next sf ⟨none,0,0⟩)::OwnN 6 ⟨none,0,0⟩ rkT (([]:List Bk).map rkV)::RPlsAt fs::Hs) w:=hw.arr
  refine appendN_rule (ys:=[rfqV (f,q,pl)]) elPl hw (SrcN_one ⟨_,Tryz.underlying43⟩ (b:=bp) 1 hw rfl rfl) (Wid.one rfl) (by rw [List.length_singleton,List.length_map];omega) (by rw [List.length_singleton,List.length_map];omega) fun s2 w hw=>?_
  have hw:Sat R (pts p (rbCell now next sf ⟨none,0,0⟩)::pts bp (.cells (rfqV (f,q,pl)).toArray plT (0,0))::OwnN 2 s2 plT (fs.map rfqV++[rfqV (f,q,pl)])::RRdAt br s bs rd2::RFAt f pl.r::RQuAt q pl.q::OwnN 6 ⟨none,0,0⟩ rkT (([]:List Bk).map rkV)::RPlsAt fs::Hs) w:=hw.arr
  refine store_rule hw (by kernel_rfl) rfl (by simp [Value.cells]) fun w hw=>?_
  have hw:=hw.re (pts p (rbCell now next s2 ⟨none,0,0⟩))
  rw [wrapU64 (by omega) (by omega)]
  refine ⟨⟨j + 1,rd2,pls++[pl],fs++[(f,q,pl)],s2,by omega,by omega,⟨by rw [hpl];exact hpre,fun x hx=>?_,by rw [List.map_append,ld.fl];rfl,hbs2,hln2,by rw [List.length_append,ld.few];rfl⟩,?_⟩,by dsimp only;omega⟩
  ·rcases List.mem_append.1 hx with hx|hx
   ·exact ld.ok x hx
   ·rw [List.mem_singleton.1 hx,hpl];exact ⟨gd,qok⟩
  have e5:fs.map rfqV++[rfqV (f,q,pl)]=(fs++[(f,q,pl)]).map rfqV:=by rw [List.map_append];rfl
  rw [e5] at hw
  have hw:Sat R (RFAt f pl.r::RQuAt q pl.q::RPlsAt fs::pts bp (.cells (rfqV (f,q,pl)).toArray plT (0,0))::RRdAt br s bs rd2::pts p (rbCell now next s2 ⟨none,0,0⟩)::OwnN 2 s2 plT ((fs++[(f,q,pl)]).map rfqV)::OwnN 6 ⟨none,0,0⟩ rkT (([]:List Bk).map rkV)::Hs) w:=hw.arr
  have e6:RPlsAt fs=RPlsAt (fs++[]):=by rw [List.append_nil]
  rw [e6] at hw
  have hw:=rpls_mid.2 hw
  have hw:Sat R (pts bp (.cells (rfqV (f,q,pl)).toArray plT (0,0))::RRdAt br s bs rd2::RBO p now next [] s2 ⟨none,0,0⟩ (fs++[(f,q,pl)]) Hs) w:=hw.arr
  exact hw.drop
 ·have hjn:j=n:=by omega
  subst hjn
  have hend:=plsI_end ld.pre
  have hload:=load_eq (bs:=bs) (by rw [hnt,←hr0];exact hend)
  rw [←hnow,←hnext] at hload
  have v4:0≤(rdNum 300 rd).1∧(rdNum 300 rd).1≤300:=rdNum_val ld.bytes (by omega)
  have hb4:Bytes (rdNum 300 rd).2.bs:=rdNum_bd ld.bytes
  refine (rrnum_spec (most:=300) hl hb hs hw).use ?_
  clear hw
  rintro _ w ⟨rfl,hw⟩
  refine ⟨_,rfl,?_⟩
  have hbks:ldBks rd=rdEach bkRd (rdNum 300 rd).1.toNat (rdNum 300 rd).2:=rfl
  obtain ⟨n2,hn2⟩:∃ n:Nat,(rdNum 300 rd).1=n:=⟨_,(Int.toNat_of_nonneg v4.1).symm⟩
  obtain ⟨r2,hr2⟩:∃ x,x=(rdNum 300 rd).2:=⟨_,rfl⟩
  rw [hn2,Int.toNat_natCast,←hr2] at hbks
  rw [←hr2] at hw hb4
  rw [hn2] at v4 ⊢
  refine ⟨fun i w=>∃ (k:Nat) (L:List Bk) (rd3:Rd) (sb:Sl),i=k∧k≤n2∧rdEach bkRd k r2=(L,rd3)∧Bytes rd3.bs∧Sat R (RRdAt br s bs rd3::RBO p now next L sf sb fs Hs) w,fun i _=>n2 - i.toNat,⟨0,[],r2,⟨none,0,0⟩,rfl,by omega,rfl,hb4,hw⟩,?_⟩
  clear hw h hj
  rintro _ _ w ⟨k,L,rd3,sb,rfl,hk,hpre,hb5,hw⟩
  have hsn:=rdEach_snoc bkRd k r2
  rw [hpre] at hsn
  dsimp only at hsn
  have hLl:L.length=k:=by have:=rdEach_len bkRd k r2;rw [hpre] at this;exact this
  refine Br.d (fun h=>?_) (fun h=>?_)
  ·have hk2:k<n2:=by omega
   have y1:Bytes (rdNum 28629151 rd3).2.bs:=rdNum_bd hb5
   have y2:Bytes (rdNum 9999 (rdNum 28629151 rd3).2).2.bs:=rdNum_bd y1
   have y3:Bytes (rdNum 9999 (rdNum 9999 (rdNum 28629151 rd3).2).2).2.bs:=rdNum_bd y2
   have y4:Bytes (rdNum 9999 (rdNum 9999 (rdNum 9999 (rdNum 28629151 rd3).2).2).2).2.bs:=rdNum_bd y3
   have y5:Bytes (rdNum 3 (rdNum 9999 (rdNum 9999 (rdNum 9999 (rdNum 28629151 rd3).2).2).2).2).2.bs:=rdNum_bd y4
   have hin:=bkRd_in hb5
   have hbd:=bkRd_bd hb5
   obtain ⟨x,hx⟩:∃ x,x=(bkRd rd3).1:=⟨_,rfl⟩
   obtain ⟨rd4,hrd4⟩:∃ x,x=(bkRd rd3).2:=⟨_,rfl⟩
   rw [←hx] at hin hsn
   rw [←hrd4] at hbd hsn
   have a1:=hin.id
   have a2:=hin.flt
   have a3:=hin.cls
   have a4:=hin.many
   have a5:=hin.state
   have a6:=hin.till
   have x1:(rdNum 28629151 rd3).1=x.id:=by rw [hx];rfl
   have x2:(rdNum 9999 (rdNum 28629151 rd3).2).1=x.flt:=by rw [hx];rfl
   have x3:(rdNum 9999 (rdNum 9999 (rdNum 28629151 rd3).2).2).1=x.cls:=by rw [hx];rfl
   have x4:(rdNum 9999 (rdNum 9999 (rdNum 9999 (rdNum 28629151 rd3).2).2).2).1=x.many:=by rw [hx];rfl
   have x5:(rdNum 3 (rdNum 9999 (rdNum 9999 (rdNum 9999 (rdNum 28629151 rd3).2).2).2).2).1=x.state:=by rw [hx];rfl
   have x6:(rdNum 1099511627776 (rdNum 3 (rdNum 9999 (rdNum 9999 (rdNum 9999 (rdNum 28629151 rd3).2).2).2).2).2).1=x.till:=by rw [hx];rfl
   have x7:(rdNum 1099511627776 (rdNum 3 (rdNum 9999 (rdNum 9999 (rdNum 9999 (rdNum 28629151 rd3).2).2).2).2).2).2=rd4:=by rw [hrd4];rfl
   refine (rrnum_spec (most:=28629151) hl hb hs hw).use ?_
   clear hw
   rintro _ w ⟨rfl,hw⟩
   rw [x1]
   refine ⟨_,rfl,?_⟩
   refine (rrnum_spec (most:=9999) hl hb hs hw).use ?_
   clear hw
   rintro _ w ⟨rfl,hw⟩
   rw [x2]
   refine ⟨_,rfl,?_⟩
   refine (rrnum_spec (most:=9999) hl hb hs hw).use ?_
   clear hw
   rintro _ w ⟨rfl,hw⟩
   rw [x3]
   refine ⟨_,rfl,?_⟩
   refine (rrnum_spec (most:=9999) hl hb hs hw).use ?_
   clear hw
   rintro _ w ⟨rfl,hw⟩
   rw [x4]
   refine ⟨_,rfl,?_⟩
   refine new_rule hw fun bx w hw=>?_
   refine store_rule hw (by kernel_rfl) rfl (by simp [Value.cells]) fun w hw=>?_
   rw [wrap64 (x:=x.id) (by omega) (by omega),wrap64 (x:=x.flt) (by omega) (by omega),wrap64 (x:=x.cls) (by omega) (by omega),wrap64 (x:=x.many) (by omega) (by omega)] at hw
   have hw:=hw.re (rkC bx { x with state:=0,till:=0 })
   refine (rrnum_spec (most:=3) hl hb hs hw.swap).use ?_
   clear hw
   rintro _ w ⟨rfl,hw⟩
   rw [x5]
   refine ⟨_,rfl,?_⟩
   rw [wrap64 (x:=x.state) (by omega) (by omega)]
   have hw:=hw.swap
   refine store_rule hw (by kernel_rfl) rfl (by simp [Value.cells,rkV]) fun w hw=>?_
   have hw:=hw.re (rkC bx { x with till:=0 })
   refine (rrnum_spec (most:=1099511627776) hl hb hs hw.swap).use ?_
   clear hw
   rintro _ w ⟨rfl,hw⟩
   rw [x6]
   rw [x7] at hw
   refine ⟨_,rfl,?_⟩
   rw [wrap64 (x:=x.till) (by omega) (by omega)]
   have hw:=hw.swap
   refine store_rule hw (by kernel_rfl) rfl (by simp [Value.cells,rkV]) fun w hw=>?_
   have hw:=hw.re (rkC bx x)
   have hw:Sat R (pts p (rbCell now next sf sb)::rkC bx x::RRdAt br s bs rd4::OwnN 2 sf plT (fs.map rfqV)::OwnN 6 sb rkT (L.map rkV)::RPlsAt fs::Hs) w:=hw.arr
   have sx:∀ {Hs':List HP} {w},Sat R (pts p (rbCell now next sf sb)::rkC bx x::Hs') w→Sat R [pts p (rbCell now next sf sb),rkC bx x,VC.tru] w:=fun hw=>hw.cons fun _ h=>h.restTru2
   refine drw_rule' (Sat R [pts p (rbCell now next sf sb),rkC bx x,VC.tru]) hw (fun w hw=>sx hw) fun w hw=>?_
   refine ⟨sb,At.own selfS (by exact ⟨rfl,trivial⟩),x.id,x.flt,x.cls,x.many,x.state,x.till,At.own selfS (by exact ⟨rfl,rfl,rfl,rfl,rfl,rfl,trivial⟩),?_⟩
   have hw:=hw.take (OwnN 6 sb rkT (L.map rkV))
   refine new_rule hw fun b67 w hw=>?_
   have hw:Sat R (OwnN 6 sb rkT (L.map rkV)::rkC b67 x::pts p (rbCell now next sf sb)::rkC bx x::RRdAt br s bs rd4::OwnN 2 sf plT (fs.map rfqV)::RPlsAt fs::Hs) w:=hw.swap
   refine ⟨(hw.arr:Sat R (pts p (rbCell now next sf sb)::rkC bx x::rkC b67 x::OwnN 6 sb rkT (L.map rkV)::RRdAt br s bs rd4::OwnN 2 sf plT (fs.map rfqV)::RPlsAt fs::Hs) w)|>sx,?_⟩
   refine appendN_rule (ys:=[rkV x]) elRk hw (SrcN_one ⟨_,Tryz.underlying44⟩ (b:=b67) 1 hw rfl rfl) (Wid.one rfl) (by rw [List.length_singleton,List.length_map];omega) (by rw [List.length_singleton,List.length_map];omega) fun s2 w hw=>?_
   have hw:Sat R (pts p (rbCell now next sf sb)::rkC bx x::rkC b67 x::OwnN 6 s2 rkT (L.map rkV++[rkV x])::RRdAt br s bs rd4::OwnN 2 sf plT (fs.map rfqV)::RPlsAt fs::Hs) w:=hw.arr
   refine ⟨sx hw,?_⟩
   refine store_rule hw (by kernel_rfl) rfl (by simp [Value.cells]) fun w hw=>?_
   have hw:=hw.re (pts p (rbCell now next sf s2))
   rw [wrapU64 (by omega) (by omega)]
   refine ⟨⟨k + 1,L++[x],rd4,s2,by omega,by omega,hsn,hbd,?_⟩,by dsimp only;omega⟩
   have e5:L.map rkV++[rkV x]=(L++[x]).map rkV:=by rw [List.map_append];rfl
   rw [e5] at hw
   have hw:Sat R (rkC bx x::rkC b67 x::RRdAt br s bs rd4::RBO p now next (L++[x]) sf s2 fs Hs) w:=hw.arr
   exact hw.drop.drop
  ·have hk2:k=n2:=by omega
   subst hk2
   have hall:ldBks rd=(L,rd3):=by rw [hbks,hpre]
   rw [hall] at hload
   dsimp only at hload
   refine (rrwhole_spec hs hw).use ?_
   clear hw
   rintro _ w ⟨rfl,hw⟩
   have hw:=hw.drop
   have hw:=(Sat.rbook (b:=⟨now,next,pls,L⟩)).2 ⟨sf,sb,fs,ld.fl,hw⟩
   have hsm:BkSm ⟨now,next,pls,L⟩:=⟨fun p hp=>(ld.ok p hp).1,fun p hp=>(ld.ok p hp).2,by show pls.length≤8;have:=ld.few;omega,by show L.length≤300;omega⟩
   refine ⟨_,rfl,Br.mk (fun hwh=>?_) (fun hwh=>?_)⟩
   ·refine (rmay2_spec hsm hw).use ?_
    clear hw
    rintro _ w ⟨rfl,hw⟩
    refine ⟨_,rfl,Br.nd (fun hm=>?_) (fun hm=>?_)⟩
    ·exact hK1 (by rw [hload,if_neg (fun h=>hm h.2)]) _ hw.drop
    ·exact hK2 _ _ _ (by rw [hload,if_pos ⟨hwh,hm⟩]) hw
   ·have hn:loadB bs=none:=by rw [hload,if_neg (fun h=>by rw [h.1] at hwh;cases hwh)]
    first
     |exact hK1 hn _ hw.drop
     |exact Br.t rfl (hK1 hn _ hw.drop)
end Go.Proofs.YtlplemdmegpoeaaGreatDoor
/- A flight, a book, a table: what was loaded is saved as it was, and may be. Plain. Condition: none. -/
namespace Go.Proofs.YtlplemdmegpoeaaGreatDoor
set_option linter.unusedVariables false
set_option linter.unusedSimpArgs false
open Go Go.VC
open Classical
theorem nMany_out {each:Int}:∀ (k:Nat) {r:Rd},Bytes r.bs→(nMany k each r).2.bad=false→r.bad=false∧r.bs=numsB (nMany k each r).1++(nMany k each r).2.bs
 |0,r,_,h=>⟨h,rfl⟩
 |k + 1,r,hb,h=>by
  have h2:=nMany_out k (r:=(rdNum each r).2) (rdNum_bd hb) h
  have h1:=numsB_out hb h2.1
  refine ⟨h1.1,?_⟩
  show r.bs=numsB ((rdNum each r).1::(nMany k each (rdNum each r).2).1)++(nMany k each (rdNum each r).2).2.bs
  rw [←List.singleton_append,numsB_app,List.append_assoc,←h2.2]
  exact h1.2
theorem nList_out {most each:Int} {r:Rd} (hb:Bytes r.bs) (h0:0≤most) (h:(nList most each r).2.bad=false):r.bad=false∧r.bs=listB (nList most each r).1++(nList most each r).2.bs:=by
 have h2:=nMany_out (rdNum most r).1.toNat (r:=(rdNum most r).2) (rdNum_bd hb) h
 have h1:=numsB_out hb h2.1
 have hv:=rdNum_val (most:=most) hb h0
 refine ⟨h1.1,?_⟩
 have hl:((nList most each r).1.length:Int)=(rdNum most r).1:=by
  unfold nList
  rw [nMany_len]
  omega
 unfold listB
 rw [hl,List.append_assoc]
 exact h1.2.trans (by rw [h2.2];rfl)
theorem readH_out {r:Rd} (hb:Bytes r.bs) (h:(readH r).2.bad=false):r.bad=false∧r.bs=holdB (readH r).1++(readH r).2.bs:=by
 have b1:Bytes (rdNum 28629151 r).2.bs:=rdNum_bd hb
 have b2:Bytes (rdNum 8 (rdNum 28629151 r).2).2.bs:=rdNum_bd b1
 have b3:Bytes (rdNum 600 (rdNum 8 (rdNum 28629151 r).2).2).2.bs:=rdNum_bd b2
 have h4:=nList_out b3 (by omega) h
 have h3:=numsB_out b2 h4.1
 have h2:=numsB_out b1 h3.1
 have h1:=numsB_out hb h2.1
 refine ⟨h1.1,?_⟩
 have e:r.bs=numsB [(readH r).1.owner]++(numsB [(readH r).1.cls]++(numsB [(readH r).1.many]++(listB (readH r).1.seats++(readH r).2.bs))):=by
  refine h1.2.trans ?_
  rw [h2.2,h3.2,h4.2]
  rfl
 unfold holdB
 rw [e,show ∀ a b c:Int,numsB [a,b,c]=numsB [a]++(numsB [b]++numsB [c]) from fun a b c=>by rw [←numsB_app,←numsB_app];rfl]
 simp only [List.append_assoc]
theorem readHs_out:∀ (k:Nat) {r:Rd},Bytes r.bs→(readHs k r).2.bad=false→r.bad=false∧r.bs=holdsB (readHs k r).1++(readHs k r).2.bs
 |0,r,_,h=>⟨h,rfl⟩
 |k + 1,r,hb,h=>by
  have h2:=readHs_out k (r:=(readH r).2) (readH_bd hb) h
  have h1:=readH_out hb h2.1
  refine ⟨h1.1,?_⟩
  show r.bs=holdsB ((readH r).1::(readHs k (readH r).2).1)++(readHs k (readH r).2).2.bs
  unfold holdsB at h2 ⊢
  rw [List.map_cons,List.flatten_cons,List.append_assoc,←h2.2]
  exact h1.2
theorem readHs_len:∀ (k:Nat) (r:Rd),(readHs k r).1.length=k
 |0,_=>rfl
 |k + 1,r=>by show (readHs k (readH r).2).1.length + 1=_;rw [readHs_len]
theorem rawD_out {bs:List Int} (hb:Bytes bs) (h:rdWhole (rawD bs).rd=true):bs=rencB (rawD bs).rf:=by
 have h0:=whole_nil h
 have b1:Bytes (rdNum 9999 ⟨bs,false⟩).2.bs:=rdNum_bd (rd:=⟨bs,false⟩) hb
 have b2:Bytes (rdNum 60 (rdNum 9999 ⟨bs,false⟩).2).2.bs:=rdNum_bd b1
 obtain ⟨r2,e2⟩:∃ r,r=(rdNum 60 (rdNum 9999 ⟨bs,false⟩).2).2:=⟨_,rfl⟩
 have b3:Bytes (nList 4 10 r2).2.bs:=nList_bd (by rw [e2];exact b2)
 have b4:Bytes (nList 8 10000 (nList 4 10 r2).2).2.bs:=nList_bd b3
 obtain ⟨r4,e4⟩:∃ r,r=(nList 8 10000 (nList 4 10 r2).2).2:=⟨_,rfl⟩
 rw [←e4] at b4
 have b5:Bytes (rdNum 600 r4).2.bs:=rdNum_bd b4
 have eL:(rawD bs).L=(readHs (rdNum 600 r4).1.toNat (rdNum 600 r4).2).1:=by rw [e4,e2];rfl
 have eR:(rawD bs).rd=(readHs (rdNum 600 r4).1.toNat (rdNum 600 r4).2).2:=by rw [e4,e2];rfl
 have h6:=readHs_out (rdNum 600 r4).1.toNat b5 (by rw [←eR,h0])
 have h5:=numsB_out b4 h6.1
 have h4:=nList_out b3 (most:=8) (each:=10000) (by omega) (by rw [←e4];exact h5.1)
 have h3:=nList_out (r:=r2) (most:=4) (each:=10) (by rw [e2];exact b2) (by omega) h4.1
 have h2:=numsB_out b1 (most:=60) (by rw [←e2];exact h3.1)
 have h1:=numsB_out (r:=⟨bs,false⟩) hb h2.1
 rw [←e4] at h4
 rw [←e2] at h2
 have hv:=rdNum_val (most:=600) b4 (by omega)
 have hl:((rawD bs).L.length:Int)=(rdNum 600 r4).1:=by rw [eL,readHs_len];omega
 have e:bs=numsB [(rawD bs).num]++(numsB [(rawD bs).rows]++(listB (rawD bs).grps++(listB (rawD bs).lims++(numsB [((rawD bs).L.length:Int)]++holdsB (rawD bs).L)))):=by
  refine h1.2.trans ?_
  rw [h2.2,h3.2,h4.2,h5.2,h6.2,←eR,h0,hl,eL,List.append_nil,e2]
  rfl
 show bs=encB (rawD bs).num (rawD bs).rows (rawD bs).grps (rawD bs).lims (rawD bs).L
 unfold encB
 rw [show numsB [(rawD bs).num,(rawD bs).rows]=numsB [(rawD bs).num]++numsB [(rawD bs).rows] from by rw [←numsB_app];rfl]
 simp only [List.append_assoc]
 exact e
theorem decR_out {bs:List Int} {r:RF} (hb:Bytes bs) (h:decR bs=some r):bs=rencB r∧Good r:=by
 rcases dec_tie hb with ⟨_,d2⟩|⟨f,_,d2,d3,_,d5⟩
 ·unfold decR at h
  rw [if_neg d2] at h
  cases h
 ·unfold decR at h
  rw [if_pos ⟨d2,d3⟩] at h
  obtain rfl:=Option.some.inj h
  have e:rawR bs=rawD bs:=(raw_whole bs).2 (by rw [←(raw_whole bs).1];exact d2)
  refine ⟨?_,d5⟩
  rw [e] at d2 ⊢
  exact rawD_out hb d2
theorem decQ_out {bs:List Int} {l:List Wt} (hb:Bytes bs) (h:decQ bs=some l):bs=qB l∧QOk l:=by
 unfold decQ at h
 split at h
 ·rename_i h2
  obtain rfl:=Option.some.inj h
  exact ⟨qRaw_code hb h2.1,h2.ok hb⟩
 ·cases h
theorem plRd_out {r:Rd} {p:Pl} (hb:Bytes r.bs) (h:(plRd r).1=some p):(plRd r).2.bad=false∧r.bad=false∧r.bs=plB p++(plRd r).2.bs∧Good p.r∧QOk p.q:=by
 have b1:=rdText_bd (most:=65536) hb
 have b2:=rdText_bd (most:=65536) b1.2
 have hg:(plRd r).2.bad=false:=by
  cases hbd:(plRd r).2.bad with
  |false=>rfl
  |true=>rw [pl_bad hbd] at h;cases h
 have h2:=rdText_out b1.2 hg
 have h1:=rdText_out hb h2.1
 have h3:decPl (rdText 65536 r).1 (rdText 65536 (rdText 65536 r).2).1=some p:=h
 unfold decPl at h3
 split at h3
 ·rename_i f q e1 e2
  obtain rfl:=Option.some.inj h3
  obtain ⟨c1,g1⟩:=decR_out b1.1 e1
  obtain ⟨c2,g2⟩:=decQ_out b2.1 e2
  refine ⟨hg,h1.1,?_,g1,g2⟩
  unfold plB
  show r.bs=textB (rencB f)++textB (qB q)++(rdText 65536 (rdText 65536 r).2).2.bs
  rw [←c1,←c2,List.append_assoc,←h2.2]
  exact h1.2
 ·cases h3
theorem plRd_bd {r:Rd} (hb:Bytes r.bs):Bytes (plRd r).2.bs:=(rdText_bd (rdText_bd hb).2).2
theorem plsRd_bd:∀ (k:Nat) {r:Rd} {y:List Pl × Rd},Bytes r.bs→plsRd k r=some y→Bytes y.2.bs
 |0,r,y,hb,h=>by
  obtain rfl:=Option.some.inj h
  exact hb
 |k + 1,r,y,hb,h=>by
  cases hp:(plRd r).1 with
  |none=>rw [pls_none hp] at h;cases h
  |some p=>
   rw [pls_some hp] at h
   cases hy:plsRd k (plRd r).2 with
   |none=>rw [hy] at h;cases h
   |some z=>
    rw [hy] at h
    obtain rfl:=Option.some.inj h
    exact plsRd_bd (y:=z) k (plRd_bd hb) hy
theorem plsRd_out:∀ (k:Nat) {r:Rd} {y:List Pl × Rd},Bytes r.bs→plsRd k r=some y→y.2.bad=false→r.bad=false∧r.bs=(y.1.map plB).flatten++y.2.bs∧Bytes y.2.bs∧(∀ p∈y.1,Good p.r∧QOk p.q)∧y.1.length=k
 |0,r,y,hb,h,hg=>by
  obtain rfl:=Option.some.inj h
  exact ⟨hg,rfl,hb,fun _ h=>(by cases h),rfl⟩
 |k + 1,r,y,hb,h,hg=>by
  cases hp:(plRd r).1 with
  |none=>rw [pls_none hp] at h;cases h
  |some p=>
   rw [pls_some hp] at h
   cases hy:plsRd k (plRd r).2 with
   |none=>rw [hy] at h;cases h
   |some z=>
    rw [hy] at h
    obtain rfl:=Option.some.inj h
    obtain ⟨i1,i2,i3,i4,i5⟩:=plsRd_out k (plRd_bd hb) hy hg
    obtain ⟨_,o2,o3,o4⟩:=plRd_out hb hp
    refine ⟨o2,?_,i3,fun x hx=>?_,by show z.1.length + 1=_;rw [i5]⟩
    ·show r.bs=((p::z.1).map plB).flatten++z.2.bs
     rw [List.map_cons,List.flatten_cons,List.append_assoc,←i2]
     exact o3
    ·rcases List.mem_cons.1 hx with rfl|hx
     ·exact o4
     ·exact i4 x hx
theorem bkRd_out {r:Rd} (hb:Bytes r.bs) (h:(bkRd r).2.bad=false):r.bad=false∧r.bs=bkB (bkRd r).1++(bkRd r).2.bs:=by
 have b1:Bytes (rdNum 28629151 r).2.bs:=rdNum_bd hb
 have b2:Bytes (rdNum 9999 (rdNum 28629151 r).2).2.bs:=rdNum_bd b1
 have b3:Bytes (rdNum 9999 (rdNum 9999 (rdNum 28629151 r).2).2).2.bs:=rdNum_bd b2
 have b4:Bytes (rdNum 9999 (rdNum 9999 (rdNum 9999 (rdNum 28629151 r).2).2).2).2.bs:=rdNum_bd b3
 have b5:Bytes (rdNum 3 (rdNum 9999 (rdNum 9999 (rdNum 9999 (rdNum 28629151 r).2).2).2).2).2.bs:=rdNum_bd b4
 have h6:=numsB_out b5 h
 have h5:=numsB_out b4 h6.1
 have h4:=numsB_out b3 h5.1
 have h3:=numsB_out b2 h4.1
 have h2:=numsB_out b1 h3.1
 have h1:=numsB_out hb h2.1
 refine ⟨h1.1,?_⟩
 have e:r.bs=numsB [(bkRd r).1.id]++(numsB [(bkRd r).1.flt]++(numsB [(bkRd r).1.cls]++(numsB [(bkRd r).1.many]++(numsB [(bkRd r).1.state]++(numsB [(bkRd r).1.till]++(bkRd r).2.bs))))):=by
  refine h1.2.trans ?_
  rw [h2.2,h3.2,h4.2,h5.2,h6.2]
  rfl
 rw [e]
 unfold bkB
 simp only [List.append_assoc]
theorem nodup_leG {α:Type} [DecidableEq α] {l m:List α} (h:l.Nodup) (hs:∀ x∈l,x∈m):l.length≤m.length:=by
 induction l generalizing m with
 |nil=>simp
 |cons a l ih=>
  have hp:=List.nodup_cons.1 h
  have ha:=hs a (by simp)
  have h2:=ih (m:=m.erase a) hp.2 fun x hx=>by
   refine (List.mem_erase_of_ne ?_).2 (hs x (by simp [hx]))
   rintro rfl
   exact hp.1 hx
  have h3:=List.length_erase_of_mem ha
  have h4:0<m.length:=List.length_pos_of_mem ha
  rw [List.length_cons]
  omega
theorem nodup_all {α:Type} [DecidableEq α] {l m:List α} (h:l.Nodup) (hs:∀ x∈l,x∈m) (hl:m.length≤l.length):∀ x∈m,x∈l:=by
 intro x hx
 apply Classical.byContradiction
 intro hn
 have:=nodup_leG (l:=x::l) (m:=m) (List.nodup_cons.2 ⟨hn,h⟩) fun y hy=>by
  rcases List.mem_cons.1 hy with rfl|hy
  ·exact hx
  ·exact hs y hy
 rw [List.length_cons] at this
 omega
def thingK (p:Pl):List (Int × Bool × Int):=(p.r.L.map fun h=>(p.n,false,h.owner))++p.q.map fun w=>(p.n,true,w.id)
theorem thingK_len (l:List Pl):(l.flatMap thingK).length=things l:=by
 induction l with
 |nil=>rfl
 |cons p l ih=>
  rw [List.flatMap_cons,List.length_append,ih]
  unfold thingK things
  rw [List.length_append,List.length_map,List.length_map,List.map_cons,List.sum_cons]
def bkK (x:Bk):Int × Bool × Int:=(x.flt,decide (x.state=3),x.id)
theorem may_core {b:Book} (h:MayB b) (hn:0≤b.now∧b.now≤1099511627776) (hx:b.next≤28629151) (hf:b.fl.length≤8) (hL:b.L.length≤300) (hg:∀ p∈b.fl,Good p.r∧QOk p.q) (hi:∀ x∈b.L,BkIn x):Core b:=by
 have hnd:(b.L.map bkK).Nodup:=by
  refine List.pairwise_map.2 (List.Pairwise.imp (fun {x y} hxy e=>?_) h.ids)
  have:x.id=y.id:=congrArg (fun z=>z.2.2) e
  omega
 have hsub:∀ k∈b.L.map bkK,k∈b.fl.flatMap thingK:=by
  intro k hk
  obtain ⟨x,hxL,rfl⟩:=List.mem_map.1 hk
  obtain ⟨p,hp,hh⟩:=(h.each x hxL).has
  obtain ⟨hp1,hp2⟩:=at_some hp
  refine List.mem_flatMap.2 ⟨p,hp1,?_⟩
  unfold HasP at hh
  unfold thingK bkK
  split at hh
  ·rename_i h3
   obtain ⟨⟨w,hw,e1,_⟩,_⟩:=hh
   exact List.mem_append.2 (.inr (List.mem_map.2 ⟨w,hw,by rw [hp2,e1,decide_eq_true h3]⟩))
  ·rename_i h3
   obtain ⟨o,ho,e1,_⟩:=hh
   exact List.mem_append.2 (.inl (List.mem_map.2 ⟨o,ho,by rw [hp2,e1,decide_eq_false h3]⟩))
 have hall:=nodup_all hnd hsub (by rw [thingK_len,h.things,List.length_map];exact Nat.le_refl _)
 have back:∀ {p:Pl} {s:Bool} {i:Int},p∈b.fl→(p.n,s,i)∈thingK p→∃ x∈b.L,x.id=i∧x.flt=p.n∧decide (x.state=3)=s:=by
  intro p s i hp hm
  obtain ⟨x,hxL,e⟩:=List.mem_map.1 (hall _ (List.mem_flatMap.2 ⟨p,hp,hm⟩))
  exact ⟨x,hxL,congrArg (fun z=>z.2.2) e,congrArg (fun z=>z.1) e,congrArg (fun z=>z.2.1) e⟩
 refine ⟨hn,⟨h.next,hx⟩,fun p hp=>(hg p hp).1,fun p hp=>(hg p hp).2,h.nums,hf,h.ids,fun x hxL=>?_,hL,fun x hxL=>?_,fun p hp=>⟨fun x hxL e=>?_,fun w hw=>?_,fun o ho=>?_⟩⟩
 ·have m:=h.each x hxL
  have i:=hi x hxL
  exact ⟨m.id,i.flt,i.cls,i.many,⟨m.state,i.state.2⟩,i.till,m.free⟩
 ·obtain ⟨p,hp,_⟩:=(h.each x hxL).has
  obtain ⟨hp1,hp2⟩:=at_some hp
  exact ⟨p,hp1,hp2⟩
 ·obtain ⟨p',hp',hh⟩:=(h.each x hxL).has
  obtain ⟨h1,h2⟩:=at_some hp'
  have:p'=p:=h.nums.uniq h1 hp (by omega)
  rw [←this]
  exact hh
 ·obtain ⟨x,hxL,e1,e2,e3⟩:=back (s:=true) (i:=w.id) hp (List.mem_append.2 (.inr (List.mem_map.2 ⟨w,hw,rfl⟩)))
  exact ⟨x,hxL,e1,e2,of_decide_eq_true e3⟩
 ·obtain ⟨x,hxL,e1,e2,e3⟩:=back (s:=false) (i:=o.owner) hp (List.mem_append.2 (.inl (List.mem_map.2 ⟨o,ho,rfl⟩)))
  exact ⟨x,hxL,e1,e2,of_decide_eq_false e3⟩
theorem loadB_out {bs:List Int} {b:Book} (hb:Bytes bs) (h:loadB bs=some b):bs=saveB b∧Core b:=by
 have b1:Bytes (ldNow bs).2.bs:=rdNum_bd (rd:=⟨bs,false⟩) hb
 have b2:Bytes (ldNext bs).2.bs:=rdNum_bd b1
 have b3:Bytes (ldMany bs).2.bs:=rdNum_bd b2
 have v1:0≤(ldNow bs).1∧(ldNow bs).1≤1099511627776:=rdNum_val (rd:=⟨bs,false⟩) hb (by omega)
 have v2:0≤(ldNext bs).1∧(ldNext bs).1≤28629151:=rdNum_val b1 (by omega)
 have v3:0≤(ldMany bs).1∧(ldMany bs).1≤8:=rdNum_val b2 (by omega)
 cases hp:plsRd (ldMany bs).1.toNat (ldMany bs).2 with
 |none=>rw [load_no0 hp] at h;cases h
 |some y=>
  obtain ⟨pls,r1⟩:=y
  rw [load_eq hp] at h
  split at h
  ·rename_i hc
   obtain ⟨hw,hm⟩:=hc
   obtain rfl:=Option.some.inj h
   have h0:=whole_nil hw
   have b4:Bytes r1.bs:=plsRd_bd _ b3 hp
   have b5:Bytes (rdNum 300 r1).2.bs:=rdNum_bd b4
   have v4:0≤(rdNum 300 r1).1∧(rdNum 300 r1).1≤300:=rdNum_val b4 (by omega)
   obtain ⟨o5,o6⟩:=rdEach_out (one:=bkRd) (code:=bkB) (fun r hr=>bkRd_bd hr) (fun r hr=>bkRd_out hr) (rdNum 300 r1).1.toNat b5 (by show (ldBks r1).2.bad=false;rw [h0])
   have o4:=numsB_out b4 o5
   obtain ⟨p1,p2,_,p4,p5⟩:=plsRd_out _ b3 hp o4.1
   have o3:=numsB_out b2 p1
   have o2:=numsB_out b1 o3.1
   have o1:=numsB_out (r:=⟨bs,false⟩) hb o2.1
   have hl:((ldBks r1).1.length:Int)=(rdNum 300 r1).1:=by
    show ((rdEach bkRd _ _).1.length:Int)=_
    rw [rdEach_len]
    omega
   have hpl:(pls.length:Int)=(ldMany bs).1:=by
    have:pls.length=(ldMany bs).1.toNat:=p5
    omega
   have hin:=rdEach_inv (one:=bkRd) (P:=fun r=>Bytes r.bs) (Q:=BkIn) (fun r hr=>⟨bkRd_in hr,bkRd_bd hr⟩) (rdNum 300 r1).1.toNat b5
   constructor
   ·refine (show bs=_ from o1.2).trans ?_
    rw [show (rdNum 1099511627776 ⟨bs,false⟩).2.bs=_ from o2.2,show (rdNum 28629151 (ldNow bs).2).2.bs=_ from o3.2,show (rdNum 8 (ldNext bs).2).2.bs=_ from p2,show r1.bs=_ from o4.2,o6]
    unfold saveB
    show _=numsB [(ldNow bs).1]++(numsB [(ldNext bs).1]++(numsB [(pls.length:Int)]++((pls.map plB).flatten++(numsB [((ldBks r1).1.length:Int)]++((ldBks r1).1.map bkB).flatten))))
    rw [hpl,hl]
    show _++(_++(_++(_++(_++(((ldBks r1).1.map bkB).flatten++(ldBks r1).2.bs)))))=_
    rw [h0,List.append_nil]
    rfl
   ·exact may_core hm v1 v2.2 (by show pls.length≤8;omega) (by show (ldBks r1).1.length≤300;omega) p4 hin.1
  ·cases h
theorem clRd_out {r:Rd} (hb:Bytes r.bs) (h:(clRd r).2.bad=false):r.bad=false∧r.bs=(numsB [(clRd r).1.id]++(numsB [(clRd r).1.tok]++(numsB [(clRd r).1.last]++textB (clRd r).1.rep)))++(clRd r).2.bs:=by
 have b1:Bytes (rdNum mI r).2.bs:=rdNum_bd hb
 have b2:Bytes (rdNum mI (rdNum mI r).2).2.bs:=rdNum_bd b1
 have b3:Bytes (rdNum mI (rdNum mI (rdNum mI r).2).2).2.bs:=rdNum_bd b2
 have h4:=rdText_out b3 h
 have h3:=numsB_out b2 h4.1
 have h2:=numsB_out b1 h3.1
 have h1:=numsB_out hb h2.1
 refine ⟨h1.1,?_⟩
 simp only [List.append_assoc]
 refine h1.2.trans ?_
 rw [h2.2,h3.2,h4.2]
 rfl
theorem loadT_out {bs:List Int} {t:Tb} (hb:Bytes bs) (h:loadT bs=some t):bs=saveT t∧TbC t∧RiseT t∧t.next≤1099511627776:=by
 have b1:Bytes (tN bs).2.bs:=rdNum_bd (rd:=⟨bs,false⟩) hb
 have b2:Bytes (tM bs).2.bs:=rdNum_bd b1
 have v1:0≤(tN bs).1∧(tN bs).1≤mI:=rdNum_val (rd:=⟨bs,false⟩) hb (by show (0:Int)≤1099511627776;omega)
 have v2:0≤(tM bs).1∧(tM bs).1≤64:=rdNum_val b1 (by omega)
 have hin:=rdEach_inv (one:=clRd) (P:=fun r=>Bytes r.bs) (Q:=ClIn) (fun r hr=>⟨clRd_in hr,clRd_bd hr⟩) (tM bs).1.toNat b2
 have b3:Bytes (tZ bs).2.bs:=hin.2
 have b4:=rdText_bd (most:=1048576) b3
 unfold loadT at h
 cases hl:loadB (tD bs).1 with
 |none=>rw [hl] at h;cases h
 |some b=>
  rw [hl] at h
  dsimp only at h
  split at h
  ·rename_i hc
   obtain ⟨hw,hnx,hm⟩:=hc
   obtain rfl:=Option.some.inj h
   have h0:=whole_nil hw
   obtain ⟨o5,hcore⟩:=loadB_out b4.1 hl
   have o4:=rdText_out b3 (by show (tD bs).2.bad=false;rw [h0])
   obtain ⟨o3,o3'⟩:=rdEach_out (one:=clRd) (code:=fun c=>numsB [c.id]++(numsB [c.tok]++(numsB [c.last]++textB c.rep))) (fun r hr=>clRd_bd hr) (fun r hr=>clRd_out hr) (tM bs).1.toNat b2 o4.1
   have o2:=numsB_out b1 o3
   have o1:=numsB_out (r:=⟨bs,false⟩) hb o2.1
   have hlen:(tZ bs).1.length=(tM bs).1.toNat:=rdEach_len clRd _ _
   have hmI:mI=1099511627776:=rfl
   have hc:TbC ⟨(tN bs).1,(tZ bs).1,b⟩:=by
    refine ⟨hnx,fun c hc=>?_,?_,by show (tZ bs).1.length≤64;omega,hcore⟩
    ·have i:=hin.1 c hc
     exact ⟨hm.ids c hc,i.tok,i.last,i.rep,i.by'⟩
    ·exact List.Pairwise.imp (fun {a b} h=>by omega) hm.rise
   refine ⟨?_,hc,hm.rise,by show (tN bs).1≤1099511627776;omega⟩
   rw [saveT_eq hc]
   have e3:((tZ bs).1.map clB).flatten=((tZ bs).1.map fun c=>numsB [c.id]++(numsB [c.tok]++(numsB [c.last]++textB c.rep))).flatten:=by
    congr 1
    exact List.map_congr_left fun c hcm=>clB_eq (hc.each c hcm)
   show bs=numsB [(tN bs).1]++(numsB [((tZ bs).1.length:Int)]++(((tZ bs).1.map clB).flatten++textB (saveB b)))
   rw [e3,show ((tZ bs).1.length:Int)=(tM bs).1 by omega,←o5]
   refine (show bs=_ from o1.2).trans ?_
   rw [show (rdNum mI ⟨bs,false⟩).2.bs=_ from o2.2,show (rdNum 64 (tN bs).2).2.bs=_ from o3',show (rdEach clRd (tM bs).1.toNat (tM bs).2).2.bs=_ from o4.2]
   show _++(_++(_++(textB (tD bs).1++(tD bs).2.bs)))=_
   rw [h0,List.append_nil]
  ·cases h
end Go.Proofs.YtlplemdmegpoeaaGreatDoor
/- Package session: Apply of a request to begin, alone (with nothing of what commands do). Condition: bounds. -/
namespace Go.Proofs.YtlplemdmegpoeaaGreatDoor
set_option linter.unusedVariables false
set_option linter.unusedSimpArgs false
open Go Go.VC
open Classical
variable {R:Cx} {Hs Rest:List HP} {w:World}
set_option maxHeartbeats 1000000 in
theorem sapply9_spec {p:Nat} {s:Sl} (hs:Ro R s (b8 (rqB (begQ 9)))) (hw:Sat R (TbAt p newT::Hs) w):
  Gets Tryz.prog 23 #[.pointer (some ⟨p,0,none⟩),.slice s.a s.len s.cap] w fun v w'=>v=.agg (tdV ⟨0,1,0,[]⟩ nilS).toArray∧Sat R Hs w':=by
 apply call23
 have hr:RightQ (begQ 9):=begQ_right ⟨by omega,by omega⟩
 have hlen:=rqB_len hr
 refine new_rule hw fun b4 w hw=>?_
 have hw:Sat R (tdNew b4::TbAt p newT::Hs) w:=hw
 refine (sdec_spec (rqB_bytes hr (fun _ h=>by cases h)) (by omega) hs hw).use ?_
 clear hw
 rintro _ w ⟨cs,rfl,hw⟩
 rw [rqDec_back hr] at hw ⊢
 have hw:=hw.drop
 refine ⟨1,0,0,9,cs,0,rfl,?_⟩
 refine new_rule hw fun b5 w hw=>?_
 refine store_rule hw (by kernel_rfl) rfl (by simp [Value.cells]) fun w hw=>?_
 have hw:=hw.re (rqC b5 (begQ 9) cs)
 have hw:Sat R (TbAt p newT::tdNew b4::rqC b5 (begQ 9) cs::Hs) w:=hw.arr
 refine Br.f rfl ⟨1,At.own (eqS hw) (by exact ⟨rfl,trivial⟩),Br.f rfl ⟨1,At.own (eqS hw) (by exact ⟨rfl,trivial⟩),Br.t rfl ⟨9,At.own (eqS hw) (by exact ⟨rfl,trivial⟩),?_⟩⟩⟩
 refine (sbegin_spec (tok:=9) newT_ok (by show (1:Int)<1000000;omega) hw).use ?_
 clear hw
 rintro _ w ⟨rfl,hw⟩
 have e:newT.beginT 9=(⟨0,1,0,[]⟩,⟨2,[⟨1,9,0,[]⟩],newBook⟩):=rfl
 rw [e] at hw ⊢
 refine ⟨_,_,_,nilS,rfl,?_⟩
 exact put_td (τ:=⟨0,1,0,[]⟩) (s:=nilS) hw.swap fun w hw=>⟨rfl,hw.drop.drop⟩
theorem aw19b_spec (hw:Sat R Hs w):Gets Tryz.prog 20 #[] w fun v w'=>v=.bool true∧Sat R Hs w':=by
 apply call20
 refine (snew_spec hw).use ?_
 clear hw
 rintro _ w ⟨p,rfl,hw⟩
 refine ⟨_,rfl,Br.f rfl ?_⟩
 have h9:inI 9:=⟨by omega,by omega⟩
 refine (encoded_spec (q:=begQ 9) (s:=nilS) ⟨rfl,by show 0≤9223372036854775807;omega,fun h=>absurd rfl h⟩ hw).use ?_
 clear hw
 rintro _ w ⟨t,rfl,hw⟩
 have he:(encQ (begQ 9)).1=rqB (begQ 9):=by unfold encQ;rw [if_pos (begQ_right h9)]
 rw [he] at hw
 have hlen:=rqB_len (begQ_right h9)
 obtain ⟨R1,e1,g1,hw⟩:=Own.leak hw
 refine ⟨t,rfl,?_⟩
 refine (sapply9_spec (g1.ro (by rw [List.length_map];omega)) hw).use ?_
 clear hw
 rintro _ w ⟨rfl,hw⟩
 refine ⟨0,1,0,nilS,rfl,?_⟩
 refine new_rule hw fun b w hw=>?_
 refine store_rule hw (by kernel_rfl) rfl (by simp [Value.cells]) fun w hw=>?_
 have hw:=hw.re (tdC b ⟨0,1,0,[]⟩ nilS)
 refine ⟨0,At.own (eqS hw) (by exact ⟨rfl,trivial⟩),Br.e (fun _=>?_) (fun h=>absurd rfl h)⟩
 exact ⟨1,At.own (eqS hw) (by exact ⟨rfl,trivial⟩),rfl,e1.back hw.drop⟩
end Go.Proofs.YtlplemdmegpoeaaGreatDoor
/- SL, part 23: an assignment of a map's entry among others: the entry is found or made first, and stored then. No condition. -/
namespace Go.VC
set_option linter.unusedVariables false
set_option linter.unusedSimpArgs false
variable {α:Type} [BEq α] [KeyK α]
theorem run_asInt {P:Program} {n:Int} {w:World}:(asInt (.int .i64 n)).run P w=.ok n w:=rfl
theorem entry_at {P:Program} {T:TypeId} {m:Nat} {w:World} {es:List MapEntry} {c i n:Nat} {v:Value} (hm:w.heap[m]? =some (.map es.toArray c)) (hi:i<es.length) (hn:es[i].born=n) (hu:∀ j (hj:j<i),(es[j]'(by omega)).born≠n):
  (Instr.entryStore T (.map (some m)) (.int .i64 (n:Int)) v).run P w=.ok () (w.setBlock m (.map (es.modify i fun e=>{ e with val:=v }).toArray c)):=by
 have hf:es.toArray.findIdx? (fun e=>(e.born:Int)==(n:Int))=some i:=by
  rw [List.findIdx?_toArray,List.findIdx?_eq_some_iff_getElem]
  refine ⟨hi,by simp [hn],fun j hj=>?_⟩
  have:=hu j hj
  simp only [beq_iff_eq]
  omega
 unfold Instr.entryStore
 simp only [Sem.run_bind,Result.andThen,MapKept.run_getObj_map hm,run_asInt,hf,MapKept.run_setObj_map _ hm,World.setBlock]
 congr 4
 apply Array.ext'
 simp
omit [BEq α] [KeyK α] in
theorem modify_last {β:Type} (f:β→β):∀ (a:List β) (x:β),(a++[x]).modify a.length f=a++[f x]
 |[],_=>rfl
 |y::a,x=>by
  simp only [List.cons_append,List.length_cons,List.modify_succ_cons,modify_last f a x]
theorem modify_val (k:α) (v:Value):∀ (es:List (En α)) (i:Nat) (p:Nat × Value),idxE k es i=some p→(es.map mkE).modify (p.1 - i) (fun e=>{ e with val:=v })=(setE k v es).map mkE
 |[],_,_,h=>by cases h
 |e::es,i,p,h=>by
  have hle:=idxE_set k (e::es) i p h
  rw [idxE] at h
  cases hk:(k==e.1)
  ·rw [hk] at h
   have h':idxE k es (i + 1)=some p:=by simpa using h
   have hle2:=idxE_set k es (i + 1) p h'
   obtain ⟨j,hj⟩:∃ j,p.1 - i=j + 1:=⟨p.1 - (i + 1),by omega⟩
   have ih:=modify_val k v es (i + 1) p h'
   rw [show p.1 - (i + 1)=j by omega] at ih
   rw [hj,setE,hk]
   simp only [List.map_cons,List.modify_succ_cons,Bool.false_eq_true,if_false,List.cons.injEq,true_and]
   exact ih
  ·rw [hk] at h
   simp at h;subst h
   rw [setE,hk]
   simp [mkE]
theorem modify_id {es:List (En α)} {k:α}:∀ {i:Nat} {p:Nat × Value},idxE k es i=some p→(es.map mkE).modify (p.1 - i) (fun e=>{ e with key:=KeyK.enc k })=es.map mkE:=by
 induction es with
 |nil=>intro i p h;cases h
 |cons e es ih=>
  intro i p h
  have hle:=idxE_set k (e::es) i p h
  rw [idxE] at h
  cases hk:(k==e.1)
  ·rw [hk] at h
   have h':idxE k es (i + 1)=some p:=by simpa using h
   have hle2:=idxE_set k es (i + 1) p h'
   obtain ⟨j,hj⟩:∃ j,p.1 - i=j + 1:=⟨p.1 - (i + 1),by omega⟩
   have ih:=ih h'
   rw [show p.1 - (i + 1)=j by omega] at ih
   rw [hj]
   simp only [List.map_cons,List.modify_succ_cons,List.cons.injEq,true_and]
   exact ih
  ·rw [hk] at h
   simp at h;subst h
   have:=KeyK.eq _ _ hk
   subst this
   simp [mkE]
variable {P:Program} {R:Cx} {Hs:List HP} {w:World} {m:Nat} {es:List (α × Value)} {T K E:TypeId} {z:Value}
theorem MapAt.entry (M:MapT P T α K E z) (hw:Sat R (MapAt m es::Hs) w) (k:α) (v:Value):
  ∃ w1,∃ n:Int,(Instr.mapEntry T (.map (some m)) (KeyK.enc k)).run P w=.ok (.tuple #[(getM k es).getD z,.int .i64 n]) w1∧
   ∃ w2,(Instr.entryStore T (.map (some m)) (.int .i64 n) v).run P w1=.ok () w2∧Sat R (MapAt m (putM k v es)::Hs) w2:=by
 obtain ⟨l,clk,rfl,hst,hp⟩:=MapAt.iff.1 hw
 have hm:=hp.at
 have hck:=KeyK.check P false K k w M.hK
 have hfk:=run_findKey M.hK k l w
 have fin:∀ {o o1:Obj},o=.map ((putE k v l clk).map mkE).toArray (if hasE k l then clk else clk + 1)→Sat R (MapAt m (putM k v (strip l))::Hs) ((w.setBlock m o1).setBlock m o):=fun {o o1} e=>by
  rw [e]
  exact MapAt.iff.2 ⟨putE k v l clk,_,putE_strip k v l clk,stamps_put hst k v,(hp.setPts o1).setPts _⟩
 cases hi:idxE k l 0 with
 |none=>
  have hn:=(idxE_none k l 0).1 hi
  have hg:getM k (strip l)=none:=by
   have:=hasE_strip k l
   rw [hn] at this
   exact Option.not_isSome_iff_eq_none.1 (by rw [←this];simp)
  rw [hi] at hfk
  refine ⟨w.setBlock m (.map ((l.map mkE)++[mkE (k,z,clk)]).toArray (clk + 1)),clk,?_,?_⟩
  ·unfold Instr.mapEntry
   simp only [Sem.run_bind,run_underlying M.hT,Result.andThen,MapKept.run_getObj_map hm,hck,hfk,M.hz,MapKept.run_setObj_map _ hm,World.setBlock,hg]
   simp [mkE,goInt]
  ·have h1:(w.setBlock m (.map ((l.map mkE)++[mkE (k,z,clk)]).toArray (clk + 1))).heap[m]? =some (.map ((l.map mkE)++[mkE (k,z,clk)]).toArray (clk + 1)):=(hp.setPts _).at
   refine ⟨_,entry_at (i:=l.length) (n:=clk) h1 (by simp) (by simp [mkE]) fun j hj=>?_,fin ?_⟩
   ·have hj2:j<(l.map mkE).length:=by simpa using hj
    rw [List.getElem_append_left hj2,List.getElem_map]
    have:=hst.1 _ (List.getElem_mem (by simpa using hj2:j<l.length))
    show (l[j]).2.2≠clk
    omega
   ·rw [if_neg (by rw [hn];simp)]
    congr 2
    unfold putE
    rw [if_neg (by rw [hn];simp),List.map_append]
    have e:=modify_last (fun e:MapEntry=>{ e with val:=v }) (l.map mkE) (mkE (k,z,clk))
    rw [List.length_map] at e
    rw [e]
    rfl
 |some p=>
  have hh:hasE k l=true:=by
   cases h:hasE k l
   ·rw [(idxE_none k l 0).2 h] at hi;cases hi
   ·rfl
  obtain ⟨hlt,e,he,hek⟩:=idxE_lt k l 0 p hi
  rw [Nat.sub_zero] at he
  have hlt:p.1<l.length:=by omega
  have he':e=mkE l[p.1]:=by
   rw [List.getElem?_map,List.getElem?_eq_getElem hlt] at he
   exact (Option.some.inj he).symm
  have hv:=idxE_val k l 0
  rw [hi] at hfk hv
  have hg:getM k (strip l)=some p.2:=by rw [←getE_strip,←hv];rfl
  have hkey:(((l.map mkE).toArray[p.1]?).map (·.key)).getD (KeyK.enc k)=KeyK.enc k:=by
   have:(l.map mkE).toArray[p.1]? =some e:=by simpa using he
   rw [this];exact hek
  have hborn:(((l.map mkE).toArray[p.1]?).map (fun x:MapEntry=>(x.born:Int))).getD 0=(l[p.1].2.2:Int):=by
   have:(l.map mkE).toArray[p.1]? =some e:=by simpa using he
   rw [this,he'];rfl
  have hid:=modify_id hi
  rw [Nat.sub_zero] at hid
  have hid2:(l.map mkE).toArray.modify p.1 (fun e=>{ e with key:=KeyK.enc k })=(l.map mkE).toArray:=by
   apply Array.ext'
   simpa using hid
  refine ⟨w.setBlock m (.map (l.map mkE).toArray clk),l[p.1].2.2,?_,?_⟩
  ·unfold Instr.mapEntry
   simp only [Sem.run_bind,run_underlying M.hT,Result.andThen,MapKept.run_getObj_map hm,hck,hfk,hkey,run_keyThatStays,hid2,MapKept.run_setObj_map _ hm,World.setBlock,hg,hborn]
   rfl
  ·have h1:(w.setBlock m (.map (l.map mkE).toArray clk)).heap[m]? =some (.map (l.map mkE).toArray clk):=(hp.setPts _).at
   refine ⟨_,entry_at (i:=p.1) (n:=l[p.1].2.2) h1 (by simpa using hlt) (by simp [mkE]) fun j hj=>?_,fin ?_⟩
   ·rw [List.getElem_map]
    show (l[j]).2.2≠l[p.1].2.2
    intro h
    have hnd:=hst.2
    have:=(List.getElem_inj (h₀:=by simp;omega) (h₁:=by simpa using hlt) hnd).1 (by simpa using h:(l.map (·.2.2))[j]'(by simp;omega)=(l.map (·.2.2))[p.1]'(by simpa using hlt))
    omega
   ·rw [if_pos hh]
    have:=modify_val k v l 0 p hi
    rw [Nat.sub_zero] at this
    rw [this]
    unfold putE
    rw [if_pos hh]
end Go.VC
/- Package session: Load. Condition: a bound on the length. -/
namespace Go.Proofs.YtlplemdmegpoeaaGreatDoor
set_option linter.unusedVariables false
set_option linter.unusedSimpArgs false
open Go Go.VC
open Classical
variable {R:Cx} {Hs Rest:List HP} {w:World}
def tkV (c:Cl):Int × Value:=(c.tok,.bool true)
abbrev tkMap:MapT Tryz.prog 156 Int 3 4 (.bool false):=⟨Tryz.underlying156,Tryz.underlying3,Tryz.zeroValue4⟩
theorem tk_get {tok:Int}:∀ {l:List Cl},(getM tok (l.map tkV)).getD (.bool false)=.bool (decide (tok∈l.map Cl.tok))
 |[]=>rfl
 |c::l=>by
  rw [List.map_cons,getM,List.map_cons]
  show (if tok==c.tok then some (Value.bool true) else getM tok (l.map tkV)).getD (.bool false)=_
  by_cases h:tok=c.tok
  ·rw [if_pos (by simpa using h),h]
   simp
  ·rw [if_neg (by simpa using h),tk_get]
   congr 1
   simp [h]
def TkB (T:List (Int × Value)):Prop:=∀ k,∃ b,(getM k T).getD (.bool false)=.bool b
theorem getM_set {β:Type} {k j:Int} {v:β}:∀ {es:List (Int × β)},getM j (setM k v es)=if j=k∧(getM k es).isSome then some v else getM j es
 |[]=>by simp [getM,setM]
 |e::es=>by
  rw [setM]
  by_cases h:k=e.1
  ·rw [if_pos (by simpa using h),getM,getM,getM,if_pos (show (k==e.1)=true by simpa using h)]
   by_cases hj:j=k
   ·rw [if_pos (by simp [hj,h]),if_pos ⟨hj,rfl⟩]
   ·rw [if_neg (by simp only [beq_iff_eq];omega),if_neg (by simp [hj]),if_neg (by simp only [beq_iff_eq];omega)]
  ·rw [if_neg (by simpa using h),getM,getM_set,getM,getM,if_neg (show ¬ (k==e.1)=true by simpa using h)]
   by_cases hj:j=k
   ·rw [if_neg (by simp only [beq_iff_eq];omega),hj]
    rw [if_neg (show ¬ (k==e.1)=true by simpa using h)]
   ·rw [if_neg (show ¬ (j=k∧(getM k es).isSome=true) by simp [hj]),if_neg (show ¬ (j=k∧(getM k es).isSome=true) by simp [hj])]
theorem TkB.put {T:List (Int × Value)} (h:TkB T) (k:Int) (b:Bool):TkB (putM k (.bool b) T):=by
 intro j
 unfold putM
 split
 ·rw [getM_set]
  split
  ·exact ⟨b,rfl⟩
  ·exact h j
 ·rename_i hn
  by_cases hj:j=k
  ·refine ⟨b,?_⟩
   subst hj
   rw [getM_app (by simpa using hn) (by simp)]
   rfl
  ·have:getM j (T++[(k,Value.bool b)])=getM j T:=by
    clear h hn
    induction T with
    |nil=>simp [getM,hj]
    |cons e T ih=>rw [List.cons_append,getM,getM,ih]
   rw [this]
   exact h j
def LtI (nx:Int) (last:Int) (fine:Bool) (l:List Cl) (M T:List (Int × Value)) (X:HP):Prop:=
 (fine=true∧1≤nx∧MayT nx l∧last=lastC l∧∃ E:List SE,E.map Prod.snd=l∧M=E.map cliV∧T=l.map tkV∧X=Star (E.map cliAt))∨(fine=false∧¬ (1≤nx∧MayT nx l))
theorem LtI.snoc {nx last:Int} {fine b:Bool} {l:List Cl} {M T:List (Int × Value)} {X:HP} {c:Cl} {bc:Nat} (h:LtI nx last fine l M T X)
  (hb:b=true↔fine=true∧last<c.id∧c.id<nx∧c.tok ∉ l.map Cl.tok∧(0<c.last∨c.rep=[])):
  (b=true∧∀ {R Hs w},Sat R (cliAt (bc,c)::X::Hs) w→∃ X',LtI nx c.id b (l++[c]) (putM c.id (.pointer (some ⟨bc,0,none⟩)) M) (putM c.tok (.bool true) T) X'∧Sat R (X'::Hs) w)∨
  (b=false∧LtI nx c.id b (l++[c]) (putM c.id (.pointer (some ⟨bc,0,none⟩)) M) (putM c.tok (.bool true) T) X):=by
 cases b with
 |false=>
  refine .inr ⟨rfl,.inr ⟨rfl,fun h2=>?_⟩⟩
  obtain ⟨m1,m2,m3,m4,m5⟩:=may_step.1 h2.2
  rcases h with ⟨h0,h1,hm,hl,_⟩|⟨h0,hn⟩
  ·have:=hb.2 ⟨h0,by omega,m3,m4,m5⟩
   cases this
  ·exact hn ⟨h2.1,m1⟩
 |true=>
  refine .inl ⟨rfl,fun {R Hs w} hw=>?_⟩
  obtain ⟨g0,g1,g2,g3,g4⟩:=hb.1 rfl
  rcases h with ⟨h0,h1,hm,hl,E,hE,rfl,rfl,rfl⟩|⟨h0,hn⟩
  ·have hk:=(lastC_le hm).2
   refine ⟨Star ((E++[(bc,c)]).map cliAt),.inl ⟨rfl,h1,may_step.2 ⟨hm,by omega,g2,g3,g4⟩,(lastC_snoc l c).symm,E++[(bc,c)],by rw [List.map_append,hE];rfl,?_,?_,rfl⟩,?_⟩
   ·rw [put_new fun e he=>?_,List.map_append]
    ·rfl
    ·obtain ⟨x,hx,rfl⟩:=List.mem_map.1 he
     have:=hk x.2 (by rw [←hE];exact List.mem_map.2 ⟨x,hx,rfl⟩)
     show x.2.id≠c.id
     omega
   ·rw [put_new fun e he=>?_,List.map_append]
    ·rfl
    ·obtain ⟨x,hx,rfl⟩:=List.mem_map.1 he
     intro e2
     exact g3 (List.mem_map.2 ⟨x,hx,e2⟩)
   ·rw [List.map_append]
    refine cl_mid (B:=E.map cliAt) (C:=[])|>.2 ?_
    rw [List.append_nil]
    exact hw
  ·rw [h0] at g0;cases g0
theorem load_none {bs:List Int} {n:Nat} {l:List Cl} {r0 rd:Rd} (hn:(tM bs).1.toNat=n) (h0:(tM bs).2=r0) (h:rdEach clRd n r0=(l,rd)) (hm:¬ (1≤(tN bs).1∧MayT (tN bs).1 l)):loadT bs=none:=by
 rw [loadT_eq hn h0 h]
 cases loadB (rdText 1048576 rd).1 with
 |none=>rfl
 |some b=>exact if_neg fun h=>hm h.2
set_option maxHeartbeats 4000000 in
theorem sload_spec {s:Sl} {bs:List Int} (hb:Bytes bs) (hl:bs.length≤1099511627776) (hs:Ro R s (b8 bs)) (hw:Sat R Hs w):
  Gets Tryz.prog 34 #[.slice s.a s.len s.cap] w fun v w'=>(loadT bs=none∧v=.tuple #[.pointer none,.int .i64 6]∧Sat R Hs w')∨
   (∃ t p,loadT bs=some t∧v=.tuple #[.pointer (some ⟨p,0,none⟩),.int .i64 0]∧Sat R (TbAt p t::Hs) w'):=by
 apply call34
 suffices H:∀ K:Value→World→Prop,(loadT bs=none→∀ w',Sat R Hs w'→K (.tuple #[.pointer none,.int .i64 6]) w')→(∀ t p w',loadT bs=some t→Sat R (TbAt p t::Hs) w'→K (.tuple #[.pointer (some ⟨p,0,none⟩),.int .i64 0]) w')→B34 s K w from
  H _ (fun e w' h=>.inl ⟨e,rfl,h⟩) fun t p w' e h=>.inr ⟨t,p,e,rfl,h⟩
 intro K hK1 hK2
 have b1:Bytes (tN bs).2.bs:=rdNum_bd (rd:=⟨bs,false⟩) hb
 have l1:(tN bs).2.bs.length≤1099511627776:=Nat.le_trans (rdNum_len (rd:=⟨bs,false⟩)) hl
 have b2:Bytes (tM bs).2.bs:=rdNum_bd b1
 have l2:(tM bs).2.bs.length≤1099511627776:=Nat.le_trans rdNum_len l1
 have v2:0≤(tM bs).1∧(tM bs).1≤64:=rdNum_val b1 (by omega)
 refine (fnew_spec hs hl hw).use ?_
 clear hw
 rintro _ w ⟨r,rfl,hw⟩
 refine ⟨_,rfl,?_⟩
 refine (snew_spec hw).use ?_
 clear hw
 rintro _ w ⟨p,rfl,hw⟩
 refine ⟨_,rfl,?_⟩
 refine (snum_spec (rd:=⟨bs,false⟩) hb hw.swap).use ?_
 clear hw
 rintro _ w ⟨rfl,hw⟩
 refine ⟨_,rfl,NilP.mk rfl ?_⟩
 have hw:Sat R (RdAt r (tN bs).2::TbAt p newT::Hs) w:=hw
 obtain ⟨m,bk,E0,hE0,hw⟩:=Sat.tb.1 hw.swap
 obtain rfl:E0=[]:=List.map_eq_nil_iff.1 hE0
 obtain ⟨nx,hnx⟩:∃ x,x=(tN bs).1:=⟨_,rfl⟩
 have hw:Sat R (pts p (tblC bk 1 m)::MapAt m (([]:List SE).map cliV)::Star (([]:List SE).map cliAt)::BookAt bk newBook::RdAt r (tN bs).2::Hs) w:=hw
 show ∃ _,_∧_
 rw [show (rdNum mI ⟨bs,false⟩).1=nx from hnx.symm]
 refine store_rule hw (by kernel_rfl) rfl (by simp [Value.cells]) fun w hw=>?_
 have hw:=hw.re (pts p (tblC bk nx m))
 refine new_rule hw fun m3 w hw=>?_
 have hw:=MapAt.new (α:=Int) rfl hw
 refine drw_rule hw fun w hw=>?_
 refine NilP.mk rfl ⟨nx,At.own selfS (by exact ⟨rfl,trivial⟩),?_⟩
 have hw:Sat R (RdAt r (tN bs).2::pts p (tblC bk nx m)::MapAt m (([]:List SE).map cliV)::MapAt m3 ([]:List (Int × Value))::Star (([]:List SE).map cliAt)::BookAt bk newBook::Hs) w:=hw.arr
 refine (rnum_spec (most:=64) b1 hw).use ?_
 clear hw
 rintro _ w ⟨rfl,hw⟩
 obtain ⟨n,hn⟩:∃ n:Nat,(tM bs).1=n:=⟨_,(Int.toNat_of_nonneg v2.1).symm⟩
 obtain ⟨r0,hr0⟩:∃ x,x=(tM bs).2:=⟨_,rfl⟩
 have hnt:(tM bs).1.toNat=n:=by rw [hn,Int.toNat_natCast]
 have hw:Sat R (RdAt r (tM bs).2::pts p (tblC bk nx m)::MapAt m (([]:List SE).map cliV)::MapAt m3 ([]:List (Int × Value))::Star (([]:List SE).map cliAt)::BookAt bk newBook::Hs) w:=hw
 rw [←hr0] at hw b2 l2
 refine ⟨n,by rw [←hn],?_⟩
 rw [hn] at v2
 refine ⟨fun last fine i w=>∃ (k:Nat) (l:List Cl) (rd:Rd) (M T:List (Int × Value)) (X:HP),i=k∧k≤n∧rdEach clRd k r0=(l,rd)∧Bytes rd.bs∧rd.bs.length≤1099511627776∧LtI nx last fine l M T X∧TkB T∧
  Sat R (RdAt r rd::pts p (tblC bk nx m)::MapAt m M::MapAt m3 T::X::BookAt bk newBook::Hs) w,fun _ _ i _=>n - i.toNat,⟨0,[],r0,_,_,_,rfl,by omega,rfl,b2,l2,?_,fun _=>⟨false,rfl⟩,hw⟩,?_⟩
 ·by_cases h:1≤nx
  ·exact .inl ⟨decide_eq_true h,h,MayT.nil,rfl,[],rfl,rfl,rfl,rfl⟩
  ·exact .inr ⟨decide_eq_false h,fun h2=>h h2.1⟩
 clear hw
 rintro _ last fine _ w ⟨k,l,rd,M,T,X,rfl,hk,hpre,hb3,hl3,hI,hTk,hw⟩
 have hsn:=rdEach_snoc clRd k r0
 rw [hpre] at hsn
 dsimp only at hsn
 refine Br.d (fun h=>?_) (fun h=>?_)
 ·have hk2:k<n:=by omega
  have y1:Bytes (rdNum mI rd).2.bs:=rdNum_bd hb3
  have y2:Bytes (rdNum mI (rdNum mI rd).2).2.bs:=rdNum_bd y1
  have y3:Bytes (rdNum mI (rdNum mI (rdNum mI rd).2).2).2.bs:=rdNum_bd y2
  have z3:(rdNum mI (rdNum mI (rdNum mI rd).2).2).2.bs.length≤1099511627776:=Nat.le_trans rdNum_len (Nat.le_trans rdNum_len (Nat.le_trans rdNum_len hl3))
  have hin:=clRd_in hb3
  have hbd:=clRd_bd hb3
  have hld:(clRd rd).2.bs.length≤1099511627776:=Nat.le_trans rdText_len.2 z3
  obtain ⟨c,hc⟩:∃ x,x=(clRd rd).1:=⟨_,rfl⟩
  obtain ⟨rd2,hrd2⟩:∃ x,x=(clRd rd).2:=⟨_,rfl⟩
  rw [←hc] at hin hsn
  rw [←hrd2] at hbd hld hsn
  have a1:=hin.id
  have a2:=hin.tok
  have a3:=hin.last
  have a4:=hin.rep
  refine (snum_spec hb3 hw).use ?_
  clear hw
  rintro _ w ⟨rfl,hw⟩
  rw [show (rdNum mI rd).1=c.id by rw [hc];rfl]
  refine ⟨_,rfl,?_⟩
  refine (snum_spec y1 hw).use ?_
  clear hw
  rintro _ w ⟨rfl,hw⟩
  rw [show (rdNum mI (rdNum mI rd).2).1=c.tok by rw [hc];rfl]
  refine ⟨_,rfl,?_⟩
  refine (snum_spec y2 hw).use ?_
  clear hw
  rintro _ w ⟨rfl,hw⟩
  rw [show (rdNum mI (rdNum mI (rdNum mI rd).2).2).1=c.last by rw [hc];rfl]
  refine ⟨_,rfl,?_⟩
  refine new_rule hw fun bc w hw=>?_
  have hw:Sat R (RdAt r (rdNum mI (rdNum mI (rdNum mI rd).2).2).2::pts bc (cliObj c nilS)::pts p (tblC bk nx m)::MapAt m M::MapAt m3 T::X::BookAt bk newBook::Hs) w:=hw.swap
  refine (rtext_spec (most:=65536) (by omega) z3 y3 hw).use ?_
  clear hw
  rintro _ w ⟨sr,rfl,hw⟩
  refine ⟨sr,rfl,?_⟩
  have hw:Sat R (Own sr 5 (b8 c.rep)::RdAt r rd2::pts bc (cliObj c nilS)::pts p (tblC bk nx m)::MapAt m M::MapAt m3 T::X::BookAt bk newBook::Hs) w:=by rw [hc,hrd2];rw [hc] at hw;exact hw
  have hsr:=Own.len hw
  rw [List.length_map] at hsr
  have hw:Sat R (pts bc (cliObj c nilS)::Own sr 5 (b8 c.rep)::RdAt r rd2::pts p (tblC bk nx m)::MapAt m M::MapAt m3 T::X::BookAt bk newBook::Hs) w:=hw.arr
  refine store_rule hw (by kernel_rfl) rfl (by simp [Value.cells]) fun w hw=>?_
  have hw:=hw.re (pts bc (cliObj c sr))
  refine ⟨fun b w=>(b=true↔fine=true∧last<c.id∧c.id<nx∧c.tok ∉ l.map Cl.tok∧(0<c.last∨c.rep=[]))∧Sat R (pts bc (cliObj c sr)::Own sr 5 (b8 c.rep)::RdAt r rd2::pts p (tblC bk nx m)::MapAt m M::MapAt m3 T::X::BookAt bk newBook::Hs) w,?_,?_⟩
  ·refine Br.mk (fun hf=>?_) (fun hf=>⟨⟨fun h=>(by cases h),fun h=>by rw [h.1] at hf;cases hf⟩,hw⟩)
   have hT:T=l.map tkV:=by
    rcases hI with ⟨_,_,_,_,E,_,_,hT,_⟩|⟨h0,_⟩
    ·exact hT
    ·rw [h0] at hf;cases hf
   refine Br.d (fun h1=>?_) (fun h1=>⟨⟨fun h=>(by cases h),fun h=>absurd h.2.1 h1⟩,hw⟩)
   refine NilP.mk rfl ⟨nx,At.own (eqS hw) (by exact ⟨rfl,trivial⟩),Br.d (fun h2=>?_) (fun h2=>⟨⟨fun h=>(by cases h),fun h=>absurd h.2.2.1 h2⟩,hw⟩)⟩
   refine ⟨c.tok,At.own (eqS hw) (by exact ⟨rfl,trivial⟩),decide (c.tok∈l.map Cl.tok),fun w' e=>?_,?_⟩
   ·rw [show w'=w from e]
    have hm:Sat R (MapAt m3 T::pts bc (cliObj c sr)::Own sr 5 (b8 c.rep)::RdAt r rd2::pts p (tblC bk nx m)::MapAt m M::X::BookAt bk newBook::Hs) w:=hw.arr
    have:=MapAt.look tkMap hm c.tok false
    rw [hT] at this
    rw [←tk_get]
    exact this
   refine Br.nd (fun h3=>?_) (fun h3=>⟨⟨fun h=>(by cases h),fun h=>absurd h3 h.2.2.2.1⟩,hw⟩)
   refine ⟨c.last,At.own (eqS hw) (by exact ⟨rfl,trivial⟩),Br.d (fun h4=>⟨⟨fun _=>⟨hf,h1,h2,h3,.inl h4⟩,fun _=>rfl⟩,hw⟩) (fun h4=>?_)⟩
   refine ⟨sr,At.own (eqS hw) (by exact ⟨rfl,trivial⟩),⟨fun h=>⟨hf,h1,h2,h3,.inr ?_⟩,fun h=>?_⟩,hw⟩
   ·have:sr.len=0:=by simpa using h
    exact List.length_eq_zero_iff.1 (by omega)
   ·have:c.rep=[]:=h.2.2.2.2.resolve_left (by omega)
    have h0:sr.len=0:=by rw [hsr,this];rfl
    simpa using h0
  clear hw
  rintro _ b w ⟨hbi,hw⟩
  have hst:=LtI.snoc (bc:=bc) hI hbi
  refine drw_rule hw fun w hw=>?_
  refine ⟨c.tok,At.own selfS (by exact ⟨rfl,trivial⟩),?_⟩
  have hw:Sat R (MapAt m3 T::pts p (tblC bk nx m)::pts bc (cliObj c sr)::Own sr 5 (b8 c.rep)::RdAt r rd2::MapAt m M::X::BookAt bk newBook::Hs) w:=hw.arr
  obtain ⟨b0,hb0⟩:=hTk c.tok
  have hTk2:=hTk.put c.tok true
  obtain ⟨w1,st,hr1,w2,hr2,hw⟩:=MapAt.entry tkMap hw c.tok (.bool true)
  rw [hb0] at hr1
  refine ⟨w1,b0,st,hr1,w2,hr2,NilP.mk rfl ⟨some m,At.own (eqS hw) (by exact ⟨rfl,trivial⟩),?_⟩⟩
  have hw:Sat R (MapAt m M::MapAt m3 (putM c.tok (.bool true) T)::pts p (tblC bk nx m)::pts bc (cliObj c sr)::Own sr 5 (b8 c.rep)::RdAt r rd2::X::BookAt bk newBook::Hs) w2:=hw.arr
  refine MapAt.put cMap hw c.id (.pointer (some ⟨bc,0,none⟩)) fun w hw=>?_
  rw [wrapU64 (by omega) (by omega)]
  rcases hst with ⟨_,hst⟩|⟨_,hst⟩
  ·have hw:Sat R (pts bc (cliObj c sr)::Own sr 5 (b8 c.rep)::X::RdAt r rd2::pts p (tblC bk nx m)::MapAt m (putM c.id (.pointer (some ⟨bc,0,none⟩)) M)::MapAt m3 (putM c.tok (.bool true) T)::BookAt bk newBook::Hs) w:=hw.arr
   obtain ⟨X',hI',hw⟩:=hst (Sat.cli (e:=(bc,c))|>.2 ⟨sr,hw⟩)
   exact ⟨⟨k + 1,_,_,_,_,X',by omega,by omega,hsn,hbd,hld,hI',hTk2,hw.arr⟩,by dsimp only;omega⟩
  ·have hw:Sat R (pts bc (cliObj c sr)::Own sr 5 (b8 c.rep)::RdAt r rd2::pts p (tblC bk nx m)::MapAt m (putM c.id (.pointer (some ⟨bc,0,none⟩)) M)::MapAt m3 (putM c.tok (.bool true) T)::X::BookAt bk newBook::Hs) w:=hw.arr
   exact ⟨⟨k + 1,_,_,_,_,X,by omega,by omega,hsn,hbd,hld,hst,hTk2,hw.drop.drop⟩,by dsimp only;omega⟩
 ·have hk2:k=n:=by omega
  subst hk2
  have hno:=load_none hnt hr0.symm hpre
  have heq:=loadT_eq hnt hr0.symm hpre
  rw [←hnx] at hno heq
  refine (rtext_spec (most:=1048576) (by omega) hl3 hb3 hw).use ?_
  clear hw
  rintro _ w ⟨st,rfl,hw⟩
  have b5:=rdText_bd (most:=1048576) hb3
  have l5:=rdText_len (most:=1048576) (rd:=rd)
  generalize rdText 1048576 rd=D at *
  refine ⟨st,rfl,?_⟩
  obtain ⟨R1,e1,g1,hw⟩:=Own.leak hw
  refine (bload_spec b5.1 (by omega) (g1.ro (by rw [List.length_map];omega)) hw).use ?_
  clear hw
  rintro _ w (⟨hn0,rfl,hw⟩|⟨b,pb,hn0,_,rfl,hw⟩)
  ·have hnone:loadT bs=none:=by rw [heq,hn0]
   refine ⟨_,_,rfl,?_⟩
   refine (whole_spec hw).use ?_
   clear hw
   rintro _ w ⟨rfl,hw⟩
   have hw:Sat R Hs w:=(e1.back hw).drop.drop.drop.drop.drop.drop
   refine ⟨_,rfl,Br.mk (fun _=>hK1 hnone _ hw) (fun _=>Br.mk (fun _=>hK1 hnone _ hw) (fun _=>Br.t rfl (hK1 hnone _ hw)))⟩
  ·rw [hn0] at heq
   dsimp only at heq
   refine ⟨_,_,rfl,?_⟩
   refine (whole_spec hw.swap).use ?_
   clear hw
   rintro _ w ⟨rfl,hw⟩
   have hw:Sat R (RdAt r D.2::BookAt pb b::pts p (tblC bk nx m)::MapAt m M::MapAt m3 T::X::BookAt bk newBook::Hs) w:=e1.back hw
   have out:∀ {w},Sat R (RdAt r D.2::BookAt pb b::pts p (tblC bk nx m)::MapAt m M::MapAt m3 T::X::BookAt bk newBook::Hs) w→Sat R Hs w:=fun hw=>hw.drop.drop.drop.drop.drop.drop.drop
   refine ⟨_,rfl,Br.nb (fun h0=>hK1 (by rw [heq,if_neg fun h=>by rw [h.1] at h0;cases h0]) _ (out hw)) (fun h0=>?_)⟩
   rcases hI with ⟨rfl,n1,hm,_,E,hE,rfl,rfl,rfl⟩|⟨rfl,hm⟩
   ·refine Br.f rfl (Br.f rfl (NilP.mk rfl ?_))
    rw [add_off]
    have hw:Sat R (pts p (tblC bk nx m)::MapAt m (E.map cliV)::Star (E.map cliAt)::BookAt pb b::RdAt r D.2::MapAt m3 (l.map tkV)::BookAt bk newBook::Hs) w:=hw.arr
    refine store_rule hw (by kernel_rfl) rfl (by simp [Value.cells]) fun w hw=>?_
    have hw:=hw.re (pts p (tblC pb nx m))
    refine hK2 _ p _ (by rw [heq,if_pos ⟨h0,n1,hm⟩]) (Sat.tb.2 ⟨m,pb,E,hE,?_⟩)
    exact hw.cons fun _ h=>h.cons fun _ h=>h.cons fun _ h=>h.cons fun _ h=>h.drop.drop.drop
   ·exact Br.t rfl (hK1 (hno hm) _ (out hw))
end Go.Proofs.YtlplemdmegpoeaaGreatDoor
/- Reference 19: the table in memory; Load of any bytes. Condition: a bound on the length. -/
namespace Go.Proofs.YtlplemdmegpoeaaGreatDoor
set_option linter.unusedVariables false
set_option linter.unusedSimpArgs false
open Go Go.VC
open Classical
variable {R:Cx} {Hs Rest:List HP} {w:World}
abbrev seT:TypeId:=66
abbrev CE:=Cl × Sl
def seV (e:CE):List Value:=[.int .i64 e.1.id,.int .i64 e.1.tok,.int .i64 e.1.last,.slice e.2.a e.2.len e.2.cap]
abbrev r9Cell (next:Int) (sl:Sl) (bp:Option Addr):Obj:=.cells [.int .i64 next,.slice sl.a sl.len sl.cap,.pointer bp].toArray 64 (0,0)
def repAt (e:CE):HP:=Own e.2 5 (b8 e.1.rep)
abbrev RTO (p:Nat) (next:Int) (sl:Sl) (bp:Option Addr) (E:List CE) (Hs:List HP):List HP:=pts p (r9Cell next sl bp)::OwnN 4 sl seT (E.map seV)::Star (E.map repAt)::Hs
def RTbAt (p:Nat) (t:Tb):HP:=exs fun sl:Sl=>exs fun bk:Nat=>exs fun E:List CE=>Star [pur (E.map Prod.fst=t.cl),pts p (r9Cell t.next sl (some ⟨bk,0,none⟩)),OwnN 4 sl seT (E.map seV),Star (E.map repAt),RBookAt bk t.bk]
theorem Sat.rtb {p:Nat} {t:Tb}:Sat R (RTbAt p t::Hs) w↔∃ sl bk,∃ E:List CE,E.map Prod.fst=t.cl∧Sat R (RTO p t.next sl (some ⟨bk,0,none⟩) E (RBookAt bk t.bk::Hs)) w:=by
 unfold RTbAt
 simp only [Sat.exs]
 constructor
 ·rintro ⟨sl,b,E,h⟩
  obtain ⟨h1,h2⟩:=Sat.pur.1 (Sat.star.1 h)
  exact ⟨sl,b,E,h1,h2⟩
 ·rintro ⟨sl,b,E,h1,h2⟩
  exact ⟨sl,b,E,Sat.star.2 (Sat.pur.2 ⟨h1,h2⟩)⟩
theorem elSe:ElN Tryz.prog 62 62 seT 4 48:=⟨Tryz.underlying62,⟨_,Tryz.underlying62⟩,by kernel_rfl⟩
abbrev seC (b:Nat) (e:CE):HP:=pts b (.cells (seV e).toArray seT (0,0))
theorem star_snoc {A:List HP} {B:HP}:Sat R (Star (A++[B])::Hs) w↔Sat R (B::Star A::Hs) w:=by
 have:=cl_mid (R:=R) (Hs:=Hs) (w:=w) (A:=B) (B:=A) (C:=[])
 rw [List.append_nil] at this
 exact this
theorem load_pre {bs:List Int} {k m:Nat} {l:List Cl} {r0 rd:Rd} (hn:(tM bs).1.toNat=k + m) (h0:(tM bs).2=r0) (h:rdEach clRd k r0=(l,rd)) (hm:¬ MayT (tN bs).1 l):loadT bs=none:=by
 obtain ⟨⟨l2,rd2⟩,h2⟩:∃ x,x=rdEach clRd (k + m) r0:=⟨_,rfl⟩
 have ha:=rdEach_add clRd m k r0
 rw [h,←h2] at ha
 dsimp only at ha
 refine load_none hn h0 h2.symm fun hx=>?_
 rw [ha] at hx
 exact hm hx.2.pre
set_option maxHeartbeats 8000000 in
theorem r19load_spec {s:Sl} {bs:List Int} (hb:Bytes bs) (hl:bs.length≤1099511627776) (hs:SlR R.m s (b8 bs)) (hw:Sat R Hs w):
  Gets Tryz.prog 25 #[.slice s.a s.len s.cap] w fun v w'=>(loadT bs=none∧v=.tuple #[.pointer none,.int .i64 6]∧Sat R Hs w')∨
   (∃ t p,loadT bs=some t∧v=.tuple #[.pointer (some ⟨p,0,none⟩),.int .i64 0]∧Sat R (RTbAt p t::Hs) w'):=by
 apply call25
 suffices H:∀ K:Value→World→Prop,(loadT bs=none→∀ w',Sat R Hs w'→K (.tuple #[.pointer none,.int .i64 6]) w')→(∀ t p w',loadT bs=some t→Sat R (RTbAt p t::Hs) w'→K (.tuple #[.pointer (some ⟨p,0,none⟩),.int .i64 0]) w')→B25 s K w from
  H _ (fun e w' h=>.inl ⟨e,rfl,h⟩) fun t p w' e h=>.inr ⟨t,p,e,rfl,h⟩
 intro K hK1 hK2
 have b1:Bytes (tN bs).2.bs:=rdNum_bd (rd:=⟨bs,false⟩) hb
 have v1:0≤(tN bs).1∧(tN bs).1≤1099511627776:=rdNum_val (rd:=⟨bs,false⟩) hb (by show (0:Int)≤1099511627776;omega)
 have b2:Bytes (tM bs).2.bs:=rdNum_bd b1
 have v2:0≤(tM bs).1∧(tM bs).1≤64:=rdNum_val b1 (by omega)
 refine new_rule hw fun br w hw=>?_
 have hw:Sat R (pts br (rrCells s 0 false)::Hs) w:=hw
 have hw:Sat R (RRdAt br s bs ⟨bs,false⟩::Hs) w:=Sat.rrd.2 ⟨0,⟨by omega,rfl⟩,hw⟩
 refine (rrnum_spec (most:=mI) hl hb hs hw).use ?_
 clear hw
 rintro _ w ⟨rfl,hw⟩
 obtain ⟨nx,hnx⟩:∃ x,x=(tN bs).1:=⟨_,rfl⟩
 have hw:Sat R (RRdAt br s bs (tN bs).2::Hs) w:=hw
 rw [show (rdNum mI ⟨bs,false⟩).1=nx from hnx.symm]
 rw [←hnx] at v1
 refine ⟨_,rfl,?_⟩
 rw [wrap64 (by omega) (by omega)]
 refine new_rule hw fun p w hw=>?_
 refine (rrnum_spec (most:=64) hl hb hs hw.swap).use ?_
 clear hw
 rintro _ w ⟨rfl,hw⟩
 obtain ⟨n,hn⟩:∃ n:Nat,(tM bs).1=n:=⟨_,(Int.toNat_of_nonneg v2.1).symm⟩
 obtain ⟨r0,hr0⟩:∃ x,x=(tM bs).2:=⟨_,rfl⟩
 have hnt:(tM bs).1.toNat=n:=by rw [hn,Int.toNat_natCast]
 have hw:Sat R (RRdAt br s bs (tM bs).2::pts p (r9Cell nx nilS none)::Hs) w:=hw
 rw [←hr0] at hw b2
 refine ⟨n,by rw [←hn],?_⟩
 rw [hn] at v2
 have hw:Sat R (OwnN 4 nilS seT (([]:List CE).map seV)::RRdAt br s bs r0::pts p (r9Cell nx nilS none)::Hs) w:=OwnN.nil hw
 have hw:Sat R (RRdAt br s bs r0::RTO p nx nilS none [] Hs) w:=by
  have h2:Sat R (Star (([]:List CE).map repAt)::OwnN 4 nilS seT (([]:List CE).map seV)::RRdAt br s bs r0::pts p (r9Cell nx nilS none)::Hs) w:=Sat.star.2 hw
  exact h2.arr
 refine ⟨fun i w=>∃ (k:Nat) (rd:Rd) (sl:Sl) (E:List CE),i=k∧k≤n∧rdEach clRd k r0=(E.map Prod.fst,rd)∧Bytes rd.bs∧MayT nx (E.map Prod.fst)∧Sat R (RRdAt br s bs rd::RTO p nx sl none E Hs) w,fun i _=>n - i.toNat,
  ⟨0,r0,nilS,[],rfl,by omega,rfl,b2,MayT.nil,hw⟩,?_⟩
 clear hw
 rintro _ _ w ⟨k,rd,sl,E,rfl,hk,hpre,hb3,hmay,hw⟩
 have hsn:=rdEach_snoc clRd k r0
 rw [hpre] at hsn
 dsimp only at hsn
 have hEl:E.length=k:=by have:=rdEach_len clRd k r0;rw [hpre] at this;simpa using this
 refine Br.d (fun h=>?_) (fun h=>?_)
 ·have hk2:k<n:=by omega
  have y1:Bytes (rdNum mI rd).2.bs:=rdNum_bd hb3
  have y2:Bytes (rdNum mI (rdNum mI rd).2).2.bs:=rdNum_bd y1
  have y3:Bytes (rdNum mI (rdNum mI (rdNum mI rd).2).2).2.bs:=rdNum_bd y2
  have hin:=clRd_in hb3
  have hbd:=clRd_bd hb3
  obtain ⟨c,hc⟩:∃ x,x=(clRd rd).1:=⟨_,rfl⟩
  obtain ⟨rd2,hrd2⟩:∃ x,x=(clRd rd).2:=⟨_,rfl⟩
  rw [←hc] at hin hsn
  rw [←hrd2] at hbd hsn
  have a1:=hin.id
  have a2:=hin.tok
  have a3:=hin.last
  have a4:=hin.rep
  have hno:¬ MayT nx (E.map Prod.fst++[c])→loadT bs=none:=fun h=>load_pre (k:=k + 1) (m:=n - (k + 1)) (by omega) hr0.symm hsn (by rw [←hnx];exact h)
  refine (rrnum_spec (most:=mI) hl hb hs hw).use ?_
  clear hw
  rintro _ w ⟨rfl,hw⟩
  rw [show (rdNum mI rd).1=c.id by rw [hc];rfl]
  refine ⟨_,rfl,?_⟩
  refine (rrnum_spec (most:=mI) hl hb hs hw).use ?_
  clear hw
  rintro _ w ⟨rfl,hw⟩
  rw [show (rdNum mI (rdNum mI rd).2).1=c.tok by rw [hc];rfl]
  refine ⟨_,rfl,?_⟩
  refine (rrnum_spec (most:=mI) hl hb hs hw).use ?_
  clear hw
  rintro _ w ⟨rfl,hw⟩
  rw [show (rdNum mI (rdNum mI (rdNum mI rd).2).2).1=c.last by rw [hc];rfl]
  refine ⟨_,rfl,?_⟩
  refine new_rule hw fun bs8 w hw=>?_
  refine store_rule hw (by kernel_rfl) rfl (by simp [Value.cells]) fun w hw=>?_
  rw [wrap64 (x:=c.id) (by omega) (by omega),wrap64 (x:=c.tok) (by omega) (by omega),wrap64 (x:=c.last) (by omega) (by omega)] at hw
  have hw:=hw.re (seC bs8 (c,nilS))
  have hw:Sat R (RRdAt br s bs (rdNum mI (rdNum mI (rdNum mI rd).2).2).2::seC bs8 (c,nilS)::RTO p nx sl none E Hs) w:=hw.swap
  refine (rrtext_spec (most:=65536) (by omega) hl hb hs hw).use ?_
  clear hw
  rintro _ w ⟨sr,rfl,hw⟩
  refine ⟨sr,rfl,?_⟩
  have hw:Sat R (Own sr 5 (b8 c.rep)::RRdAt br s bs rd2::seC bs8 (c,nilS)::RTO p nx sl none E Hs) w:=by rw [hc,hrd2];rw [hc] at hw;exact hw
  have hsr:=Own.len hw
  rw [List.length_map] at hsr
  have hw:Sat R (seC bs8 (c,nilS)::Own sr 5 (b8 c.rep)::RRdAt br s bs rd2::RTO p nx sl none E Hs) w:=hw.arr
  refine store_rule hw (by kernel_rfl) rfl (by simp [Value.cells,seV]) fun w hw=>?_
  have hw:=hw.re (seC bs8 (c,sr))
  have out:∀ {w},Sat R (seC bs8 (c,sr)::Own sr 5 (b8 c.rep)::RRdAt br s bs rd2::RTO p nx sl none E Hs) w→Sat R Hs w:=fun hw=>hw.drop.drop.drop.drop.drop.drop
  refine ⟨fun i w=>∃ j:Nat,i=j∧j≤E.length∧(∀ d∈(E.take j).map Prod.fst,d.tok≠c.tok∧d.id<c.id)∧Sat R (seC bs8 (c,sr)::Own sr 5 (b8 c.rep)::RRdAt br s bs rd2::RTO p nx sl none E Hs) w,fun i _=>E.length - i.toNat,⟨0,rfl,by omega,fun d hd=>(by cases hd),hw⟩,?_⟩
  clear hw
  rintro _ _ w ⟨j,rfl,hj,hd,hw⟩
  have hsl:=OwnN.len (hw.take (OwnN 4 sl seT (E.map seV)))
  rw [List.length_map] at hsl
  refine ⟨sl,At.own (eqS hw) (by exact ⟨rfl,trivial⟩),Br.d (fun hjl=>?_) (fun hjl=>?_)⟩
  ·have hj2:j<E.length:=by omega
   have hmem:E[j].1∈E.map Prod.fst:=List.mem_map.2 ⟨_,List.getElem_mem hj2,rfl⟩
   refine drw_rule hw fun w hw=>?_
   refine ⟨sl,At.own selfS (by exact ⟨rfl,trivial⟩),?_⟩
   refine (OwnN.readsM (n:=4) (s:=sl) (T:=seT) (rows:=E.map seV) hw selfS).rngM (E:=E) (g:=seV) hj2 fun a _ he=>?_
   refine ⟨E[j].1.tok,he.f 1 (by exact ⟨rfl,trivial⟩),c.tok,At.own selfS (by exact ⟨rfl,trivial⟩),Br.e (fun h1=>?_) (fun h1=>?_)⟩
   ·exact hK1 (hno fun hm=>(may_step.1 hm).2.2.2.1 (List.mem_map.2 ⟨_,hmem,h1⟩)) _ (out hw)
   refine ⟨sl,At.own selfS (by exact ⟨rfl,trivial⟩),?_⟩
   refine (OwnN.readsM (n:=4) (s:=sl) (T:=seT) (rows:=E.map seV) hw selfS).rngM (E:=E) (g:=seV) hj2 fun a _ he=>?_
   refine ⟨E[j].1.id,he.zz (by exact ⟨rfl,trivial⟩),c.id,At.own selfS (by exact ⟨rfl,trivial⟩),Br.d (fun h2=>?_) (fun h2=>?_)⟩
   ·refine hK1 (hno fun hm=>?_) _ (out hw)
    have h3:=(may_step.1 hm).2.1
    have:=(lastC_le hmay).2 _ hmem
    omega
   rw [wrap64 (by omega) (by omega)]
   refine ⟨⟨j + 1,by omega,by omega,fun d hd2=>?_,hw⟩,by dsimp only;omega⟩
   rw [List.take_add_one,List.getElem?_eq_getElem hj2,List.map_append] at hd2
   rcases List.mem_append.1 hd2 with h3|h3
   ·exact hd d h3
   ·have:d=E[j].1:=by simpa using h3
    rw [this]
    exact ⟨h1,by omega⟩
  rw [List.take_of_length_le (by omega)] at hd
  refine drw_rule hw fun w hw=>?_
  refine ⟨c.id,At.own selfS (by exact ⟨rfl,trivial⟩),Br.d (fun h1=>hK1 (hno fun hm=>by have:=(hm.ids c (by simp)).1;omega) _ (out hw)) (fun h1=>?_)⟩
  refine ⟨c.id,At.own selfS (by exact ⟨rfl,trivial⟩),nx,At.own selfS (by exact ⟨rfl,trivial⟩),Br.d (fun h2=>hK1 (hno fun hm=>by have:=(hm.ids c (by simp)).2;omega) _ (out hw)) (fun h2=>?_)⟩
  have good:(0<c.last∨c.rep=[])→MayT nx (E.map Prod.fst++[c]):=fun h4=>by
   refine may_step.2 ⟨hmay,?_,by omega,fun h5=>?_,h4⟩
   ·unfold lastC
    cases hz:(E.map Prod.fst).getLast? with
    |none=>simp;omega
    |some z=>have:=(hd z (List.mem_of_getLast? hz)).2;simpa using this
   ·obtain ⟨d,hd2,e⟩:=List.mem_map.1 h5
    exact (hd d hd2).1 e
  have fin:(0<c.last∨c.rep=[])→∀ {w},Sat R (seC bs8 (c,sr)::Own sr 5 (b8 c.rep)::RRdAt br s bs rd2::RTO p nx sl none E Hs) w→Drw w fun S w_20=>
      ∃ t101_1:Sl,(At S ⟨p,0 + 1,none⟩ [.slice t101_1.a t101_1.len t101_1.cap])∧
      ∃ t102_4:Int,∃ t102_5:Int,∃ t102_6:Int,∃ t102_7:Sl,(At S ⟨bs8,0,none⟩ [.int .i64 t102_4,.int .i64 t102_5,.int .i64 t102_6,.slice t102_7.a t102_7.len t102_7.cap])∧
      New (.cells #[.int .i64 t102_4,.int .i64 t102_5,.int .i64 t102_6,.slice t102_7.a t102_7.len t102_7.cap] 66 (0,0)) (fun b_t103_1 w_21=>
      (S w_21)∧
      ∃ w_22:World,∃ t104_1:Sl,((Builtin.append_ #[ 62,62 ] 62 #[.slice t101_1.a t101_1.len t101_1.cap,.slice ((some ⟨b_t103_1,0,none⟩)) 1 1]).run Tryz.prog w_21=.ok (.slice t104_1.a t104_1.len t104_1.cap) w_22)∧
      (S w_22)∧
      ∃ w_23:World,((Instr.storeAt 62 (.pointer ((some ⟨p,0 + 1,none⟩))) (.slice t104_1.a t104_1.len t104_1.cap)).run Tryz.prog w_22=.ok () w_23)∧
      (∃ (k':Nat) (rd:Rd) (sl:Sl) (E:List CE),IntKind.u64.wrap ((k:Int) + 1)=k'∧k'≤n∧rdEach clRd k' r0=(E.map Prod.fst,rd)∧Bytes rd.bs∧MayT nx (E.map Prod.fst)∧Sat R (RRdAt br s bs rd::RTO p nx sl none E Hs) w_23)∧n - (IntKind.u64.wrap ((k:Int) + 1)).toNat<n - (k:Int).toNat) w_20:=fun h4 {w} hw=>by
   have sx:∀ {A:List HP} {R:Cx} {w},Sat R (pts p (r9Cell nx sl none)::seC bs8 (c,sr)::A) w→Sat R [pts p (r9Cell nx sl none),seC bs8 (c,sr),VC.tru] w:=fun hw=>hw.cons fun _ h=>h.restTru2
   have hw:Sat R (pts p (r9Cell nx sl none)::seC bs8 (c,sr)::OwnN 4 sl seT (E.map seV)::Own sr 5 (b8 c.rep)::RRdAt br s bs rd2::Star (E.map repAt)::Hs) w:=hw.arr
   refine drw_rule' (Sat R [pts p (r9Cell nx sl none),seC bs8 (c,sr),VC.tru]) hw (fun w hw=>sx hw) fun w hw=>?_
   refine ⟨sl,At.own selfS (by exact ⟨rfl,trivial⟩),c.id,c.tok,c.last,sr,At.own selfS (by exact ⟨rfl,rfl,rfl,rfl,trivial⟩),?_⟩
   refine new_rule hw fun b9 w hw=>?_
   have hw:Sat R (seC b9 (c,sr)::pts p (r9Cell nx sl none)::seC bs8 (c,sr)::OwnN 4 sl seT (E.map seV)::Own sr 5 (b8 c.rep)::RRdAt br s bs rd2::Star (E.map repAt)::Hs) w:=hw
   have hw:Sat R (OwnN 4 sl seT (E.map seV)::seC b9 (c,sr)::pts p (r9Cell nx sl none)::seC bs8 (c,sr)::Own sr 5 (b8 c.rep)::RRdAt br s bs rd2::Star (E.map repAt)::Hs) w:=hw.arr
   refine ⟨sx (hw.arr (Hs':=pts p (r9Cell nx sl none)::seC bs8 (c,sr)::seC b9 (c,sr)::OwnN 4 sl seT (E.map seV)::Own sr 5 (b8 c.rep)::RRdAt br s bs rd2::Star (E.map repAt)::Hs)),?_⟩
   refine appendN_rule (ys:=[seV (c,sr)]) elSe hw (SrcN_one ⟨_,Tryz.underlying62⟩ (b:=b9) 1 hw rfl rfl) (Wid.one rfl) (by rw [List.length_singleton,List.length_map];omega) (by rw [List.length_singleton,List.length_map];omega) fun s2 w hw=>?_
   have hw:Sat R (pts p (r9Cell nx sl none)::seC bs8 (c,sr)::seC b9 (c,sr)::OwnN 4 s2 seT (E.map seV++[seV (c,sr)])::Own sr 5 (b8 c.rep)::RRdAt br s bs rd2::Star (E.map repAt)::Hs) w:=hw.arr
   refine ⟨sx hw,?_⟩
   refine store_rule hw (by kernel_rfl) rfl (by simp [Value.cells]) fun w hw=>?_
   have hw:=hw.re (pts p (r9Cell nx s2 none))
   rw [wrapU64 (by omega) (by omega)]
   have e5:E.map seV++[seV (c,sr)]=(E++[(c,sr)]).map seV:=by rw [List.map_append];rfl
   rw [e5] at hw
   have hw:Sat R (repAt (c,sr)::Star (E.map repAt)::pts p (r9Cell nx s2 none)::seC bs8 (c,sr)::seC b9 (c,sr)::OwnN 4 s2 seT ((E++[(c,sr)]).map seV)::RRdAt br s bs rd2::Hs) w:=by
    have h2:Sat R (Own sr 5 (b8 c.rep)::Star (E.map repAt)::pts p (r9Cell nx s2 none)::seC bs8 (c,sr)::seC b9 (c,sr)::OwnN 4 s2 seT ((E++[(c,sr)]).map seV)::RRdAt br s bs rd2::Hs) w:=hw.arr
    exact h2
   have hw:=star_snoc.2 hw
   rw [show E.map repAt++[repAt (c,sr)]=(E++[(c,sr)]).map repAt by rw [List.map_append];rfl] at hw
   have hw:Sat R (seC bs8 (c,sr)::seC b9 (c,sr)::RRdAt br s bs rd2::RTO p nx s2 none (E++[(c,sr)]) Hs) w:=hw.arr
   refine ⟨⟨k + 1,rd2,s2,E++[(c,sr)],by omega,by omega,by rw [hsn,List.map_append];rfl,hbd,by rw [List.map_append];exact good h4,hw.drop.drop⟩,by omega⟩
  refine ⟨c.last,At.own selfS (by exact ⟨rfl,trivial⟩),Br.e (fun h3=>?_) (fun h3=>?_)⟩
  ·refine ⟨sr,At.own selfS (by exact ⟨rfl,trivial⟩),Br.d (fun h4=>hK1 (hno fun hm=>?_) _ (out hw)) (fun h4=>fin (.inr (List.length_eq_zero_iff.1 (by omega))) hw)⟩
   rcases hm.live c (by simp) with h5|h5
   ·omega
   ·rw [h5] at hsr
    have:sr.len=0:=hsr
    omega
  ·exact fin (.inl (by omega)) hw
 ·have hk2:k=n:=by omega
  have hpre2:=hpre
  rw [hk2] at hpre2
  have heq:=loadT_eq hnt hr0.symm hpre2
  rw [←hnx] at heq
  have tb:=rdText_bd (most:=1048576) hb3
  have tl:=rdText_most (most:=1048576) hb3
  refine (rrtext_spec (most:=1048576) (by omega) hl hb hs hw).use ?_
  clear hw
  rintro _ w ⟨st,rfl,hw⟩
  generalize rdText 1048576 rd=D at *
  refine ⟨st,rfl,?_⟩
  obtain ⟨R1,x1,g1,hw⟩:=Own.leak hw
  refine (r18load2_spec tb.1 (by have:D.1.length≤1048576:=tl;omega) g1 hw).use ?_
  clear hw
  rintro _ w (⟨hn0,rfl,hw⟩|⟨b,pb,hn0,rfl,hw⟩)
  ·have hnone:loadT bs=none:=by rw [heq,hn0]
   refine ⟨_,_,rfl,?_⟩
   refine (rrwhole_spec (x1.slR hs) hw).use ?_
   clear hw
   rintro _ w ⟨rfl,hw⟩
   have hw:Sat R Hs w:=(x1.back hw).drop.drop.drop.drop
   exact ⟨_,rfl,Br.mk (fun _=>hK1 hnone _ hw) (fun _=>Br.t rfl (hK1 hnone _ hw))⟩
  ·rw [hn0] at heq
   dsimp only at heq
   refine ⟨_,_,rfl,?_⟩
   refine (rrwhole_spec (x1.slR hs) hw.swap).use ?_
   clear hw
   rintro _ w ⟨rfl,hw⟩
   have hw:Sat R (pts p (r9Cell nx sl none)::OwnN 4 sl seT (E.map seV)::Star (E.map repAt)::RBookAt pb b::RRdAt br s bs D.2::Hs) w:=(x1.back hw).arr
   have out:∀ {w},Sat R (pts p (r9Cell nx sl none)::OwnN 4 sl seT (E.map seV)::Star (E.map repAt)::RBookAt pb b::RRdAt br s bs D.2::Hs) w→Sat R Hs w:=fun hw=>hw.drop.drop.drop.drop.drop
   refine ⟨_,rfl,Br.nb (fun h0=>hK1 (by rw [heq,if_neg fun h=>by rw [h.1] at h0;cases h0]) _ (out hw)) (fun h0=>Br.f rfl ?_)⟩
   refine ⟨nx,At.own (eqS hw) (by exact ⟨rfl,trivial⟩),Br.d (fun h1=>hK1 (by rw [heq,if_neg fun h=>by have:=h.2.1;omega]) _ (out hw)) (fun h1=>?_)⟩
   refine store_rule hw (by kernel_rfl) rfl (by simp [Value.cells]) fun w hw=>?_
   have hw:=hw.re (pts p (r9Cell nx sl (some ⟨pb,0,none⟩)))
   refine hK2 ⟨nx,E.map Prod.fst,b⟩ p _ (by rw [heq,if_pos ⟨h0,by omega,hmay⟩]) (Sat.rtb.2 ⟨sl,pb,E,rfl,?_⟩)
   exact hw.cons fun _ h=>h.cons fun _ h=>h.cons fun _ h=>h.cons fun _ h=>h.drop
end Go.Proofs.YtlplemdmegpoeaaGreatDoor
/- The formulas of functions of this seat's translation, printed by a program of mine off the translation; each is proved equal to 'fnF' of the function's body, so it is enough for the call. No condition. -/
namespace Go.Proofs.YtlplemdmegpoeaaGreatDoor
open Go Go.VC
set_option linter.unusedVariables false
set_option maxRecDepth 10000
def B6 (b:Sl) (K:Value→World→Prop) (w:World):Prop:=
 Calls Tryz.prog 20 #[] w fun t g=>
 ∃ f:Bool,(t=.returned (.bool f))∧
 ∃ (k:World→Prop),(Br (!f)
 (K (.bool f) g)
 (Br (decide ((↑b.len:Int)>60000))
 (K (.bool f) g)
 (k  g)))∧
 ∀ (z:Env)  (r:World),k  r→
 Calls Tryz.prog 34 #[.slice b.a b.len b.cap] r fun u y=>
 ∃ e:Option Addr,∃ m:Int,(u=.returned (.tuple #[.pointer e,.int .i64 m]))∧
 Calls Tryz.prog 25 #[.slice b.a b.len b.cap] y fun v i=>
 ∃ n:Option Addr,∃ o:Int,(v=.returned (.tuple #[.pointer n,.int .i64 o]))∧
 Br (m !=o)
 (K (.bool false) i)
 (Br (!e.isNone==n.isNone)
 (K (.bool false) i)
 (Drw i fun l s=>
 Br e.isNone
 (K (.bool true) s)
 (∃ q:ByteArray,(∀ c,l c→((convert 47 9 (.slice b.a b.len b.cap))).run Tryz.prog c=.ok (.string q) c)∧
 Calls Tryz.prog 26 #[.pointer e] s fun x j=>
 ∃ d:Sl,(x=.returned (.slice d.a d.len d.cap))∧
 (l j)∧
 ∃ p:ByteArray,(∀ c,(fun c=>c=j) c→((convert 47 9 (.slice d.a d.len d.cap))).run Tryz.prog c=.ok (.string p) c)∧
 K (.bool (p.toList==q.toList)) j)))
def sk6:Sk:=(.seq .leaf (.seq .leaf (.cut [] [] [2,9,10,11,12,13,14,15,16] .leaf (.seq .leaf (.seq .leaf (.seq .leaf (.seq (.block .leaf) .leaf)))))))
theorem call6 (b:Sl) (K:Value→World→Prop) (w:World) (h:B6 b K w):Gets Tryz.prog 6 #[.slice b.a b.len b.cap] w K:=cq (sk:=sk6) h Tryz.func6
end Go.Proofs.YtlplemdmegpoeaaGreatDoor
/- Chapter 19: SessionLoads: the table that any bytes are. Condition: none. -/
namespace Go.Proofs.YtlplemdmegpoeaaGreatDoor
set_option linter.unusedVariables false
set_option linter.unusedSimpArgs false
open Go Go.VC
open Classical
variable {R:Cx} {Hs Rest:List HP} {w:World}
set_option maxHeartbeats 2000000 in
theorem sloads_lspec {s:Sl} {bs:List Int} (hb:Bytes bs) (hs:SlR R.m s (b8 bs)) (hw:Sat R Hs w):
  Gets Tryz.prog 6 #[.slice s.a s.len s.cap] w fun v w'=>v=.bool true∧Sat R Hs w':=by
 have hsl:s.len=bs.length:=by have:=hs.len;simpa using this
 apply call6
 suffices H:∀ K:Value→World→Prop,(∀ w',Sat R Hs w'→K (.bool true) w')→B6 s K w from H _ fun w' h=>⟨rfl,h⟩
 intro K hK
 refine (aw19b_spec hw).use ?_
 clear hw
 rintro _ w ⟨rfl,hw⟩
 refine ⟨_,rfl,fun w=>bs.length≤60000∧Sat R Hs w,Br.f rfl (Br.d (fun _=>hK _ hw) (fun h=>⟨by omega,hw⟩)),?_⟩
 clear hw
 rintro _ w ⟨hl,hw⟩
 have hro:Ro R s (b8 bs):=hs.ro (by rw [List.length_map];omega)
 refine (sload_spec hb (by omega) hro hw).use ?_
 clear hw
 rintro _ w (⟨hn,rfl,hw⟩|⟨t,p,hn,rfl,hw⟩)
 ·refine ⟨_,_,rfl,?_⟩
  refine (r19load_spec hb (by omega) hs hw).use ?_
  clear hw
  rintro _ w (⟨_,rfl,hw⟩|⟨t2,p2,h2,_,_⟩)
  ·exact ⟨_,_,rfl,Br.f rfl (Br.f rfl (drw_rule hw fun w hw=>Br.t rfl (hK _ hw)))⟩
  ·rw [hn] at h2;cases h2
 ·refine ⟨_,_,rfl,?_⟩
  refine (r19load_spec hb (by omega) hs hw).use ?_
  clear hw
  rintro _ w (⟨h2,_,_⟩|⟨t2,p2,h2,rfl,hw⟩)
  ·rw [hn] at h2;cases h2
  obtain ⟨e,tc,hr,hnx⟩:=loadT_out hb hn
  refine ⟨_,_,rfl,Br.f rfl (Br.f rfl (drw_rule' (Sat R [VC.tru]) hw (fun w hw=>Sat.allTru hw) fun w hw=>Br.f rfl ⟨VC.strOf bs,fun w' h=>?_,?_⟩))⟩
  ·exact convS_ro Tryz.underlying47 Tryz.underlying5 Tryz.underlying9 h hro
  have hw:Sat R (TbAt p t::Hs) w:=hw.drop
  refine (ssave_spec tc hr hnx hw).use ?_
  clear hw
  rintro _ w ⟨u,rfl,hw⟩
  rw [←e] at hw
  refine ⟨u,rfl,Sat.allTru hw,VC.strOf bs,conv_own (t:=u) (T:=5) (bs:=bs) (by omega) hw,?_⟩
  rw [beq_self_eq_true]
  exact hK _ hw.drop.drop
end Go.Proofs.YtlplemdmegpoeaaGreatDoor
