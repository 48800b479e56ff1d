/- A world of nodes: one node taken out; what is asked of a world. Condition: bounds on lengths. -/
import Derived.Test.YthpmfnffkjjlnaaGreatB5
import Derived.Test.YthpmfnffkjjlnaaGreatB3
set_option linter.unusedVariables false
set_option linter.unusedSimpArgs false
namespace Go.Proofs.YthpmfnffkjjlnaaGreat
section
open Go Go.VC Tryz
open Go.Rf (Ey Lg ZD)
variable {R R' R1 R2:Cx} {Hs Rest Rest2:List HP} {w:World} {p q:Nat} {pp:List Nat} {n m:Rn}
structure NdOk (n:Rn):Prop where
 a:RnA n
 d:RnD n
 hr:n.ps.isSome=true->n.e.role=3
 wt:n.e.wait<4611686018427387904
 r0:0<=n.rnd
 r1:n.rnd<4611686018427387904
structure ZqE (W:Wd):Prop where
 len:W.ns.length=W.dk.length
 l1:1<=W.ns.length
 l6:W.ns.length<=7
 nd:∀ n∈W.ns,NdOk n
 dk:∀ d∈W.dk,ZmL d
 ms:∀ m∈W.sent,Zd3 m
 t0:0<=W.tok
 t1:W.tok<4611686018427387904
 al:W.ask.length<=1000000
structure ZoN (W:Wd) (k:Nat) (n:Rn) (d:Dk):Prop where
 hk:W.ns[k]? =some n
 hkd:W.dk[k]? =some d
 ha:RnA n
 hd:ZmL d
 hent:Zkh W.ent
 hsl:W.sent.length<=10000000
 hml:n.rms.length<=10000000
 hal:W.ask.length<=1000000
 hrl:n.rrd.length<=1000000
 hf0: -1099511627776<=n.rfr
 hf1:n.rfr<=1099511627776
 hll:n.log.l.length<=1000000000
theorem ZcN {W:Wd} {k:Nat} (h:∃ n d,ZoN W k n d) (hw:Sat R (ZaH R q pp W::Hs) w):
  Zj prog 30 #[.pointer (some ⟨q,0,none⟩),.int .i64 k] w λ v w'=>v=.tuple #[]/\∃ R',R.Ext R'/\Sat R' (ZaH R' q pp (W.write k)::Hs) w':=by
 obtain ⟨n,d,h⟩:=h;exact Zjm h.hk h.hkd h.ha h.hd h.hent h.hsl h.hml h.hal h.hrl h.hf0 h.hf1 h.hll hw
structure Zd1 (W:Wd) (k:Nat) (n:Rn) (ps:List (Nat × Rn)) (p:Nat):Prop where
 hps:ps.map (·.2)=W.ns
 hkp:k<ps.length
 hp:∀ h:k<ps.length,ps[k]=(p,n)
theorem Zd1.of {W:Wd} {k:Nat} {ps:List (Nat × Rn)} (hk:W.ns[k]? =some n) (hps:ps.map (·.2)=W.ns):∃ p,Zd1 W k n ps p:=by
 have hkp:k<ps.length:=by
  have:=(List.getElem?_eq_some_iff.1 hk).1;rw [<-hps,List.length_map] at this;exact this
 have hpn:ps[k].2=n:=by
  have h1:=(List.getElem?_eq_some_iff.1 hk).2;simpa [<-hps] using h1
 exact ⟨ps[k].1,hps,hkp,λ _=>by rw [<-hpn]⟩
theorem Zd1.take {W:Wd} {k:Nat} {ps:List (Nat × Rn)} {L:WLo} (h:Zd1 W k n ps p) (hw:Sat R (pts q (wdC W L)::Own L.ns 24 (ps.map ZW)::ZH R1 ps::Ze9 R1 W L Hs) w):
  Sat R (NAt R1 p n::Zu R1 ps k::pts q (wdC W L)::Own L.ns 24 (ps.map ZW)::Ze9 R1 W L Hs) w:=by
 have h2:=ZH.focus h.hkp (hw.take (ZH R1 ps));rwa [h.hp h.hkp] at h2
theorem Zd1.ptr {W:Wd} {k:Nat} {ps:List (Nat × Rn)} (h:Zd1 W k n ps p) (hk:k<ps.length):ps[k].1=p:=by rw [h.hp hk]
theorem Ze9.ext {W:Wd} {L:WLo} (e:R1.Ext R2) (hw:Sat R (Ze9 R1 W L Hs) w):Sat R (Ze9 R2 W L Hs) w:=
 (Zy.ext hw e).cons λ _ h=>(Zq.ext h e).cons λ _ h=>Zaj.ext h e
theorem Zd1.put {W:Wd} {k:Nat} {ps:List (Nat × Rn)} {L:WLo} (h:Zd1 W k n ps p) (e:R1.Ext R2) (hw:Sat R (NAt R2 p m::Zu R1 ps k::pts q (wdC W L)::Own L.ns 24 (ps.map ZW)::Ze9 R1 W L Hs) w):
  Sat R (ZaH R2 q (ps.map (·.1)) (W.put k m)::Hs) w:=by
 have hw:Sat R (NAt R2 (p,m).1 (p,m).2::Zu R2 ps k::pts q (wdC W L)::Own L.ns 24 (ps.map ZW)::Ze9 R2 W L Hs) w:=hw.cons λ _ h=>(Zu.ext h e).cons λ _ h=>h.cons λ _ h=>h.cons λ _ h=>Ze9.ext e h;have hw:=Zu.close h.hkp hw;have eptr:(ps.set k (p,m)).map ZW=ps.map ZW:=by
  rw [List.map_set];have e:ZW (p,m)=(ps.map ZW)[k]'(by simpa using h.hkp):=by simp [h.hp h.hkp]
  rw [e,List.set_getElem_self]
 have epp:(ps.set k (p,m)).map (·.1)=ps.map (·.1):=by
  rw [List.map_set];have e:p=(ps.map (·.1))[k]'(by simpa using h.hkp):=by simp [h.hp h.hkp]
  show (ps.map (·.1)).set k p=_
  conv=>lhs;rw [e]
  rw [List.set_getElem_self]
 refine ZaH.iff.2 ⟨L,ps.set k (p,m),⟨by rw [List.map_set,h.hps];rfl,epp⟩,?_⟩;rw [eptr];have h:Sat R (pts q (wdC W L)::Own L.ns 24 (ps.map ZW)::ZH R2 (ps.set k (p,m))::Ze9 R2 W L Hs) w:=hw.arr;exact h
end
section
open Go Go.VC Tryz
open Go.Rf (Ey Lg ZD)
variable {R R' R1 R2:Cx} {Hs Rest Rest2:List HP} {w:World} {p q:Nat} {pp:List Nat} {n m:Rn}
abbrev evC (x:Ev):Obj:=.cells [.int .i64 x.do',.int .i64 x.who,.int .i64 x.n,.int .i64 x.kd].toArray 91 (0,0)
abbrev Zrm (x:Ev):Value:=.agg #[.int .i64 x.do',.int .i64 x.who,.int .i64 x.n,.int .i64 x.kd]
theorem Zq.len {s:Sl} {ms:List Mg} (hw:Sat R (Zq R1 s ms::Hs) w):s.len=ms.length:=by
 obtain ⟨l,⟨h1,_⟩,hw⟩:=Zq.iff.1 hw;have:=OwnN.len hw;rw [<-h1];simpa using this
theorem Zd1.swap {W:Wd} {k:Nat} {ps:List (Nat × Rn)} {L:WLo} {p2:Nat} (h:Zd1 W k n ps p) (e:R1.Ext R2) (hw:Sat R (NAt R2 p2 m::Zu R1 ps k::pts q (wdC W L)::Own L.ns 24 ((ps.map ZW).set k (.pointer (some ⟨p2,0,none⟩)))::Ze9 R1 W L Hs) w):
  Sat R (ZaH R2 q ((ps.map (·.1)).set k p2) (W.put k m)::Hs) w:=by
 have hw:Sat R (NAt R2 (p2,m).1 (p2,m).2::Zu R2 ps k::pts q (wdC W L)::Own L.ns 24 ((ps.map ZW).set k (.pointer (some ⟨p2,0,none⟩)))::Ze9 R2 W L Hs) w:=hw.cons λ _ h=>(Zu.ext h e).cons λ _ h=>h.cons λ _ h=>h.cons λ _ h=>Ze9.ext e h;have hw:=Zu.close h.hkp hw;refine ZaH.iff.2 ⟨L,ps.set k (p2,m),⟨by rw [List.map_set,h.hps];rfl,by rw [List.map_set]⟩,?_⟩;rw [List.map_set];have h:Sat R (pts q (wdC W L)::Own L.ns 24 ((ps.map ZW).set k (.pointer (some ⟨p2,0,none⟩)))::ZH R2 (ps.set k (p2,m))::Ze9 R2 W L Hs) w:=hw.arr;exact h
theorem elAk:ElN prog 86 86 144 2 16:=⟨underlying86,⟨_,underlying86⟩,by kernel_rfl⟩
theorem RnA.done (h:RnA n) (i:Int):RnA (n.done i).2:=by
 refine h.log (h.b.g.lg.apply i) ?_;unfold Lg.apply;split<;>exact h.b.g.lb
theorem Znb (W:Wd) (k:Nat):(W.sync k).ns=W.ns:=by
 unfold Wd.sync;split<;>rfl
theorem Zky {W:Wd} {k:Nat} {n:Rn} {d:Dk} (h1:W.ns[k]? =some n) (h2:W.dk[k]? =some d):W.sync k={ W with dk:=W.dk.set k { d with sn:=n.sn,log:=n.log.get (n.sn.ix + 1) 100000 } }:=by
 unfold Wd.sync;rw [h1,h2]
theorem Znc {W:Wd} {k:Nat} (h2:W.dk[k]? =none):W.sync k=W:=by
 unfold Wd.sync;rw [h2];split
 ·rename_i h;cases h
 ·rfl
theorem ZoY {W:Wd} (h:1<=W.ns.length) (z:Int):W.who z<W.ns.length:=by
 unfold Wd.who;have h1:=Int.emod_nonneg z (b:=(W.ns.length:Int)) (by omega);have h2:=Int.emod_lt_of_pos z (b:=(W.ns.length:Int)) (by omega);omega
set_option maxRecDepth 20000 in
theorem Zeu {W:Wd} {x:Ev} (ok:ZqE W) (h1:∀ W' k,W.act x=some (W',k)->∃ n d,ZoN W' k n d) (h2:x.do'=6->∀ n,W.ns[W.who x.who]? =some n->n.comp.1=0->∃ n' d,ZoN (W.put (W.who x.who) n.comp.2) (W.who x.who) n' d) (hw:Sat R (ZaH R q pp W::Hs) w):
  Zj prog 28 #[.pointer (some ⟨q,0,none⟩),Zrm x] w λ v w'=>v=.tuple #[]/\∃ R' pp',R.Ext R'/\Sat R' (ZaH R' q pp' (W.play x)::Hs) w':=by
 have l1:=ok.l1;have l6:=ok.l6;apply Zqe;refine Zd hw λ b3 w hw=>?_;obtain ⟨L,ps,⟨hps,hpp⟩,hw⟩:=ZaH.iff.1 hw.swap;have hpl:ps.length=W.ns.length:=by rw [<-hps,List.length_map]
 have hw:Sat R (pts q (wdC W L)::Own L.ns 24 (ps.map ZW)::ZH R ps::Zy R L.dk W.dk::Zq R L.sn W.sent::Zaj R L.me W.ent::Zg L.ml (W.lds.map ZaB)::Zau L.ak W.ask::pts b3 (evC x)::Hs) w:=hw;have hnl:L.ns.len=W.ns.length:=by have:=Own.len (hw.take (Own L.ns 24 (ps.map ZW)));rw [List.length_map,hpl] at this;exact this
 obtain ⟨A,hA⟩:∃ A,A=W.play x:=⟨_,rfl⟩;rw [<-hA];unfold Wd.play at hA;obtain ⟨k,hk⟩:∃ k,k=W.who x.who:=⟨_,rfl⟩;have hkl:k<W.ns.length:=by rw [hk];exact ZoY l1 _
 have stay:∀ {w:World},W.act x=none->Sat R (pts q (wdC W L)::Own L.ns 24 (ps.map ZW)::ZH R ps::Zy R L.dk W.dk::Zq R L.sn W.sent::Zaj R L.me W.ent::Zg L.ml (W.lds.map ZaB)::Zau L.ak W.ask::pts b3 (evC x)::Hs) w->Value.tuple #[]=.tuple #[]/\∃ R' pp',R.Ext R'/\Sat R' (ZaH R' q pp' A::Hs) w:=λ {w} ha hw=>by
  rw [ha] at hA;have h:Sat R (ZaH R q pp W::pts b3 (evC x)::Hs) w:=ZaH.iff.2 ⟨L,ps,⟨hps,hpp⟩,hw⟩;exact ⟨rfl,R,pp,.refl,by rw [hA];exact h.cons λ _ h=>h.drop⟩
 have fin:∀ {R1:Cx} {pp:List Nat} {w:World} {W':Wd} {k':Nat},R.Ext R1->W.act x=some (W',k')->Sat R1 (ZaH R1 q pp W'::pts b3 (evC x)::Hs) w->Calls prog 30 #[.pointer (some ⟨q,0,none⟩),.int .i64 k'] w λ e w'=>e=.returned (.tuple #[])/\(Value.tuple #[]=.tuple #[]/\∃ R' pp',R.Ext R'/\Sat R' (ZaH R' q pp' A::Hs) w'):=λ {R1 pp w W' k'} e ha hw=>by
  refine (ZcN (h1 W' k' ha) hw).use ?_;rintro _ w ⟨rfl,R2,e2,hw⟩;rw [ha] at hA;exact ⟨rfl,rfl,R2,pp,e.trans e2,by rw [hA];exact hw.cons λ _ h=>h.drop⟩
 refine Zm hw λ w hw=>⟨x.who,At.own (eqS hw) (by exact ⟨rfl,trivial⟩),Zb.mk rfl ⟨L.ns,At.own (eqS hw) (by exact ⟨rfl,trivial⟩),Nz.mk (by omega) ⟨λ z w=>z=(k:Int)/\Sat R (pts q (wdC W L)::Own L.ns 24 (ps.map ZW)::ZH R ps::Zy R L.dk W.dk::Zq R L.sn W.sent::Zaj R L.me W.ent::Zg L.ml (W.lds.map ZaB)::Zau L.ak W.ask::pts b3 (evC x)::Hs) w,?_,?_⟩⟩⟩
 ·have hke:(k:Int)=x.who % (W.ns.length:Int):=by
   rw [hk];unfold Wd.who;have h1:=Int.emod_nonneg x.who (b:=(W.ns.length:Int)) (by omega);omega
  have hcases:(x.who.tmod (W.ns.length:Int)<0/\(k:Int)=x.who.tmod (W.ns.length:Int) + (W.ns.length:Int))\/(¬ x.who.tmod (W.ns.length:Int)<0/\(k:Int)=x.who.tmod (W.ns.length:Int)):=by
   have h1:=Int.emod_nonneg x.who (b:=(W.ns.length:Int)) (by omega);have h2:=Int.emod_lt_of_pos x.who (b:=(W.ns.length:Int)) (by omega);rw [Int.tmod_eq_emod];split
   ·right;omega
   ·rename_i hc
    have h3:x.who % (W.ns.length:Int)≠0:=λ h=>hc (.inr (Int.dvd_of_emod_eq_zero h));left;omega
  have htm: -(W.ns.length:Int)<=x.who.tmod (W.ns.length:Int):=by omega
  rw [hnl];refine Br.d (λ h=>Zb.mk rfl ⟨L.ns,At.own (eqS hw) (by exact ⟨rfl,trivial⟩),?_,hw⟩) (λ h=>⟨?_,hw⟩)
  ·rw [hnl,Zh (by omega) (by omega)];omega
  ·omega
 clear hw;rintro _ _ w ⟨rfl,hw⟩;obtain ⟨n,hnk⟩:∃ n,W.ns[k]? =some n:=⟨W.ns[k],List.getElem?_eq_getElem hkl⟩;have hn:=ok.nd n (List.mem_of_getElem? hnk);obtain ⟨p,foc⟩:=Zd1.of hnk hps;have hact:W.act x=(if x.do'==0 then some (W.put k (n.tick x.n),k)
  else if x.do'==1 then
   (if x.n<0 then none else match W.sent[x.n.toNat]? with
   |none=>none
   |some m=>if m.to'<1 then none else match W.ns[(m.to' - 1).toNat]? with
    |none=>none
    |some n'=>some (W.put (m.to' - 1).toNat (n'.step m),(m.to' - 1).toNat))
  else if x.do'==2 then
   (match W.dk[k]? with
   |none=>none
   |some d=>match Wd.startN d k with
    |some n'=>some (W.put k n',k)
    |none=>some ({ W with good:=false },k))
  else if x.do'==3 then some (W.put k (n.propose [x.n % 256]).2,k)
  else if x.do'==4 then some (W.put k (n.change x.kd x.n).2,k)
  else if x.do'==5 then some (W.asks k n,k)
  else if x.do'==6 then
   (if n.comp.1==0 then some (((W.put k n.comp.2).write k).sync k,k)
   else some (W.put k n.comp.2,k))
  else some (W,k)):=by
  unfold Wd.act;rw [<-hk,hnk];rfl
 refine Zb.mk rfl ⟨L.ns,At.own (eqS hw) (by exact ⟨rfl,trivial⟩),Own.idxP (T:=24) hw (eqS hw) k rfl foc.hkp ?_⟩;rw [foc.ptr foc.hkp];refine ⟨x.do',At.own (eqS hw) (by exact ⟨rfl,trivial⟩),Br.e (λ c0=>⟨x.n,At.own (eqS hw) (by exact ⟨rfl,trivial⟩),?_⟩) (λ c0=>?_)⟩
 ·-- it ticks
  rw [if_pos (by simpa using c0)] at hact;have hw:=foc.take hw;by_cases hr:n.e.role=3
  ·refine (Zjq hn.a hn.d hr x.n hw).use ?_
   clear hw;rintro _ w ⟨rfl,R2,e2,hw⟩;exact ⟨rfl,fin e2 hact (foc.put e2 hw)⟩
  ·refine (Zfy hn.a.b.g hn.a.b.pe hn.a.b.id15 hn.a.b.sn hn.a.b.e hn.wt hn.d.last (by have:=hn.d.ms;omega) hr x.n hw).use ?_
   clear hw;rintro _ w ⟨rfl,R2,e2,hw⟩;exact ⟨rfl,fin e2 hact (foc.put e2 hw)⟩
 rw [if_neg (by simpa using c0)] at hact;refine Br.e (λ c1=>?_) (λ c1=>?_)
 ·-- a message comes
  rw [if_pos (by simpa using c1)] at hact;have hsl:=Zq.len (hw.take (Zq R L.sn W.sent));refine ⟨λ w=>(0<=x.n/\x.n<(W.sent.length:Int))/\Sat R (pts q (wdC W L)::Own L.ns 24 (ps.map ZW)::ZH R ps::Zy R L.dk W.dk::Zq R L.sn W.sent::Zaj R L.me W.ent::Zg L.ml (W.lds.map ZaB)::Zau L.ak W.ask::pts b3 (evC x)::Hs) w,?_,?_⟩
  ·refine Zm hw λ w hw=>⟨x.n,At.own (eqS hw) (by exact ⟨rfl,trivial⟩),Br.d (λ h3=>stay (by rw [hact,if_pos h3]) hw) λ h3=>⟨x.n,At.own (eqS hw) (by exact ⟨rfl,trivial⟩),Zb.mk rfl ⟨L.sn,At.own (eqS hw) (by exact ⟨rfl,trivial⟩),Br.d (λ h4=>stay ?_ hw) λ h4=>⟨⟨by omega,by omega⟩,hw⟩⟩⟩⟩
   rw [hact,if_neg h3,List.getElem?_eq_none (by omega)]
  clear hw;rintro _ w ⟨⟨hx0,hx1⟩,hw⟩;obtain ⟨l,⟨hl1,hl2⟩,hw⟩:=Zq.iff.1 (hw.take (Zq R L.sn W.sent));obtain ⟨j,hj⟩:∃ j:Nat,x.n=j:=⟨x.n.toNat,by omega⟩;have hjl:j<l.length:=by
   have:l.length=W.sent.length:=by rw [<-hl1,List.length_map]
   omega
  obtain ⟨L0,hL0⟩:∃ L0,L0=l[j].1:=⟨_,rfl⟩;obtain ⟨m,hm⟩:∃ m,m=l[j].2:=⟨_,rfl⟩;have hlj:l[j]=(L0,m):=by rw [hL0,hm]
  have hmi:Zdu R m L0:=by have:=hl2 l[j] (List.getElem_mem hjl);rwa [hlj] at this
  have hms:W.sent[x.n.toNat]? =some m:=by
   rw [<-hl1,show x.n.toNat=j by omega,List.getElem?_map,List.getElem?_eq_getElem hjl,hlj];rfl
  have hmo:Zd3 m:=ok.ms m (List.mem_of_getElem? hms);rw [if_neg (by omega),hms] at hact;dsimp only at hact;have cl:∀ {w:World} {X:List HP},Sat R (OwnN 16 L.sn 71 (l.map Zbn)::X) w->Sat R (Zq R L.sn W.sent::X) w:=λ h=>Zq.iff.2 ⟨l,⟨hl1,hl2⟩,h⟩;have hw:Sat R (OwnN 16 L.sn 71 (l.map Zbn)::pts q (wdC W L)::Own L.ns 24 (ps.map ZW)::ZH R ps::Zy R L.dk W.dk::Zaj R L.me W.ent::Zg L.ml (W.lds.map ZaB)::Zau L.ak W.ask::pts b3 (evC x)::Hs) w:=hw;refine Zm hw λ w hw=>Zb.mk rfl ⟨L.sn,At.own Zf (by exact ⟨rfl,trivial⟩),x.n,At.own Zf (by exact ⟨rfl,trivial⟩),?_⟩;rw [hj];refine (OwnN.readsM (T:=71) (n:=16) (s:=L.sn) (rows:=l.map Zbn) hw Zf).rngI (g:=Zbn) j rfl hjl λ a _ el=>?_;rw [hlj] at el;refine ⟨_,_,_,_,_,_,_,_,_,_,L0.e,_,_,L0.v,L0.l,L0.d,el.z (by exact ⟨rfl,rfl,rfl,rfl,rfl,rfl,rfl,rfl,rfl,rfl,rfl,rfl,rfl,rfl,rfl,rfl,trivial⟩),Zd hw λ b6 w hw=>⟨hw.drop,?_⟩⟩;refine Za hw (by kernel_rfl) rfl (by simp [Value.cells,Zc]) λ w hw=>?_;have hw:=hw.re (pts b6 (mgC (L0,m)));have hw:Sat R (pts b6 (mgC (L0,m))::OwnN 16 L.sn 71 (l.map Zbn)::pts q (wdC W L)::Own L.ns 24 (ps.map ZW)::ZH R ps::Zy R L.dk W.dk::Zaj R L.me W.ent::Zg L.ml (W.lds.map ZaB)::Zau L.ak W.ask::pts b3 (evC x)::Hs) w:=hw;have back:∀ {w:World},Sat R (pts b6 (mgC (L0,m))::OwnN 16 L.sn 71 (l.map Zbn)::pts q (wdC W L)::Own L.ns 24 (ps.map ZW)::ZH R ps::Zy R L.dk W.dk::Zaj R L.me W.ent::Zg L.ml (W.lds.map ZaB)::Zau L.ak W.ask::pts b3 (evC x)::Hs) w->Sat R (pts q (wdC W L)::Own L.ns 24 (ps.map ZW)::ZH R ps::Zy R L.dk W.dk::Zq R L.sn W.sent::Zaj R L.me W.ent::Zg L.ml (W.lds.map ZaB)::Zau L.ak W.ask::pts b3 (evC x)::Hs) w:=λ h=>(cl h.drop).arr;refine ⟨λ w=>(1<=m.to'/\m.to'<=(W.ns.length:Int))/\Sat R (pts b6 (mgC (L0,m))::OwnN 16 L.sn 71 (l.map Zbn)::pts q (wdC W L)::Own L.ns 24 (ps.map ZW)::ZH R ps::Zy R L.dk W.dk::Zaj R L.me W.ent::Zg L.ml (W.lds.map ZaB)::Zau L.ak W.ask::pts b3 (evC x)::Hs) w,?_,?_⟩
  ·refine Zm hw λ w hw=>⟨m.to',At.own (eqS hw) (by exact ⟨rfl,trivial⟩),Br.d (λ h3=>stay (by rw [hact,if_pos h3]) (back hw)) λ h3=>⟨m.to',At.own (eqS hw) (by exact ⟨rfl,trivial⟩),Zb.mk rfl ⟨L.ns,At.own (eqS hw) (by exact ⟨rfl,trivial⟩),Br.d (λ h4=>stay ?_ (back hw)) λ h4=>⟨⟨by omega,by omega⟩,hw⟩⟩⟩⟩
   rw [hact,if_neg h3,List.getElem?_eq_none (by omega)]
  clear hw;rintro _ w ⟨⟨ht0,ht1⟩,hw⟩;obtain ⟨k2,hk2⟩:∃ k2:Nat,m.to' - 1=k2:=⟨(m.to' - 1).toNat,by omega⟩;have hk2l:k2<W.ns.length:=by omega
  obtain ⟨n2,hn2⟩:∃ n2,W.ns[k2]? =some n2:=⟨W.ns[k2],List.getElem?_eq_getElem hk2l⟩;have hno:=ok.nd n2 (List.mem_of_getElem? hn2);obtain ⟨p2,foc2⟩:=Zd1.of hn2 hps;rw [if_neg (by omega),show (m.to' - 1).toNat=k2 by omega,hn2] at hact;dsimp only at hact;refine ⟨m.to',At.own (eqS hw) (by exact ⟨rfl,trivial⟩),Zm hw λ w hw=>Zb.mk rfl ⟨L.ns,At.own (eqS hw) (by exact ⟨rfl,trivial⟩),?_⟩⟩;rw [Zh (by omega) (by omega),hk2];refine Own.idxP (T:=24) hw (eqS hw) k2 rfl foc2.hkp ?_;rw [foc2.ptr foc2.hkp];refine ⟨_,_,_,_,_,_,_,_,_,_,L0.e,_,_,L0.v,L0.l,L0.d,At.own (eqS hw) (by exact ⟨rfl,rfl,rfl,rfl,rfl,rfl,rfl,rfl,rfl,rfl,rfl,rfl,rfl,rfl,rfl,rfl,trivial⟩),?_⟩;have hw:=foc2.take (back hw);refine (ZkC hno.a hno.d hno.hr hmi hmo hw).use ?_;clear hw;rintro _ w ⟨rfl,R2,e2,hw⟩;exact ⟨rfl,fin e2 hact (foc2.put e2 hw)⟩
 rw [if_neg (by simpa using c1)] at hact;refine Br.e (λ c2=>?_) (λ c2=>?_)
 ·-- it is begun anew
  rw [if_pos (by simpa using c2)] at hact;have hkd:k<W.dk.length:=by rw [<-ok.len];exact hkl
  obtain ⟨d,hdk⟩:∃ d,W.dk[k]? =some d:=⟨W.dk[k],List.getElem?_eq_getElem hkd⟩;rw [hdk] at hact;dsimp only at hact;have hw:Sat R (pts q (wdC W L)::Own L.ns 24 (ps.map ZW)::Zy R L.dk W.dk::ZH R ps::Zq R L.sn W.sent::Zaj R L.me W.ent::Zg L.ml (W.lds.map ZaB)::Zau L.ak W.ask::pts b3 (evC x)::Hs) w:=hw.arr;refine (Zfo (by rw [List.length_map];exact foc.hkp) hdk (ok.dk d (List.mem_of_getElem? hdk)) (by omega) hw).use ?_;clear hw;rintro _ w (⟨hs,rfl,hw⟩|⟨p2,n2,R2,hs,rfl,e2,hw⟩)
  ·rw [hs] at hact
   have hw:Sat R (pts q (wdC W L)::Own L.ns 24 (ps.map ZW)::ZH R ps::Zy R L.dk W.dk::Zq R L.sn W.sent::Zaj R L.me W.ent::Zg L.ml (W.lds.map ZaB)::Zau L.ak W.ask::pts b3 (evC x)::Hs) w:=hw.arr;have done:∀ {w:World},Sat R (pts q (wdC { W with good:=false } L)::Own L.ns 24 (ps.map ZW)::ZH R ps::Zy R L.dk W.dk::Zq R L.sn W.sent::Zaj R L.me W.ent::Zg L.ml (W.lds.map ZaB)::Zau L.ak W.ask::pts b3 (evC x)::Hs) w->Sat R (ZaH R q pp { W with good:=false }::pts b3 (evC x)::Hs) w:=λ h=>ZaH.iff.2 ⟨L,ps,⟨hps,hpp⟩,h⟩;refine ⟨false,rfl,Zb.mk rfl ⟨W.good,At.own (eqS hw) (by exact ⟨rfl,trivial⟩),Br.mk (λ h3=>Zb.mk rfl ?_) (λ h3=>Zb.mk rfl ?_)⟩⟩
   all_goals
    refine Za hw (by kernel_rfl) rfl (by simp [Value.cells,Zc]) λ w hw=>?_;exact fin .refl hact (done (hw.re (pts q (wdC { W with good:=false } L))))
  ·rw [hs] at hact
   have hw:Sat R2 (NAt R2 p2 n2::pts q (wdC W L)::Own L.ns 24 ((ps.map ZW).set k (.pointer (some ⟨p2,0,none⟩)))::Zy R L.dk W.dk::ZH R ps::Zq R L.sn W.sent::Zaj R L.me W.ent::Zg L.ml (W.lds.map ZaB)::Zau L.ak W.ask::pts b3 (evC x)::Hs) w:=hw;have done:∀ {w:World},Sat R2 (pts q (wdC W L)::NAt R2 p2 n2::Own L.ns 24 ((ps.map ZW).set k (.pointer (some ⟨p2,0,none⟩)))::Zy R L.dk W.dk::ZH R ps::Zq R L.sn W.sent::Zaj R L.me W.ent::Zg L.ml (W.lds.map ZaB)::Zau L.ak W.ask::pts b3 (evC x)::Hs) w->Sat R2 (ZaH R2 q ((ps.map (·.1)).set k p2) (W.put k n2)::pts b3 (evC x)::Hs) w:=λ hw=>by
    have h4:=ZH.focus foc.hkp (hw.take (ZH R ps));have h5:=h4.drop;exact foc.swap (L:=L) e2 (show Sat R2 (NAt R2 p2 n2::Zu R ps k::pts q (wdC W L)::Own L.ns 24 ((ps.map ZW).set k (.pointer (some ⟨p2,0,none⟩)))::Zy R L.dk W.dk::Zq R L.sn W.sent::Zaj R L.me W.ent::Zg L.ml (W.lds.map ZaB)::Zau L.ak W.ask::pts b3 (evC x)::Hs) _ from h5.arr)
   have hw:=hw.swap;refine ⟨true,rfl,Zb.mk rfl ⟨W.good,At.own (eqS hw) (by exact ⟨rfl,trivial⟩),Br.mk (λ h3=>Zb.mk rfl ?_) (λ h3=>Zb.mk rfl ?_)⟩⟩
   ·refine Za hw (by kernel_rfl) rfl (by simp [Value.cells,Zc]) λ w hw=>?_
    exact fin e2 hact (done (hw.re (pts q (wdC W L)) (by unfold wdC;rw [h3];rfl)))
   ·refine Za hw (by kernel_rfl) rfl (by simp [Value.cells,Zc]) λ w hw=>?_
    exact fin e2 hact (done (hw.re (pts q (wdC W L)) (by unfold wdC;rw [h3];rfl)))
 rw [if_neg (by simpa using c2)] at hact;refine Br.e (λ c3=>⟨x.n,At.own (eqS hw) (by exact ⟨rfl,trivial⟩),Zd hw λ c w hw=>?_⟩) (λ c3=>?_)
 ·-- it is proposed a byte
  rw [if_pos (by simpa using c3)] at hact;rw [ZhU] at hw;have hw:=ZbR hw;have hw:=hw.re (Own ⟨some ⟨c,0,none⟩,1,1⟩ 5 (b8 [x.n % 256]));obtain ⟨R1,e1,hs1,hw⟩:=Own.leak hw;have hby:Zx [x.n % 256]:=λ z hz=>by simp at hz;omega
  have hw:=(foc.take hw).cons λ _ h=>h;have hw:=NAt.ext hw e1;refine (ZdT (d:=⟨some ⟨c,0,none⟩,1,1⟩) (λ h=>hn.a.rnl h) (λ _=>hn.d.last) (by have:=hn.d.ms;omega) hs1 hby hw).use ?_;clear hw;rintro _ w ⟨rfl,R2,e2,hw⟩;exact ⟨_,_,rfl,fin (e1.trans e2) hact (foc.put (e1.trans e2) hw)⟩
 rw [if_neg (by simpa using c3)] at hact;refine Br.e (λ c4=>⟨x.kd,At.own (eqS hw) (by exact ⟨rfl,trivial⟩),x.n,At.own (eqS hw) (by exact ⟨rfl,trivial⟩),?_⟩) (λ c4=>?_)
 ·-- it is asked to change its group
  rw [if_pos (by simpa using c4)] at hact;refine (Zhi hn.a hn.d x.kd x.n (foc.take hw)).use ?_;clear hw;rintro _ w ⟨rfl,R2,e2,hw⟩;exact ⟨_,_,rfl,fin e2 hact (foc.put e2 hw)⟩
 rw [if_neg (by simpa using c4)] at hact;refine Br.e (λ c5=>?_) (λ c5=>?_)
 ·-- it is asked for a read
  rw [if_pos (by simpa using c5)] at hact;have t0:=ok.t0;have t1:=ok.t1;refine Zb.mk rfl ⟨W.tok,At.own (eqS hw) (by exact ⟨rfl,trivial⟩),Zb.mk rfl ?_⟩;rw [Zh (by omega) (by omega)];refine Za hw (by kernel_rfl) rfl (by simp [Value.cells,Zc]) λ w hw=>?_;obtain ⟨W5,hW5⟩:∃ W5:Wd,W5={ W with tok:=W.tok + 1 }:=⟨_,rfl⟩;have hw:=hw.re (pts q (wdC { W with tok:=W.tok + 1 } L));rw [<-hW5] at hw;have foc5:Zd1 W5 k n ps p:=⟨by rw [hW5];exact hps,foc.hkp,foc.hp⟩;have hw:Sat R (pts q (wdC W5 L)::Own L.ns 24 (ps.map ZW)::ZH R ps::Zy R L.dk W5.dk::Zq R L.sn W5.sent::Zaj R L.me W5.ent::Zg L.ml (W5.lds.map ZaB)::Zau L.ak W5.ask::pts b3 (evC x)::Hs) w:=by rw [hW5];rw [hW5] at hw;exact hw
  have hmost:W5.most=W.most:=by rw [hW5]
  have htok:W5.tok=W.tok + 1:=by rw [hW5]
  refine Zb.mk rfl ⟨W5.most,At.own (eqS hw) (by exact ⟨rfl,trivial⟩),Zb.mk rfl ⟨W5.tok,At.own (eqS hw) (by exact ⟨rfl,trivial⟩),?_⟩⟩;refine (ZkQ (λ h=>hn.a.rnl h) hn.a.b.g W5.tok ⟨hn.r0,hn.r1⟩ (by have:=hn.d.ms;omega) (by have:=hn.d.rr;omega) (foc5.take hw)).use ?_;clear hw;rintro _ w ⟨rfl,hw⟩;rw [htok] at hw ⊢;refine ⟨_,rfl,Br.e (λ c7=>?_) (λ c7=>?_)⟩
  ·have e:W.asks k n=Wd.put { W5 with ask:=W.ask++[(W.tok + 1,W.most)] } k (n.read (W.tok + 1)).2:=by
    unfold Wd.asks;rw [if_pos (by simpa using c7),hW5];rfl
   rw [e] at hact;refine Zi (Sat R [pts q (wdC W5 L),VC.tru]) hw (λ w hw=>hw.k1) λ w hw=>Zb.mk rfl ⟨L.ak,At.own Zf (by exact ⟨rfl,trivial⟩),Zb.mk rfl ⟨W.tok + 1,by rw [<-htok];exact At.own (eqS hw) (by exact ⟨rfl,trivial⟩),Zd hw λ c w hw=>⟨hw.k1,?_⟩⟩⟩;rw [hmost] at hw;have hw:=hw.re (pts c (.cells (Zbb (W.tok + 1,W.most)).toArray 144 (0,0)));have hw:Sat R (Zau L.ak W5.ask::pts c (.cells (Zbb (W.tok + 1,W.most)).toArray 144 (0,0))::pts q (wdC W5 L)::NAt R p (n.read (W.tok + 1)).2::Zu R ps k::Own L.ns 24 (ps.map ZW)::Zy R L.dk W5.dk::Zq R L.sn W5.sent::Zaj R L.me W5.ent::Zg L.ml (W5.lds.map ZaB)::pts b3 (evC x)::Hs) w:=hw.arr;have hal:=ok.al;have hask:W5.ask=W.ask:=by rw [hW5]
   refine Zbt elAk hw rfl rfl (by rw [List.length_map,hask];omega) (by rw [List.length_map,hask];omega) λ s2 w hw=>Zb.mk rfl ?_;refine Za hw (by kernel_rfl) rfl (by simp [Value.cells,Zc]) λ w hw=>?_;obtain ⟨W6,hW6⟩:∃ W6:Wd,W6={ W5 with ask:=W.ask++[(W.tok + 1,W.most)] }:=⟨_,rfl⟩;have hw:=hw.re (pts q (wdC { W5 with ask:=W.ask++[(W.tok + 1,W.most)] } { L with ak:=s2 }));rw [<-hW6] at hw hact;have foc6:Zd1 W6 k n ps p:=⟨by rw [hW6];exact foc5.hps,foc.hkp,foc.hp⟩;have e2:OwnN 2 s2 144 (W5.ask.map Zbb++[Zbb (W.tok + 1,W.most)])=Zau s2 W6.ask:=by
    unfold Zau;rw [hW6,hask,List.map_append];rfl
   rw [e2] at hw;have hw:Sat R (pts q (wdC W6 { L with ak:=s2 })::Zau s2 W6.ask::NAt R p (n.read (W.tok + 1)).2::Zu R ps k::Own L.ns 24 (ps.map ZW)::Zy R L.dk W6.dk::Zq R L.sn W6.sent::Zaj R L.me W6.ent::Zg L.ml (W6.lds.map ZaB)::pts b3 (evC x)::Hs) w:=by
    rw [hW6];rw [hW6] at hw;exact hw
   have hw:Sat R (NAt R p (n.read (W.tok + 1)).2::Zu R ps k::pts q (wdC W6 { L with ak:=s2 })::Own L.ns 24 (ps.map ZW)::Zy R L.dk W6.dk::Zq R L.sn W6.sent::Zaj R L.me W6.ent::Zg L.ml (W6.lds.map ZaB)::Zau s2 W6.ask::pts b3 (evC x)::Hs) w:=hw.arr;exact fin .refl hact (foc6.put (L:={ L with ak:=s2 }) .refl hw)
  ·have e:W.asks k n=Wd.put W5 k (n.read (W.tok + 1)).2:=by
    unfold Wd.asks;rw [if_neg (by simpa using c7),hW5];rfl
   rw [e] at hact;exact fin .refl hact (foc5.put .refl hw)
 rw [if_neg (by simpa using c5)] at hact;refine Br.e (λ c6=>?_) (λ c6=>?_)
 ·-- it has applied all, and compacts
  rw [if_pos (by simpa using c6)] at hact;have hw:=foc.take hw;refine (Zcd hw).use ?_;clear hw;rintro _ w ⟨rfl,hw⟩;refine ⟨_,rfl,?_⟩;refine (ZlB n.log.com hw).use ?_;clear hw;rintro _ w ⟨rfl,hw⟩;obtain ⟨n1,hn1⟩:∃ n1,n1=(n.done n.log.com).2:=⟨_,rfl⟩;have ha1:RnA n1:=by rw [hn1];exact hn.a.done _
  have hcomp:n.comp=n1.compact n1.log.app [n1.log.app % 256]:=by rw [hn1];rfl
  rw [<-hn1] at hw;refine ⟨_,rfl,?_⟩;refine (Zdj hw).use ?_;clear hw;rintro _ w ⟨rfl,hw⟩;refine ⟨_,rfl,?_⟩;refine (Zdj hw).use ?_;clear hw;rintro _ w ⟨rfl,hw⟩;refine ⟨_,rfl,Zd hw λ c w hw=>?_⟩;rw [ZhU] at hw;have hw:=ZbR hw;have hw:=hw.re (Own ⟨some ⟨c,0,none⟩,1,1⟩ 5 (b8 [n1.log.app % 256]));obtain ⟨R1,e1,hs1,hw⟩:=Own.leak hw;refine (ZhH ha1.b.g ha1.b.sn (d:=⟨some ⟨c,0,none⟩,1,1⟩) (dt:=[n1.log.app % 256]) n1.log.app hs1 (NAt.ext hw e1)).use ?_;clear hw;rw [<-hcomp];rintro _ w ⟨rfl,R2,e2,hw⟩;have e12:=e1.trans e2;have hw:=foc.put e12 hw;refine ⟨_,rfl,Br.e (λ c7=>?_) (λ c7=>?_)⟩
  ·rw [if_pos (by simpa using c7)] at hact
   rw [<-hk] at h2;refine (ZcN (h2 c6 n hnk c7) hw).use ?_;clear hw;rintro _ w ⟨rfl,R3,e3,hw⟩;obtain ⟨W1,hW1⟩:∃ W1,W1=(W.put k n.comp.2).write k:=⟨_,rfl⟩;rw [<-hW1] at hw hact;obtain ⟨n2,d2,wr⟩:=h1 _ _ hact;have hn2:W1.ns[k]? =some n2:=by have:=wr.hk;rwa [Znb] at this
   obtain ⟨d1,hd1⟩:∃ d1,W1.dk[k]? =some d1:=by
    cases hd:W1.dk[k]? with
    |some d=>exact ⟨d,rfl⟩
    |none=>have:=wr.hkd;rw [Znc hd,hd] at this;cases this
   rw [Zky hn2 hd1] at hact;obtain ⟨L1,ps1,⟨hps1,hpp1⟩,hwN⟩:=ZaH.iff.1 hw;obtain ⟨p1,foc1⟩:=Zd1.of hn2 hps1;have hpe:p1=p:=by
    have a1:=foc1.ptr foc1.hkp;have a2:=foc.ptr foc.hkp;have h3:(ps1.map (·.1))[k]? =(ps.map (·.1))[k]?:=by rw [hpp1]
    rw [List.getElem?_map,List.getElem?_map,List.getElem?_eq_getElem foc1.hkp,List.getElem?_eq_getElem foc.hkp] at h3;simp only [Option.map_some,Option.some.injEq] at h3;rw [<-a1,<-a2,h3]
   subst hpe;have hw:=foc1.take (q:=q) hwN;have e13:=e12.trans e3;have hsn2:=wr.ha.b.sn;have hsb:0<=n2.sn.ix/\n2.sn.ix<=1099511627776:=by
    have:=hsn2;unfold ZE Z3 at this;simp only [Bool.and_eq_true,decide_eq_true_eq] at this;exact this.1.1.1
   refine ⟨rfl,Zi (Sat R3 [pts q (wdC W1 L1),VC.tru]) hw (λ w hw=>hw.k1) λ w hw=>Zb.mk rfl ⟨L1.dk,At.own Zf (by exact ⟨rfl,trivial⟩),?_⟩⟩;refine (Zcx hsn2 hw).use ?_;clear hw;rintro _ w ⟨R4,v4,l4,d4,e4,hg4,hd4,rfl,hw⟩;refine ⟨_,_,v4,l4,d4,rfl,(e4.back hw).k1,?_⟩;have hw:=NAt.ext hw e4;have hw:Sat R4 (Zy R3 L1.dk W1.dk::NAt R4 p1 n2::Zu R3 ps1 k::pts q (wdC W1 L1)::Own L1.ns 24 (ps1.map ZW)::Zq R3 L1.sn W1.sent::Zaj R3 L1.me W1.ent::Zg L1.ml (W1.lds.map ZaB)::Zau L1.ak W1.ask::pts b3 (evC x)::Hs) w:=hw.arr;obtain ⟨xs,⟨hxs,hxd⟩,hw⟩:=Zy.iff.1 hw;have hkx:k<xs.length:=by
    have:=(List.getElem?_eq_some_iff.1 hd1).1;rw [<-hxs,List.length_map] at this;exact this
   have hxk:xs[k].2=d1:=by
    have h1:=(List.getElem?_eq_some_iff.1 hd1).2;simpa [<-hxs] using h1
   obtain ⟨lo,hlo⟩:∃ lo,lo=xs[k].1:=⟨_,rfl⟩;have hx:xs[k]=(lo,d1):=by rw [hlo,<-hxk]
   have hdk:Zl0 R3 d1 lo:=by have:=hxd xs[k] (List.getElem_mem hkx);rwa [hx] at this
   refine (OwnN.readsM (T:=141) (n:=8) (s:=L1.dk) (rows:=xs.map Z8) hw (eqS hw)).rngI (g:=Z8) k rfl hkx λ a hka _=>?_;refine OwnN.storeM (n:=8) (s:=L1.dk) (T:=141) (E:=xs) (g:=Z8) 2 (⟨v4,l4,d4,lo.s,lo.ds⟩,{ d1 with sn:=n2.sn }) hw hka hkx (by kernel_rfl) rfl (by simp [Value.cells]) (by rw [hx];rfl) λ w hw=>?_;obtain ⟨y,hy⟩:∃ y:DLo × Dk,y=(⟨v4,l4,d4,lo.s,lo.ds⟩,{ d1 with sn:=n2.sn }):=⟨_,rfl⟩;rw [<-hy] at hw;have hw:Sat R4 (NAt R4 p1 n2::pts q (wdC W1 L1)::OwnN 8 L1.dk 141 ((xs.set k y).map Z8)::Zu R3 ps1 k::Own L1.ns 24 (ps1.map ZW)::Zq R3 L1.sn W1.sent::Zaj R3 L1.me W1.ent::Zg L1.ml (W1.lds.map ZaB)::Zau L1.ak W1.ask::pts b3 (evC x)::Hs) w:=hw.arr;refine Zi (Sat R4 [pts q (wdC W1 L1),VC.tru]) hw (λ w hw=>hw.k1) λ w hw=>Zb.mk rfl ⟨L1.dk,At.own Zf (by exact ⟨rfl,trivial⟩),?_⟩;refine (Zcx hsn2 hw).use ?_;clear hw;rintro _ w ⟨R5,v5,l5,d5,e5,_,_,rfl,hw⟩;refine ⟨_,_,v5,l5,d5,rfl,(e5.back hw).k1,?_⟩;have hw:=NAt.ext hw e5;rw [Zh (by omega) (by omega)];refine (Zdi wr.ha.b.g.lg (n2.sn.ix + 1) 100000 hw).use ?_;clear hw;rintro _ w ⟨R6,t6,ds6,e6,hds6,hde6,rfl,hw⟩;have hcap6:=OwnN.cap (by omega) hw;refine ⟨t6,rfl,((e5.trans e6).back hw).k1,?_⟩;obtain ⟨R7,e7,hro7,hw⟩:=OwnN.leak hw;have hw:Sat R7 (OwnN 8 L1.dk 141 ((xs.set k y).map Z8)::NAt R6 p1 n2::pts q (wdC W1 L1)::Zu R3 ps1 k::Own L1.ns 24 (ps1.map ZW)::Zq R3 L1.sn W1.sent::Zaj R3 L1.me W1.ent::Zg L1.ml (W1.lds.map ZaB)::Zau L1.ak W1.ask::pts b3 (evC x)::Hs) w:=hw.arr;have hset:k<(xs.set k y).length:=by rw [List.length_set];exact hkx
   refine (OwnN.readsM (T:=141) (n:=8) (s:=L1.dk) (rows:=(xs.set k y).map Z8) hw (eqS hw)).rngI (g:=Z8) k rfl hset λ a hka _=>?_;obtain ⟨z,hz⟩:∃ z:DLo × Dk,z=(⟨v4,l4,d4,t6,ds6⟩,{ d1 with sn:=n2.sn,log:=n2.log.get (n2.sn.ix + 1) 100000 }):=⟨_,rfl⟩;refine OwnN.storeM (n:=8) (s:=L1.dk) (T:=141) (E:=xs.set k y) (g:=Z8) 7 z hw hka hset (by kernel_rfl) rfl (by simp [Value.cells]) (by rw [List.getElem_set_self,hy,hz];rfl) λ w hw=>?_;rw [List.set_set] at hw;have e47:=(e5.trans e6).trans e7;have e37:=e4.trans e47;obtain ⟨W2,hW2⟩:∃ W2:Wd,W2={ W1 with dk:=W1.dk.set k { d1 with sn:=n2.sn,log:=n2.log.get (n2.sn.ix + 1) 100000 } }:=⟨_,rfl⟩;rw [<-hW2] at hact;have hw:Sat R7 (Zy R7 L1.dk W2.dk::NAt R6 p1 n2::pts q (wdC W1 L1)::Zu R3 ps1 k::Own L1.ns 24 (ps1.map ZW)::Zq R3 L1.sn W1.sent::Zaj R3 L1.me W1.ent::Zg L1.ml (W1.lds.map ZaB)::Zau L1.ak W1.ask::pts b3 (evC x)::Hs) w:=by
    refine Zy.iff.2 ⟨xs.set k z,⟨by rw [List.map_set,hxs,hW2,hz],λ t ht=>?_⟩,hw⟩;rcases List.mem_or_eq_of_mem_set ht with h3|h3
    ·exact (hxd t h3).ext e37
    ·rw [h3,hz];exact ⟨hg4.ext e47,e47.slR hd4,hro7,hds6.ext e7,hde6,hcap6⟩
   have foc2:Zd1 W2 k n2 ps1 p1:=⟨by rw [hW2];exact hps1,foc1.hkp,foc1.hp⟩;have hput:W2.put k n2=W2:=by
    unfold Wd.put;have h3:W2.ns.set k n2=W2.ns:=by
     have h4:W2.ns[k]? =some n2:=by rw [hW2];exact hn2
     obtain ⟨h5,h6⟩:=List.getElem?_eq_some_iff.1 h4;rw [<-h6,List.set_getElem_self]
    rw [h3]
   have hw:Sat R7 (NAt R7 p1 n2::Zu R7 ps1 k::pts q (wdC W2 L1)::Own L1.ns 24 (ps1.map ZW)::Zy R7 L1.dk W2.dk::Zq R7 L1.sn W2.sent::Zaj R7 L1.me W2.ent::Zg L1.ml (W2.lds.map ZaB)::Zau L1.ak W2.ask::pts b3 (evC x)::Hs) w:=by
    have hw:Sat R7 (NAt R6 p1 n2::Zu R3 ps1 k::Zq R3 L1.sn W1.sent::Zaj R3 L1.me W1.ent::pts q (wdC W1 L1)::Own L1.ns 24 (ps1.map ZW)::Zy R7 L1.dk W2.dk::Zg L1.ml (W1.lds.map ZaB)::Zau L1.ak W1.ask::pts b3 (evC x)::Hs) w:=hw.arr;have hw:Sat R7 (NAt R7 p1 n2::Zu R7 ps1 k::Zq R7 L1.sn W1.sent::Zaj R7 L1.me W1.ent::pts q (wdC W1 L1)::Own L1.ns 24 (ps1.map ZW)::Zy R7 L1.dk W2.dk::Zg L1.ml (W1.lds.map ZaB)::Zau L1.ak W1.ask::pts b3 (evC x)::Hs) w:=
     (NAt.ext hw e7).cons λ _ h=>(Zu.ext h e37).cons λ _ h=>(Zq.ext h e37).cons λ _ h=>Zaj.ext h e37
    rw [hW2];rw [hW2] at hw;exact (show Sat R7 (NAt R7 p1 n2::Zu R7 ps1 k::pts q (wdC W1 L1)::Own L1.ns 24 (ps1.map ZW)::Zy R7 L1.dk (W1.dk.set k { d1 with sn:=n2.sn,log:=n2.log.get (n2.sn.ix + 1) 100000 })::Zq R7 L1.sn W1.sent::Zaj R7 L1.me W1.ent::Zg L1.ml (W1.lds.map ZaB)::Zau L1.ak W1.ask::pts b3 (evC x)::Hs) w from hw.arr)
   have hw:=foc2.put (L:=L1) (R1:=R7) .refl hw;rw [hput] at hw;exact fin (e13.trans e37) hact hw
  ·rw [if_neg (by simpa using c7)] at hact
   exact fin e12 hact hw
 rw [if_neg (by simpa using c6)] at hact;exact fin .refl hact (ZaH.iff.2 ⟨L,ps,⟨hps,rfl⟩,hw⟩)
end
section
open Go Go.VC Tryz
open Go.Rf (Ey Lg ZD)
variable {R R' R1 R2:Cx} {Hs Rest Rest2:List HP} {w:World} {p q:Nat} {pp:List Nat} {n m:Rn}
def Zb6 (v:Nat):Gp:=⟨(List.range v).map λ (i:Nat)=>(i:Int) + 1,[]⟩
def dk0 (v:Nat):Dk:=⟨⟨0,0⟩,⟨0,0,Zb6 v,[]⟩,[]⟩
def nd0 (v i:Nat):Rn:=((Wd.startN (dk0 v) i).getD ⟨⟨0,0,⟨0,0⟩,⟨[],[]⟩,0,0,0,0,[],[]⟩,0,0,⟨⟨0,0,0,[]⟩,[],0,0⟩,sn0,⟨[],[]⟩,none,[],0,⟨0,0⟩,false,0,[],[]⟩)
def wd0 (k v:Nat):Wd:=⟨(List.range k).map (nd0 v),List.replicate k (dk0 v),[],[],0,[],[],0,true⟩
theorem Za7 {v:Nat} (h1:1<=v) (h6:v<=7):Zo (Zb6 v).vs (Zb6 v).ls=true:=by
 have:v=1\/v=2\/v=3\/v=4\/v=5\/v=6\/v=7:=by omega
 rcases this with rfl|rfl|rfl|rfl|rfl|rfl|rfl<;>simp [Zb6,Zo,ZM,Zt,ZS,List.range,List.range.loop]
theorem ZmM {v i:Nat} (h1:1<=v) (h6:v<=7) (hi:i<=6):Wd.startN (dk0 v) i=some (nd0 v i):=by
 have hg:=Za7 h1 h6;have h2:(Wd.startN (dk0 v) i).isSome=true:=by
  unfold Wd.startN ZbO;have e1:ZE (dk0 v).sn=true:=by
   unfold ZE;rw [show Zo (dk0 v).sn.g.vs (dk0 v).sn.g.ls=true from hg];rfl
  have e2:Zko ((i:Int) + 1) (dk0 v).hd (dk0 v).sn.g 3=true:=by
   unfold Zko;rw [show Zo (dk0 v).sn.g.vs (dk0 v).sn.g.ls=true from hg]
   have:Z3 ((i:Int) + 1) 1 15=true:=by unfold Z3;rw [decide_eq_true (by omega)]
   rw [this];rfl
  rw [if_neg (by rw [e1];decide),if_neg (by rw [e2];decide)];rfl
 obtain ⟨x,hx⟩:=Option.isSome_iff_exists.1 h2;unfold nd0;rw [hx];rfl
theorem Zpj {v:Nat}:ZmL (dk0 v):=⟨by simp [dk0],Int.le_refl _,by show (0:Int)<=_;omega,λ e he=>by cases he⟩
theorem elNd:El prog 82 82 24 8:=⟨underlying82,⟨_,underlying82⟩,by kernel_rfl⟩
theorem elDk:ElN prog 83 83 141 8 128:=⟨underlying83,⟨_,underlying83⟩,by kernel_rfl⟩
theorem ZH.snoc {ps:List (Nat × Rn)} {t:Nat × Rn} (hw:Sat R (NAt R1 t.1 t.2::ZH R1 ps::Hs) w):Sat R (ZH R1 (ps++[t])::Hs) w:=by
 refine Sat.star.2 ?_;rw [List.map_append,List.append_assoc];have h:Sat R (NAt R1 t.1 t.2::(ps.map (λ t=>NAt R1 t.1 t.2)++Hs)) w:=hw.cons λ _ h=>Sat.star.1 h;exact h.perm (List.perm_middle (l₁:=ps.map λ t=>NAt R1 t.1 t.2) (a:=NAt R1 t.1 t.2)).symm
set_option maxRecDepth 20000 in
theorem Zj7 {many voters:Nat} (h1:1<=voters) (h2:voters<=many) (h6:many<=7) (hw:Sat R Hs w):
  Zj prog 27 #[.int .i64 many,.int .i64 voters] w λ v w'=>∃ R' q pp,v=.pointer (some ⟨q,0,none⟩)/\R.Ext R'/\Sat R' (ZaH R' q pp (wd0 many voters)::Hs) w':=by
 apply Zqf;refine Zd hw λ me w hw=>?_;have hw:=Zg.new (α:=Int) rfl hw;refine Zd hw λ ml w hw=>?_;have hw:=Zg.new (α:=Int) rfl hw;refine Zd hw λ q w hw=>Zd hw λ b6 w hw=>?_;refine Za hw (by kernel_rfl) rfl (by simp [Value.cells,Zc]) λ w hw=>?_;have hw:=hw.re (pts b6 (ZJ ⟨none,0,0⟩ ⟨none,0,0⟩));obtain ⟨L0,hL0⟩:∃ L0:WLo,L0=⟨⟨none,0,0⟩,⟨none,0,0⟩,⟨none,0,0⟩,me,ml,⟨none,0,0⟩⟩:=⟨_,rfl⟩;have hw:Sat R (pts b6 (ZJ ⟨none,0,0⟩ ⟨none,0,0⟩)::pts q (wdC (wd0 0 voters) L0)::Zg ml ([]:List (Int × Value))::Zg me ([]:List (Int × Value))::Hs) w:=by rw [hL0];exact hw
 refine ⟨λ i w=>∃ (j:Nat) (s:Sl),i=j + 1/\j<=voters/\Sat R (pts b6 (ZJ s ⟨none,0,0⟩)::Own s 3 (ints ((Zb6 j).vs))::pts q (wdC (wd0 0 voters) L0)::Zg ml ([]:List (Int × Value))::Zg me ([]:List (Int × Value))::Hs) w,λ i _=>(100 - i).toNat,⟨0,⟨none,0,0⟩,rfl,Nat.zero_le _,?_⟩,?_⟩
 ·have h:=Own.nil (T:=3) hw
  exact h.swap
 clear hw;rintro _ _ w ⟨j,s,rfl,hj,hw⟩;refine Br.d (λ h=>?_) (λ h=>?_)
 ·refine ⟨s,At.own (eqS hw) (by exact ⟨rfl,trivial⟩),?_⟩
  refine Zcv (x:=(j:Int) + 1) Zcj hw.swap (by unfold Zb6;rw [List.length_map,List.length_range];omega) λ s2 w hw=>?_;have hw:=hw.swap;refine Za hw (by kernel_rfl) rfl (by simp [Value.cells,Zc]) λ w hw=>?_;have hw:=hw.re (pts b6 (ZJ s2 ⟨none,0,0⟩));rw [Zh (by omega) (by omega)];refine ⟨⟨j + 1,s2,by omega,by omega,?_⟩,by dsimp only;omega⟩;have e:(Zb6 (j + 1)).vs=(Zb6 j).vs++[(j:Int) + 1]:=by unfold Zb6;rw [List.range_succ,List.map_append];rfl
  rw [e];exact hw
 ·have hjv:j=voters:=by omega
  subst hjv;have hwo:=hw.swap;clear hw;obtain ⟨Ra,ea,hsa,hw⟩:=Own.leak hwo;have hgr:Zd7 Ra (Zb6 j) s ⟨none,0,0⟩:=⟨hsa.ro (by unfold Zb6;rw [List.length_map,List.length_map,List.length_range];omega),⟨rfl,by simp [Zb6],λ h=>absurd rfl h⟩⟩;have hw:Sat Ra (pts q (wdC (wd0 0 j) L0)::pts b6 (ZJ s ⟨none,0,0⟩)::Zg ml ([]:List (Int × Value))::Zg me ([]:List (Int × Value))::Hs) w:=hw.arr;refine ⟨λ i w=>∃ (k:Nat) (R1:Cx) (ps:List (Nat × Rn)) (ns dk:Sl),i=k + 1/\k<=many/\Ra.Ext R1/\ps.map (·.2)=(wd0 k j).ns/\Sat R1 (pts q (wdC (wd0 k j) ⟨ns,dk,⟨none,0,0⟩,me,ml,⟨none,0,0⟩⟩)::Own ns 24 (ps.map ZW)::Zy R1 dk (wd0 k j).dk::ZH R1 ps::pts b6 (ZJ s ⟨none,0,0⟩)::Zg ml ([]:List (Int × Value))::Zg me ([]:List (Int × Value))::Hs) w,λ i _=>(100 - i).toNat,
   ⟨0,Ra,[],⟨none,0,0⟩,⟨none,0,0⟩,rfl,Nat.zero_le _,.refl,rfl,?_⟩,?_⟩
  ·rw [hL0] at hw
   have h:=OwnN.nil (n:=8) (T:=141) hw;have h:Sat Ra (Zy Ra ⟨none,0,0⟩ []::pts q (wdC (wd0 0 j) ⟨⟨none,0,0⟩,⟨none,0,0⟩,⟨none,0,0⟩,me,ml,⟨none,0,0⟩⟩)::pts b6 (ZJ s ⟨none,0,0⟩)::Zg ml ([]:List (Int × Value))::Zg me ([]:List (Int × Value))::Hs) w:=Zy.iff.2 ⟨[],⟨rfl,λ _ h=>by cases h⟩,h⟩;have h:=Own.nil (T:=24) h;have h:Sat Ra (ZH Ra []::Own ⟨none,0,0⟩ 24 []::Zy Ra ⟨none,0,0⟩ []::pts q (wdC (wd0 0 j) ⟨⟨none,0,0⟩,⟨none,0,0⟩,⟨none,0,0⟩,me,ml,⟨none,0,0⟩⟩)::pts b6 (ZJ s ⟨none,0,0⟩)::Zg ml ([]:List (Int × Value))::Zg me ([]:List (Int × Value))::Hs) w:=Sat.star.2 h;exact (show Sat Ra (pts q (wdC (wd0 0 j) ⟨⟨none,0,0⟩,⟨none,0,0⟩,⟨none,0,0⟩,me,ml,⟨none,0,0⟩⟩)::Own ⟨none,0,0⟩ 24 []::Zy Ra ⟨none,0,0⟩ []::ZH Ra []::pts b6 (ZJ s ⟨none,0,0⟩)::Zg ml ([]:List (Int × Value))::Zg me ([]:List (Int × Value))::Hs) w from h.arr)
  clear hw;rintro _ _ w ⟨k,R1,ps,ns,dk,rfl,hk,eR,hps,hw⟩;have hpl:ps.length=k:=by have:=congrArg List.length hps;rw [List.length_map] at this;rw [this];simp [wd0]
  refine Br.d (λ h3=>?_) (λ h3=>?_)
  ·have hkm:k<many:=by omega
   refine Zi (Sat R1 [pts q (wdC (wd0 k j) ⟨ns,dk,⟨none,0,0⟩,me,ml,⟨none,0,0⟩⟩),VC.tru]) hw (λ w hw=>hw.k1) λ w hw=>⟨dk,At.own Zf (by exact ⟨rfl,trivial⟩),s,⟨none,0,0⟩,At.own (eqS hw) (by exact ⟨rfl,rfl,trivial⟩),Zd hw λ b39 w hw=>⟨hw.k1,?_⟩⟩;have hgr1:=hgr.ext eR;obtain ⟨lo,hlo⟩:∃ lo:DLo,lo=⟨s,⟨none,0,0⟩,⟨none,0,0⟩,⟨none,0,0⟩,[]⟩:=⟨_,rfl⟩;have hw:=hw.re (pts b39 (.cells (Z8 (lo,dk0 j)).toArray 141 (0,0))) (by rw [hlo];rfl);have hw:Sat R1 (Zy R1 dk (wd0 k j).dk::pts b39 (.cells (Z8 (lo,dk0 j)).toArray 141 (0,0))::pts q (wdC (wd0 k j) ⟨ns,dk,⟨none,0,0⟩,me,ml,⟨none,0,0⟩⟩)::Own ns 24 (ps.map ZW)::ZH R1 ps::pts b6 (ZJ s ⟨none,0,0⟩)::Zg ml ([]:List (Int × Value))::Zg me ([]:List (Int × Value))::Hs) w:=hw.arr;obtain ⟨xs,⟨hxs,hxd⟩,hw⟩:=Zy.iff.1 hw;have hxl:xs.length=k:=by have:=congrArg List.length hxs;rw [List.length_map] at this;rw [this];simp [wd0]
   refine Zbt elDk hw rfl rfl (by rw [List.length_map];omega) (by rw [List.length_map];omega) λ dk2 w hw=>?_;have hdk1:(wd0 (k + 1) j).dk=(wd0 k j).dk++[dk0 j]:=by unfold wd0;exact List.replicate_succ'
   have hw:Sat R1 (Zy R1 dk2 (wd0 (k + 1) j).dk::pts q (wdC (wd0 k j) ⟨ns,dk,⟨none,0,0⟩,me,ml,⟨none,0,0⟩⟩)::Own ns 24 (ps.map ZW)::ZH R1 ps::pts b6 (ZJ s ⟨none,0,0⟩)::Zg ml ([]:List (Int × Value))::Zg me ([]:List (Int × Value))::Hs) w:=by
    refine Zy.iff.2 ⟨xs++[(lo,dk0 j)],⟨by rw [List.map_append,hxs,hdk1];rfl,λ t ht=>?_⟩,by rw [List.map_append];exact hw⟩;rcases List.mem_append.1 ht with h4|h4
    ·exact hxd t h4
    ·simp at h4
     rw [h4,hlo];exact ⟨hgr1,⟨rfl,Nat.le_refl _,λ h=>absurd rfl h⟩,⟨Wid.nil,rfl,λ h=>absurd rfl h⟩,.nil,rfl,Nat.le_refl _⟩
   have hw:=hw.swap;refine Za hw (by kernel_rfl) rfl (by simp [Value.cells,Zc]) λ w hw=>?_;have hw:=hw.re (pts q (wdC (wd0 k j) ⟨ns,dk2,⟨none,0,0⟩,me,ml,⟨none,0,0⟩⟩));refine ⟨ns,At.own (eqS hw) (by exact ⟨rfl,trivial⟩),?_⟩;have hw:Sat R1 (Own ns 24 (ps.map ZW)::pts q (wdC (wd0 k j) ⟨ns,dk2,⟨none,0,0⟩,me,ml,⟨none,0,0⟩⟩)::Zy R1 dk2 (wd0 (k + 1) j).dk::ZH R1 ps::pts b6 (ZJ s ⟨none,0,0⟩)::Zg ml ([]:List (Int × Value))::Zg me ([]:List (Int × Value))::Hs) w:=hw.arr;refine Zes (x:=.pointer none) elNd hw (by unfold Zah;rw [List.all_eq_true];intro z hz;obtain ⟨t,_,rfl⟩:=List.mem_map.1 hz;rfl) rfl (by rw [List.length_map];omega) (by rw [List.length_map];omega) λ ns2 w hw=>?_;have hw:=hw.swap;refine Za hw (by kernel_rfl) rfl (by simp [Value.cells,Zc]) λ w hw=>?_;obtain ⟨L2,hL2⟩:∃ L2:WLo,L2=⟨ns2,dk2,⟨none,0,0⟩,me,ml,⟨none,0,0⟩⟩:=⟨_,rfl⟩;have hw:=hw.re (pts q (wdC (wd0 (k + 1) j) L2)) (by rw [hL2];rfl);have hw:Sat R1 (pts q (wdC (wd0 (k + 1) j) L2)::Own L2.ns 24 (ps.map ZW++[.pointer none])::Zy R1 L2.dk (wd0 (k + 1) j).dk::ZH R1 ps::pts b6 (ZJ s ⟨none,0,0⟩)::Zg ml ([]:List (Int × Value))::Zg me ([]:List (Int × Value))::Hs) w:=by rw [hL2];rw [hL2] at hw;exact hw.arr
   rw [Zh (x:=(k:Int) + 1 - 1) (by omega) (by omega),show (k:Int) + 1 - 1=(k:Int) by omega];refine (Zfo (k:=k) (d:=dk0 j) (by rw [List.length_append,List.length_map,hpl];simp) (by rw [hdk1,List.getElem?_append_right (by simp [wd0])];simp [wd0]) Zpj (by omega) hw).use ?_;clear hw;have hst:=ZmM (v:=j) (i:=k) h1 (by omega) (by omega);rintro _ w (⟨hs,rfl,hw⟩|⟨p2,n2,R2,hs,rfl,e2,hw⟩)
   ·rw [hst] at hs;cases hs
   ·rw [hst] at hs
    obtain rfl:=Option.some.inj hs;refine ⟨true,rfl,Br.f rfl ⟨⟨k + 1,R2,ps++[(p2,nd0 j k)],ns2,dk2,?_,by omega,eR.trans e2,?_,?_⟩,?_⟩⟩
    ·rw [Zh (by omega) (by omega)];omega
    ·rw [List.map_append,hps];unfold wd0;rw [List.range_succ,List.map_append];rfl
    ·have e3:(ps.map ZW++[Value.pointer none]).set k (Value.pointer (some ⟨p2,0,none⟩))=(ps++[(p2,nd0 j k)]).map ZW:=by
      rw [List.map_append,List.set_append,if_neg (by rw [List.length_map];omega),List.length_map,hpl,Nat.sub_self];rfl
     rw [e3] at hw;have hw:Sat R2 (Zy R1 L2.dk (wd0 (k + 1) j).dk::ZH R1 ps::NAt R2 p2 (nd0 j k)::pts q (wdC (wd0 (k + 1) j) L2)::Own L2.ns 24 ((ps++[(p2,nd0 j k)]).map ZW)::pts b6 (ZJ s ⟨none,0,0⟩)::Zg ml ([]:List (Int × Value))::Zg me ([]:List (Int × Value))::Hs) w:=hw.arr;have hw:Sat R2 (Zy R2 L2.dk (wd0 (k + 1) j).dk::ZH R2 ps::NAt R2 (p2,nd0 j k).1 (p2,nd0 j k).2::pts q (wdC (wd0 (k + 1) j) L2)::Own L2.ns 24 ((ps++[(p2,nd0 j k)]).map ZW)::pts b6 (ZJ s ⟨none,0,0⟩)::Zg ml ([]:List (Int × Value))::Zg me ([]:List (Int × Value))::Hs) w:=(Zy.ext hw e2).cons λ _ h=>ZH.ext e2 h;have hw:Sat R2 (NAt R2 (p2,nd0 j k).1 (p2,nd0 j k).2::ZH R2 ps::Zy R2 L2.dk (wd0 (k + 1) j).dk::pts q (wdC (wd0 (k + 1) j) L2)::Own L2.ns 24 ((ps++[(p2,nd0 j k)]).map ZW)::pts b6 (ZJ s ⟨none,0,0⟩)::Zg ml ([]:List (Int × Value))::Zg me ([]:List (Int × Value))::Hs) w:=hw.arr;have hw:=ZH.snoc hw;rw [hL2] at hw;exact hw.arr
    ·rw [Zh (by omega) (by omega)];show (100 - ((k:Int) + 1 + 1)).toNat<(100 - ((k:Int) + 1)).toNat;omega
  ·have hkm:k=many:=by omega
   subst hkm;refine ⟨R1,q,ps.map (·.1),rfl,ea.trans eR,ZaH.iff.2 ⟨⟨ns,dk,⟨none,0,0⟩,me,ml,⟨none,0,0⟩⟩,ps,⟨hps,rfl⟩,?_⟩⟩;have hw:Sat R1 (Zg me ([]:List (Int × Value))::pts q (wdC (wd0 k j) ⟨ns,dk,⟨none,0,0⟩,me,ml,⟨none,0,0⟩⟩)::Own ns 24 (ps.map ZW)::ZH R1 ps::Zy R1 dk (wd0 k j).dk::Zg ml ([]:List (Int × Value))::pts b6 (ZJ s ⟨none,0,0⟩)::Hs) w:=hw.arr;have hw:Sat R1 (Zaj R1 me []::pts q (wdC (wd0 k j) ⟨ns,dk,⟨none,0,0⟩,me,ml,⟨none,0,0⟩⟩)::Own ns 24 (ps.map ZW)::ZH R1 ps::Zy R1 dk (wd0 k j).dk::Zg ml ([]:List (Int × Value))::pts b6 (ZJ s ⟨none,0,0⟩)::Hs) w:=Zaj.iff.2 ⟨[],⟨rfl,λ _ h=>by cases h⟩,hw⟩;have hw:=Zq.nil (R1:=R1) hw;have hw:=OwnN.nil (n:=2) (T:=144) hw;have hw:Sat R1 (pts b6 (ZJ s ⟨none,0,0⟩)::pts q (wdC (wd0 k j) ⟨ns,dk,⟨none,0,0⟩,me,ml,⟨none,0,0⟩⟩)::Own ns 24 (ps.map ZW)::ZH R1 ps::Zy R1 dk (wd0 k j).dk::Zq R1 ⟨none,0,0⟩ []::Zaj R1 me []::Zg ml ([]:List (Int × Value))::OwnN 2 ⟨none,0,0⟩ 144 []::Hs) w:=hw.arr;exact hw.drop
end
section
open Go Go.VC Tryz
open Go.Rf (Ey Lg ZD)
variable {R R' R1 R2:Cx} {Hs Rest Rest2:List HP} {w:World} {p q:Nat} {pp:List Nat} {n m:Rn}
structure Zd2 (W:Wd) (x:Ev):Prop where
 ok:ZqE W
 act:∀ W' k,W.act x=some (W',k)->∃ n d,ZoN W' k n d
 comp:x.do'=6->∀ n,W.ns[W.who x.who]? =some n->n.comp.1=0->∃ n' d,ZoN (W.put (W.who x.who) n.comp.2) (W.who x.who) n' d
end
section
open Go Go.VC Tryz
set_option maxRecDepth 10000
def B29 (i:Option Addr) (o:Int) (K:Value->World->Prop) (w:World):Prop:=
 ∃ (f:Int->World->Prop) (m:Int->World->Nat),(f o w)/\∀ (p:Env) (b:Int) (c:World),f b c->
 Zb i λ k=>
 ∃ d:Sl,(At (λ g=>g=c) ⟨k.block,k.off + 2,none⟩ [.slice d.a d.len d.cap])/\
 Br (decide (b<(↑d.len:Int)))
 (Br (decide (b>20000))
 (K (.int .i64 ((-1))) c)
 (Calls prog 28 #[.pointer i,.agg #[.int .i64 1,.int .i64 0,.int .i64 b,.int .i64 0]] c λ n l=>
 (n=.returned (.tuple #[]))/\
 (f (IntKind.i64.wrap (b + 1)) l)/\m (IntKind.i64.wrap (b + 1)) l<m b c))
 (Zb i λ j=>
 ∃ e:Sl,(At (λ g=>g=c) ⟨j.block,j.off + 2,none⟩ [.slice e.a e.len e.cap])/\
 K (.int .i64 ((↑e.len:Int))) c)
def sk29:Sk:=(.seq .leaf (.seq (.seq .leaf (.block (.loop [5] [(.int .i64)] [4,5,7,8,9,10,11,12,13,14,15,16,17,18,19,20,21] .leaf))) .leaf))
theorem Zqd (b:Option Addr) (a:Int) (K:Value->World->Prop) (w:World) (h:B29 b a K w):Zj prog 29 #[.pointer b,.int .i64 a] w K:=cq (sk:=sk29) func29 (by kernel_rfl) (by kernel_rfl) (by kernel_rfl) h
def B7 (e:Int) (i:Int) (g:Sl) (K:Value->World->Prop) (w:World):Prop:=
 Calls prog 8 #[] w λ bu x=>
 ∃ n:Bool,(bu=.returned (.bool n))/\
 ∃ (X:World->Prop),(Br (!n)
 (K (.bool n) x)
 (Br (decide (e<1))
 (K (.bool n) x)
 (Br (decide (e>7))
 (K (.bool n) x)
 (Br (decide (i<0))
 (K (.bool n) x)
 (X  x)))))/\
 ∀ (ce:Env)  (a4:World),X  a4->
 Calls prog 27 #[.int .i64 e,.int .i64 e] a4 λ bv a8=>
 ∃ d:Option Addr,(bv=.returned (.pointer d))/\
 Br d.isNone
 (K (.bool false) a8)
 (Nz e (∃ (L:Int->World->Prop) (bc:Int->World->Nat),(L 0 a8)/\∀ (cf:Env) (p:Int) (I:World),L p I->
 Br (decide (p<3))
 (Calls prog 28 #[.pointer d,.agg #[.int .i64 0,.int .i64 (i.tmod e),.int .i64 0,.int .i64 0]] I λ b1 a9=>
 (b1=.returned (.tuple #[]))/\
 (L (IntKind.i64.wrap (p + 1)) a9)/\bc (IntKind.i64.wrap (p + 1)) a9<bc p I)
 (Calls prog 29 #[.pointer d,.int .i64 0] I λ b2 C=>
 ∃ U:Int,(b2=.returned (.int .i64 U))/\
 ∃ (Y:World->Prop),(Br (decide (U<0))
 (K (.bool false) C)
 (Zb d λ bn=>
 ∃ u:Sl,(At (λ b=>b=C) (Addr.add bn 0) [.slice u.a u.len u.cap])/\
 Rng (i.tmod e) u.len (Zb u.a λ bo=>
 ∃ aq:Option Addr,(At (λ b=>b=C) (Addr.add bo ((i.tmod e).toNat)) [.pointer aq])/\
 Zb aq λ bp=>
 ∃ ar:Option Addr,(At (λ b=>b=C) (Addr.add bp 0) [.pointer ar])/\
 Calls prog 16 #[.pointer ar] C λ b3 ba=>
 ∃ au:Int,(b3=.returned (.int .i64 au))/\
 Br (au !=3)
 (K (.bool false) ba)
 (Y  ba))))/\
 ∀ (ch:Env)  (bb:World),Y  bb->
 ∃ (O:World->Prop),(∃ (M:Int->World->Prop) (bd:Int->World->Nat),(M 0 bb)/\∀ (ci:Env) (j:Int) (D:World),M j D->
 ∃ (Z:World->Prop),(Br (decide (j<(↑g.len:Int)))
 (Br (decide (j<50))
 (Z  D)
 (O  D))
 (O  D))/\
 ∀ (cj:Env)  (az:World),Z  az->
 Drw az λ Q a0=>
 Zb d λ bq=>
 ∃ v:Sl,(At Q (Addr.add bq 0) [.slice v.a v.len v.cap])/\
 Rng (i.tmod e) v.len (Zb v.a λ br=>
 ∃ av:Option Addr,(At Q (Addr.add br ((i.tmod e).toNat)) [.pointer av])/\
 Rng j g.len (Zb g.a λ bs=>
 ∃ aw:Int,(At (λ b=>b=a0) (Addr.add bs j.toNat) [.int .u8 aw])/\
 New (.cells #[.int .u8 aw] 5 (0,0)) (λ bt a1=>
 (Q a1)/\
 Calls prog 11 #[.pointer av,.slice ((some ⟨bt,0,none⟩)) 1 1] a1 λ b4 b9=>
 ∃ ax:Int,∃ ay:Int,(b4=.returned (.tuple #[.int .i64 ax,.int .i64 ay]))/\
 Calls prog 30 #[.pointer d,.int .i64 (i.tmod e)] b9 λ b5 G=>
 (b5=.returned (.tuple #[]))/\
 Br (ay !=0)
 (K (.bool false) G)
 (Br (ax !=IntKind.i64.wrap (j + 2))
 (K (.bool false) G)
 ((M (IntKind.i64.wrap (j + 1)) G)/\bd (IntKind.i64.wrap (j + 1)) G<bd j D))) a0)))/\
 ∀ (ck:Env)  (a2:World),O  a2->
 Calls prog 29 #[.pointer d,.int .i64 U] a2 λ b6 ca=>
 ∃ T:Int,(b6=.returned (.int .i64 T))/\
 Calls prog 28 #[.pointer d,.agg #[.int .i64 0,.int .i64 (i.tmod e),.int .i64 0,.int .i64 0]] ca λ b7 cb=>
 (b7=.returned (.tuple #[]))/\
 Calls prog 29 #[.pointer d,.int .i64 T] cb λ b8 y=>
 ∃ af:Int,(b8=.returned (.int .i64 af))/\
 ∃ (aa:World->Prop),(Br (decide (T<0))
 (K (.bool false) y)
 (Br (decide (af<0))
 (K (.bool false) y)
 (Zb d λ ad=>
 ∃ ag:Bool,(At (λ b=>b=y) ⟨ad.block,ad.off + 8,none⟩ [.bool ag])/\
 Br (!ag)
 (K (.bool false) y)
 (aa  y))))/\
 ∀ (cl:Env)  (a3:World),aa  a3->
 ∃ (E:Int->World->Prop) (J:Int->World->Nat),(E 0 a3)/\∀ (cm:Env) (f:Int) (z:World),E f z->
 Br (decide (f<e))
 (∃ (ab:World->Prop),(Drw z λ F V=>
 Zb d λ bf=>
 ∃ q:Sl,(At (λ b=>b=V) (Addr.add bf 0) [.slice q.a q.len q.cap])/\
 Rng f q.len (Zb q.a λ bg=>
 ∃ ah:Option Addr,(At (λ b=>b=V) (Addr.add bg f.toNat) [.pointer ah])/\
 Calls prog 15 #[.pointer ah] V λ bw A=>
 ∃ ai:Int,(bw=.returned (.int .i64 ai))/\
 (F A)/\
 Br (ai !=IntKind.i64.wrap ((if 50<(↑g.len:Int) then 50 else (↑g.len:Int)) + 1))
 (K (.bool false) A)
 (Zb d λ bh=>
 ∃ r:Sl,(At (λ b=>b=A) (Addr.add bh 0) [.slice r.a r.len r.cap])/\
 Rng f r.len (Zb r.a λ bi=>
 ∃ aj:Option Addr,(At (λ b=>b=A) (Addr.add bi f.toNat) [.pointer aj])/\
 Zb d λ bj=>
 ∃ s:Sl,(At F (Addr.add bj 0) [.slice s.a s.len s.cap])/\
 Rng (i.tmod e) s.len (Zb s.a λ bk=>
 ∃ al:Option Addr,(At F (Addr.add bk ((i.tmod e).toNat)) [.pointer al])/\
 Calls prog 18 #[.pointer aj] A λ bx a5=>
 ∃ ak:Int,(bx=.returned (.int .i64 ak))/\
 (F a5)/\
 Calls prog 18 #[.pointer al] a5 λ bz a6=>
 ∃ am:Int,(bz=.returned (.int .i64 am))/\
 Br (ak !=am)
 (K (.bool false) a6)
 (ab  a6))))))/\
 ∀ (cn:Env)  (a7:World),ab  a7->
 ∃ (N:Int->World->Prop) (be:Int->World->Nat),(N 0 a7)/\∀ (co:Env) (c:Int) (k:World),N c k->
 ∃ (ac:World->Prop),(Br (decide (c<(↑g.len:Int)))
 (Br (decide (c<50))
 (ac  k)
 ((E (IntKind.i64.wrap (f + 1)) k)/\J (IntKind.i64.wrap (f + 1)) k<J f z))
 ((E (IntKind.i64.wrap (f + 1)) k)/\J (IntKind.i64.wrap (f + 1)) k<J f z))/\
 ∀ (cg:Env)  (H:World),ac  H->
 Zb d λ bl=>
 ∃ t:Sl,(At (λ b=>b=H) (Addr.add bl 0) [.slice t.a t.len t.cap])/\
 Rng f t.len (Zb t.a λ bm=>
 ∃ an:Option Addr,(At (λ b=>b=H) (Addr.add bm f.toNat) [.pointer an])/\
 Calls prog 14 #[.pointer an,.int .i64 (IntKind.i64.wrap (c + 2)),.int .i64 1] H λ b0 cc=>
 ∃ m:Sl,(b0=.returned (.slice m.a m.len m.cap))/\
 Drw cc λ cd l=>
 Br ((↑m.len:Int) !=1)
 (K (.bool false) l)
 (Rng 0 m.len (Zb m.a λ ae=>
 ∃ o:Sl,(At (λ b=>b=l) ⟨(ae.add (Zaf (Int.toNat 0) 4)).block,(ae.add (Zaf (Int.toNat 0) 4)).off + 3,none⟩ [.slice o.a o.len o.cap])/\
 ∃ ao:ByteArray,(∀ b,(λ b=>b=l) b->((convert 33 9 (.slice o.a o.len o.cap))).run prog b=.ok (.string ao) b)/\
 ((0:Int)<=IntKind.i64.wrap (c + 1))/\
 ((IntKind.i64.wrap (c + 1):Int)<=(↑g.cap:Int))/\
 ((0:Int)<=c)/\
 ((c:Int)<=(↑(IntKind.i64.wrap (c + 1)).toNat:Int))/\
 ∃ ap:ByteArray,(∀ b,(λ b=>b=l) b->((convert 33 9 (.slice (ZbB g.a c.toNat g.cap 1) ((IntKind.i64.wrap (c + 1)).toNat - c.toNat) (g.cap - c.toNat)))).run prog b=.ok (.string ap) b)/\
 Br (!ao.toList==ap.toList)
 (K (.bool false) l)
 ((N (IntKind.i64.wrap (c + 1)) l)/\be (IntKind.i64.wrap (c + 1)) l<be c k)))))
 (K (.bool true) z))))
def sk7:Sk:=(.seq .leaf (.seq .leaf (.cut [] [] [6,20,21,22,23,24,25,26,27,28,29,30,31,32,33,34] .leaf (.seq .leaf (.seq .leaf (.seq .leaf (.seq (.seq .leaf (.block (.loop [10] [(.int .i64)] [10,43,44,45,46,47,48,49,50] .leaf))) (.seq .leaf (.cut [] [] [6,53,54,55,56,57,58,59,60,61,62,63,64,65,66,67,68] .leaf (.cut [] [] [6,12,13,14,69,70,71,72,73,74,75,76,77,78,79,80,81,82,83,84,85,86,87,88,89,90,91,92,93,94,95,96,97,98,99,100,101,102,103,104,105] (.seq .leaf (.block (.loop [12] [(.int .i64)] [6,12,13,14,69,70,71,72,73,74,75,76,77,78,79,80,81,82,83,84,85,86,87,88,89,90,91,92,93,94,95,96,97,98,99,100,101,102,103,104,105] (.cut [] [] [69,70,71,72,73,74,75,76] .leaf (.seq (.block (.seq (.cond .leaf .leaf) .leaf)) .leaf))))) (.seq .leaf (.seq .leaf (.seq .leaf (.cut [] [] [6,116,117,118,119,120,121,122,123,124,125,126,127,128] .leaf (.seq (.seq .leaf (.block (.loop [16] [(.int .i64)] [6,16,17,18,129,130,131,132,133,134,135,136,137,138,139,140,141,142,143,144,145,146,147,148,149,150,151,152,153,154,155,156,157,158,159,160,161,162,163,164,165,166,167,168,169,170,171,172,173,174,175,176,177,178,179,180,181,182,183,184,185,186,187,188,189,190,191,192,193,194,195,196,197,198,199,200,201,202] (.seq .leaf (.seq (.block (.cut [] [] [6,134,135,136,137,138,139,140,141,142,143,144,145,146,147,148,149,150,151,152,153,154,155,156,157,158,159,160,161,162,163,164,165] (.seq (.cond .leaf .leaf) .leaf) (.seq .leaf (.block (.loop [17] [(.int .i64)] [6,17,18,166,167,168,169,170,171,172,173,174,175,176,177,178,179,180,181,182,183,184,185,186,187,188,189,190,191,192,193,194,195,196,197,198,199,200,201,202] (.cut [] [] [166,167,168,169,170,171,172,173] .leaf (.seq (.block (.seq .leaf (.seq (.cond .leaf .leaf) .leaf))) .leaf))))))) .leaf))))) .leaf)))))))))))))))
theorem Zrw (c:Int) (d:Int) (b:Sl) (K:Value->World->Prop) (w:World) (h:B7 c d b K w):Zj prog 7 #[.int .i64 c,.int .i64 d,.slice b.a b.len b.cap] w K:=cq (sk:=sk7) func7 (by kernel_rfl) (by kernel_rfl) (by kernel_rfl) h
end
section
open Go Go.VC Tryz
open Go.Rf (Ey Lg ZD)
def Zfe (x:Ey):Bool:=x.kd==2
def ZhR (l:List Ey):Prop:=∀ x∈l,Zfe x=false
def grp (g0:Gp) (l:List Ey):Gp:=l.foldl ZV g0
def gOk (g:Gp):Prop:=Zo g.vs g.ls=true
theorem ZgB (g0:Gp) (a b:List Ey):grp g0 (a++b)=grp (grp g0 a) b:=List.foldl_append
theorem ZfF {g0:Gp}:∀ {l:List Ey},ZhR l->grp g0 l=g0
 |[],_=>rfl
 |x::l,h=>by
  have hx:Zfe x=false:=h x List.mem_cons_self;have e:ZV g0 x=g0:=by
   unfold ZV;rw [if_pos (by unfold Zfe at hx;simpa using hx)]
  show grp (ZV g0 x) l=g0;rw [e];exact ZfF λ y hy=>h y (List.mem_cons_of_mem _ hy)
def ZcZ (l:List Ey):Prop:=ZhR l\/∃ a c b,l=a++c::b/\ZhR a/\ZhR b
theorem ZdZ {g:Gp} (h:gOk g) (x:Ey):∃ n,ZdP g.vs g.ls n (ZV g x).vs (ZV g x).ls:=by
 have same:ZdP g.vs g.ls 0 g.vs g.ls:=⟨h,h,.inl rfl⟩;unfold ZV;split
 ·exact ⟨0,same⟩
 ·split
  ·exact ⟨0,same⟩
  ·split
   ·rename_i h1
    have h1:(chG g.vs g.ls (rd2 x.dt).1 (rd2 x.dt).2.1).2.2=0:=by simpa using h1
    exact ⟨_,Zc6 (kind:=(rd2 x.dt).1) (Prod.ext rfl (Prod.ext rfl h1))⟩
   ·exact ⟨0,same⟩
theorem ZfE {g0:Gp} (h:gOk g0):∀ (l:List Ey),gOk (grp g0 l)
 |[]=>h
 |x::l=>by
  obtain ⟨n,hc⟩:=ZdZ h x;exact ZfE (g0:=ZV g0 x) hc.right l
theorem Zln {g0:Gp} (h:gOk g0) {l:List Ey} (ho:ZcZ l):∃ n,ZdP g0.vs g0.ls n (grp g0 l).vs (grp g0 l).ls:=by
 rcases ho with hn|⟨a,c,b,rfl,ha,hb⟩
 ·rw [ZfF hn];exact ⟨0,h,h,.inl rfl⟩
 ·rw [ZgB,ZfF ha]
  show ∃ n,ZdP g0.vs g0.ls n (grp (ZV g0 c) b).vs (grp (ZV g0 c) b).ls;rw [ZfF hb];exact ZdZ h c
theorem Zby {g0:Gp} (h:gOk g0) {p a b:List Ey} (hab:(ZhR a/\ZcZ b)\/(ZcZ a/\ZhR b)) {q r:List Int}
  (hq:ZaE (grp g0 (p++a)).vs (grp g0 (p++a)).ls q=true) (hr:ZaE (grp g0 (p++b)).vs (grp g0 (p++b)).ls r=true):∃ m,ZS q m=true/\ZS r m=true:=by
 have hp:=ZfE h p;rw [ZgB] at hq hr;rcases hab with ⟨h1,h2⟩|⟨h1,h2⟩
 ·rw [ZfF h1] at hq
  obtain ⟨n,hc⟩:=Zln hp h2;obtain ⟨m,_,h3,h4,_⟩:=Zo9 hc hq hr;exact ⟨m,h3,h4⟩
 ·rw [ZfF h2] at hr
  obtain ⟨n,hc⟩:=Zln hp h1;obtain ⟨m,_,h3,h4,_⟩:=Zo9 hc hr hq;exact ⟨m,h4,h3⟩
theorem part {α:Type}:∀ (a b:List α),∃ p x y,a=p++x/\b=p++y/\(x=[]\/y=[]\/∃ u v x' y',x=u::x'/\y=v::y'/\u≠v)
 |[],b=>⟨[],[],b,rfl,rfl,.inl rfl⟩
 |a,[]=>⟨[],a,[],rfl,rfl,.inr (.inl rfl)⟩
 |u::a,v::b=>by
  by_cases h:u=v
  ·subst h
   obtain ⟨p,x,y,h1,h2,h3⟩:=part a b;exact ⟨u::p,x,y,by rw [h1];rfl,by rw [h2];rfl,h3⟩
  ·exact ⟨[],u::a,v::b,rfl,rfl,.inr (.inr ⟨u,v,a,b,rfl,rfl,h⟩)⟩
theorem ZbU:∀ (l:List Ey),ZhR l\/∃ a c b,l=a++c::b/\ZhR a/\Zfe c=true
 |[]=>.inl λ _ h=>by cases h
 |x::l=>by
  cases hx:Zfe x with
  |true=>exact .inr ⟨[],x,l,rfl,(λ _ h=>by cases h),hx⟩
  |false=>
   rcases ZbU l with h|⟨a,c,b,rfl,ha,hc⟩
   ·refine .inl λ y hy=>?_
    rcases List.mem_cons.1 hy with rfl|hy
    ·exact hx
    ·exact h y hy
   ·refine .inr ⟨x::a,c,b,rfl,λ y hy=>?_,hc⟩
    rcases List.mem_cons.1 hy with rfl|hy
    ·exact hx
    ·exact ha y hy
theorem Zkv (l:List Ey):ZcZ l\/∃ a c b d e,l=a++c::(b++d::e)/\Zfe c=true/\Zfe d=true:=by
 rcases ZbU l with h|⟨a,c,b,rfl,ha,hc⟩
 ·exact .inl (.inl h)
 ·rcases ZbU b with h|⟨b1,d,e,rfl,_,hd⟩
  ·exact .inl (.inr ⟨a,c,b,rfl,ha,h⟩)
  ·exact .inr ⟨a,c,b1,d,e,rfl,hc,hd⟩
end
section
open Go Go.VC Tryz
open Go.Rf (Ey Lg ZD)
structure Zl where
 el:Int->Prop
 ll:Int->List Ey
 bn:Int->Nat
 rc:Int->Nat->Nat->Prop
def Zl.Good (h:Zl) (X:List Ey):Prop:=∀ k (e:Ey),X[k]? =some e->h.el e.tm/\X.take (k + 1)=(h.ll e.tm).take (k + 1)
def Zl.Has (h:Zl) (u t:Int) (i:Nat):Prop:=i<=h.bn u/\(h.ll u).take i=(h.ll t).take i
structure Zl.Ok (h:Zl):Prop where
 good:∀ t,h.el t->h.Good (h.ll t)
 len:∀ t,h.el t->h.bn t<=(h.ll t).length
 old:∀ t (k:Nat) (e:Ey),h.el t->(h.ll t)[k]? =some e->k<h.bn t->e.tm<t
 own:∀ t (k:Nat) (e:Ey),h.el t->(h.ll t)[k]? =some e->h.bn t<=k->e.tm=t
 mono:∀ t (j k:Nat) (d e:Ey),h.el t->(h.ll t)[j]? =some d->(h.ll t)[k]? =some e->j<=k->d.tm<=e.tm
 rc:∀ t (i b:Nat),h.rc t i b->h.el t/\i<=b/\b<=(h.ll t).length/\h.bn t<i
 ch:∀ v (k:Nat) (e:Ey),h.el v->(h.ll v)[k]? =some e->h.bn v<=k->Zfe e=true->∃ i b:Nat,h.rc v i b/\b<=k/\(∀ (j:Nat) (d:Ey),i<=j->j<k->(h.ll v)[j]? =some d->Zfe d=false)/\∀ i' b':Nat,h.rc v i' b'->k<b'->i<i'
theorem Zae {α:Type} {a b:List α} {n k:Nat} (h:a.take n=b.take n) (hk:k<n):a[k]? =b[k]?:=by
 have h1:(a.take n)[k]? =(b.take n)[k]?:=by rw [h]
 rwa [List.getElem?_take_of_lt hk,List.getElem?_take_of_lt hk] at h1
theorem ZQ {α:Type} {a b:List α} {n m:Nat} (h:a.take n=b.take n) (hm:m<=n):a.take m=b.take m:=by
 have h1:(a.take n).take m=(b.take n).take m:=by rw [h]
 rwa [List.take_take,List.take_take,Nat.min_eq_left hm] at h1
theorem Zl.Ok.made {h:Zl} (ok:h.Ok) {t:Int} {k:Nat} {e:Ey} (ht:h.el t) (hk:(h.ll t)[k]? =some e) (hc:Zfe e=true):
  h.el e.tm/\(h.ll t).take (k + 1)=(h.ll e.tm).take (k + 1)/\h.bn e.tm<=k/\∃ i b,h.rc e.tm i b/\b<=k/\(∀ (j:Nat) (d:Ey),i<=j->j<k->(h.ll t)[j]? =some d->Zfe d=false)/\∀ i' b',h.rc e.tm i' b'->k<b'->i<i':=by
 obtain ⟨h1,h2⟩:=ok.good t ht k e hk;have h3:(h.ll e.tm)[k]? =some e:=by rw [<-Zae h2 (Nat.lt_succ_self k)];exact hk
 have h4:h.bn e.tm<=k:=by
  rcases Nat.lt_or_ge k (h.bn e.tm) with h5|h5
  ·have:=ok.old _ k e h1 h3 h5;omega
  ·exact h5
 obtain ⟨i,b,r1,r2,r3,r4⟩:=ok.ch e.tm k e h1 h3 h4 hc;refine ⟨h1,h2,h4,i,b,r1,r2,λ j d hij hjk hd=>r3 j d hij hjk ?_,r4⟩;rw [<-Zae h2 (by omega:j<k + 1)];exact hd
theorem Zl.Ok.common {h:Zl} (ok:h.Ok) {t u:Int} {i b:Nat} (hr:h.rc t i b) (hu:h.el u) (htu:t<u)
  (H2:∀ t' i' b',h.rc t' i' b'->(t'<t\/(t'=t/\i'<i))->h.Has u t' i')
  (H3:∀ t' i' b' u',h.rc t' i' b'->h.el u'->t'<u'->u'<u->h.Has u' t' i'):
  h.Has u t i\/∃ p x y,(h.ll t).take b=p++x/\(h.ll u).take (h.bn u)=p++y/\((ZhR x/\ZcZ y)\/(ZcZ x/\ZhR y)):=by
 obtain ⟨ht,hib,hbl,hbi⟩:=ok.rc t i b hr;have hul:=ok.len u hu;obtain ⟨p,x,y,hx,hy,hp⟩:=part ((h.ll t).take b) ((h.ll u).take (h.bn u));have hpx:p.length + x.length=b:=by have:=congrArg List.length hx;rw [List.length_take,List.length_append] at this;omega
 have hpy:p.length + y.length=h.bn u:=by have:=congrArg List.length hy;rw [List.length_take,List.length_append] at this;omega
 have getx:∀ j,j<b->(h.ll t)[j]? =(p++x)[j]?:=λ j hj=>by rw [<-hx,List.getElem?_take_of_lt hj]
 have gety:∀ j,j<h.bn u->(h.ll u)[j]? =(p++y)[j]?:=λ j hj=>by rw [<-hy,List.getElem?_take_of_lt hj]
 -- the commit's log begins the leader's
 by_cases hx0:x=[]
 ·left
  subst hx0;have hpb:p.length=b:=by simpa using hpx
  refine ⟨by omega,?_⟩;have e1:((h.ll t).take b).take i=((h.ll u).take (h.bn u)).take i:=by
   rw [hx,hy,List.append_nil,List.take_append_of_le_length (by omega)]
  rw [List.take_take,List.take_take,Nat.min_eq_left hib,Nat.min_eq_left (by omega)] at e1;exact e1.symm
 -- they do not agree behind where they part
 have apart:∀ j,p.length<j->j<=b->j<=h.bn u->(h.ll t).take j=(h.ll u).take j->False:=λ j h1 h2 h3 he=>by
  have e1:=Zae he h1;rw [getx _ (by omega),gety _ (by omega),List.getElem?_append_right (Nat.le_refl _),List.getElem?_append_right (Nat.le_refl _),Nat.sub_self] at e1;rcases hp with rfl|rfl|⟨a,c,x',y',rfl,rfl,hne⟩
  ·exact hx0 rfl
  ·simp at hpy;omega
  ·simp at e1;exact hne e1
 have inx:∀ (l1:List Ey) (c:Ey) (l2:List Ey),x=l1++c::l2->(h.ll t)[p.length + l1.length]? =some c/\p.length + l1.length<b:=λ l1 c l2 hxe=>by
  have hl:p.length + l1.length<b:=by rw [hxe] at hpx;simp at hpx;omega
  refine ⟨?_,hl⟩;rw [getx _ hl,List.getElem?_append_right (by omega),Nat.add_sub_cancel_left,hxe,List.getElem?_append_right (Nat.le_refl _)];simp
 have iny:∀ (l1:List Ey) (c:Ey) (l2:List Ey),y=l1++c::l2->(h.ll u)[p.length + l1.length]? =some c/\p.length + l1.length<h.bn u:=λ l1 c l2 hye=>by
  have hl:p.length + l1.length<h.bn u:=by rw [hye] at hpy;simp at hpy;omega
  refine ⟨?_,hl⟩;rw [gety _ hl,List.getElem?_append_right (by omega),Nat.add_sub_cancel_left,hye,List.getElem?_append_right (Nat.le_refl _)];simp
 -- a change of the later leader's log, of a term of at least t: it has what was committed
 have late:∀ k e,(h.ll u)[k]? =some e->k<h.bn u->p.length<=k->t<=e.tm->h.Has u t i:=λ k e hk hkb hpk hte=>by
  obtain ⟨g1,g2⟩:=ok.good u hu k e hk;have g3:=ok.old u k e hu hk hkb;have g5:(h.ll e.tm)[k]? =some e:=by rw [<-Zae g2 (Nat.lt_succ_self k)];exact hk
  have g4:h.bn e.tm<=k:=by
   rcases Nat.lt_or_ge k (h.bn e.tm) with h5|h5
   ·have:=ok.old _ k e g1 g5 h5;omega
   ·exact h5
  rcases Int.lt_or_eq_of_le hte with h6|h6
  ·obtain ⟨a1,a2⟩:=H3 t i b e.tm hr g1 h6 g3
   exact ⟨by omega,(ZQ g2 (by omega)).trans a2⟩
  ·exfalso
   have hpb:p.length<b:=by have:x.length≠0:=λ h0=>hx0 (List.length_eq_zero_iff.1 h0);omega
   refine apart (p.length + 1) (by omega) (by omega) (by omega) ?_;rw [h6];exact (ZQ g2 (by omega)).symm
 -- at most one change behind where they part, in each
 have onex:ZcZ x:=by
  rcases Zkv x with h1|⟨l1,c,l2,d,l3,hxe,hc,hd⟩
  ·exact h1
  ·exfalso
   obtain ⟨k1,b1⟩:=inx l1 c (l2++d::l3) hxe;obtain ⟨k2,b2⟩:=inx (l1++c::l2) d l3 (by rw [hxe];simp);obtain ⟨m1,m2,m3,i',b',r1,r2,r3,r4⟩:=ok.made ht k2 hd;have hdt:d.tm<=t:=by
    rcases Nat.lt_or_ge (p.length + (l1++c::l2).length) (h.bn t) with h5|h5
    ·have:=ok.old t _ d ht k2 h5;omega
    ·have:=ok.own t _ d ht k2 h5;omega
   have hlen:(l1++c::l2).length=l1.length + 1 + l2.length:=by simp;omega
   have hci:p.length + l1.length<i':=by
    rcases Nat.lt_or_ge (p.length + l1.length) i' with h5|h5
    ·exact h5
    ·have:=r3 _ c h5 (by omega) k1;rw [hc] at this;cases this
   obtain ⟨_,q1,_,_⟩:=ok.rc _ _ _ r1;obtain ⟨a1,a2⟩:=H2 d.tm i' b' r1 (by
    rcases Int.lt_or_eq_of_le hdt with h6|h6
    ·exact .inl h6
    ·exact .inr ⟨h6,r4 i b (by rw [h6];exact hr) b2⟩)
   exact apart i' (by omega) (by omega) a1 ((ZQ m2 (by omega)).trans a2.symm)
 by_cases hy1:¬ ZcZ y
 ·left
  rcases Zkv y with h1|⟨l1,c,l2,d,l3,hye,hc,hd⟩
  ·exact absurd h1 hy1
  ·obtain ⟨k1,b1⟩:=iny l1 c (l2++d::l3) hye
   obtain ⟨k2,b2⟩:=iny (l1++c::l2) d l3 (by rw [hye];simp);have hlen:(l1++c::l2).length=l1.length + 1 + l2.length:=by simp;omega
   rcases Int.lt_or_le d.tm t with h6|h6
   ·exfalso
    obtain ⟨m1,m2,m3,i',b',r1,r2,r3,r4⟩:=ok.made hu k2 hd;have hci:p.length + l1.length<i':=by
     rcases Nat.lt_or_ge (p.length + l1.length) i' with h5|h5
     ·exact h5
     ·have:=r3 _ c h5 (by omega) k1;rw [hc] at this;cases this
    obtain ⟨_,q1,_,_⟩:=ok.rc _ _ _ r1;obtain ⟨a1,a2⟩:=H3 d.tm i' b' t r1 ht h6 htu;exact apart i' (by omega) (by omega) (by omega) (a2.trans (ZQ m2 (by omega)).symm)
   ·exact late _ d k2 b2 (by omega) h6
 have hy1:=Classical.not_not.1 hy1
 -- not both have one
 rcases ZbU x with hnx|⟨l1,c1,l2,hxe,_,hc1⟩
 ·exact .inr ⟨p,x,y,hx,hy,.inl ⟨hnx,hy1⟩⟩
 rcases ZbU y with hny|⟨l3,c2,l4,hye,_,hc2⟩
 ·exact .inr ⟨p,x,y,hx,hy,.inr ⟨onex,hny⟩⟩
 left;obtain ⟨k1,b1⟩:=inx l1 c1 l2 hxe;obtain ⟨k2,b2⟩:=iny l3 c2 l4 hye;rcases Int.lt_or_le c2.tm t with h6|h6
 ·exfalso
  obtain ⟨m1,m2,m3,i1,q1,r1,r2,r3,r4⟩:=ok.made ht k1 hc1;obtain ⟨n1,n2,n3,i2,q2,s1,s2,s3,s4⟩:=ok.made hu k2 hc2;obtain ⟨_,q3,_,_⟩:=ok.rc _ _ _ s1;obtain ⟨_,q4,q5,q6⟩:=ok.rc _ _ _ r1;obtain ⟨a1,a2⟩:=H3 c2.tm i2 q2 t s1 ht h6 htu;have hi2:i2<=p.length:=by
   rcases Nat.lt_or_ge p.length i2 with h5|h5
   ·exact (apart i2 h5 (by omega) (by omega) (a2.trans (ZQ n2 (by omega)).symm)).elim
   ·exact h5
  have hc1t:c1.tm<=t:=by
   rcases Nat.lt_or_ge (p.length + l1.length) (h.bn t) with h5|h5
   ·have:=ok.old t _ c1 ht k1 h5;omega
   ·have:=ok.own t _ c1 ht k1 h5;omega
  -- the committed entry of the term of c2 stands in p
  obtain ⟨_,q7,q8,q9⟩:=ok.rc _ _ _ s1;obtain ⟨d2,hd2⟩:∃ d,(h.ll c2.tm)[i2 - 1]? =some d:=⟨_,List.getElem?_eq_getElem (by omega)⟩;have hd2t:d2.tm=c2.tm:=ok.own _ _ d2 n1 hd2 (by omega);have hd2x:(h.ll t)[i2 - 1]? =some d2:=by rw [Zae a2 (by omega:i2 - 1<i2)];exact hd2
  have hge:c2.tm<=c1.tm:=by rw [<-hd2t];exact ok.mono t _ _ d2 c1 ht hd2x k1 (by omega)
  have hgt:c2.tm<c1.tm:=by
   rcases Int.lt_or_eq_of_le hge with h7|h7
   ·exact h7
   ·exfalso
    have e2:=n2;rw [h7] at e2;exact apart (p.length + 1) (by omega) (by omega) (by omega) ((ZQ m2 (by omega)).trans (ZQ e2 (by omega)).symm)
  obtain ⟨d1,hd1⟩:∃ d,(h.ll c1.tm)[i1 - 1]? =some d:=⟨_,List.getElem?_eq_getElem (by omega)⟩;have hd1t:d1.tm=c1.tm:=ok.own _ _ d1 m1 hd1 (by omega);have hd1x:(h.ll t)[i1 - 1]? =some d1:=by rw [Zae m2 (by omega:i1 - 1<p.length + l1.length + 1)];exact hd1
  have hi1:p.length<i1:=by
   rcases Nat.lt_or_ge p.length i1 with h5|h5
   ·exact h5
   ·exfalso
    have hd1u:(h.ll u)[i1 - 1]? =some d1:=by
     rw [gety _ (by omega),List.getElem?_append_left (by omega)];rw [getx _ (by omega),List.getElem?_append_left (by omega)] at hd1x;exact hd1x
    have:=ok.mono u _ _ d1 c2 hu hd1u k2 (by omega);omega
  obtain ⟨b3,b4⟩:=H2 c1.tm i1 q1 r1 (by
   rcases Int.lt_or_eq_of_le hc1t with h7|h7
   ·exact .inl h7
   ·exact .inr ⟨h7,r4 i b (by rw [h7];exact hr) b1⟩)
  exact apart i1 hi1 (by omega) b3 ((ZQ m2 (by omega)).trans b4.symm)
 ·exact late _ c2 k2 b2 (by omega) h6
end
section
open Go Go.VC Tryz
open Go.Rf (Ey Lg ZD)
def ZgR (X:List Ey):Prop:=∀ (j k:Nat) (d e:Ey),X[j]? =some d->X[k]? =some e->j<=k->d.tm<=e.tm
def ltm (X:List Ey):Int:=match X.getLast? with|some e=>e.tm|none=>0
def ZaX (L B:List Ey):Prop:=ltm L<ltm B\/(ltm L=ltm B/\L.length<=B.length)
theorem Znu {X:List Ey} {k:Nat} {e:Ey} (hk:X[k]? =some e):∃ d,X[X.length - 1]? =some d/\ltm X=d.tm/\k<=X.length - 1:=by
 have h1:k<X.length:=by
  rcases Nat.lt_or_ge k X.length with h|h
  ·exact h
  ·rw [List.getElem?_eq_none h] at hk;cases hk
 refine ⟨X[X.length - 1]'(by omega),List.getElem?_eq_getElem _,?_,by omega⟩;unfold ltm;rw [List.getLast?_eq_getElem?,List.getElem?_eq_getElem (by omega)]
theorem Znt {X:List Ey} (h:0<ltm X):∃ d,X[X.length - 1]? =some d/\ltm X=d.tm:=by
 unfold ltm at *;rw [List.getLast?_eq_getElem?] at *;cases hx:X[X.length - 1]? with
 |none=>rw [hx] at h;cases h
 |some d=>exact ⟨d,rfl,rfl⟩
theorem Zl.Ok.voter {h:Zl} (ok:h.Ok) {t u:Int} {i b:Nat} (h0:0<t) (hr:h.rc t i b) {L B:List Ey} (hL:i<=L.length) (hLt:L.take i=(h.ll t).take i) (hm:ZgR L)
  (hB:h.Good B) (hBt:∀ (k:Nat) (e:Ey),B[k]? =some e->e.tm<u) (hn:ZaX L B)
  (H:∀ u',h.el u'->t<u'->u'<u->h.Has u' t i):i<=B.length/\B.take i=(h.ll t).take i:=by
 obtain ⟨ht,hib,hbl,hbi⟩:=ok.rc t i b hr;obtain ⟨d,hd⟩:∃ d,(h.ll t)[i - 1]? =some d:=⟨_,List.getElem?_eq_getElem (by omega)⟩;have hdt:d.tm=t:=ok.own t _ d ht hd (by omega);have hdL:L[i - 1]? =some d:=by rw [Zae hLt (by omega:i - 1<i)];exact hd
 obtain ⟨dl,hl1,hl2,hl3⟩:=Znu hdL;have hge:t<=ltm L:=by rw [hl2,<-hdt];exact hm _ _ d dl hdL hl1 hl3
 have hBg:t<=ltm B:=by rcases hn with h1|⟨h1,_⟩<;>omega
 obtain ⟨e,he,hee⟩:=Znt (X:=B) (by omega);obtain ⟨g1,g2⟩:=hB _ e he;have hBl:0<B.length:=by
  rcases Nat.eq_zero_or_pos B.length with h1|h1
  ·rw [List.length_eq_zero_iff.1 h1] at he;cases he
  ·exact h1
 have e1:B.length - 1 + 1=B.length:=by omega
 rw [e1] at g2;have heu:=hBt _ e he;rcases Int.lt_or_eq_of_le hBg with h6|h6
 ·rw [hee] at h6
  obtain ⟨a1,a2⟩:=H e.tm g1 h6 heu;have g5:(h.ll e.tm)[B.length - 1]? =some e:=by rw [<-Zae g2 (by omega:B.length - 1<B.length)];exact he
  have g4:h.bn e.tm<=B.length - 1:=by
   rcases Nat.lt_or_ge (B.length - 1) (h.bn e.tm) with h5|h5
   ·have:=ok.old _ _ e g1 g5 h5;omega
   ·exact h5
  exact ⟨by omega,(ZQ g2 (by omega)).trans a2⟩
 ·have hi:i<=B.length:=by rcases hn with h1|⟨h1,h2⟩<;>omega
  rw [hee] at h6;rw [<-h6] at g2;exact ⟨hi,ZQ g2 hi⟩
end
section
open Go Go.VC Tryz
open Go.Rf (Ey Lg ZD)
def Zl.cut (h:Zl) (u:Int) (B:List Ey):Zl:=
 ⟨λ t=>(h.el t/\t<u)\/t=u,λ t=>if t=u then B else h.ll t,λ t=>if t=u then B.length else h.bn t,λ t i b=>h.rc t i b/\t<u⟩
theorem Zl.cut_ll {h:Zl} {u t:Int} {B:List Ey} (ht:t<u):(h.cut u B).ll t=h.ll t:=if_neg (by omega)
theorem Zl.cut_bn {h:Zl} {u t:Int} {B:List Ey} (ht:t<u):(h.cut u B).bn t=h.bn t:=if_neg (by omega)
theorem Zl.cut_llu {h:Zl} {u:Int} {B:List Ey}:(h.cut u B).ll u=B:=if_pos rfl
theorem Zl.cut_bnu {h:Zl} {u:Int} {B:List Ey}:(h.cut u B).bn u=B.length:=if_pos rfl
theorem ZR {α:Type} {X:List α} {k:Nat} {e:α} (h:X[k]? =some e):k<X.length:=by
 rcases Nat.lt_or_ge k X.length with h1|h1
 ·exact h1
 ·rw [List.getElem?_eq_none h1] at h;cases h
theorem Zl.Ok.le {h:Zl} (ok:h.Ok) {t:Int} {k:Nat} {e:Ey} (ht:h.el t) (hk:(h.ll t)[k]? =some e):e.tm<=t:=by
 rcases Nat.lt_or_ge k (h.bn t) with h5|h5
 ·have:=ok.old t k e ht hk h5;omega
 ·have:=ok.own t k e ht hk h5;omega
theorem Zl.Ok.cut {h:Zl} (ok:h.Ok) {u:Int} {B:List Ey} (hB:h.Good B) (hBt:∀ (k:Nat) (e:Ey),B[k]? =some e->e.tm<u) (hm:ZgR B):(h.cut u B).Ok where
 good t ht k e hk:=by
  rcases ht with ⟨ht,hlt⟩|rfl
  ·rw [Zl.cut_ll hlt] at hk ⊢
   obtain ⟨g1,g2⟩:=ok.good t ht k e hk;have hle:=ok.le ht hk;exact ⟨.inl ⟨g1,by omega⟩,by rw [Zl.cut_ll (by omega)];exact g2⟩
  ·rw [Zl.cut_llu] at hk ⊢
   obtain ⟨g1,g2⟩:=hB k e hk;have:=hBt k e hk;exact ⟨.inl ⟨g1,this⟩,by rw [Zl.cut_ll this];exact g2⟩
 len t ht:=by
  rcases ht with ⟨ht,hlt⟩|rfl
  ·rw [Zl.cut_ll hlt,Zl.cut_bn hlt];exact ok.len t ht
  ·rw [Zl.cut_llu,Zl.cut_bnu];exact Nat.le_refl _
 old t k e ht hk hb:=by
  rcases ht with ⟨ht,hlt⟩|rfl
  ·rw [Zl.cut_ll hlt] at hk;rw [Zl.cut_bn hlt] at hb;exact ok.old t k e ht hk hb
  ·rw [Zl.cut_llu] at hk;exact hBt k e hk
 own t k e ht hk hb:=by
  rcases ht with ⟨ht,hlt⟩|rfl
  ·rw [Zl.cut_ll hlt] at hk;rw [Zl.cut_bn hlt] at hb;exact ok.own t k e ht hk hb
  ·rw [Zl.cut_llu] at hk;rw [Zl.cut_bnu] at hb;have:=ZR hk;omega
 mono t j k d e ht hj hk hjk:=by
  rcases ht with ⟨ht,hlt⟩|rfl
  ·rw [Zl.cut_ll hlt] at hj hk;exact ok.mono t j k d e ht hj hk hjk
  ·rw [Zl.cut_llu] at hj hk;exact hm j k d e hj hk hjk
 rc t i b hr:=by
  obtain ⟨hr,hlt⟩:=hr;obtain ⟨r1,r2,r3,r4⟩:=ok.rc t i b hr;exact ⟨.inl ⟨r1,hlt⟩,r2,by rw [Zl.cut_ll hlt];exact r3,by rw [Zl.cut_bn hlt];exact r4⟩
 ch v k e hv hk hb hc:=by
  rcases hv with ⟨hv,hlt⟩|rfl
  ·rw [Zl.cut_ll hlt] at hk
   rw [Zl.cut_bn hlt] at hb;obtain ⟨i,b,r1,r2,r3,r4⟩:=ok.ch v k e hv hk hb hc;exact ⟨i,b,⟨r1,hlt⟩,r2,λ j d h1 h2 h3=>r3 j d h1 h2 (by rwa [Zl.cut_ll hlt] at h3),λ i' b' h1 h2=>r4 i' b' h1.1 h2⟩
  ·rw [Zl.cut_llu] at hk;rw [Zl.cut_bnu] at hb;have:=ZR hk;omega
theorem Zl.Ok.commonB {h:Zl} (ok:h.Ok) {t u:Int} {i b:Nat} {B:List Ey} (hB:h.Good B) (hBt:∀ (k:Nat) (e:Ey),B[k]? =some e->e.tm<u) (hm:ZgR B)
  (hr:h.rc t i b) (htu:t<u)
  (H1:∀ t' i' b',h.rc t' i' b'->(t'<t\/(t'=t/\i'<i))->i'<=B.length/\B.take i'=(h.ll t').take i')
  (H3:∀ t' i' b' u',h.rc t' i' b'->h.el u'->t'<u'->u'<u->h.Has u' t' i'):
  (i<=B.length/\B.take i=(h.ll t).take i)\/∃ p x y,(h.ll t).take b=p++x/\B=p++y/\((ZhR x/\ZcZ y)\/(ZcZ x/\ZhR y)):=by
 have okc:=ok.cut hB hBt hm;rcases okc.common (t:=t) (u:=u) (i:=i) (b:=b) ⟨hr,htu⟩ (.inr rfl) htu
  (λ t' i' b' hr' hs=>by
   unfold Zl.Has;rw [Zl.cut_llu,Zl.cut_bnu,Zl.cut_ll (hr'.2)];exact H1 t' i' b' hr'.1 hs)
  (λ t' i' b' u' hr' hu' h1 h2=>by
   unfold Zl.Has;rw [Zl.cut_ll h2,Zl.cut_bn h2,Zl.cut_ll hr'.2];rcases hu' with ⟨hu',_⟩|rfl
   ·exact H3 t' i' b' u' hr'.1 hu' h1 h2
   ·omega) with h1|⟨p,x,y,h1,h2,h3⟩
 ·left
  unfold Zl.Has at h1;rwa [Zl.cut_llu,Zl.cut_bnu,Zl.cut_ll htu] at h1
 ·refine .inr ⟨p,x,y,?_,?_,h3⟩
  ·rwa [Zl.cut_ll htu] at h1
  ·rwa [Zl.cut_llu,Zl.cut_bnu,List.take_length] at h2
end
section
open Go Go.VC Tryz
open Go.Rf (Ey Lg ZD)
theorem Zl.Ok.madeB {h:Zl} (ok:h.Ok) {X:List Ey} (hX:h.Good X) {k:Nat} {e:Ey} (hk:X[k]? =some e) (hc:Zfe e=true):
  h.el e.tm/\X.take (k + 1)=(h.ll e.tm).take (k + 1)/\h.bn e.tm<=k/\∃ i b,h.rc e.tm i b/\b<=k/\(∀ (j:Nat) (d:Ey),i<=j->j<k->X[j]? =some d->Zfe d=false):=by
 obtain ⟨h1,h2⟩:=hX k e hk;have h3:(h.ll e.tm)[k]? =some e:=by rw [<-Zae h2 (Nat.lt_succ_self k)];exact hk
 have h4:h.bn e.tm<=k:=by
  rcases Nat.lt_or_ge k (h.bn e.tm) with h5|h5
  ·have:=ok.old _ k e h1 h3 h5;omega
  ·exact h5
 obtain ⟨i,b,r1,r2,r3,r4⟩:=ok.ch e.tm k e h1 h3 h4 hc;refine ⟨h1,h2,h4,i,b,r1,r2,λ j d hij hjk hd=>r3 j d hij hjk ?_⟩;rw [<-Zae h2 (by omega:j<k + 1)];exact hd
def Zl.All (h:Zl) (u:Int) (B:List Ey):Prop:=∀ t i b,h.rc t i b->t<u->i<=B.length/\B.take i=(h.ll t).take i
structure Zd6 (B C p x y:List Ey):Prop where
 b:B=p++x
 c:C=p++y
 a:∀ j,p.length<j->j<=B.length->j<=C.length->B.take j=C.take j->False
theorem Zd6.swap {B C p x y:List Ey} (h:Zd6 B C p x y):Zd6 C B p y x:=⟨h.c,h.b,λ j h1 h2 h3 h4=>h.a j h1 h3 h2 h4.symm⟩
theorem Zd6.of (B C:List Ey):∃ p x y,Zd6 B C p x y:=by
 obtain ⟨p,x,y,hx,hy,hp⟩:=part B C;refine ⟨p,x,y,hx,hy,λ j h1 h2 h3 he=>?_⟩;have e1:=Zae he h1;rw [hx,hy,List.getElem?_append_right (Nat.le_refl _),List.getElem?_append_right (Nat.le_refl _),Nat.sub_self] at e1;rcases hp with rfl|rfl|⟨a,c,x',y',rfl,rfl,hne⟩
 ·simp at hx;subst hx;omega
 ·simp at hy;subst hy;omega
 ·simp at e1;exact hne e1
theorem Zd6.inx {B C p x y:List Ey} (h:Zd6 B C p x y) {l1:List Ey} {c:Ey} {l2:List Ey} (hx:x=l1++c::l2):B[p.length + l1.length]? =some c:=by
 rw [h.b,List.getElem?_append_right (by omega),Nat.add_sub_cancel_left,hx,List.getElem?_append_right (Nat.le_refl _)];simp
theorem Zd6.one {h:Zl} (ok:h.Ok) {u:Int} {B C p x y:List Ey} (hp:Zd6 B C p x y) (hB:h.Good B) (hBt:∀ (k:Nat) (e:Ey),B[k]? =some e->e.tm<u) (H:h.All u C):ZcZ x:=by
 rcases Zkv x with h1|⟨l1,c,l2,d,l3,hxe,hc,hd⟩
 ·exact h1
 ·exfalso
  have k1:=hp.inx (l1:=l1) (c:=c) (l2:=l2++d::l3) hxe;have k2:=hp.inx (l1:=l1++c::l2) (c:=d) (l2:=l3) (by rw [hxe];simp);have hlen:(l1++c::l2).length=l1.length + 1 + l2.length:=by simp;omega
  have hkl:=ZR k2;obtain ⟨m1,m2,m3,i',b',r1,r2,r3⟩:=ok.madeB hB k2 hd;have hci:p.length + l1.length<i':=by
   rcases Nat.lt_or_ge (p.length + l1.length) i' with h5|h5
   ·exact h5
   ·have:=r3 _ c h5 (by omega) k1;rw [hc] at this;cases this
  obtain ⟨_,q1,_,_⟩:=ok.rc _ _ _ r1;obtain ⟨a1,a2⟩:=H _ _ _ r1 (hBt _ _ k2);exact hp.a i' (by omega) (by omega) a1 ((ZQ m2 (by omega)).trans a2.symm)
theorem Zd6.less {h:Zl} (ok:h.Ok) {u:Int} {B C p x y:List Ey} (hp:Zd6 B C p x y) (hC:h.Good C) (hCt:∀ (k:Nat) (e:Ey),C[k]? =some e->e.tm<u) (hm:ZgR B) (H:h.All u B)
  {k1 k2:Nat} {c1 c2:Ey} (h1:B[k1]? =some c1) (h2:C[k2]? =some c2) (hk1:p.length<=k1) (hc2:Zfe c2=true):c2.tm<=c1.tm:=by
 obtain ⟨n1,n2,n3,i2,q2,s1,s2,s3⟩:=ok.madeB hC h2 hc2;obtain ⟨_,q7,q8,q9⟩:=ok.rc _ _ _ s1;obtain ⟨a1,a2⟩:=H _ _ _ s1 (hCt _ _ h2);have hl2:=ZR h2;have hi2:i2<=p.length:=by
  rcases Nat.lt_or_ge p.length i2 with h5|h5
  ·exact (hp.a i2 h5 a1 (by omega) (a2.trans (ZQ n2 (by omega)).symm)).elim
  ·exact h5
 obtain ⟨d2,hd2⟩:∃ d,(h.ll c2.tm)[i2 - 1]? =some d:=⟨_,List.getElem?_eq_getElem (by omega)⟩;have hd2t:d2.tm=c2.tm:=ok.own _ _ d2 n1 hd2 (by omega);have hd2x:B[i2 - 1]? =some d2:=by rw [Zae a2 (by omega:i2 - 1<i2)];exact hd2
 rw [<-hd2t];exact hm _ _ d2 c1 hd2x h1 (by omega)
theorem Zl.Ok.twoB {h:Zl} (ok:h.Ok) {u:Int} {B C:List Ey} (hB:h.Good B) (hBt:∀ (k:Nat) (e:Ey),B[k]? =some e->e.tm<u) (hmB:ZgR B) (HB:h.All u B)
  (hC:h.Good C) (hCt:∀ (k:Nat) (e:Ey),C[k]? =some e->e.tm<u) (hmC:ZgR C) (HC:h.All u C):
  ∃ p x y,B=p++x/\C=p++y/\((ZhR x/\ZcZ y)\/(ZcZ x/\ZhR y)):=by
 obtain ⟨p,x,y,hp⟩:=Zd6.of B C;have ox:=hp.one ok hB hBt HC;have oy:=hp.swap.one ok hC hCt HB;refine ⟨p,x,y,hp.b,hp.c,?_⟩;rcases ZbU x with hnx|⟨l1,c1,l2,hxe,_,hc1⟩
 ·exact .inl ⟨hnx,oy⟩
 rcases ZbU y with hny|⟨l3,c2,l4,hye,_,hc2⟩
 ·exact .inr ⟨ox,hny⟩
 exfalso;have k1:=hp.inx hxe;have k2:=hp.swap.inx hye;have e1:=hp.less ok hC hCt hmB HB k1 k2 (by omega) hc2;have e2:=hp.swap.less ok hB hBt hmC HC k2 k1 (by omega) hc1;have e3:c1.tm=c2.tm:=by omega
 obtain ⟨_,m2,_,_⟩:=ok.madeB hB k1 hc1;obtain ⟨_,n2,_,_⟩:=ok.madeB hC k2 hc2;rw [<-e3] at n2;have:=ZR k1;have:=ZR k2;exact hp.a (p.length + 1) (by omega) (by omega) (by omega) ((ZQ m2 (by omega)).trans (ZQ n2 (by omega)).symm)
end
section
open Go Go.VC Tryz
open Go.Rf (Ey Lg ZD)
structure Gh where
 h:Zl
 ld:Int->Int
 vt:Int->Int->Int->List Ey->Prop
 cd:Int->Int->List Ey->Prop
 ak:Int->Int->Nat->Prop
 bt:Int->Int->Int->Prop
 rr:Int->Int
def Zl.lb (h:Zl) (t:Int):List Ey:=(h.ll t).take (h.bn t)
def Zl.Kept (h:Zl) (t u:Int) (L:List Ey) (k:Nat):Prop:=∀ i,i<=k->(i<=L.length/\L.take i=(h.ll t).take i)\/∃ u',h.el u'/\t<u'/\u'<u/\¬ h.Has u' t i
def Gh.Win (G:Gh) (g0:Gp) (u c:Int) (B:List Ey):Prop:=∃ q,ZaE (grp g0 B).vs (grp g0 B).ls q=true/\∀ y,ZS q y=true->∃ L,G.vt u y c L
def Gh.Won (G:Gh) (g0:Gp) (u:Int):Prop:=∃ q,ZaE (grp g0 (G.h.lb u)).vs (grp g0 (G.h.lb u)).ls q=true/\∀ y,ZS q y=true->∃ L,G.vt u y (G.ld u) L/\∀ t k,G.ak t y k->t<u->G.h.Kept t u L k
structure Zaw (g0:Gp) (G:Gh):Prop where
 ok:G.h.Ok
 gr:gOk g0
 lc:∀ t i b u,G.h.rc t i b->G.h.el u->t<u->G.h.Has u t i
 pos:∀ t,G.h.el t->0<t
 win:∀ t,G.h.el t->G.Won g0 t
 led:∀ t,G.h.el t->G.cd t (G.ld t) (G.h.lb t)
 vu:∀ t p c c' L L',G.vt t p c L->G.vt t p c' L'->c=c'
 vn:∀ t p c L,G.vt t p c L->ZgR L/\∃ B,G.cd t c B/\ZaX L B
 cu:∀ t c B B',G.cd t c B->G.cd t c B'->B=B'
 akl:∀ t p k,G.ak t p k->G.h.el t/\k<=(G.h.ll t).length
 vx:∀ t p k u c L,G.ak t p k->G.vt u p c L->t<u->G.h.Kept t (u + 1) L k
 rcq:∀ t i b,G.h.rc t i b->∃ q,ZaE (grp g0 ((G.h.ll t).take b)).vs (grp g0 ((G.h.ll t).take b)).ls q=true/\∀ y,ZS q y=true->∃ k,i<=k/\G.ak t y k
 btr:∀ t p r,G.bt t p r->r<=G.rr t
variable {g0:Gp} {G:Gh}
theorem Zaw.all (I:Zaw g0 G) {u c:Int} {B:List Ey} (hB:G.h.Good B) (hBt:∀ (k:Nat) (e:Ey),B[k]? =some e->e.tm<u) (hm:ZgR B) (hc:G.cd u c B) (hw:G.Win g0 u c B):G.h.All u B:=by
 obtain ⟨q,hq,hv⟩:=hw;have main:∀ (N M:Nat) t i b,t.toNat=N->i=M->G.h.rc t i b->t<u->i<=B.length/\B.take i=(G.h.ll t).take i:=by
  intro N
  induction N using Nat.strongRecOn with
  |ind N ihN=>
   intro M
   induction M using Nat.strongRecOn with
   |ind M ihM=>
    intro t i b hN hM hr htu;have ht:=(I.ok.rc t i b hr).1;have hpos:=I.pos t ht;rcases I.ok.commonB hB hBt hm hr htu (λ t' i' b' hr' hs=>by
      have hpos':=I.pos t' (I.ok.rc t' i' b' hr').1;rcases hs with h1|⟨h1,h2⟩
      ·exact ihN t'.toNat (by omega) i' t' i' b' rfl rfl hr' (by omega)
      ·exact ihM i' (by omega) t' i' b' (by rw [h1];exact hN) rfl hr' (by omega))
     (λ t' i' b' u' hr' hu' h1 h2=>I.lc t' i' b' u' hr' hu' h1) with h1|⟨p,x,y,h1,h2,h3⟩
    ·exact h1
    ·obtain ⟨q',hq',hv'⟩:=I.rcq t i b hr
     rw [h1] at hq';rw [h2] at hq;obtain ⟨m,hm1,hm2⟩:=Zby I.gr h3 hq' hq;obtain ⟨k,hik,hk⟩:=hv' m hm1;obtain ⟨L,hL⟩:=hv m hm2;obtain ⟨hmL,B',hB',hn⟩:=I.vn _ _ _ _ hL;have e:=I.cu _ _ _ _ hc hB';subst e;rcases I.vx _ _ _ _ _ _ hk hL htu i hik with ⟨h4,h5⟩|⟨u',h4,h5,h6,h7⟩
     ·exact I.ok.voter hpos hr h4 h5 hmL hB hBt hn λ u' hu' h1 _=>I.lc t i b u' hr hu' h1
     ·exact absurd (I.lc t i b u' hr h4 h5) h7
 exact λ t i b hr htu=>main _ _ t i b rfl rfl hr htu
theorem ZaJ {α:Type} {X:List α} {n k:Nat} {e:α} (h:(X.take n)[k]? =some e):X[k]? =some e/\k<n:=by
 have h1:k<n:=by have:=ZR h;rw [List.length_take] at this;omega
 rw [List.getElem?_take_of_lt h1] at h;exact ⟨h,h1⟩
theorem Zl.Good.take {h:Zl} {X:List Ey} (hX:h.Good X) (n:Nat):h.Good (X.take n):=λ k e hk=>by
 obtain ⟨h1,h2⟩:=ZaJ hk;obtain ⟨g1,g2⟩:=hX k e h1;exact ⟨g1,by rw [List.take_take,Nat.min_eq_left (by omega)];exact g2⟩
theorem ZgR.take {X:List Ey} (hX:ZgR X) (n:Nat):ZgR (X.take n):=λ j k d e hj hk hjk=>hX j k d e (ZaJ hj).1 (ZaJ hk).1 hjk
theorem Zaw.lb_good (I:Zaw g0 G) {t:Int} (ht:G.h.el t):G.h.Good (G.h.lb t):=(I.ok.good t ht).take _
theorem Zaw.lb_lt (I:Zaw g0 G) {t:Int} (ht:G.h.el t):∀ (k:Nat) (e:Ey),(G.h.lb t)[k]? =some e->e.tm<t:=λ k e hk=>I.ok.old t k e ht (ZaJ hk).1 (ZaJ hk).2
theorem Zaw.lb_mono (I:Zaw g0 G) {t:Int} (ht:G.h.el t):ZgR (G.h.lb t):=λ j k d e hj hk hjk=>I.ok.mono t j k d e ht (ZaJ hj).1 (ZaJ hk).1 hjk
theorem Zaw.lb_all (I:Zaw g0 G) {t:Int} (ht:G.h.el t):G.h.All t (G.h.lb t):=λ v i b hr hv=>by
 obtain ⟨h1,h2⟩:=I.lc v i b t hr ht hv;have:=I.ok.len t ht;refine ⟨by unfold Zl.lb;rw [List.length_take];omega,?_⟩;unfold Zl.lb;rw [List.take_take,Nat.min_eq_left h1];exact h2
theorem Zaw.one (I:Zaw g0 G) {u c:Int} {B:List Ey} (hB:G.h.Good B) (hBt:∀ (k:Nat) (e:Ey),B[k]? =some e->e.tm<u) (hm:ZgR B) (hc:G.cd u c B) (hw:G.Win g0 u c B) (hu:G.h.el u):G.ld u=c:=by
 obtain ⟨p,x,y,h1,h2,h3⟩:=I.ok.twoB (I.lb_good hu) (I.lb_lt hu) (I.lb_mono hu) (I.lb_all hu) hB hBt hm (I.all hB hBt hm hc hw);obtain ⟨q,hq,hv⟩:=hw;obtain ⟨q',hq',hv'⟩:=I.win u hu;rw [h1] at hq';rw [h2] at hq;obtain ⟨m,hm1,hm2⟩:=Zby I.gr h3 hq' hq;obtain ⟨L,hL,_⟩:=hv' m hm1;obtain ⟨L',hL'⟩:=hv m hm2;exact I.vu _ _ _ _ _ _ hL hL'
end
section
open Go Go.VC Tryz
open Go.Rf (Ey Lg ZD)
variable {g0:Gp} {G:Gh}
def Zl.commit (h:Zl) (t:Int) (i:Nat):Zl:={ h with rc:=λ t' i' b'=>h.rc t' i' b'\/(t'=t/\i'=i/\b'=(h.ll t).length) }
theorem Zl.Ok.commit {h:Zl} (ok:h.Ok) {t:Int} {i:Nat} (ht:h.el t) (hb:h.bn t<i) (hi:i<=(h.ll t).length) (hnew:∀ i' b',h.rc t i' b'->i'<i):(h.commit t i).Ok where
  good:=ok.good
  len:=ok.len
  old:=ok.old
  own:=ok.own
  mono:=ok.mono
  rc t' i' b' hr:=by
    rcases hr with hr|⟨rfl,rfl,rfl⟩
    · exact ok.rc t' i' b' hr
    · exact ⟨ht,hi,Nat.le_refl _,hb⟩
  ch v k e hv hk hbk hc:=by
    obtain ⟨i1,b1,r1,r2,r3,r4⟩:=ok.ch v k e hv hk hbk hc;refine ⟨i1,b1,.inl r1,r2,r3,λ i' b' hr hkb=>?_⟩;rcases hr with hr|⟨rfl,rfl,rfl⟩
    · exact r4 i' b' hr hkb
    · exact hnew _ _ r1
def Gh.commit (G:Gh) (t:Int) (i:Nat):Gh:={ G with h:=G.h.commit t i }
theorem Zaw.commit (I:Zaw g0 G) {t:Int} {i:Nat} (ht:G.h.el t) (hb:G.h.bn t<i) (hi:i<=(G.h.ll t).length) (hnew:∀ i' b',G.h.rc t i' b'->i'<i)
    {q:List Int} (hq:ZaE (grp g0 (G.h.ll t)).vs (grp g0 (G.h.ll t)).ls q=true) (hv:∀ y,ZS q y=true->∃ k,i<=k/\G.ak t y k):Zaw g0 (G.commit t i):=by
  have ok':=I.ok.commit ht hb hi hnew;have new:∀ (N:Nat) u,u.toNat=N->G.h.el u->t<u->G.h.Has u t i:=by
    intro N
    induction N using Nat.strongRecOn with
    |ind N ih=>
      intro u hN hu htu;have hpu:=I.pos u hu;have hpt:=I.pos t ht;rcases ok'.common (t:=t) (u:=u) (i:=i) (b:=(G.h.ll t).length) (.inr ⟨rfl,rfl,rfl⟩) hu htu
        (λ t' i' b' hr' hs=>by
          rcases hr' with hr'|⟨rfl,rfl,rfl⟩
          · exact I.lc t' i' b' u hr' hu (by omega)
          · omega)
        (λ t' i' b' u' hr' hu' h1 h2=>by
          rcases hr' with hr'|⟨rfl,rfl,rfl⟩
          · exact I.lc t' i' b' u' hr' hu' h1
          · exact ih u'.toNat (by have:=I.pos u' hu';omega) u' rfl hu' h1) with h1|⟨p,x,y,h1,h2,h3⟩
      · exact h1
      · have h1:(G.h.ll t).take (G.h.ll t).length=p++x:=h1
        have h2:(G.h.ll u).take (G.h.bn u)=p++y:=h2;rw [List.take_length] at h1;obtain ⟨q',hq',hv'⟩:=I.win u hu;unfold Zl.lb at hq';rw [h1] at hq;rw [h2] at hq';obtain ⟨m,hm1,hm2⟩:=Zby I.gr h3 hq hq';obtain ⟨k,hik,hk⟩:=hv m hm1;obtain ⟨L,hL,hK⟩:=hv' m hm2;obtain ⟨hmL,B',hB',hn⟩:=I.vn _ _ _ _ hL;have e:=I.cu _ _ _ _ (I.led u hu) hB';subst e;have fin:i<=(G.h.lb u).length/\(G.h.lb u).take i=(G.h.ll t).take i:=by
          rcases hK _ _ hk htu i hik with ⟨h4,h5⟩|⟨u',h4,h5,h6,h7⟩
          · exact ok'.voter (t:=t) (i:=i) (b:=(G.h.ll t).length) hpt (.inr ⟨rfl,rfl,rfl⟩) h4 h5 hmL (I.lb_good hu) (I.lb_lt hu) hn λ u' hu' h6 h7=>ih u'.toNat (by have:=I.pos u' hu';omega) u' rfl hu' h6
          · exact absurd (ih u'.toNat (by have:=I.pos u' h4;omega) u' rfl h4 h5) h7
        obtain ⟨f1,f2⟩:=fin;unfold Zl.lb at f1 f2;rw [List.length_take] at f1;rw [List.take_take,Nat.min_eq_left (by omega)] at f2;exact ⟨by omega,f2⟩
  exact
    { ok:=ok'
      gr:=I.gr
      lc:=λ t' i' b' u hr hu htu=>by
        rcases hr with hr|⟨rfl,rfl,rfl⟩
        · exact I.lc t' i' b' u hr hu htu
        · exact new _ u rfl hu htu
      pos:=I.pos
      win:=I.win
      led:=I.led
      vu:=I.vu
      vn:=I.vn
      cu:=I.cu
      akl:=I.akl
      vx:=I.vx
      rcq:=λ t' i' b' hr=>by
        rcases hr with hr|⟨rfl,rfl,rfl⟩
        · exact I.rcq t' i' b' hr
        · exact ⟨q,by show ZaE (grp g0 ((G.h.ll t').take (G.h.ll t').length)).vs (grp g0 ((G.h.ll t').take (G.h.ll t').length)).ls q=true;rw [List.take_length];exact hq,hv⟩
      btr:=I.btr }
end
section
open Go Go.VC Tryz
open Go.Rf (Ey Lg ZD)
variable {g0:Gp} {G:Gh}
structure Zl.Le (h h':Zl):Prop where
 el:∀ t,h.el t->h'.el t
 bn:∀ t,h.el t->h'.bn t=h.bn t
 ll:∀ t,h.el t->∃ m,h'.ll t=h.ll t++m
 rc:∀ t i b,h.rc t i b->h'.rc t i b
theorem Zfn {α:Type} {X Y:List α} {n:Nat} (h:X.take n=Y.take n) (hn:n<=X.length):n<=Y.length:=by
 have:=congrArg List.length h;rw [List.length_take,List.length_take] at this;omega
theorem Zl.Le.take {h h':Zl} (l:h.Le h') {t:Int} (ht:h.el t) {k:Nat} (hk:k<=(h.ll t).length):(h'.ll t).take k=(h.ll t).take k:=by
 obtain ⟨m,e⟩:=l.ll t ht;rw [e,List.take_append_of_le_length hk]
theorem Zl.Le.good {h h':Zl} (l:h.Le h') {X:List Ey} (hX:h.Good X):h'.Good X:=λ k e hk=>by
 obtain ⟨g1,g2⟩:=hX k e hk;have:=ZR hk;exact ⟨l.el _ g1,by rw [l.take g1 (Zfn g2 (by omega))];exact g2⟩
theorem Zl.Le.has {h h':Zl} (l:h.Le h') (ok:h.Ok) {t u:Int} {i:Nat} (ht:h.el t) (hu:h.el u) (hh:h.Has u t i):h'.Has u t i:=by
 obtain ⟨h1,h2⟩:=hh;have:=ok.len u hu;have h3:=Zfn h2 (by omega);exact ⟨by rw [l.bn u hu];exact h1,by rw [l.take ht h3,l.take hu (by omega)];exact h2⟩
theorem Zl.Le.has' {h h':Zl} (l:h.Le h') (ok:h.Ok) {t u:Int} {i:Nat} (ht:h.el t) (hu:h.el u) (hi:i<=(h.ll t).length) (hh:h'.Has u t i):h.Has u t i:=by
 obtain ⟨h1,h2⟩:=hh;have:=ok.len u hu;rw [l.bn u hu] at h1;rw [l.take ht hi,l.take hu (by omega)] at h2;exact ⟨h1,h2⟩
theorem Zl.Le.kept {h h':Zl} (l:h.Le h') (ok:h.Ok) {t u:Int} {L:List Ey} {k:Nat} (ht:h.el t) (hk:k<=(h.ll t).length) (hh:h.Kept t u L k):h'.Kept t u L k:=λ i hi=>by
 rcases hh i hi with ⟨h1,h2⟩|⟨u',h1,h2,h3,h4⟩
 ·exact .inl ⟨h1,by rw [l.take ht (by omega)];exact h2⟩
 ·exact .inr ⟨u',l.el _ h1,h2,h3,λ h5=>h4 (l.has' ok ht h1 (by omega) h5)⟩
theorem Zl.Le.lb {h h':Zl} (l:h.Le h') (ok:h.Ok) {t:Int} (ht:h.el t):h'.lb t=h.lb t:=by
 unfold Zl.lb;rw [l.bn t ht,l.take ht (ok.len t ht)]
def Zl.enter (h:Zl) (t:Int) (e:Ey):Zl:={ h with ll:=λ u=>if u=t then h.ll t++[e] else h.ll u }
theorem Zl.enter_ll {h:Zl} {t u:Int} {e:Ey}:(h.enter t e).ll u=h.ll u++(if u=t then [e] else []):=by
 show (if u=t then h.ll t++[e] else h.ll u)=_
 split
 ·rename_i h1;rw [h1]
 ·rw [List.append_nil]
theorem Zl.enter_le {h:Zl} {t:Int} {e:Ey}:h.Le (h.enter t e):=⟨λ _ h1=>h1,λ _ _=>rfl,λ _ _=>⟨_,Zl.enter_ll⟩,λ _ _ _ h1=>h1⟩
theorem Zl.enter_get {h:Zl} {t u:Int} {e d:Ey} {k:Nat} (hk:((h.enter t e).ll u)[k]? =some d):(h.ll u)[k]? =some d\/(u=t/\k=(h.ll t).length/\d=e):=by
 rw [Zl.enter_ll] at hk;rcases Nat.lt_or_ge k (h.ll u).length with h1|h1
 ·rw [List.getElem?_append_left h1] at hk;exact .inl hk
 ·rw [List.getElem?_append_right h1] at hk
  have h2:=ZR hk;split at hk
  ·rename_i h3
   subst h3;simp at h2;have h4:k - (h.ll u).length=0:=by omega
   rw [h4] at hk;simp at hk;exact .inr ⟨rfl,by omega,hk.symm⟩
  ·simp at hk
theorem Zl.Ok.enter {h:Zl} (ok:h.Ok) {t:Int} {e:Ey} (ht:h.el t) (het:e.tm=t)
  (hch:Zfe e=true->∃ i b,h.rc t i b/\∀ (j:Nat) (d:Ey),i<=j->(h.ll t)[j]? =some d->Zfe d=false):(h.enter t e).Ok where
 good u hu k d hk:=by
  rcases Zl.enter_get hk with h1|⟨rfl,rfl,rfl⟩
  ·obtain ⟨g1,g2⟩:=Zl.enter_le.good (ok.good u hu) (e:=d) k h1
   have:=ZR h1;refine ⟨g1,?_⟩;rw [(Zl.enter_le (h:=h) (t:=t) (e:=e)).take hu (by omega)];exact g2
  ·exact ⟨by rw [het];exact ht,by rw [het]⟩
 len u hu:=by rw [Zl.enter_ll,List.length_append];have:=ok.len u hu;show h.bn u<=_;omega
 old u k d hu hk hb:=by
  rcases Zl.enter_get hk with h1|⟨rfl,rfl,rfl⟩
  ·exact ok.old u k d hu h1 hb
  ·have:=ok.len u hu;have hb:(h.ll u).length<h.bn u:=hb;omega
 own u k d hu hk hb:=by
  rcases Zl.enter_get hk with h1|⟨rfl,rfl,rfl⟩
  ·exact ok.own u k d hu h1 hb
  ·exact het
 mono u j k c d hu hj hk hjk:=by
  rcases Zl.enter_get hk with h1|⟨rfl,rfl,rfl⟩
  ·rcases Zl.enter_get hj with h2|⟨rfl,rfl,rfl⟩
   ·exact ok.mono u j k c d hu h2 h1 hjk
   ·have:=ZR h1;omega
  ·rcases Zl.enter_get hj with h2|⟨_,rfl,rfl⟩
   ·have:=ok.le hu h2;omega
   ·exact Int.le_refl _
 rc u i b hr:=by
  obtain ⟨r1,r2,r3,r4⟩:=ok.rc u i b hr;exact ⟨r1,r2,by rw [Zl.enter_ll,List.length_append];omega,r4⟩
 ch v k d hv hk hb hc:=by
  rcases Zl.enter_get hk with h1|⟨rfl,rfl,rfl⟩
  ·obtain ⟨i,b,r1,r2,r3,r4⟩:=ok.ch v k d hv h1 hb hc
   refine ⟨i,b,r1,r2,λ j c h2 h3 h4=>?_,r4⟩;rcases Zl.enter_get h4 with h5|⟨rfl,rfl,rfl⟩
   ·exact r3 j c h2 h3 h5
   ·have:=ZR h1;omega
  ·obtain ⟨i,b,r1,r2⟩:=hch hc
   obtain ⟨q1,q2,q3,q4⟩:=ok.rc _ _ _ r1;refine ⟨i,b,r1,q3,λ j c h2 h3 h4=>?_,λ i' b' h5 h6=>?_⟩
   ·rcases Zl.enter_get h4 with h5|⟨_,rfl,_⟩
    ·exact r2 j c h2 h5
    ·omega
   ·have:=(ok.rc _ _ _ h5).2.2.1;omega
end
section
open Go Go.VC Tryz
open Go.Rf (Ey Lg ZD)
variable {g0:Gp} {G:Gh}
def Gh.enter (G:Gh) (t:Int) (e:Ey):Gh:={ G with h:=G.h.enter t e }
theorem Zaw.enter (I:Zaw g0 G) {t:Int} {e:Ey} (ht:G.h.el t) (het:e.tm=t)
    (hch:Zfe e=true->∃ i b,G.h.rc t i b/\∀ (j:Nat) (d:Ey),i<=j->(G.h.ll t)[j]? =some d->Zfe d=false):Zaw g0 (G.enter t e):=by
  have ok':=I.ok.enter ht het hch;have l:G.h.Le (G.h.enter t e):=Zl.enter_le;exact
    { ok:=ok'
      gr:=I.gr
      lc:=λ t' i' b' u hr hu htu=>l.has I.ok (I.ok.rc _ _ _ hr).1 hu (I.lc t' i' b' u hr hu htu)
      pos:=I.pos
      win:=λ u hu=>by
        obtain ⟨q,hq,hv⟩:=I.win u hu;refine ⟨q,by show ZaE (grp g0 ((G.h.enter t e).lb u)).vs (grp g0 ((G.h.enter t e).lb u)).ls q=true;rw [l.lb I.ok hu];exact hq,λ y hy=>?_⟩;obtain ⟨L,h1,h2⟩:=hv y hy;exact ⟨L,h1,λ t' k hk htk=>by obtain ⟨a1,a2⟩:=I.akl _ _ _ hk;exact l.kept I.ok a1 a2 (h2 t' k hk htk)⟩
      led:=λ u hu=>by
        show G.cd u (G.ld u) ((G.h.enter t e).lb u);rw [l.lb I.ok hu];exact I.led u hu
      vu:=I.vu
      vn:=I.vn
      cu:=I.cu
      akl:=λ u p k hk=>by
        obtain ⟨h1,h2⟩:=I.akl u p k hk;refine ⟨h1,?_⟩;show k<=((G.h.enter t e).ll u).length;rw [Zl.enter_ll,List.length_append];omega
      vx:=λ t' p k u c L hk hv htu=>by
        obtain ⟨h1,h2⟩:=I.akl t' p k hk;exact l.kept I.ok h1 h2 (I.vx t' p k u c L hk hv htu)
      rcq:=λ t' i' b' hr=>by
        obtain ⟨q,hq,hv⟩:=I.rcq t' i' b' hr;obtain ⟨r1,r2,r3,r4⟩:=I.ok.rc t' i' b' hr;refine ⟨q,?_,hv⟩;show ZaE (grp g0 (((G.h.enter t e).ll t').take b')).vs (grp g0 (((G.h.enter t e).ll t').take b')).ls q=true;rw [l.take r1 r3];exact hq
      btr:=I.btr }
def Gh.ack (G:Gh) (t p:Int) (k:Nat):Gh:={ G with ak:=λ t' p' k'=>G.ak t' p' k'\/(t'=t/\p'=p/\k'=k) }
theorem Zaw.ack (I:Zaw g0 G) {t p:Int} {k:Nat} (ht:G.h.el t) (hk:k<=(G.h.ll t).length) (hv:∀ u c L,G.vt u p c L->u<=t):Zaw g0 (G.ack t p k) where
  ok:=I.ok
  gr:=I.gr
  lc:=I.lc
  pos:=I.pos
  win u hu:=by
    obtain ⟨q,hq,hw⟩:=I.win u hu;refine ⟨q,hq,λ y hy=>?_⟩;obtain ⟨L,h1,h2⟩:=hw y hy;refine ⟨L,h1,λ t' k' h htk=>?_⟩;rcases h with h|⟨rfl,rfl,rfl⟩
    · exact h2 _ _ h htk
    · have:=hv u _ L h1;omega
  led:=I.led
  vu:=I.vu
  vn:=I.vn
  cu:=I.cu
  akl t' p' k' h:=by
    rcases h with h|⟨rfl,rfl,rfl⟩
    · exact I.akl t' p' k' h
    · exact ⟨ht,hk⟩
  vx t' p' k' u c L h hvv htu:=by
    rcases h with h|⟨rfl,rfl,rfl⟩
    · exact I.vx t' p' k' u c L h hvv htu
    · have:=hv u c L hvv;omega
  rcq t' i' b' hr:=by
    obtain ⟨q,hq,hv'⟩:=I.rcq t' i' b' hr;refine ⟨q,hq,λ y hy=>?_⟩;obtain ⟨k',h1,h2⟩:=hv' y hy;exact ⟨k',h1,.inl h2⟩
  btr:=I.btr
def Gh.vote (G:Gh) (t p c:Int) (L:List Ey):Gh:={ G with vt:=λ t' p' c' L'=>G.vt t' p' c' L'\/(t'=t/\p'=p/\c'=c/\L'=L) }
theorem Zaw.vote (I:Zaw g0 G) {t p c:Int} {L B:List Ey} (hm:ZgR L) (hB:G.cd t c B) (hn:ZaX L B) (hu:∀ c' L',G.vt t p c' L'->c'=c)
    (hx:∀ t' k,G.ak t' p k->t'<t->G.h.Kept t' (t + 1) L k):Zaw g0 (G.vote t p c L) where
  ok:=I.ok
  gr:=I.gr
  lc:=I.lc
  pos:=I.pos
  win u hu':=by
    obtain ⟨q,hq,hv⟩:=I.win u hu';exact ⟨q,hq,λ y hy=>by obtain ⟨L,h1,h2⟩:=hv y hy;exact ⟨L,.inl h1,h2⟩⟩
  led:=I.led
  vu t' p' c1 c2 L1 L2 h1 h2:=by
    rcases h1 with h1|⟨rfl,rfl,rfl,rfl⟩
    · rcases h2 with h2|⟨rfl,rfl,rfl,rfl⟩
      · exact I.vu _ _ _ _ _ _ h1 h2
      · exact hu _ _ h1
    · rcases h2 with h2|⟨_,_,rfl,_⟩
      · exact (hu _ _ h2).symm
      · rfl
  vn t' p' c' L' h:=by
    rcases h with h|⟨rfl,rfl,rfl,rfl⟩
    · exact I.vn t' p' c' L' h
    · exact ⟨hm,B,hB,hn⟩
  cu:=I.cu
  akl:=I.akl
  vx t' p' k u c' L' hk h htu:=by
    rcases h with h|⟨rfl,rfl,rfl,rfl⟩
    · exact I.vx t' p' k u c' L' hk h htu
    · exact hx _ _ hk htu
  rcq:=I.rcq
  btr:=I.btr
def Gh.cand (G:Gh) (t c:Int) (B:List Ey):Gh:={ G with cd:=λ t' c' B'=>G.cd t' c' B'\/(t'=t/\c'=c/\B'=B) }
theorem Zaw.cand (I:Zaw g0 G) {t c:Int} {B:List Ey} (hu:∀ B',G.cd t c B'->B'=B):Zaw g0 (G.cand t c B) where
  ok:=I.ok
  gr:=I.gr
  lc:=I.lc
  pos:=I.pos
  win:=I.win
  led u h:=.inl (I.led u h)
  vu:=I.vu
  vn t' p' c' L' h:=by
    obtain ⟨h1,B',h2,h3⟩:=I.vn t' p' c' L' h;exact ⟨h1,B',.inl h2,h3⟩
  cu t' c' B1 B2 h1 h2:=by
    rcases h1 with h1|⟨rfl,rfl,rfl⟩
    · rcases h2 with h2|⟨rfl,rfl,rfl⟩
      · exact I.cu _ _ _ _ h1 h2
      · exact hu _ h1
    · rcases h2 with h2|⟨_,_,rfl⟩
      · exact (hu _ h2).symm
      · rfl
  akl:=I.akl
  vx:=I.vx
  rcq:=I.rcq
  btr:=I.btr
def Gh.beat (G:Gh) (t p r:Int):Gh:={ G with bt:=λ t' p' r'=>G.bt t' p' r'\/(t'=t/\p'=p/\r'=r) }
theorem Zaw.beat (I:Zaw g0 G) {t p r:Int} (hr:r<=G.rr t):Zaw g0 (G.beat t p r):={ I with
  btr:=λ t' p' r' h=>by
    rcases h with h|⟨rfl,rfl,rfl⟩
    · exact I.btr t' p' r' h
    · exact hr }
def Gh.round (G:Gh) (t r:Int):Gh:={ G with rr:=λ t'=>if t'=t then max r (G.rr t) else G.rr t' }
theorem Zaw.round (I:Zaw g0 G) (t r:Int):Zaw g0 (G.round t r):={ I with
  btr:=λ t' p' r' h=>by
    have:=I.btr t' p' r' h;show r'<=if t'=t then max r (G.rr t) else G.rr t'
    split
    · rename_i h1;subst h1;omega
    · exact this }
end
section
open Go Go.VC Tryz
open Go.Rf (Ey Lg ZD)
variable {g0:Gp} {G:Gh}
def Zl.win (h:Zl) (u:Int) (B:List Ey):Zl:=
  { h with el:=λ t=>h.el t\/t=u,ll:=λ t=>if t=u then B else h.ll t,bn:=λ t=>if t=u then B.length else h.bn t }
theorem Zl.win_ll {h:Zl} {u t:Int} {B:List Ey} (ht:t≠u):(h.win u B).ll t=h.ll t:=if_neg ht
theorem Zl.win_bn {h:Zl} {u t:Int} {B:List Ey} (ht:t≠u):(h.win u B).bn t=h.bn t:=if_neg ht
theorem Zl.win_llu {h:Zl} {u:Int} {B:List Ey}:(h.win u B).ll u=B:=if_pos rfl
theorem Zl.win_bnu {h:Zl} {u:Int} {B:List Ey}:(h.win u B).bn u=B.length:=if_pos rfl
theorem Zl.win_lbu {h:Zl} {u:Int} {B:List Ey}:(h.win u B).lb u=B:=by
  unfold Zl.lb;rw [Zl.win_llu,Zl.win_bnu,List.take_length]
theorem Zl.win_le {h:Zl} {u:Int} {B:List Ey} (hu:¬ h.el u):h.Le (h.win u B) where
  el _ h1:=.inl h1
  bn t h1:=Zl.win_bn λ e=>hu (e ▸ h1)
  ll t h1:=⟨[],by rw [List.append_nil];exact Zl.win_ll λ e=>hu (e ▸ h1)⟩
  rc _ _ _ h1:=h1
theorem Zl.Ok.win {h:Zl} (ok:h.Ok) {u:Int} {B:List Ey} (hu:¬ h.el u) (hB:h.Good B) (hBt:∀ (k:Nat) (e:Ey),B[k]? =some e->e.tm<u) (hm:ZgR B):(h.win u B).Ok:=by
  have l:=Zl.win_le (B:=B) hu;have ne:∀ {t},h.el t->t≠u:=λ h1 e=>hu (e ▸ h1);exact
    { good:=λ t ht=>by
        by_cases e:t=u
        · subst e;rw [Zl.win_llu];exact l.good hB
        · rw [Zl.win_ll e];exact l.good (ok.good t (ht.resolve_right e))
      len:=λ t ht=>by
        by_cases e:t=u
        · subst e;rw [Zl.win_llu,Zl.win_bnu];exact Nat.le_refl _
        · rw [Zl.win_ll e,Zl.win_bn e];exact ok.len t (ht.resolve_right e)
      old:=λ t k d ht hk hb=>by
        by_cases e:t=u
        · subst e;rw [Zl.win_llu] at hk;exact hBt k d hk
        · rw [Zl.win_ll e] at hk;rw [Zl.win_bn e] at hb;exact ok.old t k d (ht.resolve_right e) hk hb
      own:=λ t k d ht hk hb=>by
        by_cases e:t=u
        · subst e;rw [Zl.win_llu] at hk;rw [Zl.win_bnu] at hb;have:=ZR hk;omega
        · rw [Zl.win_ll e] at hk;rw [Zl.win_bn e] at hb;exact ok.own t k d (ht.resolve_right e) hk hb
      mono:=λ t j k c d ht hj hk hjk=>by
        by_cases e:t=u
        · subst e;rw [Zl.win_llu] at hj hk;exact hm j k c d hj hk hjk
        · rw [Zl.win_ll e] at hj hk;exact ok.mono t j k c d (ht.resolve_right e) hj hk hjk
      rc:=λ t i b hr=>by
        obtain ⟨r1,r2,r3,r4⟩:=ok.rc t i b hr;exact ⟨.inl r1,r2,by rw [Zl.win_ll (ne r1)];exact r3,by rw [Zl.win_bn (ne r1)];exact r4⟩
      ch:=λ v k d hv hk hb hc=>by
        by_cases e:v=u
        · subst e;rw [Zl.win_llu] at hk;rw [Zl.win_bnu] at hb;have:=ZR hk;omega
        · rw [Zl.win_ll e] at hk
          rw [Zl.win_bn e] at hb;obtain ⟨i,b,r1,r2,r3,r4⟩:=ok.ch v k d (hv.resolve_right e) hk hb hc;exact ⟨i,b,r1,r2,λ j c h1 h2 h3=>r3 j c h1 h2 (by rwa [Zl.win_ll e] at h3),r4⟩ }
def Gh.won (G:Gh) (u c:Int) (B:List Ey):Gh:={ G with h:=G.h.win u B,ld:=λ t=>if t=u then c else G.ld t }
theorem Zaw.won (I:Zaw g0 G) {u c:Int} {B:List Ey} (hu:¬ G.h.el u) (h0:0<u) (hB:G.h.Good B) (hBt:∀ (k:Nat) (e:Ey),B[k]? =some e->e.tm<u) (hm:ZgR B)
    (hc:G.cd u c B) (hw:G.Win g0 u c B):Zaw g0 (G.won u c B):=by
  have ok':=I.ok.win hu hB hBt hm;have l:=Zl.win_le (B:=B) hu;have ne:∀ {t},G.h.el t->t≠u:=λ h1 e=>hu (e ▸ h1);have hall:=I.all hB hBt hm hc hw;have ldn:∀ {t},t≠u->(G.won u c B).ld t=G.ld t:=λ e=>if_neg e;have ldu:(G.won u c B).ld u=c:=if_pos rfl;exact
    { ok:=ok'
      gr:=I.gr
      lc:=λ t i b v hr hv htv=>by
        have r1:=(I.ok.rc t i b hr).1;by_cases e:v=u
        · subst e
          obtain ⟨a1,a2⟩:=hall t i b hr htv;show i<=(G.h.win v B).bn v/\((G.h.win v B).ll v).take i=((G.h.win v B).ll t).take i;rw [Zl.win_bnu,Zl.win_llu,Zl.win_ll (ne r1)];exact ⟨a1,a2⟩
        · exact l.has I.ok r1 (hv.resolve_right e) (I.lc t i b v hr (hv.resolve_right e) htv)
      pos:=λ t ht=>by
        rcases ht with ht|rfl
        · exact I.pos t ht
        · exact h0
      win:=λ t ht=>by
        by_cases e:t=u
        · subst e
          obtain ⟨q,hq,hv⟩:=hw;refine ⟨q,by show ZaE (grp g0 ((G.h.win t B).lb t)).vs (grp g0 ((G.h.win t B).lb t)).ls q=true;rw [Zl.win_lbu];exact hq,λ y hy=>?_⟩;obtain ⟨L,hL⟩:=hv y hy;refine ⟨L,by rw [ldu];exact hL,λ t' k hk htk=>?_⟩;obtain ⟨a1,a2⟩:=I.akl _ _ _ hk;refine l.kept I.ok a1 a2 λ n hn=>?_;exact (I.vx _ _ _ _ _ _ hk hL htk n hn).imp_right λ⟨v,b1,b2,b3,b4⟩=>⟨v,b1,b2,by have:=ne b1;omega,b4⟩
        · obtain ⟨q,hq,hv⟩:=I.win t (ht.resolve_right e)
          refine ⟨q,by show ZaE (grp g0 ((G.h.win u B).lb t)).vs (grp g0 ((G.h.win u B).lb t)).ls q=true;rw [l.lb I.ok (ht.resolve_right e)];exact hq,λ y hy=>?_⟩;obtain ⟨L,h1,h2⟩:=hv y hy;exact ⟨L,by rw [ldn e];exact h1,λ t' k hk htk=>by obtain ⟨a1,a2⟩:=I.akl _ _ _ hk;exact l.kept I.ok a1 a2 (h2 t' k hk htk)⟩
      led:=λ t ht=>by
        by_cases e:t=u
        · subst e
          show G.cd t ((G.won t c B).ld t) ((G.h.win t B).lb t);rw [ldu,Zl.win_lbu];exact hc
        · show G.cd t ((G.won u c B).ld t) ((G.h.win u B).lb t)
          rw [ldn e,l.lb I.ok (ht.resolve_right e)];exact I.led t (ht.resolve_right e)
      vu:=I.vu
      vn:=I.vn
      cu:=I.cu
      akl:=λ t p k hk=>by
        obtain ⟨h1,h2⟩:=I.akl t p k hk;exact ⟨.inl h1,by show k<=((G.h.win u B).ll t).length;rw [Zl.win_ll (ne h1)];exact h2⟩
      vx:=λ t p k v c' L hk hv htv=>by
        obtain ⟨h1,h2⟩:=I.akl t p k hk;exact l.kept I.ok h1 h2 (I.vx t p k v c' L hk hv htv)
      rcq:=λ t i b hr=>by
        obtain ⟨q,hq,hv⟩:=I.rcq t i b hr;have r1:=(I.ok.rc t i b hr).1;refine ⟨q,?_,hv⟩;show ZaE (grp g0 (((G.h.win u B).ll t).take b)).vs (grp g0 (((G.h.win u B).ll t).take b)).ls q=true;rw [Zl.win_ll (ne r1)];exact hq
      btr:=I.btr }
end
section
open Go Go.VC Tryz
open Go.Rf (Ey Lg ZD)
variable {g0:Gp} {G G':Gh}
structure Gh.Le (y:Int) (G G':Gh):Prop where
 h:G.h.Le G'.h
 ld:∀ t,G.h.el t->G'.ld t=G.ld t
 el:∀ t,G'.h.el t->G.h.el t\/G'.ld t=y
 ll:∀ t,G.h.el t->G.ld t≠y->G'.h.ll t=G.h.ll t
 rc:∀ t i b,G.h.el t->G.ld t≠y->G'.h.rc t i b->G.h.rc t i b
 vt:∀ t p c L,G.vt t p c L->G'.vt t p c L
 vt':∀ t p c L,p≠y->G'.vt t p c L->G.vt t p c L
 cd:∀ t c B,G.cd t c B->G'.cd t c B
 cd':∀ t c B,c≠y->G'.cd t c B->G.cd t c B
 ak:∀ t p k,G.ak t p k->G'.ak t p k
 ak':∀ t p k,p≠y->G'.ak t p k->G.ak t p k
 bt:∀ t p r,G.bt t p r->G'.bt t p r
 bt':∀ t p r,p≠y->G'.bt t p r->G.bt t p r
 rr:∀ t,G.rr t<=G'.rr t
structure Zaz (G:Gh) (i tm vt role:Int) (F:List Ey) (com:Nat):Prop where
 good:G.h.Good F
 mono:ZgR F
 le:∀ (k:Nat) (e:Ey),F[k]? =some e->e.tm<=tm
 vts:∀ t c L,G.vt t i c L->t<=tm
 vtn:∀ c L,G.vt tm i c L->c=vt
 aks:∀ t k,G.ak t i k->t<=tm/\G.h.Kept t (tm + 1) F k
 bts:∀ t r,G.bt t i r->t<=tm
 cds:∀ t B,G.cd t i B->t<=tm
 lds:∀ t,G.h.el t->G.ld t=i->t<=tm
 l3:role=3->G.h.el tm/\G.ld tm=i/\G.h.ll tm=F/\(∀ i' b',G.h.rc tm i' b'->i'<=com)/\(G.h.bn tm<com->∃ b,G.h.rc tm com b)
 l2:role=2->0<tm/\G.cd tm i F/\¬ (G.h.el tm/\G.ld tm=i)/\∀ (k:Nat) (e:Ey),F[k]? =some e->e.tm<tm
 cm:com<=F.length/\(com=0\/∃ t k b,G.h.rc t k b/\t<=tm/\com<=k/\F.take com=(G.h.ll t).take com)
theorem Zaz.frame {y i tm vt role:Int} {F:List Ey} {com:Nat} (A:Zaz G i tm vt role F com) (I:Zaw g0 G) (l:Gh.Le y G G') (hy:i≠y):Zaz G' i tm vt role F com where
 good:=l.h.good A.good
 mono:=A.mono
 le:=A.le
 vts t c L h:=A.vts t c L (l.vt' _ _ _ _ hy h)
 vtn c L h:=A.vtn c L (l.vt' _ _ _ _ hy h)
 aks t k h:=by
  have h':=l.ak' _ _ _ hy h;obtain ⟨h1,h2⟩:=I.akl _ _ _ h';exact ⟨(A.aks t k h').1,l.h.kept I.ok h1 h2 (A.aks t k h').2⟩
 bts t r h:=A.bts t r (l.bt' _ _ _ hy h)
 cds t B h:=A.cds t B (l.cd' _ _ _ hy h)
 lds t h1 h2:=by
  rcases l.el t h1 with h3|h3
  ·exact A.lds t h3 (by rw [<-l.ld t h3];exact h2)
  ·exact absurd (h2.symm.trans h3) hy
 l3 h:=by
  obtain ⟨h1,h2,h3,h4,h5⟩:=A.l3 h;have h6:G.ld tm≠y:=by rw [h2];exact hy
  refine ⟨l.h.el _ h1,by rw [l.ld _ h1];exact h2,by rw [l.ll _ h1 h6];exact h3,λ i' b' hr=>h4 i' b' (l.rc _ _ _ h1 h6 hr),λ hb=>?_⟩;rw [l.h.bn _ h1] at hb;exact (h5 hb).imp λ _ h=>l.h.rc _ _ _ h
 l2 h:=by
  obtain ⟨h0,h1,h2,h3⟩:=A.l2 h;refine ⟨h0,l.cd _ _ _ h1,λ⟨h4,h5⟩=>?_,h3⟩;rcases l.el _ h4 with h6|h6
  ·exact h2 ⟨h6,by rw [<-l.ld _ h6];exact h5⟩
  ·exact hy (h5.symm.trans h6)
 cm:=by
  obtain ⟨h1,h2⟩:=A.cm;refine ⟨h1,h2.imp_right ?_⟩;rintro ⟨t,k,b,h3,h4,h5,h6⟩;obtain ⟨r1,r2,r3,r4⟩:=I.ok.rc _ _ _ h3;exact ⟨t,k,b,l.h.rc _ _ _ h3,h4,h5,by rw [l.h.take r1 (by omega)];exact h6⟩
end
section
open Go Go.VC Tryz
open Go.Rf (Ey Lg ZD)
variable {g0:Gp} {G G':Gh} {i tm vt role:Int} {F:List Ey} {com:Nat}
theorem Gh.Le.refl (y:Int) (G:Gh):Gh.Le y G G:=
  ⟨⟨λ _ h=>h,λ _ _=>rfl,λ _ _=>⟨[],(List.append_nil _).symm⟩,λ _ _ _ h=>h⟩,λ _ _=>rfl,λ _ h=>.inl h,λ _ _ _=>rfl,λ _ _ _ _ _ h=>h,
    λ _ _ _ _ h=>h,λ _ _ _ _ _ h=>h,λ _ _ _ h=>h,λ _ _ _ _ h=>h,λ _ _ _ h=>h,λ _ _ _ _ h=>h,λ _ _ _ h=>h,λ _ _ _ _ h=>h,λ _=>Int.le_refl _⟩
theorem Zl.Kept.up {h:Zl} {t u u':Int} {L:List Ey} {k:Nat} (hh:h.Kept t u L k) (hu:u<=u'):h.Kept t u' L k:=λ i hi=>
  (hh i hi).imp_right λ⟨v,h1,h2,h3,h4⟩=>⟨v,h1,h2,by omega,h4⟩
theorem Zaz.rest (A:Zaz G i tm vt role F com) {r:Int} (h2:r≠2) (h3:r≠3):Zaz G i tm vt r F com:={ A with l3:=λ h=>absurd h h3,l2:=λ h=>absurd h h2 }
theorem Zaz.up (A:Zaz G i tm vt role F com) {t r v:Int} (ht:tm<t) (h2:r≠2) (h3:r≠3):Zaz G i t v r F com where
  good:=A.good
  mono:=A.mono
  le k e h:=by have:=A.le k e h;omega
  vts u c L h:=by have:=A.vts u c L h;omega
  vtn c L h:=by have:=A.vts t c L h;omega
  aks u k h:=⟨by have:=(A.aks u k h).1;omega,(A.aks u k h).2.up (by omega)⟩
  bts u r h:=by have:=A.bts u r h;omega
  cds u B h:=by have:=A.cds u B h;omega
  lds u h1 h2:=by have:=A.lds u h1 h2;omega
  l3 h:=absurd h h3
  l2 h:=absurd h h2
  cm:=by
    obtain ⟨h1,h2⟩:=A.cm;refine ⟨h1,h2.imp_right ?_⟩;rintro ⟨t,k,b,h3,h4,h5,h6⟩;exact ⟨t,k,b,h3,by omega,h5,h6⟩
theorem Zaz.less (A:Zaz G i tm vt role F com) (hr:role≠3) {c:Nat} (hc:c<=com):Zaz G i tm vt role F c:={ A with
  l3:=λ h=>absurd h hr
  cm:=by
    obtain ⟨h1,h2⟩:=A.cm;refine ⟨by omega,?_⟩;rcases h2 with rfl|⟨t,k,b,h3,h4,h5,h6⟩
    · exact .inl (by omega)
    · exact .inr ⟨t,k,b,h3,h4,by omega,ZQ h6 hc⟩ }
end
section
open Go Go.VC Tryz
open Go.Rf (Ey Lg ZD)
variable {g0:Gp} {G G':Gh} {i tm vt role:Int} {F:List Ey} {com:Nat}
theorem Zaz.com_ll (A:Zaz G i tm vt role F com) (I:Zaw g0 G) (ht:G.h.el tm):com<=(G.h.ll tm).length/\F.take com=(G.h.ll tm).take com:=by
  obtain ⟨h1,h2⟩:=A.cm;rcases h2 with rfl|⟨t,k,b,h3,h4,h5,h6⟩
  · exact ⟨Nat.zero_le _,by rw [List.take_zero,List.take_zero]⟩
  · have e:F.take com=(G.h.ll tm).take com:=by
      rcases Int.lt_or_eq_of_le h4 with h7|rfl
      · obtain ⟨h8,h9⟩:=I.lc _ _ _ _ h3 ht h7
        exact h6.trans (ZQ h9 h5).symm
      · exact h6
    exact ⟨Zfn e h1,e⟩
theorem Zaz.follow (A:Zaz G i tm vt role F com) (I:Zaw g0 G) (ht:G.h.el tm) {j:Nat} (hj:j<=(G.h.ll tm).length)
    (hk:∀ k,k<=F.length->F.take k=(G.h.ll tm).take k->k<=j) {r:Int} (h2:r≠2) (h3:r≠3):Zaz G i tm vt r ((G.h.ll tm).take j) com where
  good:=(I.ok.good tm ht).take j
  mono:=ZgR.take (λ _ _ _ _ a b c=>I.ok.mono tm _ _ _ _ ht a b c) j
  le k e h:=I.ok.le ht (ZaJ h).1
  vts:=A.vts
  vtn:=A.vtn
  aks t k h:=by
    obtain ⟨h4,h5⟩:=A.aks t k h;refine ⟨h4,λ n hn=>?_⟩;rcases h5 n hn with ⟨h6,h7⟩|h6
    · have fin:(G.h.ll tm).take n=(G.h.ll t).take n->n<=((G.h.ll tm).take j).length/\((G.h.ll tm).take j).take n=(G.h.ll t).take n:=λ e=>by
        have:=hk n h6 (h7.trans e.symm);exact ⟨by rw [List.length_take];omega,by rw [List.take_take,Nat.min_eq_left this];exact e⟩
      rcases Int.lt_or_eq_of_le h4 with h8|rfl
      · by_cases h9:G.h.Has tm t n
        · exact .inl (fin h9.2)
        · exact .inr ⟨tm,ht,h8,by omega,h9⟩
      · exact .inl (fin rfl)
    · exact .inr h6
  bts:=A.bts
  cds:=A.cds
  lds:=A.lds
  l3 h:=absurd h h3
  l2 h:=absurd h h2
  cm:=by
    obtain ⟨h4,h5⟩:=A.com_ll I ht;have hcj:=hk com A.cm.1 h5;refine ⟨by rw [List.length_take];omega,?_⟩;rcases A.cm.2 with h6|⟨t,k,b,h6,h7,h8,h9⟩
    · exact .inl h6
    · exact .inr ⟨t,k,b,h6,h7,h8,by rw [List.take_take,Nat.min_eq_left hcj,<-h5];exact h9⟩
theorem Zaz.more (A:Zaz G i tm vt role F com) (hr:role≠3) {c:Nat} (hc:c<=F.length) {t:Int} {k b:Nat} (hrc:G.h.rc t k b) (ht:t<=tm) (hck:c<=k) (he:F.take c=(G.h.ll t).take c):Zaz G i tm vt role F c:={ A with
  l3:=λ h=>absurd h hr
  cm:=⟨hc,.inr ⟨t,k,b,hrc,ht,hck,he⟩⟩ }
end
section
open Go Go.VC Tryz
open Go.Rf (Ey Lg ZD)
variable {g0:Gp} {G G':Gh} {i tm vt role:Int} {F:List Ey} {com:Nat}
theorem Gh.ack_le {t:Int} {k:Nat}:Gh.Le i G (G.ack t i k):={ Gh.Le.refl i G with
  ak:=λ _ _ _ h=>.inl h
  ak':=λ _ p _ hp h=>by
    rcases h with h|⟨_,rfl,_⟩
    · exact h
    · exact absurd rfl hp }
theorem Zaz.ack (A:Zaz G i tm vt role F com) (ht:G.h.el tm) {k:Nat} (hk:k<=F.length) (he:F.take k=(G.h.ll tm).take k):Zaz (G.ack tm i k) i tm vt role F com:={ A with
  good:=A.good
  aks:=λ t k' h=>by
    rcases h with h|⟨rfl,_,rfl⟩
    · exact A.aks t k' h
    · exact ⟨Int.le_refl _,λ n hn=>.inl ⟨by omega,ZQ he hn⟩⟩ }
theorem Zaw.ack' (I:Zaw g0 G) (A:Zaz G i tm vt role F com) (ht:G.h.el tm) {k:Nat} (hk:k<=F.length) (he:F.take k=(G.h.ll tm).take k):Zaw g0 (G.ack tm i k):=
  I.ack ht (Zfn he hk) λ u c L h=>A.vts u c L h
theorem Gh.beat_le {t r:Int}:Gh.Le i G (G.beat t i r):={ Gh.Le.refl i G with
  bt:=λ _ _ _ h=>.inl h
  bt':=λ _ p _ hp h=>by
    rcases h with h|⟨_,rfl,_⟩
    · exact h
    · exact absurd rfl hp }
theorem Zaz.beat (A:Zaz G i tm vt role F com) (r:Int):Zaz (G.beat tm i r) i tm vt role F com:={ A with
  good:=A.good
  bts:=λ t r' h=>by
    rcases h with h|⟨rfl,_,_⟩
    · exact A.bts t r' h
    · exact Int.le_refl _ }
theorem Gh.round_le {t r:Int}:Gh.Le i G (G.round t r):={ Gh.Le.refl i G with
  rr:=λ t'=>by
    show G.rr t'<=if t'=t then max r (G.rr t) else G.rr t'
    split
    · rename_i h;subst h;omega
    · exact Int.le_refl _ }
theorem Zaz.round (A:Zaz G i tm vt role F com) (t r:Int):Zaz (G.round t r) i tm vt role F com:={ A with good:=A.good }
theorem Gh.vote_le {t c:Int} {L:List Ey}:Gh.Le i G (G.vote t i c L):={ Gh.Le.refl i G with
  vt:=λ _ _ _ _ h=>.inl h
  vt':=λ _ p _ _ hp h=>by
    rcases h with h|⟨_,rfl,_,_⟩
    · exact h
    · exact absurd rfl hp }
theorem Zaz.vote (A:Zaz G i tm vt role F com) {c:Int} (hv:∀ c' L',G.vt tm i c' L'->c'=c):Zaz (G.vote tm i c F) i tm c role F com:={ A with
  good:=A.good
  vts:=λ t c' L h=>by
    rcases h with h|⟨rfl,_,_,_⟩
    · exact A.vts t c' L h
    · exact Int.le_refl _
  vtn:=λ c' L h=>by
    rcases h with h|⟨_,_,rfl,_⟩
    · exact hv _ _ h
    · rfl }
theorem Zaw.vote' (I:Zaw g0 G) (A:Zaz G i tm vt role F com) {c:Int} (hv:∀ c' L',G.vt tm i c' L'->c'=c) {B:List Ey} (hB:G.cd tm c B) (hn:ZaX F B):Zaw g0 (G.vote tm i c F):=
  I.vote A.mono hB hn hv λ u k h _=>(A.aks u k h).2
end
section
open Go Go.VC Tryz
open Go.Rf (Ey Lg ZD)
variable {g0:Gp} {G G':Gh} {i tm vt role:Int} {F:List Ey} {com:Nat}
theorem Gh.cand_le {t:Int} {B:List Ey}:Gh.Le i G (G.cand t i B):={ Gh.Le.refl i G with
  cd:=λ _ _ _ h=>.inl h
  cd':=λ _ c _ hc h=>by
    rcases h with h|⟨_,rfl,_⟩
    · exact h
    · exact absurd rfl hc }
theorem Zaz.cand (A:Zaz G i tm vt role F com) (h0:0<tm) (hn:¬ (G.h.el tm/\G.ld tm=i)) (hl:∀ (k:Nat) (e:Ey),F[k]? =some e->e.tm<tm):Zaz (G.cand tm i F) i tm vt 2 F com:={ A with
  good:=A.good
  cds:=λ t B h=>by
    rcases h with h|⟨rfl,_,_⟩
    · exact A.cds t B h
    · exact Int.le_refl _
  l3:=λ h=>absurd h (by decide)
  l2:=λ _=>⟨h0,.inr ⟨rfl,rfl,rfl⟩,hn,hl⟩ }
theorem Gh.commit_le {t:Int} {k:Nat} (hl:G.ld t=i):Gh.Le i G (G.commit t k):={ Gh.Le.refl i G with
  h:=⟨λ _ h=>h,λ _ _=>rfl,λ _ _=>⟨[],(List.append_nil _).symm⟩,λ _ _ _ h=>.inl h⟩
  rc:=λ t' i' b' _ hn h=>by
    rcases h with h|⟨rfl,_,_⟩
    · exact h
    · exact absurd hl hn }
theorem Zaz.commit (A:Zaz G i tm vt 3 F com) {k:Nat} (hk:com<k) (hkl:k<=F.length):Zaz (G.commit tm k) i tm vt 3 F k:={ A with
  good:=A.good
  l3:=λ _=>by
    obtain ⟨h1,h2,h3,h4,h5⟩:=A.l3 rfl;refine ⟨h1,h2,h3,λ i' b' hr=>?_,λ _=>⟨_,.inr ⟨rfl,rfl,rfl⟩⟩⟩;rcases hr with hr|⟨_,rfl,_⟩
    · have:=h4 i' b' hr;omega
    · exact Nat.le_refl _
  l2:=λ h=>absurd h (by decide)
  cm:=⟨hkl,.inr ⟨tm,k,_,.inr ⟨rfl,rfl,rfl⟩,Int.le_refl _,Nat.le_refl _,by
    show F.take k=(G.h.ll tm).take k;rw [(A.l3 rfl).2.2.1]⟩⟩ }
end
section
open Go Go.VC Tryz
open Go.Rf (Ey Lg ZD)
variable {g0:Gp} {G G':Gh} {i tm vt role:Int} {F:List Ey} {com:Nat}
theorem Gh.enter_le' {t:Int} {e:Ey} (hl:G.ld t=i):Gh.Le i G (G.enter t e):={ Gh.Le.refl i G with
  h:=Zl.enter_le
  ll:=λ u _ hn=>by
    show (G.h.enter t e).ll u=G.h.ll u;rw [Zl.enter_ll,if_neg (λ h=>hn (by rw [h];exact hl)),List.append_nil]
  rc:=λ _ _ _ _ _ h=>h }
theorem Zaz.enter (A:Zaz G i tm vt 3 F com) (I:Zaw g0 G) {e:Ey} (het:e.tm=tm):Zaz (G.enter tm e) i tm vt 3 (F++[e]) com:=by
  obtain ⟨h1,h2,h3,h4,h5⟩:=A.l3 rfl;have hll:(G.h.enter tm e).ll tm=F++[e]:=by rw [Zl.enter_ll,if_pos rfl,h3]
  have l:G.h.Le (G.h.enter tm e):=Zl.enter_le;have snoc:∀ {k:Nat} {d:Ey},(F++[e])[k]? =some d->F[k]? =some d\/(k=F.length/\d=e):=λ {k d} hk=>by
    rcases Nat.lt_or_ge k F.length with h|h
    · rw [List.getElem?_append_left h] at hk;exact .inl hk
    · have h6:=ZR hk
      simp at h6;have h7:k=F.length:=by omega
      subst h7;simp at hk;exact .inr ⟨rfl,hk.symm⟩
  exact
    { good:=λ k d hk=>by
        rcases snoc hk with h|⟨rfl,rfl⟩
        · obtain ⟨g1,g2⟩:=l.good A.good k d h
          have:=ZR h;exact ⟨g1,by rw [List.take_append_of_le_length (by omega)];exact g2⟩
        · exact ⟨by rw [het];exact h1,by
            show _=((G.h.enter tm d).ll d.tm).take _;rw [het,hll]⟩
      mono:=λ j k c d hj hk hjk=>by
        rcases snoc hk with h|⟨rfl,rfl⟩
        · rcases snoc hj with h'|⟨rfl,rfl⟩
          · exact A.mono j k c d h' h hjk
          · have:=ZR h;omega
        · rcases snoc hj with h'|⟨_,rfl⟩
          · have:=A.le j c h';omega
          · exact Int.le_refl _
      le:=λ k d hk=>by
        rcases snoc hk with h|⟨rfl,rfl⟩
        · exact A.le k d h
        · omega
      vts:=A.vts
      vtn:=A.vtn
      aks:=λ t k h=>by
        obtain ⟨a1,a2⟩:=I.akl _ _ _ h;refine ⟨(A.aks t k h).1,λ n hn=>?_⟩;refine (l.kept I.ok a1 a2 (A.aks t k h).2 n hn).imp_left λ⟨b1,b2⟩=>⟨by rw [List.length_append];omega,by rw [List.take_append_of_le_length b1];exact b2⟩
      bts:=A.bts
      cds:=A.cds
      lds:=A.lds
      l3:=λ _=>⟨h1,h2,hll,h4,h5⟩
      l2:=λ h=>absurd h (by decide)
      cm:=by
        obtain ⟨c1,c2⟩:=A.cm;refine ⟨by rw [List.length_append];omega,c2.imp_right ?_⟩;rintro ⟨t,k,b,c3,c4,c5,c6⟩;obtain ⟨r1,r2,r3,r4⟩:=I.ok.rc _ _ _ c3;refine ⟨t,k,b,c3,c4,c5,?_⟩;show (F++[e]).take com=((G.h.enter tm e).ll t).take com;rw [List.take_append_of_le_length c1,l.take r1 (by omega)];exact c6 }
end
section
open Go Go.VC Tryz
open Go.Rf (Ey Lg ZD)
variable {g0:Gp} {G G':Gh} {i tm vt role:Int} {F:List Ey} {com:Nat}
theorem Zaz.no_el (A:Zaz G i tm vt 2 F com) (I:Zaw g0 G) (hw:G.Win g0 tm i F):¬ G.h.el tm:=λ h=>by
  obtain ⟨_,h1,h2,h3⟩:=A.l2 rfl;exact h2 ⟨h,I.one A.good h3 A.mono h1 hw h⟩
theorem Zaw.won' (I:Zaw g0 G) (A:Zaz G i tm vt 2 F com) (hw:G.Win g0 tm i F):Zaw g0 (G.won tm i F):=by
  obtain ⟨h0,h1,h2,h3⟩:=A.l2 rfl;exact I.won (A.no_el I hw) h0 A.good h3 A.mono h1 hw
theorem Gh.won_le {t:Int} {B:List Ey} (hn:¬ G.h.el t):Gh.Le i G (G.won t i B):={ Gh.Le.refl i G with
  h:=Zl.win_le hn
  ld:=λ u hu=>by
    have e:u≠t:=λ e=>hn (e ▸ hu);exact if_neg e
  el:=λ u hu=>by
    rcases hu with hu|e
    · exact .inl hu
    · exact .inr (if_pos e)
  ll:=λ u hu _=>by
    have e:u≠t:=λ e=>hn (e ▸ hu);exact Zl.win_ll e
  rc:=λ _ _ _ _ _ h=>h }
theorem Zaz.won (A:Zaz G i tm vt 2 F com) (I:Zaw g0 G) (hw:G.Win g0 tm i F):Zaz (G.won tm i F) i tm vt 3 F com:=by
  have hn:=A.no_el I hw;have l:G.h.Le (G.h.win tm F):=Zl.win_le hn;obtain ⟨h0,h1,h2,h3⟩:=A.l2 rfl;have ne:∀ {t},G.h.el t->t≠tm:=λ h e=>hn (e ▸ h);exact
    { good:=l.good A.good
      mono:=A.mono
      le:=A.le
      vts:=A.vts
      vtn:=A.vtn
      aks:=λ t k h=>by
        obtain ⟨a1,a2⟩:=I.akl _ _ _ h;exact ⟨(A.aks t k h).1,l.kept I.ok a1 a2 (A.aks t k h).2⟩
      bts:=A.bts
      cds:=A.cds
      lds:=λ u hu hl=>by
        by_cases e:u=tm
        · omega
        · exact A.lds u (hu.resolve_right e) (by rw [<-hl];exact (if_neg e).symm)
      l3:=λ _=>⟨.inr rfl,if_pos rfl,Zl.win_llu,λ i' b' hr=>absurd (I.ok.rc _ _ _ hr).1 hn,λ hb=>by
        have hb:(G.h.win tm F).bn tm<com:=hb;rw [Zl.win_bnu] at hb;have:=A.cm.1;omega⟩
      l2:=λ h=>absurd h (by decide)
      cm:=by
        obtain ⟨c1,c2⟩:=A.cm;refine ⟨c1,c2.imp_right ?_⟩;rintro ⟨t,k,b,c3,c4,c5,c6⟩;obtain ⟨r1,r2,r3,r4⟩:=I.ok.rc _ _ _ c3;refine ⟨t,k,b,c3,c4,c5,?_⟩;show F.take com=((G.h.win tm F).ll t).take com;rw [Zl.win_ll (ne r1)];exact c6 }
end
section
open Go Go.VC Tryz
open Go.Rf (Ey Lg ZD)
variable {G G' G'':Gh}
theorem Zl.Le.trans {h h' h'':Zl} (a:h.Le h') (b:h'.Le h''):h.Le h'' where
 el t ht:=b.el t (a.el t ht)
 bn t ht:=(b.bn t (a.el t ht)).trans (a.bn t ht)
 ll t ht:=by
  obtain ⟨m,e⟩:=a.ll t ht;obtain ⟨m',e'⟩:=b.ll t (a.el t ht);exact ⟨m++m',by rw [e',e,List.append_assoc]⟩
 rc t i k h:=b.rc t i k (a.rc t i k h)
theorem Gh.Le.trans {y:Int} (a:Gh.Le y G G') (b:Gh.Le y G' G''):Gh.Le y G G'' where
 h:=a.h.trans b.h
 ld t ht:=(b.ld t (a.h.el t ht)).trans (a.ld t ht)
 el t ht:=by
  rcases b.el t ht with h|h
  ·rcases a.el t h with h'|h'
   ·exact .inl h'
   ·exact .inr ((b.ld t h).trans h')
  ·exact .inr h
 ll t ht hn:=(b.ll t (a.h.el t ht) (by rw [a.ld t ht];exact hn)).trans (a.ll t ht hn)
 rc t i k ht hn h:=a.rc t i k ht hn (b.rc t i k (a.h.el t ht) (by rw [a.ld t ht];exact hn) h)
 vt t p c L h:=b.vt _ _ _ _ (a.vt _ _ _ _ h)
 vt' t p c L hp h:=a.vt' _ _ _ _ hp (b.vt' _ _ _ _ hp h)
 cd t c B h:=b.cd _ _ _ (a.cd _ _ _ h)
 cd' t c B hc h:=a.cd' _ _ _ hc (b.cd' _ _ _ hc h)
 ak t p k h:=b.ak _ _ _ (a.ak _ _ _ h)
 ak' t p k hp h:=a.ak' _ _ _ hp (b.ak' _ _ _ hp h)
 bt t p r h:=b.bt _ _ _ (a.bt _ _ _ h)
 bt' t p r hp h:=a.bt' _ _ _ hp (b.bt' _ _ _ hp h)
 rr t:=Int.le_trans (a.rr t) (b.rr t)
end
section
open Go Go.VC Tryz
open Go.Rf (Ey Lg ZD)
variable {g0:Gp} {G:Gh}
def Zl.asif (h:Zl) (t v:Int):Zl:=
 { h with el:=λ u=>h.el u/\(u<=t\/u=v),rc:=λ t' i b=>(h.rc t' i b/\(t'<=t\/t'=v))\/(t'=t/\i=(h.ll t).length/\b=(h.ll t).length) }
theorem Zl.Ok.asif {h:Zl} (ok:h.Ok) {t v:Int} (ht:h.el t) (hv:h.el v) (htv:t<v) (hb:h.bn t<(h.ll t).length) (hl:∀ (k:Nat) (e:Ey),(h.lb v)[k]? =some e->e.tm<=t):(h.asif t v).Ok where
 good u hu k e hk:=by
  obtain ⟨g1,g2⟩:=ok.good u hu.1 k e hk;refine ⟨⟨g1,?_⟩,g2⟩;have hle:=ok.le hu.1 hk;rcases hu.2 with h1|rfl
  ·exact .inl (by omega)
  ·rcases Nat.lt_or_ge k (h.bn u) with h2|h2
   ·exact .inl (hl k e (by unfold Zl.lb;rw [List.getElem?_take_of_lt h2];exact hk))
   ·exact .inr (ok.own u k e hu.1 hk h2)
 len u hu:=ok.len u hu.1
 old u k e hu:=ok.old u k e hu.1
 own u k e hu:=ok.own u k e hu.1
 mono u j k d e hu:=ok.mono u j k d e hu.1
 rc u i b hr:=by
  rcases hr with ⟨hr,h1⟩|⟨rfl,rfl,rfl⟩
  ·obtain ⟨r1,r2,r3,r4⟩:=ok.rc u i b hr
   exact ⟨⟨r1,h1⟩,r2,r3,r4⟩
  ·exact ⟨⟨ht,.inl (Int.le_refl _)⟩,Nat.le_refl _,Nat.le_refl _,hb⟩
 ch u k e hu hk hbk hc:=by
  obtain ⟨i,b,r1,r2,r3,r4⟩:=ok.ch u k e hu.1 hk hbk hc;refine ⟨i,b,.inl ⟨r1,hu.2⟩,r2,r3,λ i' b' hr h1=>?_⟩;rcases hr with ⟨hr,_⟩|⟨rfl,rfl,rfl⟩
  ·exact r4 i' b' hr h1
  ·have:=(ok.rc _ _ _ r1).2.1;omega
theorem Zaw.read (I:Zaw g0 G) {t v:Int} (ht:G.h.el t) (hv:G.h.el v) (htv:t<v) (hb:G.h.bn t<(G.h.ll t).length) (hl:∀ (k:Nat) (e:Ey),(G.h.lb v)[k]? =some e->e.tm<=t)
  {q q':List Int} (hq:ZaE (grp g0 (G.h.ll t)).vs (grp g0 (G.h.ll t)).ls q=true) (hq':ZaE (grp g0 (G.h.lb v)).vs (grp g0 (G.h.lb v)).ls q'=true):∃ m,ZS q m=true/\ZS q' m=true:=by
 have ok':=I.ok.asif ht hv htv hb hl;have fin:∀ {p x y},G.h.ll t=p++x->G.h.lb v=p++y->((ZhR x/\ZcZ y)\/(ZcZ x/\ZhR y))->∃ m,ZS q m=true/\ZS q' m=true:=λ {p x y} h1 h2 h3=>by
  rw [h1] at hq;rw [h2] at hq';exact Zby I.gr h3 hq hq'
 rcases ok'.common (t:=t) (u:=v) (i:=(G.h.ll t).length) (b:=(G.h.ll t).length) (.inr ⟨rfl,rfl,rfl⟩) ⟨hv,.inr rfl⟩ htv
  (λ t' i' b' hr' hs=>by
   rcases hr' with ⟨hr',_⟩|⟨rfl,rfl,rfl⟩
   ·exact I.lc t' i' b' v hr' hv (by omega)
   ·omega)
  (λ t' i' b' u' hr' hu' h1 h2=>by
   rcases hr' with ⟨hr',_⟩|⟨rfl,rfl,rfl⟩
   ·exact I.lc t' i' b' u' hr' hu'.1 h1
   ·have:=hu'.2;omega) with h1|⟨p,x,y,h1,h2,h3⟩
 ·obtain ⟨h1,h2⟩:(G.h.ll t).length<=G.h.bn v/\(G.h.ll v).take (G.h.ll t).length=(G.h.ll t).take (G.h.ll t).length:=h1
  rw [List.take_length] at h2;have hvl:=I.ok.len v hv;have e:G.h.bn v=(G.h.ll t).length:=by
   rcases Nat.lt_or_eq_of_le h1 with h3|h3
   ·exfalso
    obtain ⟨d,hd⟩:∃ d,(G.h.ll v)[(G.h.ll t).length]? =some d:=⟨_,List.getElem?_eq_getElem (by omega)⟩;obtain ⟨c,hc⟩:∃ c,(G.h.ll t)[(G.h.ll t).length - 1]? =some c:=⟨_,List.getElem?_eq_getElem (by omega)⟩;have hct:=I.ok.own t _ c ht hc (by omega);have hcv:(G.h.ll v)[(G.h.ll t).length - 1]? =some c:=by
     rw [<-hc,<-h2,List.getElem?_take_of_lt (by rw [List.length_take];omega)]
    have h5:=I.ok.mono v _ _ c d hv hcv hd (by omega);have h6:=hl _ d (by unfold Zl.lb;rw [List.getElem?_take_of_lt h3];exact hd);obtain ⟨_,g2⟩:=I.ok.good v hv _ d hd;have h7:d.tm=t:=by omega
    rw [h7] at g2;have:=Zfn g2 (by omega);omega
   ·exact h3.symm
  refine fin (p:=G.h.ll t) (x:=[]) (y:=[]) (by simp) (by unfold Zl.lb;rw [e,h2,List.append_nil]) (.inl ⟨(λ _ h=>nomatch h),.inl (λ _ h=>nomatch h)⟩)
 ·have h1:(G.h.ll t).take (G.h.ll t).length=p++x:=h1
  rw [List.take_length] at h1;exact fin h1 h2 h3
end
section
open Go Go.VC Tryz
open Go.Rf
structure ZaW (g:Lg) (F:List Ey):Prop where
 ok:ZD g
 fo:OkE F 0 0
 b:g.b.ix.toNat<=F.length
 l:F.drop g.b.ix.toNat=g.l
 bt:g.b.tm=ltm (F.take g.b.ix.toNat)
theorem Zbu {F:List Ey} {k:Nat} {e:Ey} (h:F[k]? =some e):ltm (F.take (k + 1))=e.tm:=by
 have h1:=ZR h;unfold ltm;rw [List.getLast?_eq_getElem?,List.length_take,Nat.min_eq_left (by omega),List.getElem?_take_of_lt (by omega),Nat.add_sub_cancel,h]
theorem ZaW.last {g:Lg} {F:List Ey} (h:ZaW g F):g.last=F.length:=by
 have h0:=h.ok.b0;have h1:=congrArg List.length h.l;rw [List.length_drop] at h1;have:=h.b;unfold Lg.last;omega
theorem ZaW.at {g:Lg} {F:List Ey} (h:ZaW g F) {i:Int} (hi:g.has i=true):(g.at i).tm=ltm (F.take i.toNat):=by
 have h0:=h.ok.b0;obtain ⟨h1,h2⟩:=Lg.has_iff.1 hi;rw [h.last] at h2;obtain ⟨h3,h4⟩:=Lg.at_eq hi;rw [h4];by_cases h5:i=g.b.ix
 ·subst h5
  have e:(g.b.ix - g.b.ix).toNat=0:=by omega
  simp only [e];exact h.bt
 ·obtain ⟨k,hk⟩:∃ k,(i - g.b.ix).toNat=k + 1:=⟨(i - g.b.ix).toNat - 1,by omega⟩
  have e:g.all[(i - g.b.ix).toNat]? =F[i.toNat - 1]?:=by
   rw [hk];show g.l[k]? =_;rw [<-h.l,List.getElem?_drop]
   congr 1;omega
  rw [List.getElem?_eq_getElem h3] at e;have:=Zbu e.symm;rw [show i.toNat - 1 + 1=i.toNat by omega] at this;exact this.symm
end
section
open Go Go.VC Tryz
open Go.Rf
variable {g:Lg} {F:List Ey}
theorem ZaW.has_last (h:ZaW g F):g.has g.last=true:=Lg.has_iff.2 ⟨by unfold Lg.last;omega,Int.le_refl _⟩
theorem ZaW.tail (h:ZaW g F):g.tail.tm=ltm F:=by
 have e:=h.at h.has_last;rw [<-Lg.at_take h.has_last,h.last,Int.toNat_natCast,List.take_length] at e;rw [Lg.tail_eq];have e2:((F.length:Int) - g.b.ix).toNat=g.l.length:=by
  have:=h.last;unfold Lg.last at this;omega
 rw [e2,List.take_length] at e;exact e
theorem OkE.lastE0 {F:List Ey} (h:OkE F 0 0):(lastE ⟨0,0,0,[]⟩ F).ix=F.length/\(lastE ⟨0,0,0,[]⟩ F).tm=ltm F:=by
 refine ⟨by have:=OkE.last_ix (b:=⟨0,0,0,[]⟩) h;simpa using this,?_⟩;unfold ltm lastE;rw [List.getLastD_eq_getLast?];cases F.getLast?<;>rfl
theorem ZaW.app (h:ZaW g F) {l:List Ey} (ho:OkE l g.last g.tail.tm):ZaW { g with l:=g.l++l } (F++l) where
 ok:=h.ok.added ho
 fo:=by
  obtain ⟨h1,h2⟩:=OkE.lastE0 h.fo;refine OkE.app (b:=⟨0,0,0,[]⟩) h.fo ?_;rw [h1,h2,<-h.tail,<-h.last];exact ho
 b:=by rw [List.length_append];have:=h.b;show g.b.ix.toNat<=_;omega
 l:=by
  show (F++l).drop g.b.ix.toNat=g.l++l;rw [List.drop_append_of_le_length h.b,h.l]
 bt:=by
  show g.b.tm=ltm ((F++l).take g.b.ix.toNat);rw [List.take_append_of_le_length h.b];exact h.bt
theorem ZaW.add (h:ZaW g F) {l:List Ey} (h1:(g.add l).1=0):ZaW (g.add l).2 (F++l):=by
 unfold Lg.add at h1 ⊢;split at h1
 ·cases h1
 ·rename_i h2
  rw [if_neg h2];split at h1
  ·rename_i h3
   rw [if_pos h3];exact h.app (OkE.of_fol (by simpa using h2) h3)
  ·cases h1
end
section
open Go Go.VC Tryz
open Go.Rf
theorem Zl.match {h:Zl} {F L:List Ey} (hF:h.Good F) (hL:h.Good L) {k:Nat} {d e:Ey} (hd:F[k]? =some d) (he:L[k]? =some e) (ht:d.tm=e.tm):F.take (k + 1)=L.take (k + 1):=by
 obtain ⟨_,h1⟩:=hF k d hd;obtain ⟨_,h2⟩:=hL k e he;rw [ht] at h1;exact h1.trans h2.symm
theorem Zl.matchT {h:Zl} {F L:List Ey} (hF:h.Good F) (hL:h.Good L) {k:Nat} (hkF:k<=F.length) (hkL:k<=L.length) (ht:ltm (F.take k)=ltm (L.take k)):F.take k=L.take k:=by
 cases k with
 |zero=>rw [List.take_zero,List.take_zero]
 |succ k=>
  have e1:F[k]? =some F[k]:=List.getElem?_eq_getElem (by omega);have e2:L[k]? =some L[k]:=List.getElem?_eq_getElem (by omega);refine Zl.match hF hL e1 e2 ?_
  rw [<-Zbu e1,<-Zbu e2,ht]
variable {g:Lg} {F:List Ey}
theorem ZaW.has (h:ZaW g F) {i:Int}:g.has i=true↔g.b.ix<=i/\i<=F.length:=by rw [Lg.has_iff,h.last]
theorem ZaW.ix (h:ZaW g F) {k:Nat} {e:Ey} (hk:F[k]? =some e):e.ix=k + 1:=by
 have h1:=ZR hk;have:=h.fo.ix k h1;rw [List.getElem?_eq_getElem h1] at hk;cases hk;omega
theorem ZaW.like (h:ZaW g F) {x:Ey} (hx:g.unlike x=false):0<=x.ix/\g.b.ix<=x.ix/\x.ix<=F.length/\ltm (F.take x.ix.toNat)=x.tm:=by
 obtain ⟨h1,h2⟩:=Lg.like hx;obtain ⟨h3,h4⟩:=h.has.1 h1;have:=h.ok.b0;exact ⟨by omega,h3,h4,by rw [<-h.at h1];exact h2⟩
theorem ZaW.not_like (h:ZaW g F) {x:Ey} (hx:g.unlike x=true):¬ (g.b.ix<=x.ix/\x.ix<=F.length/\ltm (F.take x.ix.toNat)=x.tm):=λ⟨h1,h2,h3⟩=>by
 have h4:=h.has.2 ⟨h1,h2⟩;unfold Lg.unlike at hx;rw [Lg.term_is,Lg.term_at h4,h.at h4,h4,h3] at hx;simp at hx
end
section
open Go Go.VC Tryz
open Go.Rf
variable {g:Lg} {F:List Ey}
structure Zm4 (g:Lg) (F L:List Ey) (j:Nat) (r:(Int × Int) × Lg):Prop where
  ok:r.1.2=0
  at0:g.b.ix<r.1.1
  at1:r.1.1<=g.last + 1
  com:r.2.com=g.com
  b:r.2.b=g.b
  low:r.2.l.take (r.1.1 - 1 - g.b.ix).toNat=g.l.take (r.1.1 - 1 - g.b.ix).toNat
  fl:ZaW r.2 (L.take j)
  max:∀ n,n<=F.length->F.take n=L.take n->n<=j
def ZiA (g:Lg) (F L:List Ey) (j:Nat) (r:(Int × Int) × Lg):Prop:=
  (r.1.2≠0/\r.2=g)\/(r.1=(0,0)/\r.2=g/\j<=F.length/\F.take j=L.take j)\/Zm4 g F L j r
theorem ZaW.mergeAt (h:ZaW g F) {H:Zl} (hF:H.Good F) {L:List Ey} (hL:H.Good L) {i t:Int} {l:List Ey} (hi0:0<=i) (ho:OkE l i t)
    (hiL:i.toNat + l.length<=L.length) (hl:(L.drop i.toNat).take l.length=l) (ht:ltm (L.take i.toNat)=t):
    ZiA g F L (i.toNat + l.length) (g.mergeAt i t l):=by
  have okm:=h.ok.mergeAt (i:=i) (t:=t) (l:=l) ho;unfold Lg.mergeAt ZiA at *;by_cases h1:g.unlike ⟨i,t,0,[]⟩=true
  · rw [if_pos h1];exact .inl ⟨by show (7:Int)≠0;decide,rfl⟩
  · rw [if_neg h1] at okm ⊢
    obtain ⟨_,b1,b2,b3⟩:=h.like (by simpa using h1);have b1:g.b.ix<=i:=b1;have b2:i<=F.length:=b2;have b3:ltm (F.take i.toNat)=t:=b3;have h0:=h.ok.b0;have getL:∀ (k:Nat) (hk:k<l.length),L[i.toNat + k]? =some l[k]:=λ k hk=>by
      have e:((L.drop i.toNat).take l.length)[k]? =some l[k]:=by rw [hl];exact List.getElem?_eq_getElem hk
      rw [List.getElem?_take_of_lt hk,List.getElem?_drop] at e;exact e
    have pre:∀ k,k<=l.length->(∀ j (hj:j<l.length),j<k->g.unlike l[j]=false)->i.toNat + k<=F.length/\F.take (i.toNat + k)=L.take (i.toNat + k):=by
      intro k hk hj;cases k with
      |zero=>exact ⟨by omega,Zl.matchT hF hL (by omega) (by omega) (by rw [Nat.add_zero,b3,ht])⟩
      |succ k=>
        obtain ⟨c0,c1,c2,c3⟩:=h.like (hj k (by omega) (Nat.lt_succ_self k));have hix:=ho.ix k (by omega);have e:(l[k].ix).toNat=i.toNat + (k + 1):=by omega
        rw [e] at c3;exact ⟨by omega,Zl.matchT hF hL (by omega) (by omega) (by rw [c3];exact (Zbu (getL k (by omega))).symm)⟩
    cases hf:l.findIdx? g.unlike with
    |none=>
      rw [hf] at okm;obtain ⟨p1,p2⟩:=pre l.length (Nat.le_refl _) λ j hj _=>List.findIdx?_eq_none_iff.1 hf _ (List.getElem_mem hj);exact .inr (.inl ⟨rfl,rfl,p1,p2⟩)
    |some k=>
      rw [hf] at okm;obtain ⟨hk,hu,hj⟩:=List.findIdx?_eq_some_iff_getElem.1 hf;have hix:=ho.ix k hk;have hd:(l.getD k ⟨0,0,0,[]⟩).ix=i + 1 + k:=by rw [List.getD_eq_getElem?_getD,List.getElem?_eq_getElem hk];exact hix
      dsimp only at okm ⊢;rw [hd] at okm ⊢;by_cases hc:i + 1 + k<=g.com
      · rw [if_pos hc];exact .inl ⟨by show (9:Int)≠0;decide,rfl⟩
      · rw [if_neg hc] at okm ⊢
        obtain ⟨p1,p2⟩:=pre k (by omega) λ j hjl hjk=>by simpa using hj j hjk
        have hLi:L.take (i.toNat + l.length)=L.take i.toNat++l:=by rw [List.take_add,hl]
        have hFk:F.take (i.toNat + k)=L.take i.toNat++l.take k:=by
          rw [p2,List.take_add]
          congr 1
          rw [<-hl,List.take_take,Nat.min_eq_left (by omega)]
        have heq:L.take (i.toNat + l.length)=F.take (i.toNat + k)++l.drop k:=by rw [hFk,List.append_assoc,List.take_append_drop,hLi]
        have hgl:g.l.length=F.length - g.b.ix.toNat:=by rw [<-h.l,List.length_drop]
        refine .inr (.inr ⟨rfl,by dsimp only;omega,by have:=h.last;dsimp only;omega,rfl,rfl,?_,?_,λ n hn he=>?_⟩)
        · dsimp only
          rw [show (i + 1 + k - g.b.ix - 1).toNat=(i + 1 + k - 1 - g.b.ix).toNat by omega,List.take_append_of_le_length (by rw [List.length_take];omega),List.take_take,Nat.min_self]
        · have hFi:F.take i.toNat=L.take i.toNat:=ZQ p2 (by omega)
          exact
            { ok:=okm
              fo:=by
                rw [hLi,<-hFi];have hfo:OkE (F.take i.toNat) 0 0:=OkE.left (b:=⟨0,0,0,[]⟩) (m:=F.drop i.toNat) (by rw [List.take_append_drop];exact h.fo);obtain ⟨q1,q2⟩:=OkE.lastE0 hfo;refine OkE.app (b:=⟨0,0,0,[]⟩) hfo ?_;rw [q1,q2,b3,List.length_take,Nat.min_eq_left (by omega),Int.toNat_of_nonneg hi0];exact ho
              b:=by show g.b.ix.toNat<=_;rw [List.length_take];omega
              l:=by
                show (L.take (i.toNat + l.length)).drop g.b.ix.toNat=g.l.take (i + 1 + k - g.b.ix - 1).toNat++l.drop k;rw [heq,List.drop_append_of_le_length (by rw [List.length_take];omega),<-h.l,List.drop_take]
                congr 2
                omega
              bt:=by
                show g.b.tm=ltm ((L.take (i.toNat + l.length)).take g.b.ix.toNat);rw [heq,List.take_append_of_le_length (by rw [List.length_take];omega),List.take_take,Nat.min_eq_left (by omega)];exact h.bt }
        · rcases Nat.lt_or_ge (i.toNat + k) n with h7|h7
          · exfalso
            refine h.not_like hu ⟨by omega,by omega,?_⟩;have e:(l[k].ix).toNat=i.toNat + k + 1:=by omega
            rw [e,ZQ he (by omega:i.toNat + k + 1<=n)];exact Zbu (getL k hk)
          · omega
end
section
open Go Go.VC Tryz
open Go.Rf
variable {g:Lg} {F:List Ey}
theorem ZaW.merge (h:ZaW g F) {H:Zl} (hF:H.Good F) {L:List Ey} (hL:H.Good L) {i t:Int} {l:List Ey} (hi0:0<=i)
  (hiL:i.toNat + l.length<=L.length) (hl:(L.drop i.toNat).take l.length=l) (ht:ltm (L.take i.toNat)=t)
  (hc:g.com.toNat<=L.length/\F.take g.com.toNat=L.take g.com.toNat):
  ZiA g F L (i.toNat + l.length) (g.merge i t l):=by
 have h0:=h.ok.b0;have hc0:=h.ok.c0;have hc1:=h.ok.c1;rw [h.last] at hc1;unfold Lg.merge;by_cases h1:(l.any oddE||!folE l i t)=true
 ·rw [if_pos h1];exact .inl ⟨by show (1:Int)≠0;decide,rfl⟩
 ·rw [if_neg h1]
  simp only [Bool.or_eq_true,Bool.not_eq_true',not_or,Bool.not_eq_true,Bool.not_eq_false] at h1;have ho:=OkE.of_fol h1.1 h1.2;by_cases h2:i<g.b.ix
  ·rw [if_pos h2]
   by_cases h3:i<=g.b.ix - l.length
   ·rw [if_pos h3]
    exact .inr (.inl ⟨rfl,rfl,by omega,ZQ hc.2 (by omega)⟩)
   ·rw [if_neg h3]
    dsimp only;by_cases h4:((l.drop (g.b.ix - i).toNat).getD 0 ⟨0,0,0,[]⟩).tm<g.b.tm
    ·rw [if_pos h4];exact .inl ⟨by show (7:Int)≠0;decide,rfl⟩
    ·rw [if_neg h4]
     have hk:(g.b.ix - i).toNat<l.length:=by omega
     have hd:=drop_fol ho hk;rw [show i + (((g.b.ix - i).toNat:Nat):Int)=g.b.ix by omega] at hd;have hd:=hd.low (t':=g.b.tm) λ x hx=>by
      rw [List.getD_eq_getElem?_getD,<-List.head?_eq_getElem?,hx] at h4;simpa using h4
     have e:i.toNat + l.length=g.b.ix.toNat + (l.drop (g.b.ix - i).toNat).length:=by rw [List.length_drop];omega
     rw [e];refine h.mergeAt hF hL h0 hd (by rw [<-e];exact hiL) ?_ (by rw [<-ZQ hc.2 (by omega:g.b.ix.toNat<=g.com.toNat)];exact h.bt.symm);rw [List.length_drop];have e2:((L.drop i.toNat).take l.length).drop (g.b.ix - i).toNat=l.drop (g.b.ix - i).toNat:=by rw [hl]
     rw [List.drop_take,List.drop_drop,show i.toNat + (g.b.ix - i).toNat=g.b.ix.toNat by omega] at e2;exact e2
  ·rw [if_neg h2]
   exact h.mergeAt hF hL hi0 ho hiL hl ht
end
section
open Go Go.VC Tryz
open Go.Rf
variable {g:Lg} {F:List Ey}
theorem ZaW.has_no (h:ZaW g F) {i:Int} (hi:(F.length:Int)<i):g.has i=false:=by
 cases h2:g.has i with
 |false=>rfl
 |true=>have:=(h.has.1 h2).2;omega
theorem ZaW.get (h:ZaW g F) {i:Int} (m:Int) (hi:g.b.ix<=i):g.get (i + 1) m=(F.drop i.toNat).take m.toNat:=by
 have h0:=h.ok.b0;unfold Lg.get;by_cases hm:m<1
 ·rw [if_pos (.inr (.inr hm)),show m.toNat=0 by omega,List.take_zero]
 ·by_cases h1:i + 1<=F.length
  ·rw [if_neg (by
    rintro (h2|h2|h2)
    ·omega
    ·rw [h.has.2 ⟨by omega,by omega⟩] at h2;cases h2
    ·omega)]
   congr 1
   obtain ⟨k,hk⟩:∃ k,(i + 1 - g.b.ix).toNat=k + 1:=⟨(i - g.b.ix).toNat,by omega⟩;rw [hk];show g.l.drop k=_;rw [<-h.l,List.drop_drop]
   congr 1;omega
  ·have h2:=h.has_no (i:=i + 1) (by omega)
   rw [if_pos (.inr (.inl h2)),List.drop_eq_nil_of_le (by omega),List.take_nil]
theorem ZaW.commit (h:ZaW g F) (i:Int):ZaW (g.commit i).2 F:=by
 have:=h.ok.commit i;unfold Lg.commit at *;split
 ·exact h
 ·rename_i hn
  rw [if_neg hn] at this;exact ⟨this,h.fo,h.b,h.l,h.bt⟩
theorem ZaW.apply (h:ZaW g F) (i:Int):ZaW (g.apply i).2 F:=by
 have:=h.ok.apply i;unfold Lg.apply at *;split
 ·exact h
 ·rename_i hn
  rw [if_neg hn] at this;exact ⟨this,h.fo,h.b,h.l,h.bt⟩
theorem ZaW.compact (h:ZaW g F) (i:Int):ZaW (g.compact i).2 F:=by
 have h9:=h.ok.compact i;have hl:=h.last;have h0:=h.ok.b0;have hc:=h.ok.c1;have ha:=h.ok.a1;unfold Lg.compact at *;split
 ·exact h
 ·rename_i hn
  rw [if_neg hn] at h9;have hi:g.has i=true:=h.has.2 ⟨by omega,by omega⟩;have hix:=h.ok.at_ix hi;have hat:=h.at hi;exact ⟨h9,h.fo,by show (g.at i).ix.toNat<=_;rw [hix];omega,by
   show F.drop (g.at i).ix.toNat=g.l.drop _;rw [hix,<-h.l,List.drop_drop]
   congr 1;omega,by show (g.at i).tm=ltm (F.take (g.at i).ix.toNat);rw [hix];exact hat⟩
theorem ZaW.new {P:List Ey} {i t:Int} (hi:inIx i=true) (ht:inIx t=true) (hP:OkE P 0 0) (hl:i=P.length) (hlt:ltm P=t):ZaW (Lg.new i t) P:=by
 have e:(Lg.new i t).b.ix.toNat=P.length:=by show i.toNat=_;omega
 exact ⟨ZD.new hi ht,hP,by omega,by rw [e,List.drop_length];rfl,by rw [e,List.take_length];exact hlt.symm⟩
end
section
open Go Go.VC Tryz
open Go.Rf
variable {g0:Gp} {G G' G'':Gh} {y:Int}
def Zl.Cm (h:Zl) (tm c:Int):Prop:=c<=0\/∃ t k b,h.rc t k b/\t<=tm/\c<=(k:Nat)
theorem Zl.Cm.le {h:Zl} {tm c d:Int} (H:h.Cm tm c) (hd:d<=c):h.Cm tm d:=by
 rcases H with h1|⟨t,k,b,h1,h2,h3⟩
 ·exact .inl (by omega)
 ·exact .inr ⟨t,k,b,h1,h2,by omega⟩
theorem Zl.Le.cm {h h':Zl} (l:h.Le h') {tm c:Int} (H:h.Cm tm c):h'.Cm tm c:=H.imp_right λ⟨t,k,b,h1,h2,h3⟩=>⟨t,k,b,l.rc _ _ _ h1,h2,h3⟩
structure ZqH (G:Gh) (m:Mg):Prop where
 el:G.h.el m.tm
 i0:0<=m.ix
 len:m.ix.toNat + m.es.length<=(G.h.ll m.tm).length
 es:((G.h.ll m.tm).drop m.ix.toNat).take m.es.length=m.es
 lt:ltm ((G.h.ll m.tm).take m.ix.toNat)=m.lt
 cm:G.h.Cm m.tm m.com
structure ZrE (g0:Gp) (G:Gh) (m:Mg):Prop where
 el:G.h.el m.tm
 i0:0<=m.sn.ix
 len:m.sn.ix.toNat<=(G.h.ll m.tm).length
 lt:ltm ((G.h.ll m.tm).take m.sn.ix.toNat)=m.sn.tm
 g:m.sn.g=grp g0 ((G.h.ll m.tm).take m.sn.ix.toNat)
 cm:G.h.Cm m.tm m.sn.ix
structure Zqw (G:Gh) (m:Mg):Prop where
 el:G.h.el m.tm
 cm:G.h.Cm m.tm m.com
 ak:m.com<=0\/∃ k:Nat,m.com<=k/\G.ak m.tm m.to' k
 rr:m.rnd<=G.rr m.tm
structure Zco (g0:Gp) (G:Gh) (m:Mg):Prop where
 ok:Zd3 m
 m3:m.kd=3->∃ B,G.cd m.tm m.fr B/\m.ix=B.length/\m.lt=ltm B
 m4:m.kd=4->m.yes=true->∃ L,G.vt m.tm m.fr m.to' L
 m5:m.kd=5->ZqH G m
 m6:m.kd=6\/m.kd=10->m.yes=true->∃ k:Nat,m.ix<=k/\G.ak m.tm m.fr k
 m7:m.kd=7->Zqw G m
 m8:m.kd=8->m.rnd<=0\/G.bt m.tm m.fr m.rnd
 m9:m.kd=9->ZrE g0 G m
theorem Zl.Le.drop {h h':Zl} (l:h.Le h') {t:Int} (ht:h.el t) {i k:Nat} (hk:i + k<=(h.ll t).length):((h'.ll t).drop i).take k=((h.ll t).drop i).take k:=by
 obtain ⟨m,e⟩:=l.ll t ht;rw [e,List.drop_append_of_le_length (by omega),List.take_append_of_le_length (by rw [List.length_drop];omega)]
theorem Zl.Le.len {h h':Zl} (l:h.Le h') {t:Int} (ht:h.el t):(h.ll t).length<=(h'.ll t).length:=by
 obtain ⟨m,e⟩:=l.ll t ht;rw [e,List.length_append];omega
theorem Zco.le {m:Mg} (h:Zco g0 G m) (l:Gh.Le y G G'):Zco g0 G' m where
 ok:=h.ok
 m3 hk:=(h.m3 hk).imp λ _ ⟨a,b⟩=>⟨l.cd _ _ _ a,b⟩
 m4 hk hy:=(h.m4 hk hy).imp λ _ a=>l.vt _ _ _ _ a
 m5 hk:=by
  have a:=h.m5 hk;have:=l.h.len a.el;have:=a.len;exact ⟨l.h.el _ a.el,a.i0,by omega,by rw [l.h.drop a.el a.len];exact a.es,by rw [l.h.take a.el (by omega)];exact a.lt,l.h.cm a.cm⟩
 m6 hk hy:=(h.m6 hk hy).imp λ _ ⟨a,b⟩=>⟨a,l.ak _ _ _ b⟩
 m7 hk:=by
  have a:=h.m7 hk;exact ⟨l.h.el _ a.el,l.h.cm a.cm,a.ak.imp_right λ⟨k,b,c⟩=>⟨k,b,l.ak _ _ _ c⟩,Int.le_trans a.rr (l.rr _)⟩
 m8 hk:=(h.m8 hk).imp_right λ a=>l.bt _ _ _ a
 m9 hk:=by
  have a:=h.m9 hk;have:=l.h.len a.el;have:=a.len;exact ⟨l.h.el _ a.el,a.i0,by omega,by rw [l.h.take a.el (by omega)];exact a.lt,by rw [l.h.take a.el (by omega)];exact a.g,l.h.cm a.cm⟩
theorem Zd3.plain {m:Mg} (h1:m.es=[]) (h2:m.sn=sn0) (h3: -4611686018427387904<=m.ix) (h4:m.ix<=4611686018427387904):Zd3 m:=
 ⟨by rw [h1];exact Nat.zero_le _,(by rw [h1];intro e he;cases he),h3,h4,by rw [h2];intro x hx;cases hx⟩
theorem ofk {a b:Int} {P:Prop} (h:a=b) {c:Int} (hb:(b==c)=false):a=c->P:=λ e=>by
 rw [<-h,e,beq_self_eq_true] at hb;cases hb
theorem Zco.non {m:Mg} (ok:Zd3 m) (h:m.kd≠3/\m.kd≠5/\m.kd≠7/\m.kd≠9) (hy:m.yes=false) (hr:m.rnd=0):Zco g0 G m:=
 ⟨ok,λ e=>absurd e h.1,λ _ e=>(by rw [hy] at e;cases e),λ e=>absurd e h.2.1,λ _ e=>(by rw [hy] at e;cases e),λ e=>absurd e h.2.2.1,λ _=>.inl (by omega),λ e=>absurd e h.2.2.2⟩
theorem Zco.of1 {m:Mg} (ok:Zd3 m) (k:m.kd=1):Zco g0 G m:=
 ⟨ok,ofk k rfl,ofk k rfl,ofk k rfl,λ e=>e.elim (ofk k rfl) (ofk k rfl),ofk k rfl,ofk k rfl,ofk k rfl⟩
theorem Zco.of2 {m:Mg} (ok:Zd3 m) (k:m.kd=2):Zco g0 G m:=
 ⟨ok,ofk k rfl,ofk k rfl,ofk k rfl,λ e=>e.elim (ofk k rfl) (ofk k rfl),ofk k rfl,ofk k rfl,ofk k rfl⟩
theorem Zco.of3 {m:Mg} (ok:Zd3 m) (k:m.kd=3) (h:∃ B,G.cd m.tm m.fr B/\m.ix=B.length/\m.lt=ltm B):Zco g0 G m:=
 ⟨ok,λ _=>h,ofk k rfl,ofk k rfl,λ e=>e.elim (ofk k rfl) (ofk k rfl),ofk k rfl,ofk k rfl,ofk k rfl⟩
theorem Zco.of4 {m:Mg} (ok:Zd3 m) (k:m.kd=4) (h:m.yes=true->∃ L,G.vt m.tm m.fr m.to' L):Zco g0 G m:=
 ⟨ok,ofk k rfl,λ _=>h,ofk k rfl,λ e=>e.elim (ofk k rfl) (ofk k rfl),ofk k rfl,ofk k rfl,ofk k rfl⟩
theorem Zco.of5 {m:Mg} (ok:Zd3 m) (k:m.kd=5) (h:ZqH G m):Zco g0 G m:=
 ⟨ok,ofk k rfl,ofk k rfl,λ _=>h,λ e=>e.elim (ofk k rfl) (ofk k rfl),ofk k rfl,ofk k rfl,ofk k rfl⟩
theorem Zco.of6 {m:Mg} (ok:Zd3 m) (k:m.kd=6\/m.kd=10) (h:m.yes=true->∃ k:Nat,m.ix<=k/\G.ak m.tm m.fr k):Zco g0 G m:=
 have H:∀ {P:Prop} {c:Int},((6:Int)==c)=false->((10:Int)==c)=false->m.kd=c->P:=λ h6 h10=>k.elim (λ k=>ofk k h6) (λ k=>ofk k h10)
 ⟨ok,H rfl rfl,H rfl rfl,H rfl rfl,λ _=>h,H rfl rfl,H rfl rfl,H rfl rfl⟩
theorem Zco.of7 {m:Mg} (ok:Zd3 m) (k:m.kd=7) (h:Zqw G m):Zco g0 G m:=
 ⟨ok,ofk k rfl,ofk k rfl,ofk k rfl,λ e=>e.elim (ofk k rfl) (ofk k rfl),λ _=>h,ofk k rfl,ofk k rfl⟩
theorem Zco.of8 {m:Mg} (ok:Zd3 m) (k:m.kd=8) (h:m.rnd<=0\/G.bt m.tm m.fr m.rnd):Zco g0 G m:=
 ⟨ok,ofk k rfl,ofk k rfl,ofk k rfl,λ e=>e.elim (ofk k rfl) (ofk k rfl),ofk k rfl,λ _=>h,ofk k rfl⟩
theorem Zco.of9 {m:Mg} (ok:Zd3 m) (k:m.kd=9) (h:ZrE g0 G m):Zco g0 G m:=
 ⟨ok,ofk k rfl,ofk k rfl,ofk k rfl,λ e=>e.elim (ofk k rfl) (ofk k rfl),ofk k rfl,ofk k rfl,λ _=>h⟩
structure Gs (y:Int) (G G':Gh):Prop where
 le:Gh.Le y G G'
 nb:∀ t r,G'.bt t y r->G.bt t y r\/∀ u c L,G.vt u y c L->u<=t
 ro:∀ t,G.h.el t->G.ld t≠y->G'.rr t=G.rr t
theorem Gs.refl (y:Int) (G:Gh):Gs y G G:=⟨.refl y G,λ _ _ h=>.inl h,λ _ _ _=>rfl⟩
theorem Gs.trans (a:Gs y G G') (b:Gs y G' G''):Gs y G G'':=⟨a.le.trans b.le,λ t r h=>by
 rcases b.nb t r h with h|h
 ·exact a.nb t r h
 ·exact .inr λ u c L hv=>h u c L (a.le.vt _ _ _ _ hv),λ t ht hl=>(b.ro t (a.le.h.el _ ht) (by rw [a.le.ld _ ht];exact hl)).trans (a.ro t ht hl)⟩
theorem Gs.of (a:Gh.Le y G G') (e:G'.bt=G.bt) (er:G'.rr=G.rr):Gs y G G':=⟨a,λ t r h=>.inl (by rw [e] at h;exact h),λ t _ _=>by rw [er]⟩
structure Zal (g0:Gp) (N:Nat) (G:Gh):Prop where
 I:Zaw g0 G
 rz:∀ t,G.h.el t\/G.rr t=0
 cz:∀ t c B,G.cd t c B->1<=c
 gb:∀ t,G.h.el t->(G.h.ll t).length<=N
 oe:∀ t,G.h.el t->OkE (G.h.ll t) 0 0
 eb:∀ t,G.h.el t->∀ e∈G.h.ll t,Zx e.dt
theorem Zal.more {N N':Nat} (X:Zal g0 N G) (h:N<=N'):Zal g0 N' G:=⟨X.I,X.rz,X.cz,λ t ht=>Nat.le_trans (X.gb t ht) h,X.oe,X.eb⟩
theorem Zal.len {N:Nat} (X:Zal g0 N G) {F:List Ey} (hF:G.h.Good F):F.length<=N:=by
 rcases Nat.eq_zero_or_pos F.length with h|h
 ·omega
 ·obtain ⟨e,he⟩:∃ e,F[F.length - 1]? =some e:=⟨_,List.getElem?_eq_getElem (by omega)⟩
  obtain ⟨h1,h2⟩:=hF _ _ he;rw [show F.length - 1 + 1=F.length by omega] at h2;have:=Zfn h2 (Nat.le_refl _);have:=X.gb _ h1;omega
theorem Zal.by' {N:Nat} (X:Zal g0 N G) {F:List Ey} (hF:G.h.Good F):∀ e∈F,Zx e.dt:=λ e he=>by
 obtain ⟨k,hk,rfl⟩:=List.getElem_of_mem he;have hk':=List.getElem?_eq_getElem hk;obtain ⟨h1,h2⟩:=hF _ _ hk';have h3:(G.h.ll F[k].tm)[k]? =some F[k]:=by rw [<-hk'];exact (Zae h2 (Nat.lt_succ_self k)).symm
 exact X.eb _ h1 _ (List.mem_of_getElem? h3)
def ZoQ (g0:Gp) (G:Gh) (t r:Int):Prop:=∃ v q,G.h.el v/\t<v/\(∀ (k:Nat) (e:Ey),(G.h.lb v)[k]? =some e->e.tm<=t)/\ZaE (grp g0 (G.h.lb v)).vs (grp g0 (G.h.lb v)).ls q=true/\
 ∀ p,ZS q p=true->(∃ L,G.vt v p (G.ld v) L)/\∀ r',G.bt t p r'->r'<r
theorem ZoQ.le (I:Zaw g0 G) {t r:Int} (h:ZoQ g0 G t r) (l:Gs y G G'):ZoQ g0 G' t r:=by
 obtain ⟨v,q,h1,h2,h3,h4,h5⟩:=h;have e:=l.le.h.lb I.ok h1;refine ⟨v,q,l.le.h.el _ h1,h2,by rw [e];exact h3,by rw [e];exact h4,λ p hp=>?_⟩;obtain ⟨⟨L,h6⟩,h7⟩:=h5 p hp;refine ⟨⟨L,by rw [l.le.ld _ h1];exact l.le.vt _ _ _ _ h6⟩,λ r' hb=>?_⟩;by_cases hpy:p=y
 ·subst hpy
  rcases l.nb t r' hb with h8|h8
  ·exact h7 r' h8
  ·have:=h8 _ _ _ h6;omega
 ·exact h7 r' (l.le.bt' _ _ _ hpy hb)
end
section
open Go Go.VC Tryz
open Go.Rf
variable {G G':Gh} {y:Int} {E E':Nat} {n:Rn} {F:List Ey}
structure Ct where
  g0:Gp
  aq:List (Int × Int)
  tok:Int
  d:Dk
variable {C:Ct}
def RdO (aq:List (Int × Int)) (x:Int × Int):Prop:=∀ a∈aq,a.1=x.1->a.2<=x.2
structure RdW (C:Ct) (G:Gh) (t i:Int) (x:Rq):Prop where
  r1:1<=x.rnd
  tk:x.tok<=C.tok
  bn:G.h.el t/\G.h.bn t<(G.h.ll t).length
  bh:∀ y∈x.bh,y=i\/∃ r,x.rnd<=r/\G.bt t y r
  ok:RdO C.aq (x.tok,x.ix)\/ZoQ C.g0 G t x.rnd
theorem RdW.le {t i:Int} {x:Rq} (I:Zaw C.g0 G) (h:RdW C G t i x) (l:Gs y G G'):RdW C G' t i x where
  r1:=h.r1
  tk:=h.tk
  bn:=by
    obtain ⟨h1,h2⟩:=h.bn;have:=l.le.h.len h1;exact ⟨l.le.h.el _ h1,by rw [l.le.h.bn _ h1];omega⟩
  bh z hz:=(h.bh z hz).imp_right λ⟨r,a,b⟩=>⟨r,a,l.le.bt _ _ _ b⟩
  ok:=h.ok.imp_right λ a=>a.le I l
structure RBd (E:Nat) (n:Rn):Prop where
  rs:n.rs.length<=64
  bh:∀ x∈n.rs,x.bh.length<=E + 1
  rr:n.rrd.length<=64 * E
  rn:n.rnd<=E
  wt:n.e.wait<=E
def ZoR (D:List Ey) (n:Rn):Prop:=(n.rfr=0/\D=n.log.l)\/(n.log.b.ix<n.rfr/\n.rfr<=n.log.last + 1/\D.take (n.rfr - 1 - n.log.b.ix).toNat=n.log.l.take (n.rfr - 1 - n.log.b.ix).toNat)
structure DRel (d:Dk) (n:Rn):Prop where
  hd:d.hd=n.told
  sn:n.rsn=false->d.sn=n.sn
  l:ZoR (if n.rsn then [] else d.log) n
structure NI (C:Ct) (E:Nat) (G:Gh) (n:Rn) (F:List Ey):Prop where
  id:n.e.id=n.id
  i1:1<=n.id
  t0:0<=n.e.hd.tm
  fl:ZaW n.log F
  g:n.g=grp C.g0 F
  eg:n.e.g=grp C.g0 F
  sx:n.sn.ix=n.log.b.ix
  st:n.sn.tm=n.log.b.tm
  sg:n.sn.g=grp C.g0 (F.take n.sn.ix.toNat)
  sb:Zx n.sn.dt
  A:Zaz G n.id n.e.hd.tm n.e.hd.vt n.e.role F n.log.com.toNat
  vi:n.e.role=2\/n.e.role=3->n.e.hd.vt=n.id
  ys:n.e.role=2->∀ y∈n.e.yes,∃ L,G.vt n.e.hd.tm y n.id L
  hr:n.ps.isSome=true->n.e.role=3
  ps:∀ p x,n.peer p=some x->x.mt<=0\/∃ k:Nat,x.mt<=k/\G.ak n.e.hd.tm p k
  ms:∀ m∈n.rms,Zco C.g0 G m
  rr:n.e.role=3->G.rr n.e.hd.tm=n.rnd
  r0:0<=n.rnd
  rs:∀ x∈n.rs,RdW C G n.e.hd.tm n.id x
  rl:n.rs≠[]->n.e.role=3
  rd:∀ x∈n.rrd,RdO C.aq x
  bd:RBd E n
  dk:DRel C.d n
theorem NI.le (h:NI C E G n F) (I:Zaw C.g0 G) (l:Gs y G G') (A:Zaz G' n.id n.e.hd.tm n.e.hd.vt n.e.role F n.log.com.toNat) (hrr:n.e.role=3->G'.rr n.e.hd.tm=G.rr n.e.hd.tm):NI C E G' n F:={ h with
  A:=A
  ys:=λ hr z hz=>(h.ys hr z hz).imp λ _ a=>l.le.vt _ _ _ _ a
  ps:=λ p x hx=>(h.ps p x hx).imp_right λ⟨k,a,b⟩=>⟨k,a,l.le.ak _ _ _ b⟩
  ms:=λ m hm=>(h.ms m hm).le l.le
  rr:=λ hr=>(hrr hr).trans (h.rr hr)
  rs:=λ x hx=>(h.rs x hx).le I l }
theorem NI.com (h:NI C E G n F) (I:Zaw C.g0 G) (l:Gs y G G') {c:Int} (fl:ZaW { n.log with com:=c } F) (A:Zaz G' n.id n.e.hd.tm n.e.hd.vt n.e.role F c.toNat) (hrr:n.e.role=3->G'.rr n.e.hd.tm=G.rr n.e.hd.tm):NI C E G' { n with log:={ n.log with com:=c } } F:={ h with
  fl:=fl
  A:=A
  ys:=λ hr z hz=>(h.ys hr z hz).imp λ _ a=>l.le.vt _ _ _ _ a
  ps:=λ p x hx=>(h.ps p x hx).imp_right λ⟨k,a,b⟩=>⟨k,a,l.le.ak _ _ _ b⟩
  ms:=λ m hm=>(h.ms m hm).le l.le
  rr:=λ hr=>(hrr hr).trans (h.rr hr)
  rs:=λ x hx=>(h.rs x hx).le I l
  bd:=⟨h.bd.rs,h.bd.bh,h.bd.rr,h.bd.rn,h.bd.wt⟩
  dk:=⟨h.dk.hd,h.dk.sn,h.dk.l⟩ }
def ZaV (C:Ct) (E:Nat) (G:Gh) (n:Rn):Prop:=∃ G' F',Gs n.id G G'/\Zal C.g0 E G'/\NI C E G' n F'
theorem ZaV.bind {n':Rn} (h:ZaV C E G n) (k:∀ G1 F1,Zal C.g0 E G1->NI C E G1 n F1->ZaV C E' G1 n') (hid:n'.id=n.id):ZaV C E' G n':=by
  obtain ⟨G1,F1,a,b,c⟩:=h;obtain ⟨G2,F2,a',b',c'⟩:=k G1 F1 b c;exact ⟨G2,F2,(show Gs n'.id G G1 by rw [hid];exact a).trans a',b',c'⟩
theorem NI.goes (h:NI C E G n F) (X:Zal C.g0 E G):ZaV C E G n:=⟨G,F,.refl _ _,X,h⟩
theorem RBd.more (h:RBd E n) (hE:E<=E'):RBd E' n:=
  ⟨h.rs,λ x hx=>by have:=h.bh x hx;omega,by have:=h.rr;omega,by have:=h.rn;omega,by have:=h.wt;omega⟩
theorem NI.more (h:NI C E G n F) (hE:E<=E'):NI C E' G n F:={ h with bd:=h.bd.more hE }
theorem ZaV.more (h:ZaV C E G n) (hE:E<=E'):ZaV C E' G n:=by
  obtain ⟨G1,F1,a,b,c⟩:=h;exact ⟨G1,F1,a,b.more hE,c.more hE⟩
theorem NI.put (h:NI C E G n F) {m:Mg} (hm:Zco C.g0 G { m with fr:=n.id,tm:=n.e.hd.tm }):NI C E G (n.put m) F:={ h with
  ms:=λ m' hm'=>by
    rcases List.mem_append.1 hm' with hm'|hm'
    · exact h.ms m' hm'
    · rw [List.mem_singleton] at hm';subst hm';exact hm
  bd:=⟨h.bd.rs,h.bd.bh,h.bd.rr,h.bd.rn,h.bd.wt⟩
  dk:=⟨h.dk.hd,h.dk.sn,h.dk.l⟩ }
theorem ZeH {β:Type} {k k':Int} {v x:β}:∀ {l:List (Int × β)},ZB k' (Zbq k v l)=some x->(k'=k/\x=v)\/ZB k' l=some x
  |[],h=>.inr h
  |e::l,h=>by
    have h:ZB k' (if k==e.1 then (e.1,v)::l else e::Zbq k v l)=some x:=h
    show _\/(if k'==e.1 then some e.2 else ZB k' l)=some x
    by_cases h1:(k==e.1)=true
    · rw [if_pos h1] at h
      have h:(if k'==e.1 then some v else ZB k' l)=some x:=h
      by_cases h2:(k'==e.1)=true
      · rw [if_pos h2] at h
        cases h;exact .inl ⟨by rw [beq_iff_eq] at h1 h2;omega,rfl⟩
      · rw [if_neg h2] at h ⊢;exact .inr h
    · rw [if_neg h1] at h
      have h:(if k'==e.1 then some e.2 else ZB k' (Zbq k v l))=some x:=h
      by_cases h2:(k'==e.1)=true
      · rw [if_pos h2] at h ⊢;exact .inr h
      · rw [if_neg h2] at h ⊢;exact ZeH h
theorem Zhu {β:Type} {k:Int} {x:β}:∀ {a b:List (Int × β)},ZB k (a++b)=some x->ZB k a=some x\/ZB k b=some x
  |[],_,h=>.inr h
  |e::a,b,h=>by
    have h:(if k==e.1 then some e.2 else ZB k (a++b))=some x:=h
    show (if k==e.1 then some e.2 else ZB k a)=some x\/_
    split
    · rename_i h1;rw [if_pos h1] at h;exact .inl h
    · rename_i h1;rw [if_neg h1] at h;exact Zhu h
theorem Zlq {β:Type} {k k':Int} {v x:β} {l:List (Int × β)} (h:ZB k' (ZcG k v l)=some x):(k'=k/\x=v)\/ZB k' l=some x:=by
  unfold ZcG at h;split at h
  · exact ZeH h
  · rcases Zhu h with h|h
    · exact .inr h
    · have h:(if k'==k then some v else none)=some x:=h
      split at h
      · rename_i h1;cases h;exact .inl ⟨beq_iff_eq.1 h1,rfl⟩
      · cases h
theorem NI.setP (h:NI C E G n F) {p:Int} {x:Pe} (hx:x.mt<=0\/∃ k:Nat,x.mt<=k/\G.ak n.e.hd.tm p k):NI C E G (n.setP p x) F:={ h with
  hr:=λ hs=>h.hr (by
    have hs:(n.ps.map (Zbq p x)).isSome=true:=hs;rwa [Option.isSome_map] at hs)
  ps:=λ q z hz=>by
    have hz:ZB q ((n.ps.map (Zbq p x)).getD [])=some z:=hz;cases hp:n.ps with
    |none=>rw [hp] at hz;cases hz
    |some l=>
      rw [hp] at hz;rcases ZeH (l:=l) hz with ⟨rfl,rfl⟩|hz
      · exact hx
      · exact h.ps q z (by unfold Rn.peer;rw [hp];exact hz)
  bd:=⟨h.bd.rs,h.bd.bh,h.bd.rr,h.bd.rn,h.bd.wt⟩
  dk:=⟨h.dk.hd,h.dk.sn,h.dk.l⟩ }
end
section
open Go Go.VC Tryz
open Go.Rf
variable {G G':Gh} {y:Int} {E E':Nat} {n:Rn} {F:List Ey} {C:Ct} {g:Lg}
theorem ZaW.term (h:ZaW g F) {i:Int} (hi:(g.term i).2=true):g.b.ix<=i/\i<=F.length/\(g.term i).1=ltm (F.take i.toNat):=by
  unfold Lg.term at *;by_cases h1:g.has i=true
  · rw [if_pos h1] at *
    obtain ⟨h2,h3⟩:=h.has.1 h1;exact ⟨h2,h3,h.at h1⟩
  · rw [if_neg h1] at hi;cases hi
theorem ZaW.term_last (h:ZaW g F):(g.term g.last).1=ltm F:=by
  have h1:(g.term g.last).2=true:=by unfold Lg.term;rw [if_pos h.has_last]
  rw [(h.term h1).2.2,h.last,Int.toNat_natCast,List.take_length]
theorem ZaW.low (h:ZaW g F) {x:Ey} (hx:x∈g.l):g.b.ix<x.ix:=by
  obtain ⟨k,hk,rfl⟩:=List.getElem_of_mem hx;have:=h.ok.es.ix k hk;omega
theorem ZiG {i:Int}:∀ {l:List Ey} {g:Gp},(∀ x∈l,x.ix>i)->l.foldl (Zb3 i) g=grp g l
  |[],_,_=>rfl
  |x::l,g,h=>by
    have e:Zb3 i g x=ZV g x:=by unfold Zb3;rw [if_pos (h x List.mem_cons_self)]
    show l.foldl (Zb3 i) (Zb3 i g x)=grp (ZV g x) l;rw [e];exact ZiG λ y hy=>h y (List.mem_cons_of_mem _ hy)
theorem Zi6 {g0:Gp} (fl:ZaW n.log F) (sx:n.sn.ix=n.log.b.ix) (sg:n.sn.g=grp g0 (F.take n.sn.ix.toNat)) (m:Int):n.foldG m=grp g0 (F.take (n.sn.ix.toNat + m.toNat)):=by
  unfold Rn.foldG;rw [fl.get m (Int.le_refl _),<-sx,List.take_add,ZgB,<-sg];refine ZiG λ x hx=>?_;have hx:=List.mem_of_mem_take hx;rw [sx,fl.l] at hx;rw [sx];exact fl.low hx
theorem Zhx {g0:Gp} (fl:ZaW n.log F) (sx:n.sn.ix=n.log.b.ix) (sg:n.sn.g=grp g0 (F.take n.sn.ix.toNat)):n.foldG n.log.l.length=grp g0 F:=by
  have hl:=fl.b;rw [Zi6 fl sx sg,Int.toNat_natCast,<-fl.l,List.length_drop,sx,List.take_of_length_le (by omega)]
theorem Zhh (n:Rn) (P:Int->Pe->Prop) (hP:∀ p,P p (n.peerN p)):∀ (D:List Int) (acc:List (Int × Pe)),(∀ p x,ZB p acc=some x->P p x)->∀ p x,ZB p (D.foldl n.addP acc)=some x->P p x
  |[],_,h,p,x,hx=>h p x hx
  |q::D,acc,h,p,x,hx=>Zhh n P hP D (n.addP acc q) (λ p x hx=>by
      unfold Rn.addP at hx;split at hx
      · exact h p x hx
      · rcases Zlq hx with ⟨rfl,rfl⟩|hx
        · exact hP _
        · exact h p x hx) p x hx
theorem NI.regroup (h:NI C E G { n with g:=grp C.g0 F,e:={ n.e with g:=grp C.g0 F },ps:=none } F) (gr:gOk C.g0) (hps:∀ p x,n.peer p=some x->x.mt<=0\/∃ k:Nat,x.mt<=k/\G.ak n.e.hd.tm p k):NI C E G n.regroup F:=by
  have hf:n.foldG n.log.l.length=grp C.g0 F:=Zhx (g0:=C.g0) h.fl h.sx h.sg;have hj:n.e.join (grp C.g0 F)={ n.e with g:=grp C.g0 F }:=by unfold Eln.join;rw [if_pos (show Zo (grp C.g0 F).vs (grp C.g0 F).ls=true from ZfE gr F)]
  have e1:n.regroup={ n with g:=grp C.g0 F,e:={ n.e with g:=grp C.g0 F },ps:=if n.e.role==3 then some (n.newPs (grp C.g0 F)) else none }:=by
    unfold Rn.regroup;dsimp only;rw [hf,hj]
  rw [e1];exact { h with
    hr:=λ hs=>by
      dsimp only at hs;split at hs
      · rename_i h1;exact beq_iff_eq.1 h1
      · cases hs
    ps:=λ p x hx=>by
      unfold Rn.peer at hx;dsimp only at hx;split at hx
      · refine Zhh n (λ p x=>x.mt<=0\/∃ k:Nat,x.mt<=k/\G.ak n.e.hd.tm p k) (λ p=>?_) _ [] (λ _ _ h=>by cases h) p x hx
        unfold Rn.peerN;cases hp:n.peer p with
        |none=>exact .inl (Int.le_refl _)
        |some y=>exact hps p y hp
      · cases hx
    bd:=⟨h.bd.rs,h.bd.bh,h.bd.rr,h.bd.rn,h.bd.wt⟩
    dk:=⟨h.dk.hd,h.dk.sn,h.dk.l⟩ }
theorem NI.c0 (h:NI C E G n F):0<=n.log.b.ix/\n.log.b.ix<=n.log.com/\n.log.com<=F.length:=by
  have:=h.fl.ok.b0;have:=h.fl.ok.c0;have:=h.fl.ok.c1;rw [h.fl.last] at this;omega
theorem NI.cm (h:NI C E G n F):G.h.Cm n.e.hd.tm n.log.com:=by
  have:=h.c0;rcases h.A.cm.2 with h1|⟨t,k,b,h1,h2,h3,_⟩
  · exact .inl (by omega)
  · exact .inr ⟨t,k,b,h1,h2,by omega⟩
theorem NI.l3 (h:NI C E G n F) (hr:n.e.role=3):G.h.el n.e.hd.tm/\G.ld n.e.hd.tm=n.id/\G.h.ll n.e.hd.tm=F:=by
  obtain ⟨a,b,c,_⟩:=h.A.l3 hr;exact ⟨a,b,c⟩
theorem NI.beat (h:NI C E G n F) (hr:n.e.role=3) (p:Int):NI C E G (n.beat p) F:=by
  refine h.put (.of7 (.plain rfl rfl (by dsimp only;omega) (by dsimp only;omega)) rfl ⟨(h.l3 hr).1,h.cm.le (Int.min_le_right _ _),?_,by rw [h.rr hr];exact Int.le_refl _⟩);dsimp only;cases hp:n.peer p with
  |none=>exact .inl (by show min 0 _<=(0:Int);omega)
  |some x=>
    rcases h.ps p x hp with h1|⟨k,h1,h2⟩
    · exact .inl (by show min x.mt _<=(0:Int);omega)
    · exact .inr ⟨k,by show min x.mt _<=(k:Int);omega,h2⟩
theorem NI.beatsF:∀ (l:List Int) {n:Rn},NI C E G n F->n.e.role=3->NI C E G (l.foldl Rn.beat n) F
  |[],_,h,_=>h
  |p::l,n,h,hr=>NI.beatsF l (n:=n.beat p) (h.beat hr p) hr
theorem NI.beats (h:NI C E G n F) (hr:n.e.role=3):NI C E G n.beats F:=NI.beatsF _ h hr
theorem Znh (x:Pe) (i:Int):(x.sent i).mt=x.mt:=by
  unfold Pe.sent;split
  · rfl
  · split
    · rfl
    · split<;>rfl
theorem ZjR (x:Pe) (i:Int):(x.install i).mt=x.mt:=by unfold Pe.install;split<;>rfl
theorem ZlQ (x:Pe):x.beat.mt=x.mt:=by
  unfold Pe.beat;split
  · rfl
  · split<;>rfl
theorem ZkY (x:Pe) (b:Bool):(x.over b).mt=x.mt:=by unfold Pe.over;split<;>rfl
theorem Zjx (x:Pe) (i j:Int):(x.refused i j).2.mt=x.mt:=by
  unfold Pe.refused;dsimp only;split
  · rfl
  · split<;>rfl
theorem ZmK (x:Pe) (i:Int):(x.acked i).2.mt=x.mt\/(x.acked i).2.mt=max x.mt i:=by
  unfold Pe.acked;dsimp only;split
  · exact .inl rfl
  · refine .inr ?_
    dsimp only;split
    · rfl
    · split
      · rfl
      · split<;>rfl
theorem Zf2 {α:Type} (X:List α) (k:Nat):X.take (X.take k).length=X.take k:=by
  rw [List.length_take];rcases Nat.le_total k X.length with h|h
  · rw [Nat.min_eq_left h]
  · rw [Nat.min_eq_right h,List.take_length,List.take_of_length_le h]
theorem NI.sendF (X:Zal C.g0 E G) (hE:E<=1000000) (p:Int):∀ (k:Nat) {n:Rn},NI C E G n F->NI C E G (Rn.sendF p k n) F
  |0,_,h=>h
  |k + 1,n,h=>by
    unfold Rn.sendF;cases hp:n.peer p with
    |none=>exact h
    |some x=>
      have hr:n.e.role=3:=h.hr (by
        cases hq:n.ps with
        |none=>unfold Rn.peer at hp;rw [hq] at hp;cases hp
        |some l=>rfl)
      obtain ⟨hel,hld,hll⟩:=h.l3 hr;have hc:=h.c0;have hFl:=X.len h.A.good;have hx:=h.ps p x hp;dsimp only;split
      · split
        · rename_i h1 h2
          refine NI.setP (h.put (.of9 ?_ rfl ⟨hel,?_,?_,?_,?_,?_⟩)) ?_
          · exact ⟨Nat.zero_le _,(by intro e he;cases he),by dsimp only;rw [h.sx];omega,by dsimp only;rw [h.sx];omega,h.sb⟩
          · dsimp only;rw [h.sx];omega
          · dsimp only;rw [hll,h.sx];omega
          · dsimp only;rw [hll,h.st,h.sx];exact h.fl.bt.symm
          · dsimp only;rw [hll];exact h.sg
          · dsimp only;rw [h.sx];exact h.cm.le hc.2.1
          · rw [ZjR];exact hx
        · rename_i h1 h2
          obtain ⟨t1,t2,t3⟩:=h.fl.term (by simpa using h2);have hget:=h.fl.get 8 t1;rw [hget];split
          · exact h
          · have h1:NI C E G ((n.put { kd:=5,to':=p,ix:=x.nx - 1,lt:=(n.log.term (x.nx - 1)).1,com:=n.log.com,es:=(F.drop (x.nx - 1).toNat).take (8:Int).toNat }).setP p (x.sent (x.nx - 1 + ((F.drop (x.nx - 1).toNat).take (8:Int).toNat).length))) F:=by
              refine NI.setP (h.put (.of5 ?_ rfl ⟨hel,?_,?_,?_,?_,?_⟩)) ?_
              · exact ⟨by show (List.take _ _).length<=_;rw [List.length_take];omega,λ e he=>X.by' h.A.good e (List.mem_of_mem_drop (List.mem_of_mem_take he)),by dsimp only;omega,by dsimp only;omega,by intro z hz;cases hz⟩
              · dsimp only;omega
              · dsimp only;rw [hll,List.length_take,List.length_drop];omega
              · dsimp only;rw [hll];exact Zf2 _ _
              · dsimp only;rw [hll];exact t3.symm
              · exact h.cm
              · rw [Znh];exact hx
            split
            · exact NI.sendF X hE p k h1
            · exact h1
      · exact h
theorem NI.send (h:NI C E G n F) (X:Zal C.g0 E G) (hE:E<=1000000) (p:Int):NI C E G (n.send p) F:=NI.sendF X hE p 66 h
theorem NI.allF (X:Zal C.g0 E G) (hE:E<=1000000):∀ (l:List Int) {n:Rn},NI C E G n F->NI C E G (l.foldl Rn.send n) F
  |[],_,h=>h
  |p::l,n,h=>NI.allF X hE l (n:=n.send p) (h.send X hE p)
theorem NI.all (h:NI C E G n F) (X:Zal C.g0 E G) (hE:E<=1000000):NI C E G n.all F:=NI.allF X hE _ h
end
section
open Go Go.VC Tryz
open Go.Rf
variable {G G':Gh} {y:Int} {E E':Nat} {n:Rn} {F:List Ey} {C:Ct} {g:Lg}
theorem Zmm {v l A:List Int} (h:Zo v l=true):ZaE v l (v.filter λ y=>decide (ZeA v l A<=pick A y))=true:=by
 have h1:=(Zk4 (A:=A) h).many;have h2:Zt (λ n=>decide (n >= ZeA v l A)) (v.map (pick A))<=Zt (ZS (v.filter λ y=>decide (ZeA v l A<=pick A y))) v:=by
  unfold Zt;rw [List.filter_map,List.length_map];exact Zc4 (p:=(λ n=>decide (n >= ZeA v l A)) ∘ pick A) λ x hx h3=>ZU.2 (List.mem_filter.2 ⟨hx,h3⟩)
 rw [List.length_map] at h1;unfold ZaE Zgs;rw [if_pos h,h,Bool.true_and,decide_eq_true_eq];omega
theorem ZaV.of {G1:Gh} {F1:List Ey} (a:Gs n.id G G1) (b:Zal C.g0 E G1) (c:NI C E G1 n F1):ZaV C E G n:=⟨G1,F1,a,b,c⟩
theorem Zjd (n:Rn):n.beats.id=n.id:=by
 unfold Rn.beats;rw [ZbY]
theorem NI.advance (h:NI C E G n F) (X:Zal C.g0 E G) (hr:n.e.role=3):ZaV C E G n.advance:=by
 unfold Rn.advance;dsimp only;split
 ·exact h.goes X
 ·rename_i hc
  simp only [Bool.or_eq_true,Bool.not_eq_true',decide_eq_true_eq,not_or,Bool.not_eq_false,bne_iff_ne,ne_eq,Classical.not_not] at hc;obtain ⟨⟨h1,h2⟩,h3⟩:=hc;generalize hi:ZeA n.g.vs n.g.ls n.ats=i at h1 h2 h3;obtain ⟨t1,t2,t3⟩:=h.fl.term h1;obtain ⟨hel,hld,hll⟩:=h.l3 hr;have hc:=h.c0;have A:=h.A;rw [hr] at A;have I1:=X.I.ack' A hel (Nat.le_refl F.length) (by rw [hll]);have A1:=A.ack hel (Nat.le_refl F.length) (by rw [hll]);have hgr:Zo n.g.vs n.g.ls=true:=by rw [h.g];exact ZfE X.I.gr F
  have hbn:G.h.bn n.e.hd.tm<i.toNat:=by
   rcases Nat.lt_or_ge (G.h.bn n.e.hd.tm) i.toNat with h4|h4
   ·exact h4
   ·exfalso
    have hk:i.toNat - 1<F.length:=by omega
    have he:=List.getElem?_eq_getElem hk;have h5:=Zbu he;rw [show i.toNat - 1 + 1=i.toNat by omega] at h5;have h6:=X.I.ok.old n.e.hd.tm (i.toNat - 1) F[i.toNat - 1] hel (by rw [hll];exact he) (by omega);omega
  have hlt:n.log.com.toNat<i.toNat:=by omega
  have I2:=I1.commit (t:=n.e.hd.tm) (i:=i.toNat) hel hbn (by show i.toNat<=(G.h.ll n.e.hd.tm).length;rw [hll];omega)
   (λ i' b' hrc=>by have:=(A.l3 rfl).2.2.2.1 i' b' hrc;omega)
   (q:=n.g.vs.filter λ y=>decide (ZeA n.g.vs n.g.ls n.ats<=pick n.ats y))
   (by
    show ZaE (grp C.g0 (G.h.ll n.e.hd.tm)).vs (grp C.g0 (G.h.ll n.e.hd.tm)).ls _=true;rw [hll,<-h.g];exact Zmm hgr)
   (λ y hy=>by
    obtain ⟨hy1,hy2⟩:=List.mem_filter.1 (ZU.1 hy);rw [hi,decide_eq_true_eq] at hy2;obtain ⟨r1,r2⟩:=ZaK (Zp hgr) y hy1;have hk:y.toNat<n.ats.length:=by rw [Ze0];omega
    have e:pick n.ats y=n.ats[y.toNat]:=by unfold pick;rw [List.getD_eq_getElem?_getD,List.getElem?_eq_getElem hk];rfl
    rw [e,Ze1 hk,show ((y.toNat:Nat):Int)=y by omega] at hy2;cases hp:n.peer y with
    |some x=>
     rw [hp] at hy2;dsimp only at hy2;rcases h.ps y x hp with h4|⟨k,h4,h5⟩
     ·omega
     ·exact ⟨k,by omega,.inl h5⟩
    |none=>
     rw [hp] at hy2;dsimp only at hy2;split at hy2
     ·rename_i h4
      have h4:=beq_iff_eq.1 h4;exact ⟨F.length,by omega,.inr ⟨rfl,h4,rfl⟩⟩
     ·omega)
  have A2:=A1.commit hlt (by omega);have Gs2:Gs n.id G ((G.ack n.e.hd.tm n.id F.length).commit n.e.hd.tm i.toNat):=(Gs.of Gh.ack_le rfl rfl).trans (Gs.of (Gh.commit_le hld) rfl rfl);have e:(n.log.commit i).2={ n.log with com:=i }:=by
   unfold Lg.commit;rw [if_neg (by rw [h.fl.last];omega)]
  have fl:=h.fl.commit i;rw [e] at fl;have hN:=h.com X.I Gs2 fl (by rw [hr];exact A2) λ _=>rfl;rw [e];exact .of (by rw [Zjd];exact Gs2) ⟨I2,X.rz,X.cz,X.gb,X.oe,X.eb⟩ (NI.beats hN hr)
end
section
open Go Go.VC Tryz
open Go.Rf
variable {G G':Gh} {y:Int} {E E':Nat} {n m:Rn} {F:List Ey} {C:Ct} {g:Lg}
theorem ZoR.fresh {D:List Ey} (h:ZoR D n) {a:Int} (hb0:0<=n.log.b.ix) (hb:m.log.b=n.log.b) (h1:n.log.b.ix<a) (h2:a<=n.log.last + 1) (h3:a<=m.log.last + 1)
    (low:m.log.l.take (a - 1 - n.log.b.ix).toNat=n.log.l.take (a - 1 - n.log.b.ix).toNat) (hm:m.rfr=if n.rfr==0||decide (a<n.rfr) then a else n.rfr):ZoR D m:=by
  refine .inr ?_;rw [hb,hm];rcases h with ⟨h4,h5⟩|⟨h4,h5,h6⟩
  · rw [h4]
    exact ⟨h1,h3,by rw [h5];exact low.symm⟩
  · by_cases h7:n.rfr=0
    · omega
    · have e:(n.rfr==0)=false:=by rw [beq_eq_false_iff_ne];exact h7
      rw [e,Bool.false_or];by_cases h8:a<n.rfr
      · rw [decide_eq_true h8]
        exact ⟨h1,h3,by rw [ZQ h6 (by omega)];exact low.symm⟩
      · rw [decide_eq_false h8]
        exact ⟨h4,by show n.rfr<=_;omega,by show List.take (n.rfr - 1 - _).toNat _=_;rw [h6];exact (ZQ low (by omega)).symm⟩
theorem ZoL {l:List Ey} (h:(g.add l).1=0):(g.add l).2={ g with l:=g.l++l }:=by
  unfold Lg.add at *;split at h
  · exact absurd h (by show ¬ (1:Int)=0;decide)
  · split at h
    · rename_i h1 h2
      rw [if_neg h1,if_pos h2]
    · exact absurd h (by show ¬ (7:Int)=0;decide)
theorem NI.enter (h:NI C E G n F) (X:Zal C.g0 E G) (hr:n.e.role=3) {kd:Int} {dt:List Int} (hb:Zx dt)
    (hch:kd=2->∃ i b,G.h.rc n.e.hd.tm i b/\∀ (j:Nat) (d:Ey),i<=j->F[j]? =some d->Zfe d=false):
    ZaV C (E + 1) G (n.enter kd dt).2/\(n.enter kd dt).2.e.role=3/\(n.enter kd dt).2.id=n.id:=by
  unfold Rn.enter;dsimp only;generalize he:(⟨n.log.last + 1,n.e.hd.tm,kd,dt⟩:Ey)=e;split
  · exact ⟨(h.goes X).more (Nat.le_succ E),hr,rfl⟩
  · rename_i h1
    have h1:(n.log.add [e]).1=0:=by simpa using h1
    have hl:=ZoL h1;have fl:=h.fl.add h1;obtain ⟨hel,hld,hll⟩:=h.l3 hr;have hc0:=h.c0;have A:=h.A;rw [hr] at A;have het:e.tm=n.e.hd.tm:=by rw [<-he]
    have I1:=X.I.enter (e:=e) hel het λ hc=>by
      obtain ⟨i,b,h2,h3⟩:=hch (by
        have hc:(e.kd==2)=true:=hc;rw [<-he] at hc;exact beq_iff_eq.1 hc)
      exact ⟨i,b,h2,λ j d hj hd=>h3 j d hj (by rw [<-hll];exact hd)⟩
    have A1:=A.enter X.I het;have l1:Gs n.id G (G.enter n.e.hd.tm e):=.of (Gh.enter_le' hld) rfl rfl;have X1:Zal C.g0 (E + 1) (G.enter n.e.hd.tm e):=⟨I1,X.rz,X.cz,λ t ht=>by
        show ((G.h.enter n.e.hd.tm e).ll t).length<=E + 1;rw [Zl.enter_ll,List.length_append];have:=X.gb t ht;split
        · simp only [List.length_cons,List.length_nil];omega
        · simp only [List.length_nil];omega,λ t ht=>by
        show OkE ((G.h.enter n.e.hd.tm e).ll t) 0 0;rw [Zl.enter_ll];by_cases h2:t=n.e.hd.tm
        · rw [if_pos h2,h2,hll];exact fl.fo
        · rw [if_neg h2,List.append_nil];exact X.oe t ht,λ t ht d hd=>by
        have hd:d∈(G.h.enter n.e.hd.tm e).ll t:=hd;rw [Zl.enter_ll] at hd;rcases List.mem_append.1 hd with hd|hd
        · exact X.eb t ht d hd
        · split at hd
          · rw [List.mem_singleton] at hd
            subst hd;rw [<-he];exact hb
          · cases hd⟩
    rw [hl] at fl ⊢;refine ⟨.of (by exact l1) X1 (NI.regroup (F:=F++[e]) ?_ X.I.gr ?_),?_,rfl⟩
    · exact
        { id:=h.id
          i1:=h.i1
          t0:=h.t0
          fl:=fl
          g:=rfl
          eg:=rfl
          sx:=h.sx
          st:=h.st
          sg:=by
            dsimp only;rw [List.take_append_of_le_length (by rw [h.sx];omega)];exact h.sg
          sb:=h.sb
          A:=by dsimp only;rw [hr];exact A1
          vi:=h.vi
          ys:=λ hr2=>absurd (hr.symm.trans hr2) (by decide)
          hr:=λ hs=>by cases hs
          ps:=λ p x hx=>by cases hx
          ms:=λ m hm=>(h.ms m hm).le l1.le
          rr:=λ _=>h.rr hr
          r0:=h.r0
          rs:=λ x hx=>(h.rs x hx).le X.I l1
          rl:=h.rl
          rd:=h.rd
          bd:=RBd.more (E:=E) ⟨h.bd.rs,h.bd.bh,h.bd.rr,h.bd.rn,h.bd.wt⟩ (Nat.le_succ E)
          dk:=⟨h.dk.hd,h.dk.sn,by
            refine ZoR.fresh h.dk.l hc0.1 rfl (by have:=h.fl.last;omega) (Int.le_refl _) ?_ ?_ rfl
            · show n.log.last + 1<=n.log.b.ix + ((n.log.l++[e]).length:Int) + 1
              rw [List.length_append];unfold Lg.last;simp only [List.length_cons,List.length_nil];omega
            · dsimp only
              rw [List.take_append_of_le_length (by unfold Lg.last;omega)]⟩ }
    · intro p x hx
      exact h.ps p x hx
    · show (Rn.regroup _).e.role=3
      rw [ZbF.1,Zbf];exact hr
end
section
open Go Go.VC Tryz
open Go.Rf
variable {G G':Gh} {y:Int} {E E':Nat} {n m:Rn} {F:List Ey} {C:Ct} {g0:Gp} {i tm vt role:Int} {com:Nat}
theorem NI.elec (h:NI C E G n F) (I:Zaw C.g0 G) {e:Eln} {r:Int} (hE:E<=E') (l:Gs y G G') (id:e.id=n.id) (t0:0<=e.hd.tm) (eg:e.g=n.e.g)
    (A:Zaz G' n.id e.hd.tm e.hd.vt e.role F n.log.com.toNat) (vi:e.role=2\/e.role=3->e.hd.vt=n.id) (ys:e.role=2->∀ y∈e.yes,∃ L,G'.vt e.hd.tm y n.id L)
    (rr:e.role=3->G'.rr e.hd.tm=r) (r0:0<=r) (rn:r<=E') (wt:e.wait<=E'):NI C E' G' { n with e:=e,ps:=none,rs:=[],rnd:=r } F:=
  { id:=id
    i1:=h.i1
    t0:=t0
    fl:=h.fl
    g:=h.g
    eg:=eg.trans h.eg
    sx:=h.sx
    st:=h.st
    sg:=h.sg
    sb:=h.sb
    A:=A
    vi:=vi
    ys:=ys
    hr:=λ hs=>by cases hs
    ps:=λ p x hx=>by cases hx
    ms:=λ m hm=>(h.ms m hm).le l.le
    rr:=rr
    r0:=r0
    rs:=λ x hx=>by cases hx
    rl:=λ hx=>absurd rfl hx
    rd:=h.rd
    bd:=⟨by show ([]:List Rq).length<=64;decide,λ x hx=>(by cases hx),by have:=h.bd.rr;show n.rrd.length<=64 * E';omega,rn,wt⟩
    dk:=⟨h.dk.hd,h.dk.sn,h.dk.l⟩ }
theorem Zal.cand (X:Zal g0 E G) (A:Zaz G i tm vt role F com) (hi:1<=i) {t:Int} (ht:tm<t):Zal g0 E (G.cand t i F):=
  ⟨X.I.cand λ B' hB=>absurd (A.cds t B' hB) (by omega),X.rz,λ t' c B h=>by
    rcases h with h|⟨_,rfl,_⟩
    · exact X.cz t' c B h
    · exact hi,X.gb,X.oe,X.eb⟩
theorem Zal.voteS (X:Zal g0 E G) (A:Zaz G i tm vt role F com) {c:Int} (hv:∀ c' L',G.vt tm i c' L'->c'=c) {B:List Ey} (hB:G.cd tm c B) (hn:ZaX F B):Zal g0 E (G.vote tm i c F):=
  ⟨X.I.vote' A hv hB hn,X.rz,X.cz,X.gb,X.oe,X.eb⟩
theorem Zal.won (X:Zal g0 E G) (A:Zaz G i tm vt 2 F com) (hw:G.Win g0 tm i F) (fo:OkE F 0 0):Zal g0 E (G.won tm i F):=
  have dec:∀ {P:List Ey->Prop},P F->(∀ t,G.h.el t->P (G.h.ll t))->∀ t,(G.h.win tm F).el t->P ((G.h.win tm F).ll t):=λ {P} h1 h2 t ht=>by
    by_cases e:t=tm
    · rw [e,Zl.win_llu];exact h1
    · rw [Zl.win_ll e];exact h2 t (ht.resolve_right e)
  ⟨X.I.won' A hw,λ t=>(X.rz t).imp_left .inl,X.cz,dec (P:=λ l=>l.length<=E) (X.len A.good) X.gb,dec (P:=λ l=>OkE l 0 0) fo X.oe,dec (P:=λ l=>∀ e∈l,Zx e.dt) (X.by' A.good) X.eb⟩
theorem ZaX.refl (L:List Ey):ZaX L L:=.inr ⟨rfl,Nat.le_refl _⟩
def Eo (C:Ct) (E':Nat) (G:Gh) (n:Rn) (F:List Ey) (r:List Bl × Eln):Prop:=
  (r.2=n.e/\∀ b∈r.1,Zco C.g0 G (ZcK b))\/
  ∃ G',Gs n.id G G'/\Zal C.g0 E' G'/\NI C E' G' { n with e:=r.2,ps:=none,rs:=[],rnd:=if r.2.role==3 then 0 else n.rnd } F/\(∀ b∈r.1,Zco C.g0 G' (ZcK b))/\(n.e.role=3->r.2.role≠3)
theorem NI.eo (h:NI C E G n F) (X:Zal C.g0 E G) (hE:E<=E') {G':Gh} (X':Zal C.g0 E' G') (l:Gs n.id G G') {r:List Bl × Eln} (id:r.2.id=n.id) (t0:0<=r.2.hd.tm) (eg:r.2.g=n.e.g)
    (A:Zaz G' n.id r.2.hd.tm r.2.hd.vt r.2.role F n.log.com.toNat) (h3:r.2.role≠3) (vi:r.2.role=2->r.2.hd.vt=n.id) (ys:r.2.role=2->∀ y∈r.2.yes,∃ L,G'.vt r.2.hd.tm y n.id L)
    (wt:r.2.wait<=E') (hm:∀ b∈r.1,Zco C.g0 G' (ZcK b)):Eo C E' G n F r:=by
  refine .inr ⟨G',l,X',?_,hm,λ _=>h3⟩;have e:(r.2.role==3)=false:=by rw [beq_eq_false_iff_ne];exact h3
  rw [e];exact h.elec X.I hE l id t0 eg A (λ h=>h.elim vi (λ h=>absurd h h3)) ys (λ h=>absurd h h3) h.r0 (by have:=h.bd.rn;show n.rnd<=(E':Int);omega) wt
theorem NI.wins (h:NI C E G n F) (X:Zal C.g0 E G) (hE:E<=E') {G1:Gh} (X1:Zal C.g0 E' G1) (l:Gs n.id G G1) {e:Eln} (id:e.id=n.id) (t0:0<=e.hd.tm) (eg:e.g=n.e.g)
    (A:Zaz G1 n.id e.hd.tm e.hd.vt e.role F n.log.com.toNat) (hr:e.role=2) (vi:e.hd.vt=n.id) (ys:∀ y∈e.yes,∃ L,G1.vt e.hd.tm y n.id L) (wt:e.wait<=E') (hw:e.wins=true) (h3:n.e.role≠3):Eo C E' G n F ([],e.lead'):=by
  rw [hr] at A;have hwin:G1.Win C.g0 e.hd.tm n.id F:=⟨e.yes,by
    unfold Eln.wins at hw;rw [eg,h.eg] at hw;exact hw,λ y hy=>ys y (ZU.1 hy)⟩
  have hno:=A.no_el X1.I hwin;have X2:=X1.won A hwin h.fl.fo;have l2:Gs n.id G (G1.won e.hd.tm n.id F):=l.trans (.of (Gh.won_le hno) rfl rfl);refine .inr ⟨_,l2,X2,?_,(λ b hb=>by cases hb),λ h=>absurd h h3⟩;exact h.elec X.I hE l2 id t0 eg (A.won X1.I hwin) (λ _=>vi) (λ h=>absurd h (by show (3:Int)≠2;decide)) (λ _=>(X1.rz _).resolve_left hno) (Int.le_refl _) (by show (0:Int)<=(E':Int);omega) wt
theorem ZeX {b:Bl} (h0: -4611686018427387904<=b.ix) (h1:b.ix<=4611686018427387904):Zd3 (ZcK b):=.plain rfl rfl h0 h1
theorem NI.run (h:NI C E G n F) (X:Zal C.g0 E G) (hE:E<=E') (hE':E'<=1000000) {e:Eln} (id:e.id=n.id) (hd:e.hd=n.e.hd) (eg:e.g=n.e.g) (wt:e.wait<=E') (h3:n.e.role≠3):Eo C E' G n F (e.run F.length (ltm F)):=by
  have ht0:=h.t0;unfold Eln.run;split
  · exact h.eo X hE (X.more hE) (.refl _ _) id (by show 0<=e.hd.tm;rw [hd];exact ht0) eg (by show Zaz G n.id e.hd.tm e.hd.vt 0 F _;rw [hd];exact h.A.rest (by decide) (by decide)) (by show (0:Int)≠3;decide) (λ h=>absurd h (by show (0:Int)≠2;decide)) (λ h=>absurd h (by show (0:Int)≠2;decide)) wt (λ b hb=>by cases hb)
  · have htm:n.e.hd.tm<e.hd.tm + 1:=by rw [hd];omega
    have A0:=h.A.up htm (r:=0) (v:=e.id) (by decide) (by decide);have A1:=A0.cand (by omega) (λ⟨a,b⟩=>absurd (h.A.lds _ a b) (by omega)) (λ k d hk=>by have:=h.A.le k d hk;omega);have X1:=(X.more hE).cand h.A h.i1 htm;have hv:∀ c' L',(G.cand (e.hd.tm + 1) n.id F).vt (e.hd.tm + 1) n.id c' L'->c'=n.id:=λ c' L' hv=>absurd (h.A.vts _ _ _ hv) (by omega);have A2:=A1.vote hv;have X2:=X1.voteS A1 hv (B:=F) (.inr ⟨rfl,rfl,rfl⟩) (.refl _);have l2:Gs n.id G ((G.cand (e.hd.tm + 1) n.id F).vote (e.hd.tm + 1) n.id n.id F):=(Gs.of Gh.cand_le rfl rfl).trans (Gs.of Gh.vote_le rfl rfl);have ys:∀ y∈[e.id],∃ L,((G.cand (e.hd.tm + 1) n.id F).vote (e.hd.tm + 1) n.id n.id F).vt (e.hd.tm + 1) y n.id L:=λ y hy=>by
      rw [List.mem_singleton] at hy;subst hy;rw [id];exact ⟨F,.inr ⟨rfl,rfl,rfl,rfl⟩⟩
    dsimp only;split
    · rename_i hw
      exact h.wins X hE X2 l2 id (by show 0<=e.hd.tm + 1;omega) eg (by show Zaz _ n.id (e.hd.tm + 1) e.id 2 F _;rw [id];exact A2) rfl id ys wt hw h3
    · refine h.eo X hE X2 l2 id (by show 0<=e.hd.tm + 1;omega) eg (by show Zaz _ n.id (e.hd.tm + 1) e.id 2 F _;rw [id];exact A2) (by show (2:Int)≠3;decide) (λ _=>id) (λ _=>ys) wt ?_
      intro b hb;obtain ⟨v,_,rfl⟩:=List.mem_map.1 hb;have:=X.len h.A.good;refine .of3 (ZeX (by dsimp only;omega) (by dsimp only;omega)) rfl ⟨F,?_,rfl,rfl⟩;show _\/(_/\e.id=n.id/\_);exact .inr ⟨rfl,id,rfl⟩
end
section
open Go Go.VC Tryz
open Go.Rf
variable {G G':Gh} {y:Int} {E E':Nat} {n m:Rn} {F:List Ey} {C:Ct}
theorem ZkG (e:Eln) (fr:Int) (yes:Bool):∃ ys ns,e.says fr yes={ e with yes:=ys,no:=ns }/\∀ y∈ys,y∈e.yes\/(y=fr/\yes=true):=by
 unfold Eln.says;split
 ·exact ⟨e.yes,e.no,rfl,λ y hy=>.inl hy⟩
 ·split
  ·rename_i h
   refine ⟨e.yes++[fr],e.no,rfl,λ y hy=>?_⟩;rcases List.mem_append.1 hy with hy|hy
   ·exact .inl hy
   ·rw [List.mem_singleton] at hy;exact .inr ⟨hy,h⟩
  ·exact ⟨e.yes,e.no++[fr],rfl,λ y hy=>.inl hy⟩
theorem NI.keep (h:NI C E G n F) (X:Zal C.g0 E G) (hE:E<=E') {l:List Bl} {e:Eln} (id:e.id=n.id) (hd:e.hd=n.e.hd) (eg:e.g=n.e.g) (h2:e.role≠2) (h3:e.role≠3) (wt:e.wait<=E') (hm:∀ b∈l,Zco C.g0 G (ZcK b)):Eo C E' G n F (l,e):=
 h.eo X hE (X.more hE) (.refl _ _) id (by show 0<=e.hd.tm;rw [hd];exact h.t0) eg (by show Zaz G n.id e.hd.tm e.hd.vt e.role F _;rw [hd];exact h.A.rest h2 h3) h3 (λ h=>absurd h h2) (λ h=>absurd h h2) wt hm
theorem NI.downE (h:NI C E G n F) (X:Zal C.g0 E G) (hE:E<=E') {l:List Bl} {e:Eln} (id:e.id=n.id) (hd:n.e.hd.tm<e.hd.tm) (eg:e.g=n.e.g) (h2:e.role≠2) (h3:e.role≠3) (wt:e.wait<=E') (hm:∀ b∈l,Zco C.g0 G (ZcK b)):Eo C E' G n F (l,e):=
 h.eo X hE (X.more hE) (.refl _ _) id (by have:=h.t0;show 0<=e.hd.tm;omega) eg (h.A.up hd h2 h3) h3 (λ h=>absurd h h2) (λ h=>absurd h h2) wt hm
theorem NI.wt (h:NI C E G n F) (hE:E<=E'):n.e.wait<=E':=by have:=h.bd.wt;omega
theorem Zk1 {b:Bl} {B:List Ey} (h1:b.ix=B.length) (h2:b.lt=ltm B) (ho:ZiU b F.length (ltm F)=true):ZaX F B:=by
 unfold ZiU at ho;simp only [Bool.or_eq_true,Bool.and_eq_true,decide_eq_true_eq,beq_iff_eq] at ho;rcases ho with ho|⟨ho,ho'⟩
 ·exact .inl (by omega)
 ·exact .inr ⟨by omega,by omega⟩
theorem NI.take (h:NI C E G n F) (X:Zal C.g0 E G) (hE:E<=E') (hE':E'<=1000000) {b:Bl} (h3:b.kd=3->∃ B,G.cd b.tm b.fr B/\b.ix=B.length/\b.lt=ltm B)
  (h4:b.kd=4->b.yes=true->∃ L,G.vt b.tm b.fr b.to' L):Eo C E' G n F (n.e.take b F.length (ltm F)):=by
 have hid:=h.id;have hwt:=h.wt hE;unfold Eln.take;split
 ·rename_i hok
  unfold Eln.takeOk at hok;simp only [Bool.and_eq_true,Bool.not_eq_true',decide_eq_false_iff_not,bne_eq_false_iff_eq] at hok;obtain ⟨⟨⟨k1,k2⟩,k3⟩,k4⟩:=hok;obtain ⟨o1,o2,o3⟩:=Eln.other_bd k2;dsimp only;split
  ·split
   ·exact .inl ⟨rfl,λ x hx=>by
     unfold Eln.ans at hx;rw [List.mem_singleton] at hx;subst hx;exact .of2 (ZeX (by show _<=(0:Int);decide) (by show (0:Int)<=_;decide)) rfl⟩
   ·exact .inl ⟨rfl,λ x hx=>by
     unfold Eln.ans at hx;rw [List.mem_singleton] at hx;subst hx;exact .of2 (ZeX (by show _<=(0:Int);decide) (by show (0:Int)<=_;decide)) rfl⟩
  ·split
   ·rename_i hk3
    have h3:=h3 (beq_iff_eq.1 hk3);obtain ⟨B,hB,hB1,hB2⟩:=h3;have mOk:∀ {t:Int} {yes:Bool},Zd3 (ZcK ⟨4,n.e.id,b.fr,t,0,0,yes⟩):=ZeX (by show _<=(0:Int);decide) (by show (0:Int)<=_;decide);by_cases hab:b.tm>n.e.hd.tm
    ·rw [decide_eq_true hab,if_pos rfl]
     have A0:=h.A.up (t:=b.tm) (r:=0) (v:=0) hab (by decide) (by decide);unfold Eln.vote;by_cases hmv:(n.e.down b.tm).mayVote b (ZiU b F.length (ltm F))=true
     ·rw [hmv,if_pos rfl]
      have hv:∀ c' L',G.vt b.tm n.id c' L'->c'=b.fr:=λ c' L' hv=>absurd (h.A.vts _ _ _ hv) (by omega);have hn:ZaX F B:=Zk1 hB1 hB2 (by
       unfold Eln.mayVote at hmv;simp only [Bool.and_eq_true] at hmv;exact hmv.2)
      refine h.eo X hE ((X.more hE).voteS A0 hv hB hn) (Gs.of Gh.vote_le rfl rfl) hid (by show 0<=b.tm;omega) rfl (A0.vote hv) (by show (0:Int)≠3;decide) (λ h=>absurd h (by show (0:Int)≠2;decide)) (λ h=>absurd h (by show (0:Int)≠2;decide)) (by show (0:Int)<=(E':Int);omega) ?_;intro x hx;unfold Eln.ans at hx;rw [List.mem_singleton] at hx;subst hx;refine .of4 mOk rfl λ _=>⟨F,.inr ⟨rfl,?_,rfl,rfl⟩⟩;exact hid
     ·rw [Bool.not_eq_true] at hmv
      rw [hmv,if_neg (by decide)];refine h.downE X hE hid hab rfl (by show (0:Int)≠2;decide) (by show (0:Int)≠3;decide) hwt ?_;intro x hx;unfold Eln.ans at hx;rw [List.mem_singleton] at hx;subst hx;exact .of4 mOk rfl λ h=>by cases h
    ·rw [decide_eq_false hab,if_neg (by decide)]
     unfold Eln.vote;by_cases hmv:n.e.mayVote b (ZiU b F.length (ltm F))=true
     ·rw [hmv,if_pos rfl]
      have hmv':=hmv;unfold Eln.mayVote at hmv';simp only [Bool.and_eq_true,Bool.not_eq_true',bne_eq_false_iff_eq,Bool.and_eq_false_iff] at hmv';obtain ⟨⟨hbt,hvt⟩,hold⟩:=hmv';have hn:ZaX F B:=Zk1 hB1 hB2 hold;have hro:n.e.role≠2/\n.e.role≠3:=by
       have i1:=h.i1;refine ⟨λ hr=>?_,λ hr=>?_⟩
       ·have:=h.vi (.inl hr)
        rcases hvt with hvt|hvt<;>omega
       ·have:=h.vi (.inr hr)
        rcases hvt with hvt|hvt<;>omega
      rw [hbt] at hB;have hv:∀ c' L',G.vt n.e.hd.tm n.id c' L'->c'=b.fr:=λ c' L' hv=>by
       have e1:=h.A.vtn _ _ hv;obtain ⟨_,B',hB',_⟩:=X.I.vn _ _ _ _ hv;have:=X.cz _ _ _ hB';rcases hvt with hvt|hvt<;>omega
      have hro':(if n.e.role==1 then 0 else n.e.role)≠2/\(if n.e.role==1 then 0 else n.e.role)≠3:=by
       split
       ·decide
       ·exact hro
      refine h.eo X hE ((X.more hE).voteS h.A hv hB hn) (Gs.of Gh.vote_le rfl rfl) hid h.t0 rfl ((h.A.vote hv).rest hro'.1 hro'.2) hro'.2 (λ h=>absurd h hro'.1) (λ h=>absurd h hro'.1) (by show (0:Int)<=(E':Int);omega) ?_;intro x hx;unfold Eln.ans at hx;rw [List.mem_singleton] at hx;subst hx;exact .of4 mOk rfl λ _=>⟨F,.inr ⟨rfl,hid,rfl,rfl⟩⟩
     ·rw [Bool.not_eq_true] at hmv
      rw [hmv,if_neg (by decide)];refine .inl ⟨rfl,λ x hx=>?_⟩;unfold Eln.ans at hx;rw [List.mem_singleton] at hx;subst hx;exact .of4 mOk rfl λ h=>by cases h
   ·split
    ·split
     ·rename_i hc
      rw [Bool.and_eq_true,decide_eq_true_eq] at hc;exact h.downE X hE hid hc.1 rfl (by show (0:Int)≠2;decide) (by show (0:Int)≠3;decide) hwt (λ x hx=>by cases hx)
     ·split
      ·rename_i hc
       rw [Bool.and_eq_true,beq_iff_eq] at hc;obtain ⟨ys,ns,es,_⟩:=ZkG n.e b.fr b.yes;rw [es];unfold Eln.counted;have r2:n.e.role≠2:=by omega
       have r3:n.e.role≠3:=by omega
       split
       ·exact h.keep X hE hid rfl rfl (by show (0:Int)≠2;decide) (by show (0:Int)≠3;decide) hwt (λ x hx=>by cases hx)
       ·split
        ·exact h.run X hE hE' hid rfl rfl hwt r3
        ·split
         ·rename_i q1 q2 q3
          exfalso;apply q2;rw [q3];show (true && n.e.role==1)=true;rw [hc.1];rfl
         ·exact h.keep X hE hid rfl rfl r2 r3 hwt (λ x hx=>by cases hx)
      ·exact .inl ⟨rfl,λ x hx=>by cases hx⟩
    ·split
     ·rename_i hk4
      have h4:=h4 (beq_iff_eq.1 hk4);split
      ·rename_i hc
       rw [decide_eq_true_eq] at hc;exact h.downE X hE hid hc rfl (by show (0:Int)≠2;decide) (by show (0:Int)≠3;decide) hwt (λ x hx=>by cases hx)
      ·split
       ·rename_i hc
        rw [Bool.and_eq_true,beq_iff_eq,beq_iff_eq] at hc;obtain ⟨ys,ns,es,hys⟩:=ZkG n.e b.fr b.yes;have hys':∀ y∈ys,∃ L,G.vt n.e.hd.tm y n.id L:=λ y hy=>by
         rcases hys y hy with h1|⟨h1,h2⟩
         ·exact h.ys hc.1 y h1
         ·obtain ⟨L,hL⟩:=h4 h2
          rw [hc.2,k1,hid] at hL;exact ⟨L,by rw [h1];exact hL⟩
        rw [es];unfold Eln.counted;have r3:n.e.role≠3:=by omega
        split
        ·exact h.keep X hE hid rfl rfl (by show (0:Int)≠2;decide) (by show (0:Int)≠3;decide) hwt (λ x hx=>by cases hx)
        ·split
         ·rename_i q1 q2
          exfalso;rw [Bool.and_eq_true,beq_iff_eq] at q2;have q2:n.e.role=1:=beq_iff_eq.1 q2.2;omega
         ·split
          ·rename_i q1 q2 q3
           refine h.wins X hE (X.more hE) (.refl _ _) (e:={ n.e with yes:=ys,no:=ns }) hid h.t0 rfl h.A hc.1 (h.vi (.inl hc.1)) hys' hwt ?_ r3;rw [beq_iff_eq] at q3;unfold Eln.outc at q3;split at q3
           ·rename_i q4;exact q4
           ·split at q3
            ·exact absurd q3 (by decide)
            ·exact absurd q3 (by decide)
          ·exact h.eo X hE (X.more hE) (.refl _ _) hid h.t0 rfl h.A r3 (λ hr=>h.vi (.inl hr)) (λ _=>hys') hwt (λ x hx=>by cases hx)
       ·exact .inl ⟨rfl,λ x hx=>by cases hx⟩
     ·exact .inl ⟨rfl,λ x hx=>by cases hx⟩
 ·exact .inl ⟨rfl,λ x hx=>by cases hx⟩
theorem NI.tickE (h:NI C E G n F) (X:Zal C.g0 E G) (hE':E + 1<=1000000) (hr:n.e.role≠3) (draw:Int):Eo C (E + 1) G n F (n.e.tick draw F.length (ltm F)):=by
 have hE:E<=E + 1:=Nat.le_succ E;have hid:=h.id;have hw:=h.bd.wt;unfold Eln.tick;rw [if_neg (by rw [beq_iff_eq];exact hr)];dsimp only;split
 ·exact h.eo X hE (X.more hE) (.refl _ _) hid h.t0 rfl h.A hr (λ hr=>h.vi (.inl hr)) (λ hr=>h.ys hr) (by show n.e.wait + 1<=((E + 1:Nat):Int);omega) (λ x hx=>by cases hx)
 ·split
  ·exact h.run X hE hE' hid rfl rfl (by show (0:Int)<=((E + 1:Nat):Int);omega) hr
  ·refine h.keep X hE hid rfl rfl (by show (1:Int)≠2;decide) (by show (1:Int)≠3;decide) (by show (0:Int)<=((E + 1:Nat):Int);omega) ?_
   intro b hb;obtain ⟨v,_,rfl⟩:=List.mem_map.1 hb;have:=X.len h.A.good;exact .of1 (ZeX (by dsimp only;omega) (by dsimp only;omega)) rfl
theorem NI.heardE (h:NI C E G n F) (X:Zal C.g0 E G) {fr t:Int} (hok:n.e.heardOk fr t=true):Eo C E G n F ([],n.e.heard fr t)/\(n.e.heard fr t).role=0/\(n.e.heard fr t).hd.tm=t:=by
 unfold Eln.heard;rw [if_pos hok];unfold Eln.heardOk at hok;simp only [Bool.and_eq_true,Bool.not_eq_true',decide_eq_false_iff_not] at hok;have hid:=h.id;split
 ·rename_i ht
  exact ⟨h.downE X (Nat.le_refl E) hid ht rfl (by show (0:Int)≠2;decide) (by show (0:Int)≠3;decide) (by show (0:Int)<=(E:Int);omega) (λ x hx=>by cases hx),rfl,rfl⟩
 ·exact ⟨h.keep X (Nat.le_refl E) hid rfl rfl (by show (0:Int)≠2;decide) (by show (0:Int)≠3;decide) (by show (0:Int)<=(E:Int);omega) (λ x hx=>by cases hx),rfl,by show n.e.hd.tm=t;omega⟩
end
section
open Go Go.VC Tryz
open Go.Rf
variable {G G':Gh} {y:Int} {E E':Nat} {n m:Rn} {F:List Ey} {C:Ct}
theorem ZaV.pre {n':Rn} (l:Gs n.id G G') (h:ZaV C E G' n') (hid:n'.id=n.id):ZaV C E G n':=by
  obtain ⟨G1,F1,a,b,c⟩:=h;exact ⟨G1,F1,(show Gs n'.id G G' by rw [hid];exact l).trans a,b,c⟩
theorem NI.putsB (h:NI C E G n F) {l:List Bl} (hm:∀ b∈l,Zco C.g0 G (ZcK b)):NI C E G { n with rms:=n.rms++l.map ZcK } F:={ h with
  ms:=λ m' hm'=>by
    rcases List.mem_append.1 hm' with hm'|hm'
    · exact h.ms m' hm'
    · obtain ⟨b,hb,rfl⟩:=List.mem_map.1 hm'
      exact hm b hb
  bd:=⟨h.bd.rs,h.bd.bh,h.bd.rr,h.bd.rn,h.bd.wt⟩
  dk:=⟨h.dk.hd,h.dk.sn,h.dk.l⟩ }
theorem NI.again (h:NI C E G n F) (hp:n.ps=none):NI C E G { n with g:=grp C.g0 F,e:={ n.e with g:=grp C.g0 F },ps:=none } F:=by
  have e:{ n with g:=grp C.g0 F,e:={ n.e with g:=grp C.g0 F },ps:=none }=n:=by
    have hg:=h.g;have heg:=h.eg;obtain ⟨⟨e1,e2,e3,e4,e5,e6,e7,e8,e9,e10⟩,a2,a3,a4,a5,a6,a7,a8,a9,a10,a11,a12,a13,a14⟩:=n;dsimp only at hg heg hp ⊢;subst hp;rw [<-hg] at heg ⊢;subst heg;rfl
  rw [e];exact h
theorem Zba (n:Rn) (q:Int):(n.send q).id=n.id/\(n.send q).e=n.e:=by
  have:=(Snd.send (n:=n) q).eq;rw [this];exact ⟨rfl,rfl⟩
theorem Zje (n:Rn):n.all.id=n.id:=by
  have:=(Snd.all n).eq;rw [this]
theorem ZaV.advAll (h:ZaV C E G n) (hr:n.e.role=3) (hE:E<=1000000):ZaV C E G n.advance.all:=by
  refine ZaV.bind (n:=n.advance) (h.bind (λ G1 F1 X1 h1=>h1.advance X1 hr) (ZaT n)) (λ G1 F1 X1 h1=>(h1.all X1 hE).goes X1) (Zje _)
theorem NI.voted (h:NI C E G n F) (X:Zal C.g0 E G) (hE:E<=E') (hE':E' + 1<=1000000) {r:List Bl × Eln} (H:Eo C E' G n F r) {led:Bool} (hl:led=(n.e.role==3)):
    ZaV C (E' + 1) G (Rn.voted { n with e:=r.2 } led r.1):=by
  have hE1:E'<=E' + 1:=Nat.le_succ E';unfold Rn.voted;dsimp only;rcases H with ⟨e,hm⟩|⟨G',l,X',h',hm,h3⟩
  · rw [e]
    by_cases hr:n.e.role=3
    · have hb:(n.e.role !=3)=false:=by rw [hr];rfl
      have hb2:led=true:=by rw [hl,hr];rfl
      rw [hb,hb2];exact (((h.putsB hm).goes X).more (by omega):ZaV C (E' + 1) G _)
    · have hb:(n.e.role !=3)=true:=by rw [bne_iff_ne];exact hr
      rw [hb];have h1:=h.elec X.I (Nat.le_refl E) (Gs.refl n.id G) (e:=n.e) (r:=n.rnd) h.id h.t0 rfl h.A h.vi h.ys h.rr h.r0 h.bd.rn h.bd.wt;exact (((h1.putsB hm).goes X).more (by omega):ZaV C (E' + 1) G _)
  · by_cases hr:r.2.role=3
    · have hb:(r.2.role !=3)=false:=by rw [hr];rfl
      have hb2:led=false:=by rw [hl,beq_eq_false_iff_ne];exact λ h9=>h3 h9 hr
      have hb3:(r.2.role==3)=true:=by rw [hr];rfl
      rw [hb3,if_pos rfl] at h';rw [hb,hb2];have h2:=h'.putsB hm;have h4:=NI.regroup (h2.again rfl) X'.I.gr λ p x hx=>h2.ps p x hx;have hro:(Rn.regroup { n with e:=r.2,ps:=none,rs:=[],rnd:=0,rms:=n.rms++r.1.map ZcK }).e.role=3:=by rw [ZbF.1,Zbf];exact hr
      obtain ⟨h5,h6,h7⟩:=h4.enter X' hro (kd:=0) (dt:=[]) (by intro z hz;cases hz) (λ e=>absurd e (by decide));refine ZaV.pre (n:=n) l (h5.advAll h6 hE') ?_;show (Rn.enter _ 0 []).2.advance.all.id=n.id;rw [Zje,ZaT];exact h7.trans rfl
    · have hb:(r.2.role !=3)=true:=by rw [bne_iff_ne];exact hr
      have hb3:(r.2.role==3)=false:=by rw [beq_eq_false_iff_ne];exact hr
      rw [hb3] at h';rw [hb];exact ZaV.pre (n:=n) l (((h'.putsB hm).goes X').more hE1) rfl
theorem Zcr (n:Rn) (led:Bool) (l:List Bl):(n.voted led l).id=n.id:=by
  unfold Rn.voted;dsimp only;split
  · rfl
  · split
    · rw [Zje,ZaT,(ZgD _ _ _).2];rfl
    · rfl
theorem NI.ballot (h:NI C E G n F) (X:Zal C.g0 E G) (hE':E + 1<=1000000) {b:Bl} (h3:b.kd=3->∃ B,G.cd b.tm b.fr B/\b.ix=B.length/\b.lt=ltm B)
    (h4:b.kd=4->b.yes=true->∃ L,G.vt b.tm b.fr b.to' L):ZaV C (E + 1) G (n.ballot b):=by
  have H:=h.take X (Nat.le_refl E) (by omega) h3 h4;unfold Rn.ballot;rw [h.fl.term_last,h.fl.last];exact h.voted X (Nat.le_refl E) hE' H rfl
theorem ZhM (n:Rn) (b:Bl):(n.ballot b).id=n.id:=Zcr _ _ _
theorem NI.tickF (X:Zal C.g0 E G) (hE:E<=1000000):∀ (l:List Int) {n:Rn},NI C E G n F->n.e.role=3->NI C E G (l.foldl Rn.tickP n) F
  |[],_,h,_=>h
  |p::l,n,h,hr=>by
    refine NI.tickF X hE l (n:=n.tickP p) ?_ ?_
    · refine NI.send (NI.beat (h.setP ?_) hr p) X hE p
      have hm:((n.peer p).getD (Pe.new 0 0)).mt<=0\/∃ k:Nat,((n.peer p).getD (Pe.new 0 0)).mt<=k/\G.ak n.e.hd.tm p k:=by
        cases hp:n.peer p with
        |none=>exact .inl (Int.le_refl _)
        |some x=>exact h.ps p x hp
      split
      · rw [ZkY,ZlQ];exact hm
      · rw [ZlQ];exact hm
    · unfold Rn.tickP
      rw [(Zba _ _).2];exact hr
theorem NI.tick (h:NI C E G n F) (X:Zal C.g0 E G) (hE':E + 2<=1000000) (draw:Int):ZaV C (E + 2) G (n.tick draw):=by
  unfold Rn.tick;by_cases hr:n.e.role=3
  · have hb:(n.e.role !=3)=false:=by rw [hr];rfl
    rw [hb];exact (((NI.tickF X (by omega) n.mem h hr).goes X).more (by omega):ZaV C (E + 2) G (n.mem.foldl Rn.tickP n))
  · have hb:(n.e.role !=3)=true:=by rw [bne_iff_ne];exact hr
    rw [hb,if_pos rfl];dsimp only;rw [h.fl.term_last,h.fl.last];exact h.voted X (Nat.le_succ E) hE' (h.tickE X (by omega) hr draw) (by rw [eq_comm,beq_eq_false_iff_ne];exact hr)
end
section
open Go Go.VC Tryz
open Go.Rf
variable {G G':Gh} {y:Int} {E E':Nat} {n:Rn} {F:List Ey} {C:Ct}
theorem NI.commitF (h:NI C E G n F) (X:Zal C.g0 E G) (hr:n.e.role≠3) (hel:G.h.el n.e.hd.tm) {c:Int} (hc:c<=F.length) (hcm:G.h.Cm n.e.hd.tm c) (he:F.take c.toNat=(G.h.ll n.e.hd.tm).take c.toNat):NI C E G (n.commit c) F:=by
  have hc0:=h.c0;unfold Rn.commit;split
  · rename_i h1
    have e:(n.log.commit c).2={ n.log with com:=c }:=by
      unfold Lg.commit;rw [if_neg (by rw [h.fl.last];omega)]
    have fl:=h.fl.commit c;rw [e] at fl ⊢;rcases hcm with h2|⟨t,k,b,h2,h3,h4⟩
    · omega
    · have he2:F.take c.toNat=(G.h.ll t).take c.toNat:=by
        rcases Int.lt_or_eq_of_le h3 with h5|h5
        · exact he.trans (ZQ (X.I.lc _ _ _ _ h2 hel h5).2 (by omega))
        · rw [h5];exact he
      exact h.com X.I (.refl n.id G) fl (h.A.more hr (by omega) h2 h3 (by omega) he2) λ _=>rfl
  · exact h
theorem NI.elog (h:NI C E G n F) (X:Zal C.g0 E G) (hel:G.h.el n.e.hd.tm):n.log.com.toNat<=(G.h.ll n.e.hd.tm).length/\F.take n.log.com.toNat=(G.h.ll n.e.hd.tm).take n.log.com.toNat:=h.A.com_ll X.I hel
theorem NI.ackPut (h:NI C E G n F) (X:Zal C.g0 E G) (hel:G.h.el n.e.hd.tm) {k:Nat} (hk:k<=F.length) (he:F.take k=(G.h.ll n.e.hd.tm).take k) {m:Mg} (hkd:m.kd=6\/m.kd=10) (hix:m.ix<=k) (h0:0<=m.ix) (hE:E<=1000000) (h1:m.es=[]) (h2:m.sn=sn0):ZaV C E G (n.put m):=by
  have l:Gs n.id G (G.ack n.e.hd.tm n.id k):=.of Gh.ack_le rfl rfl;have X1:Zal C.g0 E (G.ack n.e.hd.tm n.id k):=⟨X.I.ack' h.A hel hk he,X.rz,X.cz,X.gb,X.oe,X.eb⟩;have:=X.len h.A.good;exact .of (by exact l) X1 ((h.le X.I l (h.A.ack hel hk he) λ _=>rfl).put (.of6 (.plain h1 h2 (by dsimp only;omega) (by dsimp only;omega)) hkd λ _=>⟨k,hix,.inr ⟨rfl,rfl,rfl⟩⟩))
theorem NI.follow (h:NI C E G n F) (X:Zal C.g0 E G) (hr:n.e.role≠2/\n.e.role≠3) (hel:G.h.el n.e.hd.tm) {j:Nat} (hj:j<=(G.h.ll n.e.hd.tm).length)
    (hk:∀ k,k<=F.length->F.take k=(G.h.ll n.e.hd.tm).take k->k<=j) {g:Lg} (hb:g.b=n.log.b) (hc:g.com=n.log.com) (fl:ZaW g ((G.h.ll n.e.hd.tm).take j))
    {r:Int} (hl:ZoR (if n.rsn then [] else C.d.log) { n with log:=g,rfr:=r }):NI C E G { n with log:=g,rfr:=r,g:=grp C.g0 ((G.h.ll n.e.hd.tm).take j),e:={ n.e with g:=grp C.g0 ((G.h.ll n.e.hd.tm).take j) },ps:=none } ((G.h.ll n.e.hd.tm).take j):=by
  obtain ⟨c1,c2⟩:=h.elog X hel;have hc0:=h.c0;exact
    { id:=h.id
      i1:=h.i1
      t0:=h.t0
      fl:=fl
      g:=rfl
      eg:=rfl
      sx:=by dsimp only;rw [hb];exact h.sx
      st:=by dsimp only;rw [hb];exact h.st
      sg:=by
        have h1:=hk n.log.com.toNat (by omega) c2;dsimp only;rw [List.take_take,Nat.min_eq_left (by rw [h.sx];omega),<-ZQ c2 (by rw [h.sx];omega)];exact h.sg
      sb:=h.sb
      A:=by dsimp only;rw [hc];exact h.A.follow X.I hel hj hk hr.1 hr.2
      vi:=h.vi
      ys:=λ hr2=>absurd hr2 hr.1
      hr:=λ hs=>by cases hs
      ps:=λ p x hx=>by cases hx
      ms:=h.ms
      rr:=h.rr
      r0:=h.r0
      rs:=h.rs
      rl:=h.rl
      rd:=h.rd
      bd:=⟨h.bd.rs,h.bd.bh,h.bd.rr,h.bd.rn,h.bd.wt⟩
      dk:=⟨h.dk.hd,h.dk.sn,hl⟩ }
theorem Za4 (n:Rn) (c:Int):(n.commit c).e=n.e/\(n.commit c).id=n.id:=by
  unfold Rn.commit;split<;>exact ⟨rfl,rfl⟩
theorem Zif (e:Eln) (g:Gp):(e.join g).hd=e.hd:=by unfold Eln.join;split<;>rfl
theorem Zfu (n:Rn):n.regroup.e.hd=n.e.hd:=by rw [ZbF.1,Zif]
theorem NI.app (h:NI C E G n F) (X:Zal C.g0 E G) (hE:E<=1000000) (hr:n.e.role=0) {m:Mg} (ht:m.tm=n.e.hd.tm) (hM:Zd3 m) (hm:ZqH G m):ZaV C E G (n.app m):=by
  have hel:=hm.el;have hlen:=hm.len;have hes:=hm.es;have hlt:=hm.lt;have hcm:=hm.cm;have hi0:=hm.i0;rw [ht] at hel hlen hes hlt hcm;have hr2:n.e.role≠2/\n.e.role≠3:=by rw [hr];decide
  have hgb:=X.gb _ hel;have hf:=h.fl.merge h.A.good (X.I.ok.good _ hel) hi0 hlen hes hlt (h.elog X hel);unfold Rn.app;generalize n.log.merge m.ix m.lt m.es=r at hf ⊢;dsimp only;rcases hf with ⟨h1,h2⟩|⟨h1,h2,h3,h4⟩|hM2
  · have e:(r.1.2==0)=false:=by rw [beq_eq_false_iff_ne];exact h1
    rw [e,h2,if_neg (by decide)];split
    · refine (h.put (.non (.plain rfl rfl (by dsimp only;exact hM.i0) (by dsimp only;exact hM.i1)) ⟨by show (6:Int)≠3;decide,by show (6:Int)≠5;decide,by show (6:Int)≠7;decide,by show (6:Int)≠9;decide⟩ rfl rfl)).goes X
    · exact h.goes X
  · rw [h1,h2]
    rw [if_pos (by rfl),if_neg (by show ¬ (0:Int)>0;decide)];have hmin:(min m.com (m.ix + m.es.length))<=m.ix + m.es.length:=Int.min_le_right _ _;have h5:=h.commitF X hr2.2 hel (c:=min m.com (m.ix + m.es.length)) (by omega) (hcm.le (Int.min_le_left _ _)) (ZQ h4 (by omega));obtain ⟨e1,e2⟩:=Za4 n (min m.com (m.ix + m.es.length));exact h5.ackPut X (by rw [e1];exact hel) h3 (by rw [e1];exact h4) (.inl rfl) (by dsimp only;omega) (by dsimp only;omega) hE rfl rfl
  · have hc0:=h.c0
    have a0:=hM2.at0;rw [if_pos (by rw [hM2.ok];rfl),if_pos (by show r.1.1>0;omega)];have hN:=h.follow X hr2 hel hlen hM2.max hM2.b hM2.com hM2.fl (r:=if n.rfr==0||decide (r.1.1<n.rfr) then r.1.1 else n.rfr) (by
      refine ZoR.fresh h.dk.l hc0.1 (a:=r.1.1) hM2.b a0 hM2.at1 ?_ hM2.low rfl;have h7:=congrArg List.length hM2.low;have h8:=h.fl.last;have h9:=hM2.at1;show r.1.1<=r.2.b.ix + (r.2.l.length:Int) + 1;rw [hM2.b];rw [List.length_take,List.length_take] at h7;unfold Lg.last at h9;omega)
    have hR:=NI.regroup (n:={ n with log:=r.2,rfr:=if n.rfr==0||decide (r.1.1<n.rfr) then r.1.1 else n.rfr }) hN X.I.gr (λ p x hx=>h.ps p x hx)
    have hro:(Rn.fresh { n with log:=r.2 } r.1.1).e.role=0/\(Rn.fresh { n with log:=r.2 } r.1.1).e.hd=n.e.hd:=by
      refine ⟨?_,?_⟩
      · unfold Rn.fresh;rw [ZbF.1,Zbf];exact hr
      · unfold Rn.fresh;rw [Zfu]
    have hR:NI C E G (Rn.fresh { n with log:=r.2 } r.1.1) ((G.h.ll n.e.hd.tm).take (m.ix.toNat + m.es.length)):=hR;have hid:(Rn.fresh { n with log:=r.2 } r.1.1).id=n.id:=rfl;generalize Rn.fresh { n with log:=r.2 } r.1.1=n2 at hR hro hid ⊢;have hmin:(min m.com (m.ix + m.es.length))<=m.ix + m.es.length:=Int.min_le_right _ _;have hl2:((G.h.ll n.e.hd.tm).take (m.ix.toNat + m.es.length)).length=m.ix.toNat + m.es.length:=by rw [List.length_take];omega
    have h5:=hR.commitF X (by rw [hro.1];decide) (by rw [hro.2];exact hel) (c:=min m.com (m.ix + m.es.length)) (by rw [hl2];omega) (by rw [hro.2];exact hcm.le (Int.min_le_left _ _)) (by rw [hro.2,List.take_take,Nat.min_eq_left (by omega)]);obtain ⟨e1,e2⟩:=Za4 n2 (min m.com (m.ix + m.es.length));refine ZaV.pre (n:=n) (.refl _ _) (h5.ackPut X (by rw [e1,hro.2];exact hel) (Nat.le_of_eq hl2.symm) (by rw [e1,hro.2,List.take_take,Nat.min_self]) (.inl rfl) (by dsimp only;omega) (by dsimp only;omega) hE rfl rfl) ?_;show (n2.commit _).id=n.id;rw [e2,hid]
theorem ZiP {s:Sn} (h:ZE s=true):inIx s.ix=true/\inIx s.tm=true:=by
  unfold ZE Z3 at h;simp only [Bool.and_eq_true] at h;exact ⟨h.1.1.1,h.1.1.2⟩
theorem NI.install (h:NI C E G n F) (X:Zal C.g0 E G) (hE:E<=1000000) (hr:n.e.role=0) {m:Mg} (ht:m.tm=n.e.hd.tm) (hM:Zd3 m) (hm:ZrE C.g0 G m):ZaV C E G (n.install m):=by
  have hel:=hm.el;have hlen:=hm.len;have hlt:=hm.lt;have hg:=hm.g;have hcm:=hm.cm;have hi0:=hm.i0;rw [ht] at hel hlen hlt hcm hg;have hr2:n.e.role≠2/\n.e.role≠3:=by rw [hr];decide
  have hgb:=X.gb _ hel;have hc0:=h.c0;have hlog:=h.elog X hel;unfold Rn.install;split
  · exact h.goes X
  · rename_i h1
    simp only [Bool.or_eq_true,Bool.not_eq_true',not_or,Bool.not_eq_false] at h1;have h1:=ZiP h1.1.1;split
    · exact h.ackPut X hel (k:=n.log.com.toNat) (by omega) hlog.2 (.inr rfl) (by dsimp only;omega) (by dsimp only;omega) hE rfl rfl
    · rename_i h2
      split
      · rename_i h3
        rw [Bool.and_eq_true,beq_iff_eq] at h3;obtain ⟨t1,t2,t3⟩:=h.fl.term h3.1;have hmt:=Zl.matchT h.A.good (X.I.ok.good _ hel) (k:=m.sn.ix.toNat) (by omega) hlen (by rw [hlt,<-h3.2,t3]);have h5:=h.commitF X hr2.2 hel t2 hcm hmt;obtain ⟨e1,e2⟩:=Za4 n m.sn.ix;exact ZaV.pre (n:=n) (.refl _ _) (h5.ackPut X (by rw [e1];exact hel) (k:=m.sn.ix.toNat) (by omega) (by rw [e1];exact hmt) (.inr rfl) (by dsimp only;omega) (by dsimp only;omega) hE rfl rfl) e2
      · rename_i h3
        have hres:(n.log.reset m.sn.ix m.sn.tm).2=Lg.new m.sn.ix m.sn.tm:=by
          unfold Lg.reset;rw [h1.1,h1.2,if_neg (by decide),if_neg (by omega)]
        have hk:∀ k,k<=F.length->F.take k=(G.h.ll n.e.hd.tm).take k->k<=m.sn.ix.toNat:=λ k hk he=>by
          rcases Nat.lt_or_ge m.sn.ix.toNat k with h4|h4
          · exfalso
            apply h3;have hh:n.log.has m.sn.ix=true:=h.fl.has.2 ⟨by omega,by omega⟩;have ht2:(n.log.term m.sn.ix).2=true:=by unfold Lg.term;rw [if_pos hh]
            rw [Bool.and_eq_true,beq_iff_eq];refine ⟨ht2,?_⟩;rw [(h.fl.term ht2).2.2,ZQ he (by omega:m.sn.ix.toNat<=k),hlt]
          · exact h4
        have hl2:((G.h.ll n.e.hd.tm).take m.sn.ix.toNat).length=m.sn.ix.toNat:=by rw [List.length_take];omega
        have fl:ZaW (Lg.new m.sn.ix m.sn.tm) ((G.h.ll n.e.hd.tm).take m.sn.ix.toNat):=.new h1.1 h1.2 (by
          refine OkE.left (b:=⟨0,0,0,[]⟩) (m:=(G.h.ll n.e.hd.tm).drop m.sn.ix.toNat) ?_;rw [List.take_append_drop];exact X.oe _ hel) (by rw [hl2];omega) hlt
        have A1:=h.A.follow X.I hel hlen hk hr2.1 hr2.2;have A2:Zaz G n.id n.e.hd.tm n.e.hd.vt n.e.role ((G.h.ll n.e.hd.tm).take m.sn.ix.toNat) m.sn.ix.toNat:=by
          rcases hcm with h4|⟨t,k,b,h4,h5,h6⟩
          · omega
          · refine A1.more hr2.2 (Nat.le_of_eq hl2.symm) h4 h5 (by omega) ?_
            rw [List.take_take,Nat.min_self];rcases Int.lt_or_eq_of_le h5 with h7|h7
            · exact ZQ (X.I.lc _ _ _ _ h4 hel h7).2 (by omega)
            · rw [h7]
        have hN:NI C E G { n with log:=(n.log.reset m.sn.ix m.sn.tm).2,sn:=m.sn,rsn:=true,rfr:=0,g:=grp C.g0 ((G.h.ll n.e.hd.tm).take m.sn.ix.toNat),e:={ n.e with g:=grp C.g0 ((G.h.ll n.e.hd.tm).take m.sn.ix.toNat) },ps:=none } ((G.h.ll n.e.hd.tm).take m.sn.ix.toNat):=by
          rw [hres];exact
            { id:=h.id
              i1:=h.i1
              t0:=h.t0
              fl:=fl
              g:=rfl
              eg:=rfl
              sx:=rfl
              st:=rfl
              sg:=by
                dsimp only;rw [List.take_take,Nat.min_self];exact hg
              sb:=hM.db
              A:=A2
              vi:=h.vi
              ys:=λ hr3=>absurd hr3 hr2.1
              hr:=λ hs=>by cases hs
              ps:=λ p x hx=>by cases hx
              ms:=h.ms
              rr:=h.rr
              r0:=h.r0
              rs:=h.rs
              rl:=h.rl
              rd:=h.rd
              bd:=⟨h.bd.rs,h.bd.bh,h.bd.rr,h.bd.rn,h.bd.wt⟩
              dk:=⟨h.dk.hd,λ h=>(by cases h),.inl ⟨rfl,rfl⟩⟩ }
        have hR:=NI.regroup (n:={ n with log:=(n.log.reset m.sn.ix m.sn.tm).2,sn:=m.sn,rsn:=true,rfr:=0 }) hN X.I.gr (λ p x hx=>h.ps p x hx);have hro:(Rn.regroup { n with log:=(n.log.reset m.sn.ix m.sn.tm).2,sn:=m.sn,rsn:=true,rfr:=0 }).e.hd=n.e.hd:=by
          rw [Zfu]
        refine ZaV.pre (n:=n) (.refl _ _) (hR.ackPut X (by rw [hro];exact hel) (k:=m.sn.ix.toNat) (Nat.le_of_eq hl2.symm) (by rw [hro,List.take_take,Nat.min_self]) (.inr rfl) (by dsimp only;omega) (by dsimp only;omega) hE rfl rfl) rfl
end
section
open Go Go.VC Tryz
open Go.Rf
variable {G G':Gh} {y:Int} {E E':Nat} {n:Rn} {F:List Ey} {C:Ct}
theorem ZkU (n:Rn) (m:Mg):(n.put m).id=n.id:=rfl
theorem Zm1 (n:Rn) (m:Mg):(n.app m).id=n.id:=by
  unfold Rn.app;dsimp only;split
  · rw [ZkU,(Za4 _ _).2]
    split<;>rfl
  · split<;>rfl
theorem ZfC (n:Rn) (m:Mg):(n.install m).id=n.id:=by
  unfold Rn.install;split
  · rfl
  · split
    · rfl
    · split
      · rw [ZkU,(Za4 _ _).2]
      · rfl
theorem Zll {e:Eln} {fr t:Int} (h:e.heardOk fr t=false):e.heard fr t=e:=by unfold Eln.heard;rw [h,if_neg (by decide)]
theorem ZgT {n:Rn} {led:Bool} (h:n.e.role≠3):n.voted led []={ n with ps:=none,rs:=[] }:=by
  unfold Rn.voted;have hb:(n.e.role !=3)=true:=by rw [bne_iff_ne];exact h
  dsimp only;rw [hb,if_pos rfl,List.map_nil,List.append_nil]
theorem NI.heardN (h:NI C E G n F) (X:Zal C.g0 E G) {fr t:Int} (hok:n.e.heardOk fr t=true):
    NI C E G (Rn.voted { n with e:=n.e.heard fr t } false []) F/\(Rn.voted { n with e:=n.e.heard fr t } false []).e.role=0/\(Rn.voted { n with e:=n.e.heard fr t } false []).e.hd.tm=t/\(Rn.voted { n with e:=n.e.heard fr t } false []).id=n.id:=by
  obtain ⟨_,hr,ht⟩:=h.heardE X hok;rw [ZgT (n:={ n with e:=n.e.heard fr t }) (by rw [hr];decide)];refine ⟨?_,hr,ht,rfl⟩;have t0:=h.t0;have hok':=hok;unfold Eln.heardOk at hok';simp only [Bool.and_eq_true,Bool.not_eq_true',decide_eq_false_iff_not] at hok';have e:n.e.heard fr t={ (if t>n.e.hd.tm then n.e.down t else n.e) with role:=0,lead:=fr,wait:=0 }:=by unfold Eln.heard;rw [if_pos hok]
  refine h.elec X.I (Nat.le_refl E) (.refl n.id G) ?_ (by rw [ht];omega) ?_ ?_ (λ h=>by rw [hr] at h;rcases h with h|h<;>exact absurd h (by decide)) (λ h=>absurd (hr.symm.trans h) (by decide)) (λ h=>absurd (hr.symm.trans h) (by decide)) h.r0 h.bd.rn ?_
  · rw [e];split<;>exact h.id
  · rw [e];split<;>rfl
  · rw [hr,ht,e]
    split
    · rename_i h1;exact h.A.up h1 (by decide) (by decide)
    · have e2:t=n.e.hd.tm:=by omega
      rw [e2];exact h.A.rest (by decide) (by decide)
  · rw [e];show (0:Int)<=(E:Int);omega
theorem NI.asked (h:NI C E G n F) (X:Zal C.g0 E G) (hE:E<=1000000) {m:Mg} (hk:m.kd=5\/m.kd=7\/m.kd=9) (hto:m.to'=n.id) (hM:Zco C.g0 G m):ZaV C E G (n.asked m):=by
  unfold Rn.asked;split
  · exact (h.put (m:={ kd:=m.kd + 1,to':=m.fr,ix:=m.ix }) (.non (.plain rfl rfl hM.ok.i0 hM.ok.i1) ⟨by show m.kd + 1≠3;omega,by show m.kd + 1≠5;omega,by show m.kd + 1≠7;omega,by show m.kd + 1≠9;omega⟩ rfl rfl)).goes X
  · rename_i h0
    split
    · rename_i h1
      rw [Zll (by simpa using h1)];exact h.goes X
    · rename_i h1
      have hok:n.e.heardOk m.fr m.tm=true:=by simpa using h1
      obtain ⟨h2,hr,ht,hid⟩:=h.heardN X hok;generalize Rn.voted { n with e:=n.e.heard m.fr m.tm } false []=n1 at h2 hr ht hid ⊢;dsimp only;split
      · rename_i h5
        exact ZaV.pre (n:=n) (.refl _ _) (h2.app X hE hr ht.symm hM.ok (hM.m5 (beq_iff_eq.1 h5))) ((Zm1 _ _).trans hid)
      · split
        · rename_i h7
          have hb:=hM.m7 (beq_iff_eq.1 h7);have hel:=hb.el;have hcm:=hb.cm;have hrr:=hb.rr;have hak:=hb.ak;rw [<-ht] at hel hcm hrr hak;have hl:=h2.fl.last;have hc0:=h2.c0;have hF:F.take (min m.com n1.log.last).toNat=(G.h.ll n1.e.hd.tm).take (min m.com n1.log.last).toNat:=by
            rcases hak with h8|⟨k,h8,h9⟩
            · rw [show (min m.com n1.log.last).toNat=0 by omega,List.take_zero,List.take_zero]
            · rw [hto,<-hid] at h9
              rcases (h2.A.aks _ _ h9).2 (min m.com n1.log.last).toNat (by omega) with ⟨_,h10⟩|⟨u',_,h10,h11,_⟩
              · exact h10
              · omega
          have h3:=h2.commitF X (by rw [hr];decide) hel (c:=min m.com n1.log.last) (by omega) (hcm.le (Int.min_le_left _ _)) hF;obtain ⟨e1,e2⟩:=Za4 n1 (min m.com n1.log.last);have elast:n1.log.last=F.length:=hl;have hFl:=X.len h.A.good;generalize n1.commit (min m.com n1.log.last)=n2 at h3 e1 e2 ⊢;have l:Gs n2.id G (G.beat n2.e.hd.tm n2.id m.rnd):=⟨Gh.beat_le,λ t r hb=>by
            rcases hb with hb|⟨h10,_,_⟩
            · exact .inl hb
            · refine .inr λ u c L hv=>?_
              have:=h3.A.vts _ _ _ hv;omega,λ _ _ _=>rfl⟩
          have X1:Zal C.g0 E (G.beat n2.e.hd.tm n2.id m.rnd):=⟨X.I.beat (by rw [e1];exact hrr),X.rz,X.cz,X.gb,X.oe,X.eb⟩;have h4:=(h3.le X.I l (h3.A.beat m.rnd) λ _=>rfl).put (m:={ kd:=8,to':=m.fr,yes:=true,rnd:=m.rnd,ix:=n1.log.last }) (.of8 (.plain rfl rfl (by dsimp only;omega) (by dsimp only;omega)) rfl (.inr (.inr ⟨rfl,rfl,rfl⟩)));exact ZaV.pre (n:=n) (.refl _ _) (ZaV.of (by exact l) X1 h4) (e2.trans hid)
        · split
          · rename_i h9
            exact ZaV.pre (n:=n) (.refl _ _) (h2.install X hE hr ht.symm hM.ok (hM.m9 (beq_iff_eq.1 h9))) ((ZfC _ _).trans hid)
          · exact ZaV.pre (n:=n) (.refl _ _) (h2.goes X) hid
theorem ZmE (n:Rn) (m:Mg):(n.asked m).id=n.id:=by
  unfold Rn.asked;split
  · rfl
  · split
    · rfl
    · dsimp only
      split
      · rw [Zm1,Zcr]
      · split
        · rw [ZkU,(Za4 _ _).2,Zcr]
        · split
          · rw [ZfC,Zcr]
          · rw [Zcr]
theorem NI.readOk (h:NI C E G n F) (X:Zal C.g0 E G) (hr:n.e.role=3) {x:Rq} (hx:RdW C G n.e.hd.tm n.id x) (hw:ZaE n.g.vs n.g.ls x.bh=true):RdO C.aq (x.tok,x.ix):=by
  rcases hx.ok with h1|⟨v,q,h1,h2,h3,h4,h5⟩
  · exact h1
  · exfalso
    obtain ⟨hel,hld,hll⟩:=h.l3 hr;obtain ⟨m,hm1,hm2⟩:=X.I.read hel h1 h2 hx.bn.2 h3 (q:=x.bh) (by rw [hll,<-h.g];exact hw) h4;obtain ⟨⟨L,hL⟩,h6⟩:=h5 m hm2;rcases hx.bh m (ZU.1 hm1) with h7|⟨r,h7,h8⟩
    · rw [h7] at hL
      have:=h.A.vts _ _ _ hL;omega
    · have:=h6 r h8;omega
theorem NI.behind (h:NI C E G n F) (X:Zal C.g0 E G) (hr:n.e.role=3) {fr rnd:Int} (hb:rnd<=0\/G.bt n.e.hd.tm fr rnd):NI C (E + 1) G (n.behind fr rnd) F:=by
  have hs:∀ x∈n.rs.map (Rq.stand fr rnd),RdW C G n.e.hd.tm n.id x/\x.bh.length<=E + 2:=λ x hx=>by
    obtain ⟨z,hz,rfl⟩:=List.mem_map.1 hx;have h1:=h.rs z hz;have h2:=h.bd.bh z hz;unfold Rq.stand;split
    · rename_i h3
      refine ⟨⟨h1.r1,h1.tk,h1.bn,λ w hw=>?_,h1.ok⟩,by dsimp only;rw [List.length_append];simp only [List.length_cons,List.length_nil];omega⟩;rcases List.mem_append.1 hw with hw|hw
      · exact h1.bh w hw
      · rw [List.mem_singleton] at hw
        subst hw;have:=h1.r1;exact .inr ⟨rnd,h3,hb.resolve_left (by omega)⟩
    · exact ⟨h1,by omega⟩
  have hl:(n.rs.map (Rq.stand fr rnd)).length<=64:=by rw [List.length_map];exact h.bd.rs
  unfold Rn.behind;generalize n.rs.map (Rq.stand fr rnd)=l at hs hl ⊢;dsimp only;exact { h with
    rs:=λ x hx=>(hs x (List.mem_filter.1 hx).1).1
    rl:=λ _=>hr
    rd:=λ x hx=>by
      rcases List.mem_append.1 hx with hx|hx
      · exact h.rd x hx
      · obtain ⟨z,hz,rfl⟩:=List.mem_map.1 hx
        obtain ⟨hz1,hz2⟩:=List.mem_filter.1 hz;exact h.readOk X hr (hs z hz1).1 hz2
    bd:=⟨Nat.le_trans (List.length_filter_le _ _) hl,λ x hx=>by have:=(hs x (List.mem_filter.1 hx).1).2;omega,by
        show (n.rrd++_).length<=_;rw [List.length_append,List.length_map];have h1:=List.length_filter_le (Rq.wins n.g) l;have h2:=h.bd.rr;omega,by show n.rnd<=((E + 1:Nat):Int);have:=h.bd.rn;omega,by show n.e.wait<=((E + 1:Nat):Int);have:=h.bd.wt;omega⟩
    dk:=⟨h.dk.hd,h.dk.sn,h.dk.l⟩ }
end
section
open Go Go.VC Tryz
open Go.Rf
variable {G G':Gh} {y:Int} {E E':Nat} {n:Rn} {F:List Ey} {C:Ct}
theorem Zev {p:Int} {x:Pe} (h:n.peer p=some x):n.ps.isSome=true:=by
 cases hq:n.ps with
 |none=>unfold Rn.peer at h;rw [hq] at h;cases h
 |some l=>rfl
theorem NI.said (h:NI C E G n F) (X:Zal C.g0 E G) (hE:E + 1<=1000000) {m:Mg} (hk:m.kd=6\/m.kd=8\/m.kd=10) (hM:Zco C.g0 G m):ZaV C (E + 1) G (n.said m):=by
 have hE1:E<=E + 1:=Nat.le_succ E;have hE2:E<=1000000:=by omega
 unfold Rn.said;split
 ·exact h.ballot X hE (λ h=>absurd h (by show (4:Int)≠3;decide)) (λ _ h=>by cases h)
 ·split
  ·exact (h.goes X).more hE1
  ·rename_i h1 h2
   have ht:m.tm=n.e.hd.tm:=by omega
   split
   ·exact (h.goes X).more hE1
   ·rename_i x hp
    have hr:=h.hr (Zev hp);have hx:=h.ps _ _ hp;split
    ·rename_i h8
     have hb:=hM.m8 (beq_iff_eq.1 h8);rw [ht] at hb;have hB:=h.behind X hr hb;split
     ·exact ZaV.pre (n:=n) (.refl _ _) ((hB.send (X.more hE1) hE _).goes (X.more hE1)) ((Zba _ _).1.trans rfl)
     ·exact ZaV.pre (n:=n) (.refl _ _) (hB.goes (X.more hE1)) rfl
    ·rename_i h8
     have h8:m.kd≠8:=λ e=>h8 (beq_iff_eq.2 e);split
     ·rename_i h9
      rw [Bool.and_eq_true] at h9;have h610:m.kd=6\/m.kd=10:=by
       rcases hk with hk|hk|hk
       ·exact .inl hk
       ·exact absurd hk h8
       ·exact .inr hk
      obtain ⟨k,hk1,hk2⟩:=hM.m6 h610 h9.1;rw [ht] at hk2;have hm:(x.acked m.ix).2.mt<=0\/∃ k:Nat,(x.acked m.ix).2.mt<=k/\G.ak n.e.hd.tm m.fr k:=by
       rcases ZmK x m.ix with e|e
       ·rw [e];exact hx
       ·rw [e]
        rcases hx with h3|⟨j,h3,h4⟩
        ·exact .inr ⟨k,by omega,hk2⟩
        ·rcases Int.le_total x.mt m.ix with h5|h5
         ·exact .inr ⟨k,by omega,hk2⟩
         ·exact .inr ⟨j,by omega,h4⟩
      have hS:=h.setP hm;split
      ·exact ZaV.pre (n:=n) (.refl _ _) (ZaV.more (ZaV.bind (hS.advance X hr) (λ G1 F1 X1 h1=>(h1.send X1 hE2 _).goes X1) (Zba _ _).1) hE1) ((Zba _ _).1.trans ((ZaT _).trans rfl))
      ·exact ZaV.pre (n:=n) (.refl _ _) (((hS.send X hE2 _).goes X).more hE1) ((Zba _ _).1.trans rfl)
     ·split
      ·exact (h.goes X).more hE1
      ·split
       ·exact ((NI.setP h (by rw [ZkY];exact hx)).goes X).more hE1
       ·have hS:=NI.setP (x:=(x.refused m.ix m.hint).2) h (by rw [Zjx];exact hx)
        split
        ·exact ZaV.pre (n:=n) (.refl _ _) (((hS.send X hE2 _).goes X).more hE1) ((Zba _ _).1.trans rfl)
        ·exact (hS.goes X).more hE1
theorem Zni (n:Rn) (m:Mg):(n.said m).id=n.id:=by
 unfold Rn.said;split
 ·exact ZhM _ _
 ·split
  ·rfl
  ·split
   ·rfl
   ·split
    ·split
     ·exact (Zba _ _).1.trans rfl
     ·rfl
    ·split
     ·split
      ·exact (Zba _ _).1.trans ((ZaT _).trans rfl)
      ·exact (Zba _ _).1.trans rfl
     ·split
      ·rfl
      ·split
       ·rfl
       ·split
        ·exact (Zba _ _).1.trans rfl
        ·rfl
theorem NI.step (h:NI C E G n F) (X:Zal C.g0 E G) (hE:E + 1<=1000000) {m:Mg} (hM:Zco C.g0 G m):ZaV C (E + 1) G (n.step m):=by
 have hE1:E<=E + 1:=Nat.le_succ E;unfold Rn.step;split
 ·exact (h.goes X).more hE1
 ·rename_i h1
  have hto:m.to'=n.id:=by
   simp only [Bool.not_eq_true',Bool.not_eq_false] at h1;unfold Rn.hears at h1;simp only [Bool.and_eq_true,Bool.not_eq_true',bne_eq_false_iff_eq] at h1;exact h1.1.1.1
  split
  ·exact h.ballot X hE hM.m3 hM.m4
  ·split
   ·rename_i h2
    simp only [Bool.or_eq_true,beq_iff_eq] at h2;exact (h.asked X (by omega) (by omega) hto hM).more hE1
   ·split
    ·rename_i h2
     simp only [Bool.or_eq_true,beq_iff_eq] at h2;exact h.said X hE (by omega) hM
    ·exact (h.goes X).more hE1
theorem Zne (n:Rn) (m:Mg):(n.step m).id=n.id:=by
 unfold Rn.step;split
 ·rfl
 ·split
  ·exact ZhM _ _
  ·split
   ·exact ZmE _ _
   ·split
    ·exact Zni _ _
    ·rfl
theorem NI.lead (h:NI C E G n F) (X:Zal C.g0 E G) (hE:E + 1<=1000000) (hr:n.e.role=3) {kd:Int} {dt:List Int} (hb:Zx dt)
  (hch:kd=2->∃ i b,G.h.rc n.e.hd.tm i b/\∀ (j:Nat) (d:Ey),i<=j->F[j]? =some d->Zfe d=false):ZaV C (E + 1) G (n.lead kd dt).2:=by
 obtain ⟨h1,h2,h3⟩:=h.enter X hr hb hch;unfold Rn.lead;dsimp only;split
 ·exact h1
 ·exact h1.advAll h2 hE
theorem Zlb (n:Rn) (kd:Int) (dt:List Int):(n.lead kd dt).2.id=n.id:=by
 unfold Rn.lead;dsimp only;split
 ·exact (ZgD _ _ _).2
 ·rw [Zje,ZaT];exact (ZgD _ _ _).2
theorem NI.propose (h:NI C E G n F) (X:Zal C.g0 E G) (hE:E + 1<=1000000) {dt:List Int} (hb:Zx dt):ZaV C (E + 1) G (n.propose dt).2:=by
 unfold Rn.propose;split
 ·exact (h.goes X).more (Nat.le_succ E)
 ·rename_i h1
  split
  ·exact (h.goes X).more (Nat.le_succ E)
  ·exact h.lead X hE (by simpa using h1) hb (λ e=>absurd e (by decide))
theorem ZjE (n:Rn) (dt:List Int):(n.propose dt).2.id=n.id:=by
 unfold Rn.propose;split
 ·rfl
 ·split
  ·rfl
  ·exact Zlb _ _ _
theorem NI.ownE (h:NI C E G n F) (X:Zal C.g0 E G) (ho:n.own=true):n.e.role=3/\G.h.bn n.e.hd.tm<n.log.com.toNat:=by
 unfold Rn.own at ho;simp only [Bool.and_eq_true,beq_iff_eq] at ho;obtain ⟨⟨h1,h2⟩,hr⟩:=ho;refine ⟨hr,?_⟩;obtain ⟨t1,t2,t3⟩:=h.fl.term h1;obtain ⟨hel,hld,hll⟩:=h.l3 hr;have hc:=h.c0;have hpos:=X.I.pos _ hel;rcases Nat.lt_or_ge (G.h.bn n.e.hd.tm) n.log.com.toNat with h4|h4
 ·exact h4
 ·exfalso
  rcases Nat.eq_zero_or_pos n.log.com.toNat with h5|h5
  ·rw [h5,List.take_zero] at t3
   have:ltm []=0:=rfl;omega
  ·have hk:n.log.com.toNat - 1<F.length:=by omega
   have he:=List.getElem?_eq_getElem hk;have h6:=Zbu he;rw [show n.log.com.toNat - 1 + 1=n.log.com.toNat by omega] at h6;have h7:=X.I.ok.old n.e.hd.tm (n.log.com.toNat - 1) F[n.log.com.toNat - 1] hel (by rw [hll];exact he) (by omega);omega
theorem NI.change (h:NI C E G n F) (X:Zal C.g0 E G) (hE:E + 1<=1000000) (kd nd:Int):ZaV C (E + 1) G (n.change kd nd).2:=by
 have hE1:=Nat.le_succ E;unfold Rn.change;split
 ·exact (h.goes X).more hE1
 ·split
  ·exact (h.goes X).more hE1
  ·rename_i h1
   split
   ·exact (h.goes X).more hE1
   ·rename_i h2
    simp only [Bool.or_eq_true,Bool.not_eq_true',not_or,Bool.not_eq_false,Bool.not_eq_true] at h2;obtain ⟨⟨_,ho⟩,ha⟩:=h2;obtain ⟨hr,hbn⟩:=h.ownE X ho;have hc:=h.c0;have hk:(1<=kd/\kd<=3)/\1<=nd/\nd<=15:=by
     have h1':(chG n.g.vs n.g.ls kd nd).2.2=0:=by simpa using h1
     refine Classical.byContradiction λ hn=>?_;have:=ZbX (v:=n.g.vs) (l:=n.g.ls) (kind:=kd) (n:=nd) (.inr (by omega));rw [this] at h1';exact absurd h1' (by decide)
    refine h.lead X hE hr (λ z hz=>?_) λ _=>?_
    ·rcases List.mem_append.1 hz with hz|hz
     ·exact Zcb (by omega) z hz
     ·exact Zcb (by omega) z hz
    ·obtain ⟨_,_,_,_,h5⟩:=h.A.l3 hr
     obtain ⟨b,hb⟩:=h5 hbn;refine ⟨_,b,hb,λ j d hj hd=>?_⟩;rw [h.fl.get _ hc.2.1,h.fl.last,List.any_eq_false] at ha;have hjl:=ZR hd;have hm:d∈(F.drop n.log.com.toNat).take ((F.length:Int) - n.log.com).toNat:=by
      refine List.mem_of_getElem? (i:=j - n.log.com.toNat) ?_;rw [List.getElem?_take_of_lt (by omega),List.getElem?_drop,show n.log.com.toNat + (j - n.log.com.toNat)=j by omega];exact hd
     have:=ha d hm;unfold Zfe;simpa using this
theorem ZlH (n:Rn) (kd nd:Int):(n.change kd nd).2.id=n.id:=by
 unfold Rn.change;split
 ·rfl
 ·split
  ·rfl
  ·split
   ·rfl
   ·exact Zlb _ _ _
end
section
open Go Go.VC Tryz
open Go.Rf
variable {G G':Gh} {y:Int} {E E':Nat} {n:Rn} {F:List Ey} {C:Ct} {g0:Gp}
theorem Zi2 {h:Zl} {t:Int}:∀ (N:Nat) {v:Int},(v - t).toNat<=N->h.el v->t<v->∃ v,h.el v/\t<v/\∀ v',h.el v'->t<v'->v<=v'
  |0,v,hN,_,ht=>by omega
  |N + 1,v,hN,hv,ht=>by
    by_cases hx:∃ v',h.el v'/\t<v'/\v'<v
    · obtain ⟨v',h1,h2,h3⟩:=hx
      exact Zi2 N (by omega) h1 h2
    · refine ⟨v,hv,ht,λ v' h1 h2=>?_⟩
      refine Classical.byContradiction λ h3=>hx ⟨v',h1,h2,by omega⟩
theorem ZoQ.of (I:Zaw g0 G) {t v r:Int} (hv:G.h.el v) (ht:t<v) (hr:G.rr t<r):ZoQ g0 G t r:=by
  obtain ⟨v,h1,h2,h3⟩:=Zi2 (h:=G.h) (t:=t) _ (Nat.le_refl _) hv ht;obtain ⟨q,h4,h5⟩:=I.win v h1;refine ⟨v,q,h1,h2,λ k e he=>?_,h4,λ p hp=>⟨?_,λ r' hb=>?_⟩⟩
  · have h6:=I.lb_lt h1 k e he
    have h7:=(I.lb_good h1 k e he).1;refine Classical.byContradiction λ h8=>?_;have:=h3 _ h7 (by omega);omega
  · obtain ⟨L,hL,_⟩:=h5 p hp
    exact ⟨L,hL⟩
  · have:=I.btr _ _ _ hb;omega
def Ct.ask (C:Ct) (t m:Int):Ct:={ C with aq:=C.aq++[(t,m)],tok:=t }
def Ct.tk (C:Ct) (t:Int):Ct:={ C with tok:=t }
def Ct.wd (C:Ct) (d:Dk):Ct:={ C with d:=d }
theorem NI.asks (h:NI C E G n F) (hq:n.rrd=[]) {t m:Int} (ht:C.tok<t):NI (C.ask t m) E G n F:={ h with
  rs:=λ x hx=>by
    have a:=h.rs x hx;refine ⟨a.r1,by have:=a.tk;show x.tok<=t;omega,a.bn,a.bh,a.ok.imp_left λ b c hc e=>?_⟩;rcases List.mem_append.1 hc with hc|hc
    · exact b c hc e
    · rw [List.mem_singleton] at hc
      subst hc;have e:t=x.tok:=e;have:=a.tk;omega
  rd:=λ x hx=>by rw [hq] at hx;cases hx
  dk:=h.dk }
theorem NI.tk (h:NI C E G n F) {t:Int} (ht:C.tok<=t):NI (C.tk t) E G n F:={ h with
  rs:=λ x hx=>by
    have a:=h.rs x hx;exact ⟨a.r1,by have:=a.tk;show x.tok<=t;omega,a.bn,a.bh,a.ok⟩
  dk:=h.dk }
theorem NI.read (h:NI C E G n F) (X:Zal C.g0 E G) (hq:n.rrd=[]) {t m:Int} (ht:C.tok<t) (has:∀ a∈C.aq,a.1<=C.tok) (hm:m<=0\/∃ t k b,G.h.rc t k b/\m<=(k:Nat)) (h0:(n.read t).1=0):ZaV (C.ask t m) (E + 1) G (n.read t).2:=by
  have h':=h.asks hq (m:=m) ht;unfold Rn.read at h0 ⊢;by_cases h1:(!n.own||decide ((n.rs.length:Int) >= 64))=true
  · rw [if_pos h1] at h0;exact absurd h0 (by show ¬ (7:Int)=0;decide)
  · rw [if_neg h1]
    simp only [Bool.or_eq_true,Bool.not_eq_true',decide_eq_true_eq,not_or,Bool.not_eq_false] at h1;obtain ⟨ho,hl⟩:=h1;obtain ⟨hr,hbn⟩:=h.ownE X ho;obtain ⟨hel,hld,hll⟩:=h.l3 hr;have hc0:=h.c0;have hrr:=h.rr hr;have r0:=h.r0;have hx:RdW (C.ask t m) G n.e.hd.tm n.id ⟨t,n.log.com,n.rnd + 1,[n.id]⟩:=by
      refine ⟨by show 1<=n.rnd + 1;omega,Int.le_refl _,⟨hel,by rw [hll];omega⟩,λ z hz=>.inl (List.mem_singleton.1 hz),?_⟩;have done:m<=n.log.com->RdO (C.ask t m).aq (t,n.log.com):=λ hle a ha e=>by
        rcases List.mem_append.1 ha with ha|ha
        · have:=has a ha
          have e:a.1=t:=e;omega
        · rw [List.mem_singleton] at ha;subst ha;exact hle
      by_cases hmc:m<=n.log.com
      · exact .inl (done hmc)
      · rcases hm with h2|⟨t0,k,b,h2,h3⟩
        · exact .inl (done (by omega))
        · have hel0:=(X.I.ok.rc _ _ _ h2).1
          refine .inr (ZoQ.of X.I hel0 ?_ (by show G.rr n.e.hd.tm<n.rnd + 1;omega));rcases Int.lt_trichotomy t0 n.e.hd.tm with h4|h4|h4
          · have:=(X.I.lc _ _ _ _ h2 hel h4).1
            omega
          · rw [h4] at h2
            have:=(h.A.l3 hr).2.2.2.1 _ _ h2;omega
          · exact h4
    split
    · rename_i hw
      have hd:=h'.readOk X hr hx hw;refine NI.goes (F:=F) ?_ (X.more (Nat.le_succ E));exact { h'.more (Nat.le_succ E) with
        rd:=λ x hx=>by
          rcases List.mem_append.1 hx with hx|hx
          · exact h'.rd x hx
          · rw [List.mem_singleton] at hx;subst hx;exact hd
        bd:=⟨h.bd.rs,λ x hx=>by have:=h.bd.bh x hx;omega,by
          show (n.rrd++[_]).length<=_;rw [hq];show 1<=64 * (E + 1);omega,by show n.rnd<=((E + 1:Nat):Int);have:=h.bd.rn;omega,by show n.e.wait<=((E + 1:Nat):Int);have:=h.bd.wt;omega⟩
        dk:=⟨h.dk.hd,h.dk.sn,h.dk.l⟩ }
    · have l:Gs n.id G (G.round n.e.hd.tm (n.rnd + 1)):=⟨Gh.round_le,λ _ _ h=>.inl h,λ t' _ hn=>by
        show (if t'=n.e.hd.tm then _ else G.rr t')=G.rr t'
        rw [if_neg (λ e=>hn (by rw [e];exact hld))]⟩
      have X1:Zal C.g0 (E + 1) (G.round n.e.hd.tm (n.rnd + 1)):=⟨X.I.round _ _,λ t'=>by
        by_cases e:t'=n.e.hd.tm
        · exact .inl (e ▸ hel)
        · rcases X.rz t' with h2|h2
          · exact .inl h2
          · exact .inr (by show (if t'=n.e.hd.tm then _ else G.rr t')=0;rw [if_neg e];exact h2),X.cz,(X.more (Nat.le_succ E)).gb,X.oe,X.eb⟩
      refine ZaV.of (by rw [Zjd];exact l) X1 (NI.beats (F:=F) ?_ hr);exact { h' with
        A:=h.A.round _ _
        rr:=λ _=>by
          show (if n.e.hd.tm=n.e.hd.tm then max (n.rnd + 1) (G.rr n.e.hd.tm) else _)=n.rnd + 1
          rw [if_pos rfl];omega
        r0:=by show 0<=n.rnd + 1;omega
        ms:=λ m hm=>(h.ms m hm).le l.le
        rs:=λ x hx'=>by
          rcases List.mem_append.1 hx' with hx'|hx'
          · exact (h'.rs x hx').le X.I l
          · rw [List.mem_singleton] at hx';subst hx';exact hx.le X.I l
        rl:=λ _=>hr
        bd:=⟨by show (n.rs++[_]).length<=64;rw [List.length_append];simp only [List.length_cons,List.length_nil];omega,λ x hx=>by
          rcases List.mem_append.1 hx with hx|hx
          · have:=h.bd.bh x hx;omega
          · rw [List.mem_singleton] at hx;subst hx;show 1<=_;omega,by show n.rrd.length<=_;rw [hq];exact Nat.zero_le _,by show n.rnd + 1<=((E + 1:Nat):Int);have:=h.bd.rn;omega,by show n.e.wait<=((E + 1:Nat):Int);have:=h.bd.wt;omega⟩
        dk:=⟨h.dk.hd,h.dk.sn,h.dk.l⟩ }
theorem Znj {t:Int} (h:(n.read t).1≠0):(n.read t).2=n:=by
  unfold Rn.read at *;by_cases h1:(!n.own||decide ((n.rs.length:Int) >= 64))=true
  · rw [if_pos h1]
  · rw [if_neg h1] at h
    exfalso;apply h;split<;>rfl
theorem ZkR (n:Rn) (t:Int):(n.read t).2.id=n.id:=by
  unfold Rn.read;split
  · rfl
  · split
    · rfl
    · unfold Rn.beats
      rw [ZbY]
end
end Go.Proofs.YthpmfnffkjjlnaaGreat
