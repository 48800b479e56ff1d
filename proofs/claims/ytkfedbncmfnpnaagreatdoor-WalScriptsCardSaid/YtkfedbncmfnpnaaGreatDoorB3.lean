/- The disk: Unlink, Rename. Condition: none. -/
import Derived.Test.YtkfedbncmfnpnaaGreatDoorB2
import Derived.Shelf.SlIter.Nil
import Derived.Shelf.SortM.Plain
import Derived.Shelf.SortM.SortNone
import Derived.Ground.GgzProg
import Derived.Ground.SlgmProg
import Derived.Test.YtkfedbncmfnpnaaGreatDoorProg
import Derived.Sort.Walk0
import Derived.KernelRfl
import Derived.Lib.BitFns
import Derived.Test.YtkfedbncmfnpnaaGreatDoorB1
set_option linter.unusedVariables false
set_option linter.unusedSimpArgs false
namespace Go.Proofs.YtkfedbncmfnpnaaGreatDoor
section
open Go Go.VC Tryz
variable {R:Cx} {Hs Rest:List HP} {w:World}
theorem Zbd {β:Type} (k:ByteArray):∀ l:List (ByteArray × β),(Zaa k l).Sublist l
 |[]=>List.Sublist.refl _
 |x::l=>by
  rw [Zaa];split
  ·exact List.sublist_cons_self _ _
  ·exact (Zbd k l).cons_cons _
theorem Zdc {fs:Fs} (h:Uni fs) (k:ByteArray):Uni (Zaa k fs):=((Zbd k fs).map _).nodup h
theorem Zi6 {fs:Fs} (h:ZdH fs) (k:ByteArray):ZdH (Zaa k fs):=λ e he=>h e ((Zbd k fs).subset he)
def ZX (k:ByteArray) (st:DS):DS × Int:=if (Zw k st.fs).isSome then ({ st with fs:=Zaa k st.fs },0) else (st,2)
def Zi (st:DS) (k:ByteArray):DS × Int:=doing st (Zm k) (ZX k)
theorem Zqi {st:DS} (i:Inv st) (k:ByteArray):Inv { st with fs:=Zaa k st.fs }:=
 { toCounts:=⟨i.a0,i.a1,i.f0,i.f1⟩,r0:=i.r0,r1:=i.r1,full:=by have:=ZeO k st.fs;have:=i.full;simp only;omega,uni:=Zdc i.uni k,names:=λ x hx=>i.names x (((Zbd k st.fs).map _).subset hx),sure:=Zi6 i.sure k }
theorem Zba {st:DS} (i:Inv st) (k:ByteArray):Inv (Zi st k).1:=by
 unfold Zi doing;split
 ·unfold ZX
  split
  ·exact Zqi (ZbN i _) k
  ·exact ZbN i _
 ·exact ZbN i _
theorem DO.shut {d m:Nat} {E:List DE} {st:DS} (hE:er E=st.fs) (hw:Sat R (DO d m E st Hs) w):Sat R (Zl d st::Hs) w:=Sat.disk.2 ⟨m,E,hE,hw⟩
theorem ZjY {d m q bd bn:Nat} {st:DS} {a b:List DE} {k:ByteArray} {f:Fl} (i:Inv st) (ha:Zw k a=none) (hE:er (a++(k,q,f)::b)=st.fs) (hw:Sat R (DO d m (a++(k,q,f)::b) st Hs) w)
  {Rest1 Rest2:List HP} {T1 T2:TypeId} [t1:Zcy bd Hs (.cells [.pointer (some ⟨d,0,none⟩)].toArray T1 (0,0)) Rest1] [t2:Zcy bn Hs (.cells [.string k].toArray T2 (0,0)) Rest2]:
  Zq prog 141 #[.pointer (some ⟨q,0,none⟩),.pointer (some ⟨bd,0,none⟩),.pointer (some ⟨bn,0,none⟩)] w λ r w'=>r=.tuple #[]/\(ZX k st).2=0/\Sat R (Zl d (ZX k st).1::Hs) w':=by
 have hk:Zw k st.fs=some f:=by rw [<-hE,ZbT,Zb6,ZdX (by rw [Zcj,ha];rfl) (Zbg k)]
 have e:ZX k st=({ st with fs:=Zaa k st.fs },0):=if_pos (by rw [hk];rfl);rw [e];have hw:=DO.shut hE hw;apply Ztz;refine Zb.mk rfl ⟨some ⟨d,0,none⟩,At.own (eqS hw) (by exact ⟨rfl,trivial⟩),Zb.mk rfl ⟨k,At.own (eqS hw) (by exact ⟨rfl,trivial⟩),?_⟩⟩;refine (Zp1 i k hw).use ?_;rintro _ w ⟨rfl,hw⟩;exact ⟨rfl,rfl,rfl,hw⟩
theorem Sat.toTru:∀ {As:List HP} {R:Cx} {w:World},Sat R (As++Hs) w->Sat R (As++[VC.tru]) w
 |[],R,w,h=>by
  have:∀ {Hs:List HP} {R:Cx},Sat R (VC.tru::Hs) w->Sat R [VC.tru] w:=λ {Hs}=>by
   induction Hs with
   |nil=>exact λ h=>h
   |cons H Hs ih=>exact λ h=>ih h.swap.absorb
  exact this h.tru
 |A::As,R,w,h=>h.cons λ _ h=>Sat.toTru (As:=As) h
theorem ZgV {d:Nat} {st:DS} {k:ByteArray} (i:Inv st) (hw:Sat R (Zl d st::Hs) w):
  Zq prog 104 #[.pointer (some ⟨d,0,none⟩),.string k] w λ r w'=>r=.int .i64 (Zi st k).2/\Sat R (Zl d (Zi st k).1::Hs) w':=by
 apply Zt5;refine Zd hw λ bd w hw=>Zd hw λ bn w hw=>?_;have hw:Sat R (Zl d st::box bd (.pointer (some ⟨d,0,none⟩)) 25::box bn (.string k) 9::Hs) w:=
  (hw.take (Zl d st)).cons λ _ h=>h.swap
 have toS:∀ {w},Sat R (box bd (.pointer (some ⟨d,0,none⟩)) 25::box bn (.string k) 9::Hs) w->Sat R (box bd (.pointer (some ⟨d,0,none⟩)) 25::box bn (.string k) 9::VC.tru::[]) w:=λ h=>
  Sat.toTru (As:=[_,_]) h
 have hm:∀ (R:Cx) (X:List HP) st m a q f b w,Inv st->Zw k a=none->er (a++(k,q,f)::b)=st.fs->Sat R (DO d m (a++(k,q,f)::b) st (X++(box bd (.pointer (some ⟨d,0,none⟩)) 25::box bn (.string k) 9::Hs))) w->
   Zcm prog cl (.func (.func 141) #[] #[.pointer (some ⟨bd,0,none⟩),.pointer (some ⟨bn,0,none⟩)]) [.pointer (some ⟨q,0,none⟩)] w (λ e w'=>e=.returned (.tuple #[])/\(ZX k st).2=0/\Sat R (Zl d (ZX k st).1::(X++(box bd (.pointer (some ⟨d,0,none⟩)) 25::box bn (.string k) 9::Hs))) w'):=by
  intro R X st m a q f b w i ha hE hw;show Calls prog _ _ w _;refine (ZjY i ha hE hw).use ?_;rintro _ w ⟨rfl,h⟩;exact ⟨rfl,h⟩
 have hn:∀ st,Zw k st.fs=none->ZX k st=(st,2):=by intro st h;unfold ZX;rw [h];rfl
 refine Zs (λ w=>Sat R (box bd (.pointer (some ⟨d,0,none⟩)) 25::box bn (.string k) 9::tru::[]) w) hw (λ w h=>toS h.drop) λ w hw=>?_;refine ⟨_,At.own Ze (by exact ⟨rfl,trivial⟩),_,At.own Ze (by exact ⟨rfl,trivial⟩),_,At.own Ze (by exact ⟨rfl,trivial⟩),_,At.own Ze (by exact ⟨rfl,trivial⟩),?_,?_⟩
 ·refine (ZfB (ZX k) i rfl hw hm hn).use ?_
  rintro c w ⟨Hs',hw,back,k2⟩;refine ⟨c,rfl,toS (back _ _ hw.drop),Zd hw λ bt w hw=>?_⟩;obtain ⟨hc,hwl⟩:=Sat.lend.1 hw;refine ⟨toS (back _ _ hw.drop.drop),(k2 _ _ [k] w hwl (Zj7 hc) (by simp)).use ?_⟩;rw [Zgl];rintro _ w ⟨rfl,hw⟩;have hw:=(Sat.lend.2 ⟨hc,hw⟩).drop;exact ⟨_,rfl,toS (back _ _ hw.drop),rfl,hw.cons λ _ h=>(back _ _ h).drop.drop⟩
 ·refine Zd hw λ bt w hw=>?_
  obtain ⟨hc,hwl⟩:=Sat.lend.1 hw;refine ⟨toS hw.drop.drop,?_⟩;refine (ZfB (ZX k) i rfl hwl hm hn).use ?_;rintro c w ⟨Hs',hw,back,k2⟩;refine ⟨c,rfl,toS (back _ _ (Sat.lend.2 ⟨hc,hw⟩).drop.drop),(k2 _ _ [k] w hw (Zj7 hc) (by simp)).use ?_⟩;rw [Zgl];rintro _ w ⟨rfl,hw⟩;have hw:=(Sat.lend.2 ⟨hc,hw⟩).drop;exact ⟨_,rfl,toS (back _ _ hw.drop),rfl,hw.cons λ _ h=>(back _ _ h).drop.drop⟩
end
section
open Go Go.VC Tryz
variable {R:Cx} {Hs Rest:List HP} {w:World}
theorem ZjE {β γ:Type} (g:β->γ) (k:ByteArray):∀ l:List (ByteArray × β),(Zaa k l).map (λ e=>(e.1,g e.2))=Zaa k (l.map λ e=>(e.1,g e.2))
 |[]=>rfl
 |e::l=>by
  rw [Zaa,List.map_cons,Zaa];split
  ·rfl
  ·rw [List.map_cons,ZjE g k l]
theorem ZfN {β:Type} {k:ByteArray}:∀ {l:List (ByteArray × β)},Zw k l=none->Zaa k l=l
 |[],_=>rfl
 |e::l,h=>by
  rw [Zw] at h;split at h
  ·cases h
  ·rename_i hne;rw [Zaa,if_neg hne,ZfN h]
theorem ZaA {β:Type} {k k2:ByteArray} (hne:k≠k2):∀ {l:List (ByteArray × β)},Zw k (Zaa k2 l)=Zw k l
 |[]=>rfl
 |e::l=>by
  rw [Zaa];split
  ·rename_i h
   have:=(MapKept.bytes_beq _ _).1 h;rw [Zw,<-this,if_neg (by rw [Zl8 hne];simp)]
  ·rw [Zw,Zw,ZaA hne]
theorem Zqa (k:ByteArray) (E:List DE):er (Zaa k E)=Zaa k (er E):=ZjE (λ x:Nat × Fl=>x.2) k E
theorem Zrf (k:ByteArray) (E:List DE):ZbQ (Zaa k E)=Zaa k (ZbQ E):=ZjE (λ x:Nat × Fl=>Value.pointer (some ⟨x.1,0,none⟩)) k E
theorem Zp2 {d m:Nat} {E:List DE} {st:DS} (i:Inv st) (k:ByteArray) (hE:er E=st.fs) (hw:Sat R (DO d m E st Hs) w):
  Zq prog 142 #[.pointer (some ⟨d,0,none⟩),.string k] w λ r w'=>r=.tuple #[]/\Sat R (DO d m (Zaa k E) { st with fs:=Zaa k st.fs } Hs) w':=by
 have hnn:=ZbG st.fs;have r1:=i.r1;have hfull:=i.full;apply ZqA;refine Zb.mk rfl ⟨some m,At.own (eqS hw) (by exact ⟨rfl,trivial⟩),_,_,λ w' hw'=>DO.look (eqS hw _ hw') k true,?_⟩;refine Br.mk (λ hk=>?_) (λ hk=>?_)
 ·obtain ⟨⟨q,f⟩,hf⟩:=Option.isSome_iff_exists.1 hk
  obtain ⟨a,b,rfl,ha⟩:=ZI hf;rw [hf];have ht:total st.fs=total (er a++er b) + f.b.length:=by rw [<-hE,ZbT,Zb6,Zbl]
  have hnn2:=ZbG (er a++er b);have hw:Sat R (Zat (a++(k,q,f)::b)::pts d (Zbf st m)::Zaj m (ZbQ (a++(k,q,f)::b))::Hs) w:=(hw.cons λ _ h=>h.swap).swap;obtain ⟨s,hw⟩:=Sat.file.1 (Sat.split.1 hw);have hlen:s.len=f.b.length:=by have:=Own.len hw.swap;rwa [List.length_map] at this
  refine Zv hw λ w hw=>?_;refine Zb.mk rfl ⟨total st.fs,At.own Ze (by exact ⟨rfl,trivial⟩),Zb.mk rfl ⟨s,by rw [Zf];exact At.own Ze (by exact ⟨rfl,trivial⟩),Zb.mk rfl ?_⟩⟩;rw [Zg (by omega) (by omega)];refine Zc hw (by kernel_rfl) rfl (by simp [Value.cells]) λ w hw=>Zb.mk rfl ⟨some m,At.own (eqS hw) (by exact ⟨rfl,trivial⟩),?_⟩;refine Zaj.del Zul (hw.take (Zaj m (ZbQ (a++(k,q,f)::b)))) k λ w hw=>⟨rfl,?_⟩;have ep:Zaa k (ZbQ (a++(k,q,f)::b))=ZbQ (a++b):=by
   rw [ZgG,show ZbQ ((k,q,f)::b)=(k,Value.pointer (some ⟨q,0,none⟩))::ZbQ b from rfl,ZbM (by rw [ZfA,ha];rfl) (Zbg k),<-ZgG]
  have eE:Zaa k (a++(k,q,f)::b)=a++b:=ZbM ha (Zbg k);have ef:Zaa k st.fs=er (a++b):=by rw [<-hE,<-Zqa,eE]
  rw [ep] at hw;rw [eE];unfold DO Zbf;simp only [ef,ZbT];have e3:total st.fs - (s.len:Int)=total (er a++er b):=by omega
  rw [e3] at hw;exact hw.swap.cons λ _ h=>h.cons λ _ h=>h.drop.drop
 ·simp only [Option.isSome_eq_false_iff,Option.isNone_iff_eq_none] at hk
  rw [ZfN hk,ZfN (by rw [<-hE,Zcj,hk];rfl)];exact ⟨rfl,hw⟩
def Zan (k to:ByteArray) (st:DS):DS × Int:=
 match Zw k st.fs with
 |some f=>if k=to then (st,0) else ({ st with fs:=Zaa k (Zaa to st.fs)++[(to,f)] },0)
 |none=>(st,2)
def ZY (st:DS) (k to:ByteArray):DS × Int:=doing st (Zm k && Zm to) (Zan k to)
theorem ZaP {β:Type} (k:ByteArray):∀ {l:List (ByteArray × β)},(l.map (·.1)).Nodup->Zw k (Zaa k l)=none
 |[],_=>rfl
 |e::l,h=>by
  rw [List.map_cons,List.nodup_cons] at h;rw [Zaa];split
  ·rename_i hk
   have e1:=(MapKept.bytes_beq _ _).1 hk;exact Z2 (by rw [e1];exact h.1)
  ·rename_i hk
   rw [Zw,if_neg hk,ZaP k h.2]
theorem Zfn {k:ByteArray} {f:Fl}:∀ {fs:Fs},Zw k fs=some f->total fs=total (Zaa k fs) + f.b.length
 |fs,h=>by
  obtain ⟨a,b,rfl,ha⟩:=ZI h;rw [ZbM ha (Zbg k),Zbl]
theorem Zke {d m q bd bn bt:Nat} {st:DS} {a b:List DE} {k to:ByteArray} {f:Fl} (i:Inv st) (ha:Zw k a=none) (hE:er (a++(k,q,f)::b)=st.fs) (hw:Sat R (DO d m (a++(k,q,f)::b) st Hs) w)
  {Rest1 Rest2 Rest3:List HP} {T1 T2 T3:TypeId} [t1:Zcy bd Hs (.cells [.pointer (some ⟨d,0,none⟩)].toArray T1 (0,0)) Rest1] [t2:Zcy bn Hs (.cells [.string k].toArray T2 (0,0)) Rest2] [t3:Zcy bt Hs (.cells [.string to].toArray T3 (0,0)) Rest3]:
  Zq prog 172 #[.pointer (some ⟨q,0,none⟩),.pointer (some ⟨bn,0,none⟩),.pointer (some ⟨bt,0,none⟩),.pointer (some ⟨bd,0,none⟩)] w λ r w'=>r=.tuple #[]/\(Zan k to st).2=0/\Sat R (Zl d (Zan k to st).1::Hs) w':=by
 have hk0:Zw k (a++(k,q,f)::b)=some (q,f):=ZdX ha (Zbg k);have hk:Zw k st.fs=some f:=by rw [<-hE,Zcj,hk0];rfl
 apply Zth;refine Zb.mk rfl ⟨k,At.own (eqS hw) (by exact ⟨rfl,trivial⟩),Zb.mk rfl ⟨to,At.own (eqS hw) (by exact ⟨rfl,trivial⟩),?_⟩⟩;have hto:(k.toList==to.toList)=decide (k=to):=by
  rw [ByteArray.toList_eq,ByteArray.toList_eq];by_cases h:k=to
  ·simp [h]
  ·have:k.data≠to.data:=λ h2=>h (by cases k;cases to;simp_all)
   simp [h,this]
 rw [hto];refine Br.mk (λ h=>?_) (λ h=>?_)<;>simp only [decide_eq_true_eq,decide_eq_false_iff_not] at h
 ·have e:Zan k to st=(st,0):=by unfold Zan;rw [hk];exact if_pos h
  rw [e];exact ⟨rfl,rfl,DO.shut hE hw⟩
 have e:Zan k to st=({ st with fs:=Zaa k (Zaa to st.fs)++[(to,f)] },0):=by unfold Zan;rw [hk];exact if_neg h
 rw [e];refine Zb.mk rfl ⟨_,At.own (eqS hw) (by exact ⟨rfl,trivial⟩),Zb.mk rfl ⟨_,At.own (eqS hw) (by exact ⟨rfl,trivial⟩),?_⟩⟩;refine (Zp2 i to hE hw).use ?_;rintro _ w ⟨rfl,hw⟩;refine ⟨rfl,?_⟩;generalize hEe:Zaa to (a++(k,q,f)::b)=E1 at hw;have hk1:Zw k E1=some (q,f):=by rw [<-hEe,ZaA h,hk0]
 have hE1:er E1=Zaa to st.fs:=by rw [<-hEe,Zqa,hE]
 have hu1:(E1.map (·.1)).Nodup:=by
  rw [<-hEe];have hu:((a++(k,q,f)::b).map (·.1)).Nodup:=by
   have:(a++(k,q,f)::b).map (·.1)=st.fs.map (·.1):=by rw [<-hE];simp [er,Function.comp_def]
   rw [this];exact i.uni
  exact ((Zbd to _).map _).nodup hu
 have htonone:Zw to E1=none:=by
  rw [<-hEe];refine ZaP to ?_;have:(a++(k,q,f)::b).map (·.1)=st.fs.map (·.1):=by rw [<-hE];simp [er,Function.comp_def]
  rw [this];exact i.uni
 obtain ⟨a1,b1,rfl,ha1⟩:=ZI hk1;have hdel:Zaa k (a1++(k,q,f)::b1)=a1++b1:=ZbM ha1 (Zbg k);refine Zs (λ w=>Sat R (pts d (Zbf { st with fs:=Zaa to st.fs } m)::Zat (a1++(k,q,f)::b1)::Hs) w) hw (λ w h=>h.swap.drop) λ w hw=>?_;refine Zb.mk rfl ⟨some ⟨d,0,none⟩,At.own Ze (by exact ⟨rfl,trivial⟩),Zb.mk rfl ⟨some m,At.own Ze (by exact ⟨rfl,trivial⟩),Zb.mk rfl ⟨k,At.own Ze (by exact ⟨rfl,trivial⟩),?_⟩⟩⟩;have ep:Zaa k (ZbQ (a1++(k,q,f)::b1))=ZbQ (a1++b1):=by rw [<-Zrf,hdel]
 refine Zaj.del Zul (hw.take (Zaj m (ZbQ (a1++(k,q,f)::b1)))) k λ w hw=>?_;rw [ep] at hw;refine ⟨hw.drop,Zv hw λ w hw=>?_⟩;refine Zb.mk rfl ⟨some ⟨d,0,none⟩,At.own Ze (by exact ⟨rfl,trivial⟩),Zb.mk rfl ⟨some m,At.own Ze (by exact ⟨rfl,trivial⟩),Zb.mk rfl ⟨to,At.own Ze (by exact ⟨rfl,trivial⟩),?_⟩⟩⟩;refine Zaj.put Zul hw to (.pointer (some ⟨q,0,none⟩)) λ w hw=>⟨rfl,rfl,?_⟩;have hno:Zw to (a1++b1)=none:=by rw [<-hdel,ZaA (λ h2=>h h2.symm)];exact htonone
 have ep2:ZsA to (.pointer (some ⟨q,0,none⟩)) (ZbQ (a1++b1))=ZbQ (a1++b1++[(to,q,f)]):=by
  unfold ZsA;rw [ZfA,hno];simp [ZbQ]
 rw [ep2] at hw;have ef:Zaa k (Zaa to st.fs)++[(to,f)]=er (a1++b1++[(to,q,f)]):=by
  rw [ZbT,<-hdel,Zqa,hE1];rfl
 have ht:total (Zaa k (Zaa to st.fs)++[(to,f)])=total (Zaa to st.fs):=by
  have hg:Zw k (Zaa to st.fs)=some f:=by rw [<-hE1,Zcj,hk1];rfl
  rw [Zfn hg,Zdj];simp [ZD,ZcE]
 refine Sat.disk.2 ⟨m,a1++b1++[(to,q,f)],ef.symm,?_⟩;unfold Zbf;simp only [ht];refine hw.swap.cons λ _ h=>h.cons λ _ h=>?_;have h2:=Sat.split.1 h;have h3:Sat _ (Zat ((a1++b1)++(to,q,f)::[])::Hs) w:=Sat.split.2 (by simpa using h2);simpa using h3
theorem Zhe {st:DS} {k to:ByteArray} (i:Inv st) (hto:Zm to=true):Inv (Zan k to st).1:=by
 unfold Zan;split
 ·rename_i f hf
  split
  ·exact i
  ·rename_i hne
   have hg:Zw k (Zaa to st.fs)=some f:=by rw [ZaA hne];exact hf
   have hno:Zw to (Zaa k (Zaa to st.fs))=none:=by rw [ZaA (λ h2=>hne h2.symm)];exact ZaP to i.uni
   have hfm:f.sure<=f.b.length:=by
    obtain ⟨a,b,e,_⟩:=ZI hf;exact i.sure (k,f) (by rw [e];simp)
   refine { toCounts:=⟨i.a0,i.a1,i.f0,i.f1⟩,r0:=i.r0,r1:=i.r1,full:=?_,uni:=ZoR (Zdc (Zdc i.uni to) k) hno,names:=?_,sure:=Zmv (Zi6 (Zi6 i.sure to) k) hfm }
   all_goals (have:=Zfn hg)
   all_goals (have h2:=ZeO to st.fs)
   all_goals (have:=i.full)
   ·simp only [Zdj,ZD,ZcE]
    omega
   ·intro x hx
    simp only [List.map_append,List.mem_append] at hx;rcases hx with hx|hx
    ·exact i.names x ((((Zbd k _).trans (Zbd to st.fs)).map _).subset hx)
    ·simp at hx;subst hx;exact hto
 ·exact i
theorem Zf1 {st:DS} (i:Inv st) (k to:ByteArray):Inv (ZY st k to).1:=by
 unfold ZY doing;split
 ·rename_i h;have h2:=Zqu h;simp only [Bool.and_eq_true] at h2;exact Zhe (ZbN i _) h2.2
 ·exact ZbN i _
theorem Zlu {d:Nat} {st:DS} {k to:ByteArray} (i:Inv st) (hw:Sat R (Zl d st::Hs) w):
  Zq prog 130 #[.pointer (some ⟨d,0,none⟩),.string k,.string to] w λ r w'=>r=.int .i64 (ZY st k to).2/\Sat R (Zl d (ZY st k to).1::Hs) w':=by
 apply ZtK;refine Zd hw λ bd w hw=>Zd hw λ bn w hw=>Zd hw λ bto w hw=>?_;have hw:Sat R (Zl d st::box bd (.pointer (some ⟨d,0,none⟩)) 25::box bn (.string k) 9::box bto (.string to) 9::Hs) w:=
  (hw.take (Zl d st)).cons λ _ h=>(h.take (box bd (.pointer (some ⟨d,0,none⟩)) 25)).cons λ _ h=>h.swap
 have toS:∀ {w},Sat R (box bd (.pointer (some ⟨d,0,none⟩)) 25::box bn (.string k) 9::box bto (.string to) 9::Hs) w->Sat R (box bd (.pointer (some ⟨d,0,none⟩)) 25::box bn (.string k) 9::box bto (.string to) 9::VC.tru::[]) w:=λ h=>
  Sat.toTru (As:=[_,_,_]) h
 have hm:∀ (R:Cx) (X:List HP) st m a q f b w,Inv st->Zw k a=none->er (a++(k,q,f)::b)=st.fs->Sat R (DO d m (a++(k,q,f)::b) st (X++(box bd (.pointer (some ⟨d,0,none⟩)) 25::box bn (.string k) 9::box bto (.string to) 9::Hs))) w->
   Zcm prog cl (.func (.func 172) #[] #[.pointer (some ⟨bn,0,none⟩),.pointer (some ⟨bto,0,none⟩),.pointer (some ⟨bd,0,none⟩)]) [.pointer (some ⟨q,0,none⟩)] w (λ e w'=>e=.returned (.tuple #[])/\(Zan k to st).2=0/\Sat R (Zl d (Zan k to st).1::(X++(box bd (.pointer (some ⟨d,0,none⟩)) 25::box bn (.string k) 9::box bto (.string to) 9::Hs))) w'):=by
  intro R X st m a q f b w i ha hE hw;show Calls prog _ _ w _;refine (Zke i ha hE hw).use ?_;rintro _ w ⟨rfl,h⟩;exact ⟨rfl,h⟩
 have hn:∀ st,Zw k st.fs=none->Zan k to st=(st,2):=by intro st h;unfold Zan;rw [h]
 have all2:[k,to].all Zm=(Zm k && Zm to):=by simp
 refine Zs (λ w=>Sat R (box bd (.pointer (some ⟨d,0,none⟩)) 25::box bn (.string k) 9::box bto (.string to) 9::tru::[]) w) hw (λ w h=>toS h.drop) λ w hw=>?_;refine ⟨_,At.own Ze (by exact ⟨rfl,trivial⟩),_,At.own Ze (by exact ⟨rfl,trivial⟩),_,At.own Ze (by exact ⟨rfl,trivial⟩),_,At.own Ze (by exact ⟨rfl,trivial⟩),_,At.own Ze (by exact ⟨rfl,trivial⟩),?_,?_⟩
 ·refine (ZfB (Zan k to) i rfl hw hm hn).use ?_
  rintro c w ⟨Hs',hw,back,k2⟩;refine ⟨c,rfl,toS (back _ _ hw.drop),Zd hw λ bt w hw=>?_⟩;obtain ⟨hc,hwl⟩:=Sat.lend.1 hw;refine ⟨toS (back _ _ hw.drop.drop),(k2 _ _ [k,to] w hwl (ZrX hc) (by simp)).use ?_⟩;rw [all2];rintro _ w ⟨rfl,hw⟩;have hw:=(Sat.lend.2 ⟨hc,hw⟩).drop;exact ⟨_,rfl,toS (back _ _ hw.drop),rfl,hw.cons λ _ h=>(back _ _ h).drop.drop.drop⟩
 ·refine Zd hw λ bt w hw=>?_
  obtain ⟨hc,hwl⟩:=Sat.lend.1 hw;refine ⟨toS hw.drop.drop,?_⟩;refine (ZfB (Zan k to) i rfl hwl hm hn).use ?_;rintro c w ⟨Hs',hw,back,k2⟩;refine ⟨c,rfl,toS (back _ _ (Sat.lend.2 ⟨hc,hw⟩).drop.drop),(k2 _ _ [k,to] w hw (ZrX hc) (by simp)).use ?_⟩;rw [all2];rintro _ w ⟨rfl,hw⟩;have hw:=(Sat.lend.2 ⟨hc,hw⟩).drop;exact ⟨_,rfl,toS (back _ _ hw.drop),rfl,hw.cons λ _ h=>(back _ _ h).drop.drop.drop⟩
end
end Go.Proofs.YtkfedbncmfnpnaaGreatDoor
namespace Go.Proofs
section
open Go.Shelf
def Tryz.keys76_ren:Go.Shelf.Ren:=⟨λ|7=>76|10=>121|n=>n,λ|23=>76|26=>9|3=>104|28=>115|0=>0|27=>114|33=>129|4=>4|n=>n,λ|n=>n⟩
theorem Tryz.keys76:Go.Proofs.SlLaysZ.n7 Tryz.prog Tryz.keys76_ren:={
  mixed:=by kernel_rfl
  f7:=⟨Tryz.f76.name,by decide,Tryz.func76.trans (congrArg some (by kernel_rfl))⟩
  f10:=⟨Tryz.f121.name,by decide,Tryz.func121.trans (congrArg some (by kernel_rfl))⟩
  t0:=Tryz.underlying0
  a0:=Tryz.isAgg0
  z0:=Tryz.sizeOf0
  v0:=Tryz.zeroValue0
  t4:=Tryz.underlying4
  a4:=Tryz.isAgg4
  z4:=Tryz.sizeOf4
  v4:=Tryz.zeroValue4
  t23:=Tryz.underlying76
  a23:=Tryz.isAgg76
  z23:=Tryz.sizeOf76
  v23:=Tryz.zeroValue76
  t26:=Tryz.underlying9
  a26:=Tryz.isAgg9
  z26:=Tryz.sizeOf9
  v26:=Tryz.zeroValue9
  t27:=Tryz.underlying114
  a27:=Tryz.isAgg114
  z27:=Tryz.sizeOf114
  v27:=Tryz.zeroValue114
  t28:=Tryz.underlying115
  a28:=Tryz.isAgg115
  z28:=Tryz.sizeOf115
  v28:=Tryz.zeroValue115
  t33:=Tryz.underlying129
  a33:=Tryz.isAgg129
  z33:=Tryz.sizeOf129
  v33:=Tryz.zeroValue129 }
def Tryz.sorted75_ren:Go.Shelf.Ren:=⟨λ|6=>75|8=>119|9=>120|11=>168|13=>170|12=>169|23=>206|24=>165|14=>197|15=>198|16=>199|17=>200|18=>201|19=>202|20=>203|21=>204|22=>205|25=>227|26=>228|27=>229|28=>230|29=>231|30=>232|31=>241|n=>n,λ|26=>9|28=>115|24=>66|0=>0|3=>3|37=>159|48=>182|50=>148|4=>4|40=>215|39=>214|45=>219|5=>5|9=>9|51=>243|55=>75|57=>261|58=>262|33=>129|n=>n,λ|n=>n⟩
theorem Tryz.sorted75:Go.Proofs.SlLaysZ.n6 Tryz.prog Tryz.sorted75_ren:={
  mixed:=by kernel_rfl
  f6:=⟨Tryz.f75.name,by decide,Tryz.func75.trans (congrArg some (by kernel_rfl))⟩
  f8:=⟨Tryz.f119.name,by decide,Tryz.func119.trans (congrArg some (by kernel_rfl))⟩
  f11:=⟨Tryz.f168.name,by decide,Tryz.func168.trans (congrArg some (by kernel_rfl))⟩
  t0:=Tryz.underlying0
  a0:=Tryz.isAgg0
  z0:=Tryz.sizeOf0
  v0:=Tryz.zeroValue0
  t24:=Tryz.underlying66
  a24:=Tryz.isAgg66
  z24:=Tryz.sizeOf66
  v24:=Tryz.zeroValue66
  t26:=Tryz.underlying9
  a26:=Tryz.isAgg9
  z26:=Tryz.sizeOf9
  v26:=Tryz.zeroValue9
  t28:=Tryz.underlying115
  a28:=Tryz.isAgg115
  z28:=Tryz.sizeOf115
  v28:=Tryz.zeroValue115
  i26:=by kernel_rfl }
def Tryz.sort120_ren:Go.Shelf.Ren:=⟨λ|6=>120|8=>170|9=>169|19=>206|20=>165|21=>197|22=>198|23=>199|24=>200|25=>201|26=>202|27=>203|28=>204|29=>205|36=>227|31=>228|32=>229|37=>230|38=>231|39=>232|41=>241|n=>n,λ|27=>66|29=>9|3=>3|32=>159|26=>66|0=>0|44=>182|46=>148|4=>4|36=>215|35=>214|41=>219|5=>5|9=>9|53=>243|57=>75|63=>261|64=>262|n=>n,λ|n=>n⟩
theorem Tryz.sort120:Go.Proofs.SlLaysM.n6 Tryz.prog Tryz.sort120_ren:={
  mixed:=by kernel_rfl
  f6:=⟨Tryz.f120.name,by decide,Tryz.func120.trans (congrArg some (by kernel_rfl))⟩
  f8:=Tryz.func170.trans (congrArg some (by kernel_rfl))
  f9:=⟨Tryz.f169.name,by decide,Tryz.func169.trans (congrArg some (by kernel_rfl))⟩
  f19:=Tryz.func206.trans (congrArg some (by kernel_rfl))
  f20:=Tryz.func165.trans (congrArg some (by kernel_rfl))
  f21:=⟨Tryz.f197.name,by decide,Tryz.func197.trans (congrArg some (by kernel_rfl))⟩
  f22:=⟨Tryz.f198.name,by decide,Tryz.func198.trans (congrArg some (by kernel_rfl))⟩
  f23:=⟨Tryz.f199.name,by decide,Tryz.func199.trans (congrArg some (by kernel_rfl))⟩
  f24:=⟨Tryz.f200.name,by decide,Tryz.func200.trans (congrArg some (by kernel_rfl))⟩
  f25:=⟨Tryz.f201.name,by decide,Tryz.func201.trans (congrArg some (by kernel_rfl))⟩
  f26:=⟨Tryz.f202.name,by decide,Tryz.func202.trans (congrArg some (by kernel_rfl))⟩
  f27:=⟨Tryz.f203.name,by decide,Tryz.func203.trans (congrArg some (by kernel_rfl))⟩
  f28:=⟨Tryz.f204.name,by decide,Tryz.func204.trans (congrArg some (by kernel_rfl))⟩
  f29:=⟨Tryz.f205.name,by decide,Tryz.func205.trans (congrArg some (by kernel_rfl))⟩
  f31:=Tryz.func228.trans (congrArg some (by kernel_rfl))
  f32:=Tryz.func229.trans (congrArg some (by kernel_rfl))
  f36:=⟨Tryz.f227.name,by decide,Tryz.func227.trans (congrArg some (by kernel_rfl))⟩
  f37:=⟨Tryz.f230.name,by decide,Tryz.func230.trans (congrArg some (by kernel_rfl))⟩
  f38:=⟨Tryz.f231.name,by decide,Tryz.func231.trans (congrArg some (by kernel_rfl))⟩
  f39:=⟨Tryz.f232.name,by decide,Tryz.func232.trans (congrArg some (by kernel_rfl))⟩
  f41:=⟨Tryz.f241.name,by decide,Tryz.func241.trans (congrArg some (by kernel_rfl))⟩
  t0:=Tryz.underlying0
  a0:=Tryz.isAgg0
  z0:=Tryz.sizeOf0
  v0:=Tryz.zeroValue0
  t3:=Tryz.underlying3
  a3:=Tryz.isAgg3
  z3:=Tryz.sizeOf3
  v3:=Tryz.zeroValue3
  t4:=Tryz.underlying4
  a4:=Tryz.isAgg4
  z4:=Tryz.sizeOf4
  v4:=Tryz.zeroValue4
  t5:=Tryz.underlying5
  a5:=Tryz.isAgg5
  z5:=Tryz.sizeOf5
  v5:=Tryz.zeroValue5
  t9:=Tryz.underlying9
  a9:=Tryz.isAgg9
  z9:=Tryz.sizeOf9
  v9:=Tryz.zeroValue9
  t26:=Tryz.underlying66
  a26:=Tryz.isAgg66
  z26:=Tryz.sizeOf66
  v26:=Tryz.zeroValue66
  t27:=Tryz.underlying66
  a27:=Tryz.isAgg66
  z27:=Tryz.sizeOf66
  v27:=Tryz.zeroValue66
  t29:=Tryz.underlying9
  a29:=Tryz.isAgg9
  z29:=Tryz.sizeOf9
  v29:=Tryz.zeroValue9
  t32:=Tryz.underlying159
  a32:=Tryz.isAgg159
  z32:=Tryz.sizeOf159
  v32:=Tryz.zeroValue159
  t35:=Tryz.underlying214
  a35:=Tryz.isAgg214
  z35:=Tryz.sizeOf214
  v35:=Tryz.zeroValue214
  t36:=Tryz.underlying215
  a36:=Tryz.isAgg215
  z36:=Tryz.sizeOf215
  v36:=Tryz.zeroValue215
  t41:=Tryz.underlying219
  a41:=Tryz.isAgg219
  z41:=Tryz.sizeOf219
  v41:=Tryz.zeroValue219
  t44:=Tryz.underlying182
  a44:=Tryz.isAgg182
  z44:=Tryz.sizeOf182
  v44:=Tryz.zeroValue182
  t46:=Tryz.underlying148
  a46:=Tryz.isAgg148
  z46:=Tryz.sizeOf148
  v46:=Tryz.zeroValue148
  t53:=Tryz.underlying243
  a53:=Tryz.isAgg243
  z53:=Tryz.sizeOf243
  v53:=Tryz.zeroValue243
  t57:=Tryz.underlying75
  a57:=Tryz.isAgg75
  z57:=Tryz.sizeOf75
  v57:=Tryz.zeroValue75
  t63:=Tryz.underlying261
  a63:=Tryz.isAgg261
  z63:=Tryz.sizeOf261
  v63:=Tryz.zeroValue261
  t64:=Tryz.underlying262
  a64:=Tryz.isAgg262
  z64:=Tryz.sizeOf262
  v64:=Tryz.zeroValue262 }
open Go.RowKit Go.Maps Go.Sort Go.Shelf in
theorem Tryz.sorts75 (m:Nat):AnyZ.SortsIn Tryz.prog Tryz.sorted75_ren Fence.wide m:=
  ⟨λ blk off cap ss W hH hblk hsz=>callsIn_wide.2 (AnyM.slices_Sort_string Tryz.sort120 blk off cap ss W hH hblk hsz),
   λ p cap W=>callsIn_wide.2 (AnyM.slices_Sort_string_none Tryz.sort120 p cap W)⟩
open Go.RowKit Go.Maps Go.Sort Go.Shelf in
theorem Tryz.maps_Keys_76 (mb:Option Nat) (W:World):CallsIn Fence.wide 5 Tryz.prog 76 #[.map mb] W λ e w'=>e=.returned (.func (.func 121) #[] #[.pointer (some ⟨W.heap.size,0,none⟩)])/\w'=W.alloc (.cells #[.map mb] 76):=
  AnyZ.keys_in Tryz.keys76 Fence.wide 5 trivial rfl mb W
open Go.RowKit Go.Maps Go.Sort Go.Shelf in
theorem Tryz.slices_Sorted_keys_75_76 {H:Type} (b nn:Nat) (D0:DataW H) (R:Value->Option (DataW H × List MemPlace)) (w:World) (hown:w.ownsMap Tryz.prog 9 R b nn D0) (hmax:Maps.size D0<=maxLen) (hbytes:Maps.size D0 * 16<=140737488355328):
    CallsIn Fence.wide 5 Tryz.prog 75 #[.func (.func 121) #[] #[.pointer (some ⟨w.heap.size,0,none⟩)]] (w.alloc (.cells #[.map (some b)] 76)) λ e w'=>∃ (v:Value) (ss:List (List UInt8)),e=.returned v/\ss.Perm (strKeys D0)/\
      w'.ownsRow (w.alloc (.cells #[.map (some b)] 76)).heap.size 9 1 v ss.length ((ss.mergeSort (λ x y=>decide (x<=y))).map encStr)/\(v=.slice none 0 0↔ss=[])/\Below (w.alloc (.cells #[.map (some b)] 76)).heap.size (w.alloc (.cells #[.map (some b)] 76)) w':=by
  have hbl:=hown.lt;have hseq:SeqGives Fence.wide 2 Tryz.prog 121 #[.pointer (some ⟨w.heap.size,0,none⟩)] encStr (λ ss=>ss.Perm (strKeys D0)) (Maps.size D0) (w.alloc (.cells #[.map (some b)] 76)):=
    AnyZ.keys_gives (ρ:=Tryz.keys76_ren) { Tryz.keys76 with } Fence.wide _ trivial rfl (by omega) w.heap.size b nn D0 _ (by simp) (by simp) (by
      obtain ⟨es,clock,hb,Ft,hs,hD⟩:=hown;exact ⟨es,clock,(Below.heap_alloc _ _ b hbl).trans hb,Ft,hs,hD⟩)
  exact AnyZ.sorted_in Tryz.sorted75 Fence.wide 5 trivial trivial trivial trivial rfl (by omega) (Tryz.sorts75 _) (enters_of Tryz.func120 (by kernel_rfl) rfl) 121 #[.pointer (some ⟨w.heap.size,0,none⟩)] trivial (enters_of Tryz.func121 (by kernel_rfl) rfl) _ _ hmax hbytes _ hseq
end
end Go.Proofs
namespace Go.Proofs.YtkfedbncmfnpnaaGreatDoor
section
open Go Go.VC Tryz
variable {R:Cx} {Hs Rest:List HP} {w:World}
def Zr (fs:Fs):List ByteArray:=((fs.map λ e=>e.1.data.toList).mergeSort (λ x y=>decide (x<=y))).map λ l=>⟨l.toArray⟩
theorem ZnS {m c:Nat} {l:List (En ByteArray)} {E:List DE} (hs:Zd7 l=ZbQ E) (hst:Zd1 l c) (hu:(E.map (·.1)).Nodup) (hn:∀ k∈E.map (·.1),k.size<=64) (hlen:E.length<=1000000)
  (hm:w.heap[m]? =some (.map (l.map mkE).toArray c)):
  ∃ D0:DataW Unit,w.ownsMap prog 9 (λ _=>some (.nil,[])) m 1000000 D0/\Maps.size D0<=1000000/\∀ ss:List (List UInt8),ss.Perm (strKeys D0)->ss.Perm (E.map λ e=>e.1.data.toList):=by
 have hkeys:l.map (·.1)=E.map (·.1):=by
  have h1:(Zd7 l).map (·.1)=l.map (·.1):=by simp [Zd7,Function.comp_def]
  have h2:(ZbQ E).map (·.1)=E.map (·.1):=by simp [ZbQ,Function.comp_def]
  rw [<-h1,hs,h2]
 have hlen2:l.length=E.length:=by have:=congrArg List.length hkeys;simpa using this
 have hkey:∀ e∈l,keyOf prog 9 (mkE e).key=some (.string e.1.data.toList):=λ e he=>by
  have hm:e.1∈E.map (·.1):=by rw [<-hkeys];exact List.mem_map_of_mem he
  have hsz:=hn _ hm;simp only [keyOf,underlying9,mkE,mapKey,ZbU.enc];rw [if_pos (by unfold maxLen;omega)]
 have hrd:∀ e∈l,WideElems.rd prog 9 (λ _=>some ((.nil:DataW Unit),[])) (mkE e)=some (.string e.1.data.toList,.nil):=λ e he=>by
  unfold WideElems.rd;rw [hkey e he];rfl
 have hrg:((l.map mkE).map (WideElems.rg prog 9 (λ _=>some ((.nil:DataW Unit),[]))))=l.map λ e=>(.string e.1.data.toList,.nil):=by
  rw [List.map_map];apply List.map_congr_left;intro e he;simp only [Function.comp,WideElems.rg,hrd e he,Option.getD_some]
 refine ⟨_,⟨(l.map mkE).toArray,c,hm,⟨by simp [maxLen];omega,?_,?_⟩,by simp;omega,rfl⟩,?_,?_⟩
 ·refine ⟨λ x hx=>?_,?_,?_⟩
  ·simp only [List.mem_map] at hx
   obtain ⟨e,he,rfl⟩:=hx;exact hst.1 e he
  ·have:=hst.2;simpa [mkE,Function.comp_def] using this
  ·have h2:(l.map (·.1)).Nodup:=by rw [hkeys];exact hu
   have e1:((l.map mkE).toArray.toList.map (·.key))=(l.map (·.1)).map Value.string:=by simp [mkE,Function.comp_def,ZbU.enc]
   rw [e1];exact List.Pairwise.map _ (λ a b hab h=>hab (by injection h)) h2
 ·intro x hx
  simp only [List.mem_map] at hx;obtain ⟨e,he,rfl⟩:=hx;exact ⟨_,hrd e he⟩
 ·simp only [Maps.size,hrg]
  rw [(WideShapes.sorted_perm _).length_eq];simp;omega
 ·intro ss hss
  refine hss.trans ?_;simp only [strKeys,hrg];refine ((WideShapes.sorted_perm _).map _).trans ?_;have:(l.map λ e=>((Lit.string e.1.data.toList,DataW.nil):Lit × DataW Unit)).map (λ p=>Go.strOf p.1)=E.map λ e=>e.1.data.toList:=by
   rw [List.map_map];show l.map (λ e=>e.1.data.toList)=_;have:=congrArg (List.map λ k:ByteArray=>k.data.toList) hkeys;simpa [Function.comp_def] using this
  rw [this]
theorem ZdS {k:ByteArray} (h:Zm k=true):k.size<=64:=by
 unfold Zm at h;simp at h;exact h.1.2
theorem ZlU (E:List DE):(er E).map (·.1)=E.map (·.1):=by simp [er,Function.comp_def]
theorem Zds {d:Nat} {st:DS} (i:Inv st) (hc:st.fs.length<=1000000) (hw:Sat R (Zl d st::Hs) w):
  Zq prog 33 #[.pointer (some ⟨d,0,none⟩)] w λ r w'=>∃ s:Sl,r=.slice s.a s.len s.cap/\Sat R (Own s 9 ((Zr st.fs).map Value.string)::Zl d st::Hs) w':=by
 obtain ⟨m,E,hE,hw⟩:=Sat.disk.1 hw;apply ZvQ;refine Zb.mk rfl ⟨some m,At.own (eqS hw) (by exact ⟨rfl,trivial⟩),?_⟩;have hw2:=hw.take (Zaj m (ZbQ E));obtain ⟨l,c,hs,hst,hp⟩:=Zaj.iff.1 hw2;have hu:(E.map (·.1)).Nodup:=by rw [<-ZlU,hE];exact i.uni
 have hlen:E.length<=1000000:=by have:=congrArg List.length hE;simp [er] at this;omega
 obtain ⟨D0,hown,hsz,hperm⟩:=ZnS hs hst hu (λ k hk=>ZdS (i.names k (by rw [<-hE,ZlU];exact hk))) hlen hp.at;refine (callsIn_wide.1 (Tryz.maps_Keys_76 (some m) w)).mono ?_;rintro _ _ ⟨rfl,rfl⟩;refine ⟨_,rfl,?_⟩;refine (callsIn_wide.1 (Tryz.slices_Sorted_keys_75_76 m _ D0 _ w hown (by unfold maxLen;omega) (by omega))).mono ?_;rintro _ w' ⟨v,ss,rfl,hS,hrow,hnil,hb⟩;have hw1:Sat R (DO d m E st Hs) (w.alloc (.cells #[.map (some m)] 76)):=(Sat.alloc _ hw).drop;obtain ⟨s,rfl,h3⟩:=Sat.ownsRow hw1 hb hrow;refine ⟨s,rfl,s,rfl,?_⟩;have e:((ss.mergeSort (λ x y=>decide (x<=y))).map Proofs.encStr)=(Zr st.fs).map Value.string:=by
  unfold Zr;have hp2:=hperm ss hS;have e2:(E.map λ e=>e.1.data.toList)=st.fs.map λ e=>e.1.data.toList:=by rw [<-hE];simp [er,Function.comp_def]
  rw [e2] at hp2;rw [mergeSort_of_perm hp2,List.map_map];rfl
 rw [e] at h3;exact h3.cons λ _ h=>DO.shut hE h
end
section
open Go Go.VC Tryz
variable {R:Cx} {Hs Rest:List HP} {w:World}
def ZC (st:DS) (k:ByteArray):List Int × Int:=
 if st.off then ([],5) else if !Zm k then ([],1) else match Zw k st.fs with|none=>([],2)|some f=>(f.b,0)
theorem ZbH {k:ByteArray} {f:Fl} {fs:Fs} (h:Zw k fs=some f):(f.b.length:Int)<=total fs:=by
 have:=Zfn h;have:=ZbG (Zaa k fs);omega
theorem Zen {d:Nat} {st:DS} {k:ByteArray} (i:Inv st) (hw:Sat R (Zl d st::Hs) w):
  Zq prog 44 #[.pointer (some ⟨d,0,none⟩),.string k] w λ r w'=>∃ t:Sl,r=.tuple #[.slice t.a t.len t.cap,.int .i64 (ZC st k).2]/\Sat R (Own t 5 (b8 (ZC st k).1)::Zl d st::Hs) w':=by
 have hw0:=hw;obtain ⟨m,E,hE,hw⟩:=Sat.disk.1 hw;apply ZvF;refine Zb.mk rfl ⟨st.off,At.own (eqS hw) (by exact ⟨rfl,trivial⟩),Br.mk (λ ho=>?_) (λ ho=>Zd hw0 λ bt w hw=>?_)⟩
 ·have e:ZC st k=([],5):=if_pos ho
  rw [e];exact ⟨⟨none,0,0⟩,rfl,Own.nil hw0⟩
 obtain ⟨hc,hwl⟩:=Sat.lend.1 hw;refine (ZiA (names:=[k]) hwl (Zj7 hc) (by simp)).use ?_;rintro _ w ⟨rfl,hw⟩;have hw:=(Sat.lend.2 ⟨hc,hw⟩).drop;rw [Zgl];refine ⟨_,rfl,Br.mk (λ hn=>?_) (λ hn=>?_)⟩
 ·have e:ZC st k=([],1):=by unfold ZC;rw [if_neg (by simp [ho]),if_pos hn]
  rw [e];exact ⟨⟨none,0,0⟩,rfl,Own.nil hw⟩
 obtain ⟨m,E,hE,hw⟩:=Sat.disk.1 hw;refine Zb.mk rfl ⟨some m,At.own (eqS hw) (by exact ⟨rfl,trivial⟩),_,_,λ w' hw'=>DO.look (eqS hw _ hw') k true,?_⟩;have e:ZC st k=match Zw k st.fs with|none=>([],2)|some f=>(f.b,0):=by unfold ZC;rw [if_neg (by simp [ho]),if_neg (by simp [hn])]
 refine Br.mk (λ hk=>?_) (λ hk=>?_)
 ·simp only [Bool.not_eq_true',Option.isSome_eq_false_iff,Option.isNone_iff_eq_none] at hk
  have hk2:Zw k st.fs=none:=by rw [<-hE,Zcj,hk];rfl
  rw [e,hk2];exact ⟨⟨none,0,0⟩,rfl,Own.nil (DO.shut hE hw)⟩
 ·simp only [Bool.not_eq_false'] at hk
  obtain ⟨⟨q,f⟩,hf⟩:=Option.isSome_iff_exists.1 hk;have hk2:Zw k st.fs=some f:=by rw [<-hE,Zcj,hf];rfl
  obtain ⟨a,b,rfl,ha⟩:=ZI hf;rw [hf,e,hk2];have hlen:=ZbH hk2;have r1:=i.r1;have hfull:=i.full;have hw:Sat R (Zat (a++(k,q,f)::b)::pts d (Zbf st m)::Zaj m (ZbQ (a++(k,q,f)::b))::Hs) w:=(hw.cons λ _ h=>h.swap).swap;obtain ⟨s,hw⟩:=Sat.file.1 (Sat.split.1 hw);simp only at hw;refine Zb.mk rfl ⟨s,by rw [Zf];exact At.own (eqS hw) (by exact ⟨rfl,trivial⟩),?_⟩;obtain ⟨R',hr,_,hw,back⟩:=Own.lend hw.swap (by rw [List.length_map];omega);refine (ZdC hr (by omega) hw).use ?_;rintro _ w ⟨t,rfl,hw⟩;refine ⟨t,rfl,t,rfl,(back hw).swap.cons λ _ h=>?_⟩;have h2:Sat _ (Zat (a++(k,q,f)::b)::pts d (Zbf st m)::Zaj m (ZbQ (a++(k,q,f)::b))::Hs) w:=Sat.split.2 (Sat.file.2 ⟨s,h.swap⟩);exact DO.shut hE (h2.swap.cons λ _ h=>h.swap)
theorem Own.short {s:Sl} {T:TypeId} {xs:List Value} (hw:Sat R (Own s T xs::Hs) w) {n:Nat} (hn:n<=xs.length):Sat R (Own ⟨s.a,n,s.cap⟩ T (xs.take n)::Hs) w:=by
 rcases Own.cases hw with ⟨rfl,rfl,h⟩|⟨b,rest,fr,rfl,hf,h⟩
 ·obtain rfl:n=0:=by simpa using hn
  exact Own.nil h
 ·have e:xs++rest=xs.take n++(xs.drop n++rest):=by rw [<-List.append_assoc,List.take_append_drop]
  rw [e] at h hf;have h2:=Own.of_pts h hf;have e2:(xs.take n).length=n:=by simp;omega
  rw [e2] at h2;have e3:(xs.take n++(xs.drop n++rest)).length=(xs++rest).length:=by rw [<-e]
  rw [e3] at h2;exact h2
def Zj4 (kp:Option Int) (f:Fl):Nat:=match kp with|none=>0|some x=>(min (max x 0) ((f.b.length:Int) - f.sure)).toNat
def ZcS (kp:Option Int) (f:Fl):Fl:=⟨f.b.take (f.sure + Zj4 kp f),f.sure + Zj4 kp f⟩
def Zak:List ByteArray->List Int->Fs->Fs
 |[],_,fs=>fs
 |k::ks,keep,fs=>Zak ks keep.tail (ZdJ k (ZcS keep.head?) fs)
def ZaM (st:DS) (keep:List Int):DS:=⟨st.room,Zak (Zr st.fs) keep st.fs,-1,-1,false⟩
theorem ZfX (kp:Option Int) (f:Fl) (h:f.sure<=f.b.length):f.sure + Zj4 kp f<=f.b.length:=by
 unfold Zj4;split
 ·omega
 ·omega
theorem ZdW {β:Type} {k:ByteArray} {g:β->β}:∀ {l:List (ByteArray × β)} {v:β},Zw k l=some v->Zw k (ZdJ k g l)=some (g v)
 |[],_,h=>by cases h
 |e::l,v,h=>by
  rw [Zw] at h;rw [ZdJ];split at h
  ·rename_i hk;rw [if_pos hk,Zw,if_pos hk];simp only [Option.some.injEq] at h ⊢;rw [h]
  ·rename_i hk;rw [if_neg hk,Zw,if_neg hk];exact ZdW h
theorem ZoS {k:ByteArray} {g:Fl->Fl} {fs:Fs} {f:Fl} (h:Zw k fs=some f):total (ZdJ k g fs)=total fs - f.b.length + (g f).b.length:=by
 obtain ⟨a,b,rfl,ha⟩:=ZI h;rw [Zca ha,Zbl,Zbl];omega
theorem Zet {fs:Fs} {k:ByteArray}:k∈Zr fs↔k∈fs.map (·.1):=by
 unfold Zr;rw [List.mem_map];constructor
 ·rintro ⟨l,hl,rfl⟩
  rw [List.mem_mergeSort,List.mem_map] at hl;obtain ⟨e,he,rfl⟩:=hl;exact List.mem_map.2 ⟨e,he,by simp⟩
 ·intro h
  obtain ⟨e,he,rfl⟩:=List.mem_map.1 h;exact ⟨e.1.data.toList,by rw [List.mem_mergeSort];exact List.mem_map.2 ⟨e,he,rfl⟩,by simp⟩
theorem ZfE {β:Type} {k:ByteArray} {l:List (ByteArray × β)} (h:k∈l.map (·.1)):(Zw k l).isSome=true:=by
 cases hg:Zw k l with
 |some _=>rfl
 |none=>exact absurd h (ZQ hg)
theorem Za7 (fs:Fs):(Zr fs).length=fs.length:=by simp [Zr]
theorem Zot {d:Nat} {st:DS} {s:Sl} {keep:List Int} (i:Inv st) (hs:RoI R s keep) (hc:st.fs.length<=1000000) (hw:Sat R (Zl d st::Hs) w):
  Zq prog 25 #[.pointer (some ⟨d,0,none⟩),.slice s.a s.len s.cap] w λ r w'=>r=.tuple #[]/\Sat R (Zl d (ZaM st keep)::Hs) w':=by
 have r1:=i.r1;have hfull:=i.full;have hsl:=hs.len;have hsb:=hs.bound;apply ZvX;refine (Zds i hc hw).use ?_;rintro _ w ⟨t,rfl,hw⟩;refine ⟨t,rfl,?_⟩;have hnl:=Za7 st.fs;obtain ⟨R',hr,up,hw,back⟩:=Own.lend hw (by rw [List.length_map,hnl];omega);have htl:t.len=(Zr st.fs).length:=by have:=hr.len;simpa using this
 refine ⟨λ x w=>∃ (k:Nat) (fs:Fs),x=k/\k<=(Zr st.fs).length/\Zak (Zr st.fs) keep st.fs=Zak ((Zr st.fs).drop k) (keep.drop k) fs/\fs.map (·.1)=st.fs.map (·.1)/\total fs<=total st.fs/\ZdH fs/\
  Sat R' (Zl d { st with fs:=fs }::Hs) w,λ x _=>(Zr st.fs).length - x.toNat,⟨0,st.fs,rfl,Nat.zero_le _,rfl,rfl,Int.le_refl _,i.sure,hw⟩,?_⟩
 rintro z _ w ⟨k,fs,rfl,hk,he,hkeys,htot,hsure,hw⟩;refine Br.mk (λ h=>?_) (λ h=>?_)<;>simp only [decide_eq_true_eq,decide_eq_false_iff_not] at h
 ·have hk':k<(Zr st.fs).length:=by omega
  rw [ZaQ hk'] at he;refine hr.idxStr (eqS hw) hk' ?_;generalize hnm:(Zr st.fs)[k]=nm at he;have hmem:nm∈fs.map (·.1):=by rw [hkeys];exact Zet.1 (by rw [<-hnm];exact List.getElem_mem _)
  obtain ⟨m,E,hE,hw⟩:=Sat.disk.1 hw;refine Zb.mk rfl ⟨some m,At.own (eqS hw) (by exact ⟨rfl,trivial⟩),_,λ w' hw'=>DO.look (eqS hw _ hw') nm false,?_⟩;obtain ⟨⟨q,f⟩,hf⟩:=Option.isSome_iff_exists.1 (ZfE (l:=E) (by rw [<-ZlU,hE];exact hmem));obtain ⟨a,b,rfl,ha⟩:=ZI hf;rw [hf];have hgf:Zw nm fs=some f:=by show Zw nm ({ st with fs:=fs }:DS).fs=_;rw [<-hE,Zcj,hf];rfl
  have hfl:=ZbH hgf;have hsf:f.sure<=f.b.length:=by
   obtain ⟨a,b,e,_⟩:=ZI hgf;exact hsure (nm,f) (by rw [e];simp)
  have hw:Sat R' (Zat (a++(nm,q,f)::b)::pts d (Zbf { st with fs:=fs } m)::Zaj m (ZbQ (a++(nm,q,f)::b))::Hs) w:=(hw.cons λ _ h=>h.swap).swap;obtain ⟨sf,hw⟩:=Sat.file.1 (Sat.split.1 hw);simp only at hw;have hlf:sf.len=f.b.length:=by have:=Own.len hw.swap;rwa [List.length_map] at this
  have hcap:sf.len<=sf.cap:=Own.cap hw.swap;refine ⟨λ n w=>n=Zj4 (keep.drop k).head? f/\Sat R' (pts q (.cells [.slice sf.a sf.len sf.cap,.int .i64 f.sure].toArray 106 (0,0))::Own sf 5 (b8 f.b)::Zat (a++b)::pts d (Zbf { st with fs:=fs } m)::Zaj m (ZbQ (a++(nm,q,f)::b))::Hs) w,?_,?_⟩
  ·refine Br.mk (λ h2=>?_) (λ h2=>?_)<;>simp only [decide_eq_true_eq,decide_eq_false_iff_not] at h2
   ·have hk2:k<keep.length:=by omega
    refine Zv hw λ w hw=>?_;refine (show RoI R' s keep from up _ _ hs).idx Ze hk2 ?_
    refine Zb.mk rfl ⟨_,by rw [Zf];exact At.own Ze (by exact ⟨rfl,trivial⟩),Zb.mk rfl ⟨_,At.own Ze (by exact ⟨rfl,trivial⟩),?_,hw⟩⟩;rw [Zg (by omega) (by omega),ZaQ hk2];simp only [List.head?_cons,Zj4];generalize keep[k]=x;rw [hlf];split<;>split<;>omega
   ·refine ⟨?_,hw⟩
    rw [List.drop_eq_nil_of_le (by omega)];rfl
  rintro z n w ⟨rfl,hw⟩;have hst:=ZfX (keep.drop k).head? f hsf;generalize hn:Zj4 (keep.drop k).head? f=n at hst;have hgt:ZcS (keep.drop k).head? f=⟨f.b.take (f.sure + n),f.sure + n⟩:=by unfold ZcS;rw [hn]
  refine Zv hw λ w hw=>?_;refine Zb.mk rfl ⟨total fs,At.own Ze (by exact ⟨rfl,trivial⟩),Zb.mk rfl ⟨_,by rw [Zf];exact At.own Ze (by exact ⟨rfl,trivial⟩),Zb.mk rfl ⟨_,At.own Ze (by exact ⟨rfl,trivial⟩),Zb.mk rfl ?_⟩⟩⟩;have hnn:=ZbG fs;rw [Zg (x:=(sf.len:Int) - f.sure) (by omega) (by omega),Zg (x:=(sf.len:Int) - f.sure - n) (by omega) (by omega),Zg (by omega) (by omega)];refine Zc hw (by kernel_rfl) rfl (by simp [Value.cells,Zn]) λ w hw=>?_;have ef:Zak (nm::(Zr st.fs).drop (k + 1)) (keep.drop k) fs=Zak ((Zr st.fs).drop (k + 1)) (keep.drop (k + 1)) (ZdJ nm (ZcS (keep.drop k).head?) fs):=by
   rw [Zak,List.tail_drop]
  have hw:=hw.take (pts q (.cells [.slice sf.a sf.len sf.cap,.int .i64 f.sure].toArray 106 (0,0)));refine Zv hw λ w hw=>?_;refine Zb.mk rfl ⟨_,by rw [Zf];exact At.own Ze (by exact ⟨rfl,trivial⟩),Zb.mk rfl ⟨_,At.own Ze (by exact ⟨rfl,trivial⟩),?_⟩⟩;rw [Zg (by omega) (by omega)];refine ⟨by omega,by omega,Zb.mk rfl ?_⟩;rw [Zf,show ((f.sure:Int) + n).toNat=f.sure + n by omega];refine Zc hw (by kernel_rfl) rfl (by simp [Value.cells,Zn]) λ w hw=>?_;refine Zb.mk rfl ⟨⟨sf.a,f.sure + n,sf.cap⟩,by rw [Zf];exact At.own (eqS hw) (by exact ⟨rfl,trivial⟩),Zb.mk rfl ?_⟩;refine Zc hw (by kernel_rfl) rfl (by simp [Value.cells,Zn]) λ w hw=>?_;rw [Zg (by omega) (by omega)];have hw:Sat R' (pts q (.cells [.slice sf.a (f.sure + n) sf.cap,.int .i64 (f.sure + n:Nat)].toArray 106 (0,0))::pts d (.cells [.int .i64 st.room,.int .i64 (total fs - ((sf.len:Int) - f.sure - n)),.map (some m),.int .i64 st.fail,.int .i64 st.arm,.bool st.off].toArray 78 (0,0))::
    Own sf 5 (b8 f.b)::Zat (a++b)::Zaj m (ZbQ (a++(nm,q,f)::b))::Hs) w:=hw
  have hw:=Own.short (hw.take (Own sf 5 (b8 f.b))) (n:=f.sure + n) (by simpa using hst);have hw:Sat R' (pts q (.cells [.slice sf.a (f.sure + n) sf.cap,.int .i64 (f.sure + n:Nat)].toArray 106 (0,0))::Own ⟨sf.a,f.sure + n,sf.cap⟩ 5 (b8 (f.b.take (f.sure + n)))::Zat (a++b)::
    pts d (.cells [.int .i64 st.room,.int .i64 (total fs - ((sf.len:Int) - f.sure - n)),.map (some m),.int .i64 st.fail,.int .i64 st.arm,.bool st.off].toArray 78 (0,0))::Zaj m (ZbQ (a++(nm,q,f)::b))::Hs) w:=by
   rw [show b8 (f.b.take (f.sure + n))=(b8 f.b).take (f.sure + n) from List.map_take]
   exact hw.swap.cons λ _ h=>h.cons λ _ h=>h.swap
  have hw:Sat R' (Zat (a++(nm,q,ZcS (keep.drop k).head? f)::b)::_) w:=Sat.split.2 (Sat.file.2 ⟨⟨sf.a,f.sure + n,sf.cap⟩,by rw [hgt];exact hw⟩);have et:=ZoS (g:=ZcS (keep.drop k).head?) hgf;have e4:total fs - ((sf.len:Int) - f.sure - n)=total (ZdJ nm (ZcS (keep.drop k).head?) fs):=by
   rw [et,hgt];simp;omega
  rw [e4] at hw;have efs:fs=er a++(nm,f)::er b:=by rw [<-Zb6 (nm,q,f),<-ZbT];exact hE.symm
  refine ⟨⟨k + 1,ZdJ nm (ZcS (keep.drop k).head?) fs,by omega,by omega,by rw [he,ef],by rw [Za6];exact hkeys,by rw [<-e4];omega,ZeG (λ f hf=>?_) hsure,?_⟩,by dsimp only;omega⟩
  ·have:=ZfX (keep.drop k).head? f hf
   show f.sure + Zj4 (keep.drop k).head? f<=(f.b.take (f.sure + Zj4 (keep.drop k).head? f)).length;rw [List.length_take];omega
  ·refine Sat.disk.2 ⟨m,a++(nm,q,ZcS (keep.drop k).head? f)::b,?_,?_⟩
   ·simp only
    conv=>rhs;rw [efs]
    rw [ZbT,Zb6,Zca (by rw [Zcj,ha];rfl)]
   ·have ep:ZbQ (a++(nm,q,ZcS (keep.drop k).head? f)::b)=ZbQ (a++(nm,q,f)::b):=by simp [ZbQ]
    rw [ep];exact hw.swap.cons λ _ h=>h.swap
 ·have:k=(Zr st.fs).length:=by omega
  subst this;rw [List.drop_length,Zak] at he;obtain ⟨m,E,hE,hw⟩:=Sat.disk.1 hw;refine Zb.mk rfl (Zc hw (by kernel_rfl) rfl (by simp [Value.cells,Zn]) λ w hw=>?_);refine Zb.mk rfl (Zc hw (by kernel_rfl) rfl (by simp [Value.cells,Zn]) λ w hw=>?_);refine Zb.mk rfl (Zc hw (by kernel_rfl) rfl (by simp [Value.cells,Zn]) λ w hw=>⟨rfl,?_⟩);have hw:Sat R' (Zl d (ZaM st keep)::Hs) w:=Sat.disk.2 ⟨m,E,by rw [hE];exact he.symm,by
   unfold ZaM;rw [he];exact hw⟩
  exact (back hw).drop
end
section
open Go Go.VC Tryz
set_option maxRecDepth 10000
def B34 (a:Int) (K:Value->World->Prop) (w:World):Prop:=
 Br (decide (a<1))
 (K (.tuple #[.pointer none,.int .i64 1]) w)
 (Br (decide (a>16777216))
 (K (.tuple #[.pointer none,.int .i64 1]) w)
 (New (.cells #[.int .i64 a,.slice none 0 0,.int .i64 ((-1)),.int .i64 ((-1)),.bool false] 81 (0,0)) (λ b c=>
 K (.tuple #[.pointer ((some ⟨b,0,none⟩)),.int .i64 0]) c) w))
theorem ZvP (a:Int) (K:Value->World->Prop) (w:World) (h:B34 a K w):Zq prog 34 #[.int .i64 a] w K:=cq (sk:=.leaf) func34 (by kernel_rfl) (by kernel_rfl) (by kernel_rfl) h
def B36 (b:Option Addr) (i:ByteArray) (l:Sl) (K:Value->World->Prop) (w:World):Prop:=
 Calls prog 79 #[.pointer b,.string i,.string i] w λ I A=>
 ∃ n:Int,(I=.returned (.int .i64 n))/\
 Br (n !=0)
 (K (.int .i64 n) A)
 (Drw A λ r O=>
 Zb b λ G=>
 ∃ y:Int,(At r (Addr.add G 0) [.int .i64 y])/\
 Calls prog 80 #[.pointer b] O λ J q=>
 ∃ x:Int,(J=.returned (.int .i64 x))/\
 (r q)/\
 Br (decide (IntKind.i64.wrap (x + (↑l.len:Int))>y))
 (K (.int .i64 3) q)
 (∃ (m:World->Prop),(Calls prog 81 #[.pointer b,.string i] q λ L D=>
 ∃ z:Int,(L=.returned (.int .i64 z))/\
 Br (decide (z<0))
 (Calls prog 82 #[.pointer b,.agg #[.string i,.slice none 0 0,.int .i64 0]] D λ M Q=>
 (M=.returned (.tuple #[]))/\
 m  Q)
 (m  D))/\
 ∀ (V:Env)  (E:World),m  E->
 Calls prog 81 #[.pointer b,.string i] E λ N T=>
 ∃ c:Int,(N=.returned (.int .i64 c))/\
 Drw T λ d U=>
 Zb b λ s=>
 ∃ j:Sl,(At d ⟨s.block,s.off + 1,none⟩ [.slice j.a j.len j.cap])/\
 Zb b λ t=>
 ∃ k:Sl,(At d ⟨t.block,t.off + 1,none⟩ [.slice k.a k.len k.cap])/\
 Rng c k.len (Zb k.a λ u=>
 ∃ e:Sl,(At d ⟨(u.add (Zah c.toNat 3)).block,(u.add (Zah c.toNat 3)).off + 1,none⟩ [.slice e.a e.len e.cap])/\
 New (.cells #[] 5 (0,0)) (λ H F=>
 (d F)/\
 ∃ o:World,∃ f:Sl,((Builtin.append_ #[53,53] 53 #[.slice ((some ⟨H,0,none⟩)) 0 0,.slice e.a e.len e.cap]).run prog F=.ok (.slice f.a f.len f.cap) o)/\
 (d o)/\
 ∃ p:World,∃ g:Sl,((Builtin.append_ #[53,53] 53 #[.slice f.a f.len f.cap,.slice l.a l.len l.cap]).run prog o=.ok (.slice g.a g.len g.cap) p)/\
 (d p)/\
 Rng c j.len (Zb j.a λ v=>
 ∃ C:World,((Instr.storeAt 53 (.pointer ((some ⟨(v.add (Zah c.toNat 3)).block,(v.add (Zah c.toNat 3)).off + 1,none⟩))) (.slice g.a g.len g.cap)).run prog p=.ok () C)/\
 K (.int .i64 0) C)) U)))
def sk36:Sk:=(.seq .leaf (.seq .leaf (.seq .leaf (.seq .leaf (.cut [] [] [26,27,28,29,30,31,32,33] .leaf .leaf)))))
theorem ZvN (c:Option Addr) (d:ByteArray) (b:Sl) (K:Value->World->Prop) (w:World) (h:B36 c d b K w):Zq prog 36 #[.pointer c,.string d,.slice b.a b.len b.cap] w K:=cq (sk:=sk36) func36 (by kernel_rfl) (by kernel_rfl) (by kernel_rfl) h
def B38 (e:Option Addr) (i:ByteArray) (K:Value->World->Prop) (w:World):Prop:=
 Calls prog 79 #[.pointer e,.string i,.string i] w λ r o=>
 ∃ j:Int,(r=.returned (.int .i64 j))/\
 Br (j !=0)
 (K (.int .i64 j) o)
 (Calls prog 81 #[.pointer e,.string i] o λ s p=>
 ∃ b:Int,(s=.returned (.int .i64 b))/\
 Br (decide (b<0))
 (K (.int .i64 2) p)
 (Drw p λ g t=>
 Zb e λ k=>
 ∃ c:Sl,(At g ⟨k.block,k.off + 1,none⟩ [.slice c.a c.len c.cap])/\
 Zb e λ l=>
 ∃ d:Sl,(At g ⟨l.block,l.off + 1,none⟩ [.slice d.a d.len d.cap])/\
 Rng b d.len (Zb d.a λ m=>
 ∃ f:Sl,(At g ⟨(m.add (Zah b.toNat 3)).block,(m.add (Zah b.toNat 3)).off + 1,none⟩ [.slice f.a f.len f.cap])/\
 Rng b c.len (Zb c.a λ n=>
 ∃ q:World,((Instr.storeAt 3 (.pointer ((some ⟨(n.add (Zah b.toNat 3)).block,(n.add (Zah b.toNat 3)).off + 2,none⟩))) (.int .i64 ((↑f.len:Int)))).run prog t=.ok () q)/\
 K (.int .i64 0) q))))
theorem ZvL (a:Option Addr) (b:ByteArray) (K:Value->World->Prop) (w:World) (h:B38 a b K w):Zq prog 38 #[.pointer a,.string b] w K:=cq (sk:=.leaf) func38 (by kernel_rfl) (by kernel_rfl) (by kernel_rfl) h
def B140 (b:Option Addr) (m:ByteArray) (k:ByteArray) (K:Value->World->Prop) (w:World):Prop:=
 Calls prog 79 #[.pointer b,.string m,.string k] w λ E z=>
 ∃ n:Int,(E=.returned (.int .i64 n))/\
 Br (n !=0)
 (K (.int .i64 n) z)
 (Calls prog 81 #[.pointer b,.string m] z λ F l=>
 ∃ i:Int,(F=.returned (.int .i64 i))/\
 Br (decide (i<0))
 (K (.int .i64 2) l)
 (Br (m.toList==k.toList)
 (K (.int .i64 0) l)
 (Zb b λ r=>
 ∃ j:Sl,(At (λ c=>c=l) ⟨r.block,r.off + 1,none⟩ [.slice j.a j.len j.cap])/\
 Rng i j.len (Zb j.a λ D=>
 ∃ s:ByteArray,∃ d:Sl,∃ t:Int,(At (λ c=>c=l) (Addr.add D (Zah i.toNat 3)) [.string s,.slice d.a d.len d.cap,.int .i64 t])/\
 New (.cells #[.string (ByteArray.mk #[]),.slice none 0 0,.int .i64 0] 112 (0,0)) (λ g N=>
 ∃ A:World,((Instr.storeAt 112 (.pointer ((some ⟨g,0,none⟩))) (.agg #[.string s,.slice d.a d.len d.cap,.int .i64 t])).run prog N=.ok () A)/\
 Calls prog 134 #[.pointer b,.int .i64 i] A λ G O=>
 (G=.returned (.tuple #[]))/\
 Calls prog 81 #[.pointer b,.string k] O λ H C=>
 ∃ o:Int,(H=.returned (.int .i64 o))/\
 Br (decide (o >= 0))
 (Calls prog 134 #[.pointer b,.int .i64 o] C λ I Q=>
 (I=.returned (.tuple #[]))/\
 ∃ q:World,((Instr.storeAt 9 (.pointer ((some ⟨g,0,none⟩))) (.string k)).run prog Q=.ok () q)/\
 ∃ u:ByteArray,∃ e:Sl,∃ v:Int,(At (λ c=>c=q) ⟨g,0,none⟩ [.string u,.slice e.a e.len e.cap,.int .i64 v])/\
 Calls prog 82 #[.pointer b,.agg #[.string u,.slice e.a e.len e.cap,.int .i64 v]] q λ J T=>
 (J=.returned (.tuple #[]))/\
 K (.int .i64 0) T)
 (∃ p:World,((Instr.storeAt 9 (.pointer ((some ⟨g,0,none⟩))) (.string k)).run prog C=.ok () p)/\
 ∃ x:ByteArray,∃ f:Sl,∃ y:Int,(At (λ c=>c=p) ⟨g,0,none⟩ [.string x,.slice f.a f.len f.cap,.int .i64 y])/\
 Calls prog 82 #[.pointer b,.agg #[.string x,.slice f.a f.len f.cap,.int .i64 y]] p λ L M=>
 (L=.returned (.tuple #[]))/\
 K (.int .i64 0) M)) l))))
theorem ZtA (a:Option Addr) (b:ByteArray) (c:ByteArray) (K:Value->World->Prop) (w:World) (h:B140 a b c K w):Zq prog 140 #[.pointer a,.string b,.string c] w K:=cq (sk:=.leaf) func140 (by kernel_rfl) (by kernel_rfl) (by kernel_rfl) h
def B92 (a:Option Addr) (b:ByteArray) (K:Value->World->Prop) (w:World):Prop:=
 Calls prog 79 #[.pointer a,.string b,.string b] w λ g e=>
 ∃ c:Int,(g=.returned (.int .i64 c))/\
 Br (c !=0)
 (K (.int .i64 c) e)
 (Calls prog 81 #[.pointer a,.string b] e λ i f=>
 ∃ d:Int,(i=.returned (.int .i64 d))/\
 Br (decide (d<0))
 (K (.int .i64 2) f)
 (Calls prog 134 #[.pointer a,.int .i64 d] f λ j k=>
 (j=.returned (.tuple #[]))/\
 K (.int .i64 0) k))
theorem ZuW (a:Option Addr) (b:ByteArray) (K:Value->World->Prop) (w:World) (h:B92 a b K w):Zq prog 92 #[.pointer a,.string b] w K:=cq (sk:=.leaf) func92 (by kernel_rfl) (by kernel_rfl) (by kernel_rfl) h
def B45 (i:Option Addr) (n:ByteArray) (K:Value->World->Prop) (w:World):Prop:=
 Calls prog 99 #[.string n] w λ t g=>
 ∃ p:Bool,(t=.returned (.bool p))/\
 Zb i λ k=>
 ∃ o:Bool,(At (λ f=>f=g) ⟨k.block,k.off + 4,none⟩ [.bool o])/\
 Br o
 (K (.tuple #[.slice none 0 0,.int .i64 5]) g)
 (Br (!p)
 (K (.tuple #[.slice none 0 0,.int .i64 1]) g)
 (Calls prog 81 #[.pointer i,.string n] g λ u q=>
 ∃ d:Int,(u=.returned (.int .i64 d))/\
 Br (decide (d<0))
 (K (.tuple #[.slice none 0 0,.int .i64 2]) q)
 (New (.cells #[] 5 (0,0)) (λ s j=>
 Zb i λ l=>
 ∃ e:Sl,(At (λ f=>f=j) ⟨l.block,l.off + 1,none⟩ [.slice e.a e.len e.cap])/\
 Rng d e.len (Zb e.a λ m=>
 ∃ b:Sl,(At (λ f=>f=j) ⟨(m.add (Zah d.toNat 3)).block,(m.add (Zah d.toNat 3)).off + 1,none⟩ [.slice b.a b.len b.cap])/\
 ∃ r:World,∃ c:Sl,((Builtin.append_ #[53,53] 53 #[.slice ((some ⟨s,0,none⟩)) 0 0,.slice b.a b.len b.cap]).run prog j=.ok (.slice c.a c.len c.cap) r)/\
 K (.tuple #[.slice c.a c.len c.cap,.int .i64 0]) r)) q)))
theorem ZvE (a:Option Addr) (b:ByteArray) (K:Value->World->Prop) (w:World) (h:B45 a b K w):Zq prog 45 #[.pointer a,.string b] w K:=cq (sk:=.leaf) func45 (by kernel_rfl) (by kernel_rfl) (by kernel_rfl) h
def B12 (d:Option Addr) (b:Int) (K:Value->World->Prop) (w:World):Prop:=
 Br (decide (b<0))
 (K (.int .i64 1) w)
 (Zb d λ a=>
 ∃ c:World,((Instr.storeAt 3 (.pointer ((some ⟨a.block,a.off + 2,none⟩))) (.int .i64 b)).run prog w=.ok () c)/\
 K (.int .i64 0) c)
theorem Zwa (a:Option Addr) (b:Int) (K:Value->World->Prop) (w:World) (h:B12 a b K w):Zq prog 12 #[.pointer a,.int .i64 b] w K:=cq (sk:=.leaf) func12 (by kernel_rfl) (by kernel_rfl) (by kernel_rfl) h
def B74 (d:Option Addr) (b:Int) (K:Value->World->Prop) (w:World):Prop:=
 Br (decide (b<0))
 (K (.int .i64 1) w)
 (Zb d λ a=>
 ∃ c:World,((Instr.storeAt 3 (.pointer ((some ⟨a.block,a.off + 3,none⟩))) (.int .i64 b)).run prog w=.ok () c)/\
 K (.int .i64 0) c)
theorem Zvc (a:Option Addr) (b:Int) (K:Value->World->Prop) (w:World) (h:B74 a b K w):Zq prog 74 #[.pointer a,.int .i64 b] w K:=cq (sk:=.leaf) func74 (by kernel_rfl) (by kernel_rfl) (by kernel_rfl) h
def B31 (c:Option Addr) (A:Sl) (K:Value->World->Prop) (w:World):Prop:=
 ∃ (x:Int->World->Prop) (af:Int->World->Nat),(x 0 w)/\∀ (al:Env) (b:Int) (f:World),x b f->
 Zb c λ U=>
 ∃ t:Sl,(At (λ ah=>ah=f) ⟨U.block,U.off + 1,none⟩ [.slice t.a t.len t.cap])/\
 Br (decide (b<(↑t.len:Int)))
 (∃ (y:Int->World->Prop),(Br (decide (b<(↑A.len:Int)))
 (Drw f λ g ai=>
 Rng b A.len (Zb A.a λ ag=>
 ∃ j:Int,(At g (Addr.add ag b.toNat) [.int .i64 j])/\
 Zb c λ D=>
 ∃ k:Sl,(At g ⟨D.block,D.off + 1,none⟩ [.slice k.a k.len k.cap])/\
 Rng b k.len (Zb k.a λ E=>
 ∃ d:Sl,(At g ⟨(E.add (Zah b.toNat 3)).block,(E.add (Zah b.toNat 3)).off + 1,none⟩ [.slice d.a d.len d.cap])/\
 Zb c λ F=>
 ∃ l:Sl,(At g ⟨F.block,F.off + 1,none⟩ [.slice l.a l.len l.cap])/\
 Rng b l.len (Zb l.a λ G=>
 ∃ m:Int,(At g ⟨(G.add (Zah b.toNat 3)).block,(G.add (Zah b.toNat 3)).off + 2,none⟩ [.int .i64 m])/\
 y (if (if IntKind.i64.wrap ((↑d.len:Int) - m)<j then IntKind.i64.wrap ((↑d.len:Int) - m) else j)>0 then if IntKind.i64.wrap ((↑d.len:Int) - m)<j then IntKind.i64.wrap ((↑d.len:Int) - m) else j else 0) ai))))
 (y 0 f))/\
 ∀ (am:Env) (s:Int) (ab:World),y s ab->
 Drw ab λ i aj=>
 Zb c λ H=>
 ∃ n:Sl,(At i ⟨H.block,H.off + 1,none⟩ [.slice n.a n.len n.cap])/\
 Zb c λ I=>
 ∃ o:Sl,(At i ⟨I.block,I.off + 1,none⟩ [.slice o.a o.len o.cap])/\
 Rng b o.len (Zb o.a λ J=>
 ∃ e:Sl,(At i ⟨(J.add (Zah b.toNat 3)).block,(J.add (Zah b.toNat 3)).off + 1,none⟩ [.slice e.a e.len e.cap])/\
 Zb c λ L=>
 ∃ p:Sl,(At i ⟨L.block,L.off + 1,none⟩ [.slice p.a p.len p.cap])/\
 Rng b p.len (Zb p.a λ M=>
 ∃ u:Int,(At i ⟨(M.add (Zah b.toNat 3)).block,(M.add (Zah b.toNat 3)).off + 2,none⟩ [.int .i64 u])/\
 ((0:Int)<=IntKind.i64.wrap (u + s))/\
 ((IntKind.i64.wrap (u + s):Int)<=(↑e.cap:Int))/\
 Rng b n.len (Zb n.a λ N=>
 ∃ ac:World,((Instr.storeAt 53 (.pointer ((some ⟨(N.add (Zah b.toNat 3)).block,(N.add (Zah b.toNat 3)).off + 1,none⟩))) (.slice e.a ((IntKind.i64.wrap (u + s)).toNat) e.cap)).run prog aj=.ok () ac)/\
 Drw ac λ z ak=>
 Zb c λ O=>
 ∃ q:Sl,(At z ⟨O.block,O.off + 1,none⟩ [.slice q.a q.len q.cap])/\
 Zb c λ Q=>
 ∃ r:Sl,(At z ⟨Q.block,Q.off + 1,none⟩ [.slice r.a r.len r.cap])/\
 Rng b r.len (Zb r.a λ T=>
 ∃ v:Sl,(At z ⟨(T.add (Zah b.toNat 3)).block,(T.add (Zah b.toNat 3)).off + 1,none⟩ [.slice v.a v.len v.cap])/\
 Rng b q.len (Zb q.a λ V=>
 ∃ C:World,((Instr.storeAt 3 (.pointer ((some ⟨(V.add (Zah b.toNat 3)).block,(V.add (Zah b.toNat 3)).off + 2,none⟩))) (.int .i64 ((↑v.len:Int)))).run prog ak=.ok () C)/\
 (x (IntKind.i64.wrap (b + 1)) C)/\af (IntKind.i64.wrap (b + 1)) C<af b f))))))
 (Zb c λ X=>
 ∃ ad:World,((Instr.storeAt 4 (.pointer ((some ⟨X.block,X.off + 4,none⟩))) (.bool false)).run prog f=.ok () ad)/\
 Zb c λ Y=>
 ∃ ae:World,((Instr.storeAt 3 (.pointer ((some ⟨Y.block,Y.off + 2,none⟩))) (.int .i64 ((-1)))).run prog ad=.ok () ae)/\
 Zb c λ Z=>
 ∃ aa:World,((Instr.storeAt 3 (.pointer ((some ⟨Z.block,Z.off + 3,none⟩))) (.int .i64 ((-1)))).run prog ae=.ok () aa)/\
 K (.tuple #[]) aa)
def sk31:Sk:=(.seq (.seq .leaf (.block (.loop [4] [(.int .i64)] [4,5,6,7,8,9,10,11,12,13,14,15,16,17,18,19,20,21,22,23,24,25,26,27,28,29,30,31,32,33,34,35,36,37,38,39,40,41,42,43,44,45,46,47,48,49,50,51,52,53,54,55,56,57,58,59,60,61,62,63,64,65,66,67,68,69,70,71,72,73,74,75,76,77,78,79,80,81,82,83,84] (.seq .leaf (.seq (.block (.seq .leaf (.cut [5] [(.int .i64)] [5,15,16,17,18,19,20,21,22,23,24,25,26,27,28,29,30,31,32,33,34,35,36,37,38,39,40,41,42] .leaf .leaf))) .leaf))))) .leaf)
theorem ZvS (c:Option Addr) (b:Sl) (K:Value->World->Prop) (w:World) (h:B31 c b K w):Zq prog 31 #[.pointer c,.slice b.a b.len b.cap] w K:=cq (sk:=sk31) func31 (by kernel_rfl) (by kernel_rfl) (by kernel_rfl) h
def B43 (n:Option Addr) (K:Value->World->Prop) (w:World):Prop:=
 ∃ (j:Sl->Int->World->Prop) (p:Sl->Int->World->Nat),(j ⟨none,0,0⟩ 0 w)/\∀ (t:Env) (b:Sl) (c:Int) (d:World),j b c d->
 Zb n λ m=>
 ∃ i:Sl,(At (λ g=>g=d) ⟨m.block,m.off + 1,none⟩ [.slice i.a i.len i.cap])/\
 Br (decide (c<(↑i.len:Int)))
 (Zb n λ l=>
 ∃ e:Sl,(At (λ g=>g=d) ⟨l.block,l.off + 1,none⟩ [.slice e.a e.len e.cap])/\
 Rng c e.len (Zb e.a λ q=>
 ∃ o:ByteArray,(At (λ g=>g=d) (Addr.add (Addr.add q (Zah c.toNat 3)) 0) [.string o])/\
 New (.cells #[.string o] 9 (0,0)) (λ r s=>
 ∃ k:World,∃ f:Sl,((Builtin.append_ #[66,66] 66 #[.slice b.a b.len b.cap,.slice ((some ⟨r,0,none⟩)) 1 1]).run prog s=.ok (.slice f.a f.len f.cap) k)/\
 (j f (IntKind.i64.wrap (c + 1)) k)/\p f (IntKind.i64.wrap (c + 1)) k<p b c d) d))
 (K (.slice b.a b.len b.cap) d)
def sk43:Sk:=(.seq .leaf (.seq .leaf (.seq (.seq .leaf (.block (.loop [3,4] [.sl,(.int .i64)] [3,4,5,6,7,8,9,10,11,12,13,14,15,16,17,18,19,20,21,22,23,24] .leaf))) .leaf)))
theorem ZvG (a:Option Addr) (K:Value->World->Prop) (w:World) (h:B43 a K w):Zq prog 43 #[.pointer a] w K:=cq (sk:=sk43) func43 (by kernel_rfl) (by kernel_rfl) (by kernel_rfl) h
def B80 (n:Option Addr) (K:Value->World->Prop) (w:World):Prop:=
 ∃ (j:Int->Int->World->Prop) (o:Int->Int->World->Nat),(j 0 0 w)/\∀ (p:Env) (d:Int) (b:Int) (c:World),j d b c->
 Zb n λ m=>
 ∃ i:Sl,(At (λ g=>g=c) ⟨m.block,m.off + 1,none⟩ [.slice i.a i.len i.cap])/\
 Br (decide (b<(↑i.len:Int)))
 (Zb n λ k=>
 ∃ e:Sl,(At (λ g=>g=c) ⟨k.block,k.off + 1,none⟩ [.slice e.a e.len e.cap])/\
 Rng b e.len (Zb e.a λ l=>
 ∃ f:Sl,(At (λ g=>g=c) ⟨(l.add (Zah b.toNat 3)).block,(l.add (Zah b.toNat 3)).off + 1,none⟩ [.slice f.a f.len f.cap])/\
 (j (IntKind.i64.wrap (d + (↑f.len:Int))) (IntKind.i64.wrap (b + 1)) c)/\o (IntKind.i64.wrap (d + (↑f.len:Int))) (IntKind.i64.wrap (b + 1)) c<o d b c))
 (K (.int .i64 d) c)
def sk80:Sk:=(.seq .leaf (.seq .leaf (.seq (.seq .leaf (.block (.loop [3,4] [(.int .i64),(.int .i64)] [3,4,5,6,7,8,9,10,11,12,13,14,15,16,17,18,19,20,21,22,23,24] .leaf))) .leaf)))
theorem Zu8 (a:Option Addr) (K:Value->World->Prop) (w:World) (h:B80 a K w):Zq prog 80 #[.pointer a] w K:=cq (sk:=sk80) func80 (by kernel_rfl) (by kernel_rfl) (by kernel_rfl) h
def B79 (b:Option Addr) (N:ByteArray) (O:ByteArray) (K:Value->World->Prop) (w:World):Prop:=
 Calls prog 99 #[.string N] w λ L Q=>
 ∃ u:Bool,(L=.returned (.bool u))/\
 Calls prog 99 #[.string O] Q λ M f=>
 ∃ v:Bool,(M=.returned (.bool v))/\
 ∃ (g:World->Prop),(Br (!u)
 (K (.int .i64 1) f)
 (Br (!v)
 (K (.int .i64 1) f)
 (g  f)))/\
 ∀ (T:Env)  (c:World),g  c->
 Zb b λ i=>
 ∃ x:Bool,(At (λ a=>a=c) ⟨i.block,i.off + 4,none⟩ [.bool x])/\
 Br x
 (K (.int .i64 5) c)
 (Zb b λ j=>
 ∃ y:Int,(At (λ a=>a=c) ⟨j.block,j.off + 3,none⟩ [.int .i64 y])/\
 Br (y==0)
 (Zb b λ k=>
 ∃ F:World,((Instr.storeAt 3 (.pointer ((some ⟨k.block,k.off + 3,none⟩))) (.int .i64 ((-1)))).run prog c=.ok () F)/\
 Zb b λ l=>
 ∃ G:World,((Instr.storeAt 4 (.pointer ((some ⟨l.block,l.off + 4,none⟩))) (.bool true)).run prog F=.ok () G)/\
 K (.int .i64 5) G)
 (∃ (e:World->Prop),(Zb b λ m=>
 ∃ z:Int,(At (λ a=>a=c) ⟨m.block,m.off + 3,none⟩ [.int .i64 z])/\
 Br (decide (z>0))
 (Zb b λ n=>
 ∃ A:Int,(At (λ a=>a=c) ⟨n.block,n.off + 3,none⟩ [.int .i64 A])/\
 Zb b λ o=>
 ∃ H:World,((Instr.storeAt 3 (.pointer ((some ⟨o.block,o.off + 3,none⟩))) (.int .i64 (IntKind.i64.wrap (A - 1)))).run prog c=.ok () H)/\
 e  H)
 (e  c))/\
 ∀ (U:Env)  (d:World),e  d->
 Zb b λ p=>
 ∃ C:Int,(At (λ a=>a=d) ⟨p.block,p.off + 2,none⟩ [.int .i64 C])/\
 Br (C==0)
 (Zb b λ q=>
 ∃ I:World,((Instr.storeAt 3 (.pointer ((some ⟨q.block,q.off + 2,none⟩))) (.int .i64 ((-1)))).run prog d=.ok () I)/\
 K (.int .i64 4) I)
 (Zb b λ r=>
 ∃ D:Int,(At (λ a=>a=d) ⟨r.block,r.off + 2,none⟩ [.int .i64 D])/\
 Br (decide (D>0))
 (Zb b λ s=>
 ∃ E:Int,(At (λ a=>a=d) ⟨s.block,s.off + 2,none⟩ [.int .i64 E])/\
 Zb b λ t=>
 ∃ J:World,((Instr.storeAt 3 (.pointer ((some ⟨t.block,t.off + 2,none⟩))) (.int .i64 (IntKind.i64.wrap (E - 1)))).run prog d=.ok () J)/\
 K (.int .i64 0) J)
 (K (.int .i64 0) d))))
def sk79:Sk:=(.seq .leaf (.seq .leaf (.seq .leaf (.cut [] [] [6,13,14,15,16,17,18] .leaf (.seq .leaf (.seq .leaf (.cut [] [] [34,35,36,37,38,39,40,41,42,43,44,45] .leaf .leaf)))))))
theorem Zu9 (a:Option Addr) (b:ByteArray) (c:ByteArray) (K:Value->World->Prop) (w:World) (h:B79 a b c K w):Zq prog 79 #[.pointer a,.string b,.string c] w K:=cq (sk:=sk79) func79 (by kernel_rfl) (by kernel_rfl) (by kernel_rfl) h
def B81 (k:Option Addr) (o:ByteArray) (K:Value->World->Prop) (w:World):Prop:=
 ∃ (g:Int->World->Prop) (m:Int->World->Nat),(g 0 w)/\∀ (p:Env) (c:Int) (b:World),g c b->
 Zb k λ j=>
 ∃ f:Sl,(At (λ e=>e=b) ⟨j.block,j.off + 1,none⟩ [.slice f.a f.len f.cap])/\
 Br (decide (c<(↑f.len:Int)))
 (Zb k λ i=>
 ∃ d:Sl,(At (λ e=>e=b) ⟨i.block,i.off + 1,none⟩ [.slice d.a d.len d.cap])/\
 Rng c d.len (Zb d.a λ n=>
 ∃ l:ByteArray,(At (λ e=>e=b) (Addr.add (Addr.add n (Zah c.toNat 3)) 0) [.string l])/\
 Br (l.toList==o.toList)
 (K (.int .i64 c) b)
 ((g (IntKind.i64.wrap (c + 1)) b)/\m (IntKind.i64.wrap (c + 1)) b<m c b)))
 (K (.int .i64 ((-1))) b)
def sk81:Sk:=(.seq .leaf (.seq (.seq .leaf (.block (.loop [5] [(.int .i64)] [4,5,6,7,8,9,10,11,12,13,14,15,16,17,18,19,20,21,22,23,24,25] .leaf))) .leaf))
theorem Zu7 (a:Option Addr) (b:ByteArray) (K:Value->World->Prop) (w:World) (h:B81 a b K w):Zq prog 81 #[.pointer a,.string b] w K:=cq (sk:=sk81) func81 (by kernel_rfl) (by kernel_rfl) (by kernel_rfl) h
def B82 (k:Option Addr) (U:ByteArray) (s:Sl) (V:Int) (K:Value->World->Prop) (w:World):Prop:=
 New (.cells #[.string U,.slice s.a s.len s.cap,.int .i64 V] 112 (0,0)) (λ D X=>
 ∃ (r:Int->World->Prop),(∃ (q:Int->World->Prop) (N:Int->World->Nat),(q 0 X)/\∀ (Z:Env) (b:Int) (t:World),q b t->
 Drw t λ n p=>
 Zb k λ C=>
 ∃ o:Sl,(At n ⟨C.block,C.off + 1,none⟩ [.slice o.a o.len o.cap])/\
 Br (decide (b<(↑o.len:Int)))
 (Zb k λ x=>
 ∃ l:Sl,(At n ⟨x.block,x.off + 1,none⟩ [.slice l.a l.len l.cap])/\
 Rng b l.len (Zb l.a λ O=>
 ∃ E:ByteArray,(At n (Addr.add (Addr.add O (Zah b.toNat 3)) 0) [.string E])/\
 ∃ F:ByteArray,(At n ⟨D,0,none⟩ [.string F])/\
 Br (Op.bytesLess E.toList F.toList)
 ((q (IntKind.i64.wrap (b + 1)) p)/\N (IntKind.i64.wrap (b + 1)) p<N b t)
 (r b p)))
 (r b p))/\
 ∀ (aa:Env) (c:Int) (J:World),r c J->
 New (.cells #[] 112 (0,0)) (λ Q L=>
 Zb k λ y=>
 ∃ e:Sl,(At (λ m=>m=L) ⟨y.block,y.off + 1,none⟩ [.slice e.a e.len e.cap])/\
 ((0:Int)<=c)/\
 ((c:Int)<=(↑e.cap:Int))/\
 ∃ u:World,∃ f:Sl,((Builtin.append_ #[79,79] 79 #[.slice ((some ⟨Q,0,none⟩)) 0 0,.slice e.a c.toNat e.cap]).run prog L=.ok (.slice f.a f.len f.cap) u)/\
 ∃ G:ByteArray,∃ g:Sl,∃ H:Int,(At (λ m=>m=u) ⟨D,0,none⟩ [.string G,.slice g.a g.len g.cap,.int .i64 H])/\
 New (.cells #[.string G,.slice g.a g.len g.cap,.int .i64 H] 112 (0,0)) (λ T Y=>
 ∃ v:World,∃ i:Sl,((Builtin.append_ #[79,79] 79 #[.slice f.a f.len f.cap,.slice ((some ⟨T,0,none⟩)) 1 1]).run prog Y=.ok (.slice i.a i.len i.cap) v)/\
 Zb k λ z=>
 ∃ d:Sl,(At (λ m=>m=v) ⟨z.block,z.off + 1,none⟩ [.slice d.a d.len d.cap])/\
 ((0:Int)<=c)/\
 ((c:Int)<=(↑d.len:Int))/\
 ∃ M:World,∃ j:Sl,((Builtin.append_ #[79,79] 79 #[.slice i.a i.len i.cap,.slice (ZcW d.a c.toNat d.cap 3) (d.len - c.toNat) (d.cap - c.toNat)]).run prog v=.ok (.slice j.a j.len j.cap) M)/\
 Zb k λ A=>
 ∃ I:World,((Instr.storeAt 79 (.pointer ((some ⟨A.block,A.off + 1,none⟩))) (.slice j.a j.len j.cap)).run prog M=.ok () I)/\
 K (.tuple #[]) I) u) J) w
def sk82:Sk:=(.seq .leaf (.seq .leaf (.cut [4] [(.int .i64)] [4,6,7,8,9,10,11,12,13,14,15,16,17,18,19,20,21,22,23,24,25,26,27] (.block (.loop [4] [(.int .i64)] [4,6,7,8,9,10,11,12,13,14,15,16,17,18,19,20,21,22,23,24,25,26,27] .leaf)) .leaf)))
theorem Zu6 (c:Option Addr) (d:ByteArray) (b:Sl) (e:Int) (K:Value->World->Prop) (w:World) (h:B82 c d b e K w):Zq prog 82 #[.pointer c,.agg #[.string d,.slice b.a b.len b.cap,.int .i64 e]] w K:=cq (sk:=sk82) func82 (by kernel_rfl) (by kernel_rfl) (by kernel_rfl) h
def B134 (g:Option Addr) (b:Int) (K:Value->World->Prop) (w:World):Prop:=
 New (.cells #[] 112 (0,0)) (λ q n=>
 Zb g λ m=>
 ∃ f:Sl,(At (λ i=>i=n) ⟨m.block,m.off + 1,none⟩ [.slice f.a f.len f.cap])/\
 ((0:Int)<=b)/\
 ((b:Int)<=(↑f.cap:Int))/\
 ∃ j:World,∃ d:Sl,((Builtin.append_ #[79,79] 79 #[.slice ((some ⟨q,0,none⟩)) 0 0,.slice f.a b.toNat f.cap]).run prog n=.ok (.slice d.a d.len d.cap) j)/\
 Zb g λ k=>
 ∃ c:Sl,(At (λ i=>i=j) ⟨k.block,k.off + 1,none⟩ [.slice c.a c.len c.cap])/\
 ((0:Int)<=IntKind.i64.wrap (b + 1))/\
 ((IntKind.i64.wrap (b + 1):Int)<=(↑c.len:Int))/\
 ∃ o:World,∃ e:Sl,((Builtin.append_ #[79,79] 79 #[.slice d.a d.len d.cap,.slice (ZcW c.a (IntKind.i64.wrap (b + 1)).toNat c.cap 3) (c.len - (IntKind.i64.wrap (b + 1)).toNat) (c.cap - (IntKind.i64.wrap (b + 1)).toNat)]).run prog j=.ok (.slice e.a e.len e.cap) o)/\
 Zb g λ l=>
 ∃ p:World,((Instr.storeAt 79 (.pointer ((some ⟨l.block,l.off + 1,none⟩))) (.slice e.a e.len e.cap)).run prog o=.ok () p)/\
 K (.tuple #[]) p) w
theorem ZtG (a:Option Addr) (b:Int) (K:Value->World->Prop) (w:World) (h:B134 a b K w):Zq prog 134 #[.pointer a,.int .i64 b] w K:=cq (sk:=.leaf) func134 (by kernel_rfl) (by kernel_rfl) (by kernel_rfl) h
def B99 (f:ByteArray) (K:Value->World->Prop) (w:World):Prop:=
 ∃ (e:Int->World->Prop) (c:Int->World->Nat),(e 0 w)/\∀ (g:Env) (b:Int) (a:World),e b a->
 Br (decide (b<(↑f.size:Int)))
 (∃ d:UInt8,((0:Int)<=b)/\
 (f[b.toNat]? =some d)/\
 Br (decide ((↑d.toNat:Int) >= 97))
 (Br (decide ((↑d.toNat:Int)<=122))
 ((e (IntKind.i64.wrap (b + 1)) a)/\c (IntKind.i64.wrap (b + 1)) a<c b a)
 (Br (decide ((↑d.toNat:Int) >= 48))
 (Br (decide ((↑d.toNat:Int)<=57))
 ((e (IntKind.i64.wrap (b + 1)) a)/\c (IntKind.i64.wrap (b + 1)) a<c b a)
 (Br ((↑d.toNat:Int)==46)
 ((e (IntKind.i64.wrap (b + 1)) a)/\c (IntKind.i64.wrap (b + 1)) a<c b a)
 (Br (!(↑d.toNat:Int)==45)
 (K (.bool false) a)
 ((e (IntKind.i64.wrap (b + 1)) a)/\c (IntKind.i64.wrap (b + 1)) a<c b a))))
 (Br ((↑d.toNat:Int)==46)
 ((e (IntKind.i64.wrap (b + 1)) a)/\c (IntKind.i64.wrap (b + 1)) a<c b a)
 (Br (!(↑d.toNat:Int)==45)
 (K (.bool false) a)
 ((e (IntKind.i64.wrap (b + 1)) a)/\c (IntKind.i64.wrap (b + 1)) a<c b a)))))
 (Br (decide ((↑d.toNat:Int) >= 48))
 (Br (decide ((↑d.toNat:Int)<=57))
 ((e (IntKind.i64.wrap (b + 1)) a)/\c (IntKind.i64.wrap (b + 1)) a<c b a)
 (Br ((↑d.toNat:Int)==46)
 ((e (IntKind.i64.wrap (b + 1)) a)/\c (IntKind.i64.wrap (b + 1)) a<c b a)
 (Br (!(↑d.toNat:Int)==45)
 (K (.bool false) a)
 ((e (IntKind.i64.wrap (b + 1)) a)/\c (IntKind.i64.wrap (b + 1)) a<c b a))))
 (Br ((↑d.toNat:Int)==46)
 ((e (IntKind.i64.wrap (b + 1)) a)/\c (IntKind.i64.wrap (b + 1)) a<c b a)
 (Br (!(↑d.toNat:Int)==45)
 (K (.bool false) a)
 ((e (IntKind.i64.wrap (b + 1)) a)/\c (IntKind.i64.wrap (b + 1)) a<c b a)))))
 (Br (decide ((↑f.size:Int) >= 1))
 (K (.bool (decide ((↑f.size:Int)<=64))) a)
 (K (.bool false) a))
def sk99:Sk:=(.seq .leaf (.seq (.seq .leaf (.block (.loop [3] [(.int .i64)] [2,3,4,5,6,7,8,9,10,11,12,13,14,15,16,17,18,19,20,21,22,23,24,25,26,27,28,29,30,31,32,33,34,35,36] .leaf))) .leaf))
theorem ZuP (a:ByteArray) (K:Value->World->Prop) (w:World) (h:B99 a K w):Zq prog 99 #[.string a] w K:=cq (sk:=sk99) func99 (by kernel_rfl) (by kernel_rfl) (by kernel_rfl) h
end
section
open Go Go.VC Tryz
variable {R:Cx} {Hs Rest:List HP} {w:World}
abbrev RE:=ByteArray × Sl × Fl
def erR (E:List RE):Fs:=E.map λ e=>(e.1,e.2.2)
def Zcc (e:RE):List Value:=[.string e.1,.slice e.2.1.a e.2.1.len e.2.1.cap,.int .i64 e.2.2.sure]
def Za4 (E:List RE):HP:=Zig (E.map λ e=>Own e.2.1 5 (b8 e.2.2.b))
abbrev ZcI (st:DS) (s:Sl):Obj:=.cells [.int .i64 st.room,.slice s.a s.len s.cap,.int .i64 st.fail,.int .i64 st.arm,.bool st.off].toArray 81 (0,0)
abbrev RO (r:Nat) (s:Sl) (E:List RE) (st:DS) (Hs:List HP):List HP:=pts r (ZcI st s)::ZM 3 s 112 (E.map Zcc)::Za4 E::Hs
def Zy (r:Nat) (st:DS):HP:=exs λ x:Sl × List RE=>Zig [pur (erR x.2=st.fs),pts r (ZcI st x.1),ZM 3 x.1 112 (x.2.map Zcc),Za4 x.2]
theorem Sat.ref {r:Nat} {st:DS}:Sat R (Zy r st::Hs) w↔∃ s E,erR E=st.fs/\Sat R (RO r s E st Hs) w:=by
 unfold Zy;rw [Sat.exs];constructor
 ·rintro ⟨⟨s,E⟩,h⟩
  have:=Sat.star.1 h;exact ⟨s,E,Sat.pur.1 this⟩
 ·rintro ⟨s,E,h1,h2⟩
  exact ⟨⟨s,E⟩,Sat.star.2 (Sat.pur.2 ⟨h1,h2⟩)⟩
theorem Bufs.split {a b:List RE} {e:RE}:Sat R (Za4 (a++e::b)::Hs) w↔Sat R (Own e.2.1 5 (b8 e.2.2.b)::Za4 (a++b)::Hs) w:=by
 have p:((a++e::b).map λ e:RE=>Own e.2.1 5 (b8 e.2.2.b)).Perm (Own e.2.1 5 (b8 e.2.2.b)::(a++b).map λ e:RE=>Own e.2.1 5 (b8 e.2.2.b)):=by
  rw [List.map_append,List.map_cons,List.map_append];exact List.perm_middle
 unfold Za4;constructor
 ·intro h
  exact ((Sat.star.1 h).perm (p.append_right Hs)).cons λ _ h=>Sat.star.2 h
 ·intro h
  have h1:Sat R ((Own e.2.1 5 (b8 e.2.2.b)::(a++b).map λ e:RE=>Own e.2.1 5 (b8 e.2.2.b))++Hs) w:=h.cons λ _ h=>Sat.star.1 h;exact Sat.star.2 (h1.perm (p.symm.append_right Hs))
theorem Bufs.nil:Sat R (Za4 []::Hs) w↔Sat R Hs w:=Sat.star
theorem RO.reads {r:Nat} {s:Sl} {E:List RE} {st:DS} {S:World->Prop} (hw:Sat R (RO r s E st Hs) w) (hS:∀ w,S w->Sat R (RO r s E st Hs) w):ReadsN 3 s (E.map Zcc) S:=
 ZM.readsM (rows:=E.map Zcc) (T:=112) hw hS
theorem RO.shut {r:Nat} {s:Sl} {E:List RE} {st:DS} (hE:erR E=st.fs) (h:Sat R (RO r s E st Hs) w):Sat R (Zy r st::Hs) w:=Sat.ref.2 ⟨s,E,hE,h⟩
theorem Zky (room:Int) (hw:Sat R Hs w):Zq prog 34 #[.int .i64 room] w λ v w'=>
  (Ziz room=1/\v=.tuple #[.pointer none,.int .i64 1]/\Sat R Hs w')\/
  (Ziz room=0/\1<=room/\room<=16777216/\∃ d,v=.tuple #[.pointer (some ⟨d,0,none⟩),.int .i64 0]/\Sat R (Zy d ⟨room,[],-1,-1,false⟩::Hs) w'):=by
 apply ZvP;refine Br.mk (λ h=>?_) (λ h=>Br.mk (λ h2=>?_) (λ h2=>?_))<;>simp only [decide_eq_true_eq,decide_eq_false_iff_not] at h
 ·exact .inl ⟨if_pos (.inl h),rfl,hw⟩
 ·simp only [decide_eq_true_eq] at h2
  exact .inl ⟨if_pos (.inr h2),rfl,hw⟩
 ·simp only [decide_eq_false_iff_not] at h2
  refine Zd hw λ d w hw=>.inr ⟨if_neg (by omega),by omega,by omega,d,rfl,?_⟩;exact RO.shut (s:=⟨none,0,0⟩) (E:=[]) rfl (hw.cons λ _ h=>ZM.nil (Bufs.nil.2 h))
theorem ZmI (c:Int):Zk3 c=true↔(97<=c/\c<=122)\/(48<=c/\c<=57)\/c=46\/c=45:=by
 unfold Zk3;simp [or_assoc]
theorem Zfd (s:ByteArray) (hb:s.size<=9223372036854775807) (hw:Sat R Hs w):Zq prog 99 #[.string s] w λ r w'=>r=.bool (Zm s)/\Sat R Hs w':=by
 apply ZuP;have hbl:=Zbe s;refine ⟨λ i w=>∃ k:Nat,i=k/\k<=s.size/\(bytesL s).all Zk3=((bytesL s).drop k).all Zk3/\Sat R Hs w,λ i _=>s.size - i.toNat,⟨0,rfl,Nat.zero_le _,rfl,hw⟩,?_⟩;rintro z _ w ⟨k,rfl,hk,he,hw⟩
 (first|with_reducible refine Br.d (λ h=>?_) (λ h=>?_)|with_reducible refine Br.nd (λ h=>?_) (λ h=>?_)|with_reducible refine Br.e (λ h=>?_) (λ h=>?_)|with_reducible refine Br.ne (λ h=>?_) (λ h=>?_)|with_reducible refine Br.nne (λ h=>?_) (λ h=>?_)|with_reducible refine Br.se (λ h=>?_) (λ h=>?_)|with_reducible refine Br.sne (λ h=>?_) (λ h=>?_)|with_reducible refine Br.nb (λ h=>?_) (λ h=>?_)|with_reducible refine Br.mk (λ h=>?_) (λ h=>?_)|refine Br.d (λ h=>?_) (λ h=>?_)|refine Br.nd (λ h=>?_) (λ h=>?_)|refine Br.e (λ h=>?_) (λ h=>?_)|refine Br.ne (λ h=>?_) (λ h=>?_)|refine Br.nne (λ h=>?_) (λ h=>?_)|refine Br.se (λ h=>?_) (λ h=>?_)|refine Br.mk (λ h=>?_) (λ h=>?_))
 ·have hk':k<(bytesL s).length:=by omega
  have hkd:k<s.data.size:=by have:s.size=s.data.size:=rfl;omega
  rw [ZaQ hk',List.all_cons] at he;have hg:(bytesL s)[k]=((s.data[k]).toNat:Int):=by simp [bytesL]
  rw [hg] at he;refine ⟨s.data[k],by omega,?_,?_⟩
  ·rw [Int.toNat_natCast]
   show s.data[k]? =_;exact Array.getElem?_eq_getElem hkd
  generalize ((s.data[k]).toNat:Int)=c at he;rw [Zg (by omega) (by omega)];have yes:((97<=c/\c<=122)\/(48<=c/\c<=57)\/c=46\/c=45)->(∃ k':Nat,(k:Int) + 1=k'/\k'<=s.size/\(bytesL s).all Zk3=((bytesL s).drop k').all Zk3/\Sat R Hs w)/\s.size - ((k:Int) + 1).toNat<s.size - (k:Int).toNat:=λ hc=>by
   rw [(ZmI c).2 hc,Bool.true_and] at he;exact ⟨⟨k + 1,by omega,by omega,he,hw⟩,by omega⟩
  have no:¬ ((97<=c/\c<=122)\/(48<=c/\c<=57)\/c=46\/c=45)->Value.bool false=.bool (Zm s)/\Sat R Hs w:=λ hc=>by
   have:Zk3 c=false:=by rw [<-Bool.not_eq_true,ZmI];exact hc
   rw [this,Bool.false_and] at he;exact ⟨by rw [Zm,he];simp,hw⟩
  clear he
  repeat' (first|with_reducible refine Br.d (λ h=>?_) (λ h=>?_)|with_reducible refine Br.nd (λ h=>?_) (λ h=>?_)|with_reducible refine Br.e (λ h=>?_) (λ h=>?_)|with_reducible refine Br.ne (λ h=>?_) (λ h=>?_)|with_reducible refine Br.nne (λ h=>?_) (λ h=>?_)|with_reducible refine Br.se (λ h=>?_) (λ h=>?_)|with_reducible refine Br.sne (λ h=>?_) (λ h=>?_)|with_reducible refine Br.nb (λ h=>?_) (λ h=>?_)|with_reducible refine Br.mk (λ h=>?_) (λ h=>?_)|refine Br.d (λ h=>?_) (λ h=>?_)|refine Br.nd (λ h=>?_) (λ h=>?_)|refine Br.e (λ h=>?_) (λ h=>?_)|refine Br.ne (λ h=>?_) (λ h=>?_)|refine Br.nne (λ h=>?_) (λ h=>?_)|refine Br.se (λ h=>?_) (λ h=>?_)|refine Br.mk (λ h=>?_) (λ h=>?_))
  all_goals first|exact yes (by omega)|exact no (by omega)
 ·have:k=s.size:=by omega
  subst this;rw [List.drop_eq_nil_of_le (by omega)] at he;have e:Zm s=(decide (s.size≠0) && decide (s.size<=64)):=by rw [Zm,he];simp
  rw [e]
  (first|with_reducible refine Br.d (λ h=>?_) (λ h=>?_)|with_reducible refine Br.nd (λ h=>?_) (λ h=>?_)|with_reducible refine Br.e (λ h=>?_) (λ h=>?_)|with_reducible refine Br.ne (λ h=>?_) (λ h=>?_)|with_reducible refine Br.nne (λ h=>?_) (λ h=>?_)|with_reducible refine Br.se (λ h=>?_) (λ h=>?_)|with_reducible refine Br.sne (λ h=>?_) (λ h=>?_)|with_reducible refine Br.nb (λ h=>?_) (λ h=>?_)|with_reducible refine Br.mk (λ h=>?_) (λ h=>?_)|refine Br.d (λ h=>?_) (λ h=>?_)|refine Br.nd (λ h=>?_) (λ h=>?_)|refine Br.e (λ h=>?_) (λ h=>?_)|refine Br.ne (λ h=>?_) (λ h=>?_)|refine Br.nne (λ h=>?_) (λ h=>?_)|refine Br.se (λ h=>?_) (λ h=>?_)|refine Br.mk (λ h=>?_) (λ h=>?_))
  ·refine ⟨?_,hw⟩
   rw [decide_eq_true (p:=s.size≠0) (by omega),Bool.true_and,decide_eq_decide.2 (show ((s.size:Int)<=64)↔s.size<=64 by omega)]
  ·refine ⟨?_,hw⟩
   rw [decide_eq_false (p:=s.size≠0) (by omega)];rfl
def ZsC {β:Type} (k:ByteArray):List (ByteArray × β)->Option Nat
 |[]=>none
 |e::l=>if k==e.1 then some 0 else (ZsC k l).map (· + 1)
def Zhj (k:ByteArray) (fs:Fs):Int:=match ZsC k fs with|some i=>i|none=>-1
theorem ZmF {β:Type} {k:ByteArray} {v:β}:∀ {a b:List (ByteArray × β)},Zw k a=none->ZsC k (a++(k,v)::b)=some a.length
 |[],b,_=>by simp [ZsC,Zbg]
 |e::a,b,h=>by
  rw [Zw] at h;split at h
  ·cases h
  ·rename_i hne
   rw [List.cons_append,ZsC,if_neg hne,ZmF h];rfl
theorem Zko {β:Type} {k:ByteArray}:∀ {l:List (ByteArray × β)},Zw k l=none->ZsC k l=none
 |[],_=>rfl
 |e::l,h=>by
  rw [Zw] at h;split at h
  ·cases h
  ·rename_i hne;rw [ZsC,if_neg hne,Zko h];rfl
theorem Ziu {k:ByteArray} {f:Fl} {a b:Fs} (h:Zw k a=none):Zhj k (a++(k,f)::b)=a.length:=by unfold Zhj;rw [ZmF h]
theorem Zbv {k:ByteArray} {fs:Fs} (h:Zw k fs=none):Zhj k fs=-1:=by unfold Zhj;rw [Zko h]
theorem Zar (E:List RE):(erR E).length=E.length:=by simp [erR]
theorem Zev (a b:List RE):erR (a++b)=erR a++erR b:=by simp [erR]
theorem ZfI (e:RE) (b:List RE):erR (e::b)=(e.1,e.2.2)::erR b:=rfl
theorem Zb1 {r:Nat} {s:Sl} {E:List RE} {st:DS} (k:ByteArray) (hE:erR E=st.fs) (hl:E.length<=1000000) (hw:Sat R (RO r s E st Hs) w):
  Zq prog 81 #[.pointer (some ⟨r,0,none⟩),.string k] w λ v w'=>v=.int .i64 (Zhj k st.fs)/\Sat R (RO r s E st Hs) w':=by
 apply Zu7;have hsl:s.len=E.length:=by have:=ZM.len (hw.take (ZM 3 s 112 (E.map Zcc)));rwa [List.length_map] at this
 refine ⟨λ i w=>∃ j:Nat,i=j/\j<=E.length/\Zw k (st.fs.take j)=none/\Sat R (RO r s E st Hs) w,λ i _=>E.length - i.toNat,⟨0,rfl,Nat.zero_le _,rfl,hw⟩,?_⟩;rintro z _ w ⟨j,rfl,hj,hn,hw⟩
 repeat (first|refine Zb.mk rfl ?_|refine ⟨_,At.own Ze (by exact ⟨rfl,trivial⟩),?_⟩|refine ⟨_,At.own (eqS hw) (by exact ⟨rfl,trivial⟩),?_⟩|refine ⟨_,(by rw [Zf];exact At.own Ze (by exact ⟨rfl,trivial⟩)),?_⟩|refine ⟨_,(by rw [Zf];exact At.own (eqS hw) (by exact ⟨rfl,trivial⟩)),?_⟩)
 (first|with_reducible refine Br.d (λ h=>?_) (λ h=>?_)|with_reducible refine Br.nd (λ h=>?_) (λ h=>?_)|with_reducible refine Br.e (λ h=>?_) (λ h=>?_)|with_reducible refine Br.ne (λ h=>?_) (λ h=>?_)|with_reducible refine Br.nne (λ h=>?_) (λ h=>?_)|with_reducible refine Br.se (λ h=>?_) (λ h=>?_)|with_reducible refine Br.sne (λ h=>?_) (λ h=>?_)|with_reducible refine Br.nb (λ h=>?_) (λ h=>?_)|with_reducible refine Br.mk (λ h=>?_) (λ h=>?_)|refine Br.d (λ h=>?_) (λ h=>?_)|refine Br.nd (λ h=>?_) (λ h=>?_)|refine Br.e (λ h=>?_) (λ h=>?_)|refine Br.ne (λ h=>?_) (λ h=>?_)|refine Br.nne (λ h=>?_) (λ h=>?_)|refine Br.se (λ h=>?_) (λ h=>?_)|refine Br.mk (λ h=>?_) (λ h=>?_))
 ·have hj':j<E.length:=by omega
  repeat (first|refine Zb.mk rfl ?_|refine ⟨_,At.own Ze (by exact ⟨rfl,trivial⟩),?_⟩|refine ⟨_,At.own (eqS hw) (by exact ⟨rfl,trivial⟩),?_⟩|refine ⟨_,(by rw [Zf];exact At.own Ze (by exact ⟨rfl,trivial⟩)),?_⟩|refine ⟨_,(by rw [Zf];exact At.own (eqS hw) (by exact ⟨rfl,trivial⟩)),?_⟩)
  refine (RO.reads hw (eqS hw)).rngM hj' λ a ha el=>⟨_,el.zz (by exact ⟨rfl,trivial⟩),?_⟩;have hge:st.fs[j]'(by rw [<-hE,Zar];exact hj')=(E[j].1,E[j].2.2):=by simp [<-hE,erR]
  have hsplit:st.fs=st.fs.take j++(E[j].1,E[j].2.2)::st.fs.drop (j + 1):=by
   rw [<-hge,<-List.drop_eq_getElem_cons,List.take_append_drop]
  have hlen:(st.fs.take j).length=j:=by rw [List.length_take,<-hE,Zar];omega
  (first|with_reducible refine Br.d (λ h=>?_) (λ h=>?_)|with_reducible refine Br.nd (λ h=>?_) (λ h=>?_)|with_reducible refine Br.e (λ h=>?_) (λ h=>?_)|with_reducible refine Br.ne (λ h=>?_) (λ h=>?_)|with_reducible refine Br.nne (λ h=>?_) (λ h=>?_)|with_reducible refine Br.se (λ h=>?_) (λ h=>?_)|with_reducible refine Br.sne (λ h=>?_) (λ h=>?_)|with_reducible refine Br.nb (λ h=>?_) (λ h=>?_)|with_reducible refine Br.mk (λ h=>?_) (λ h=>?_)|refine Br.d (λ h=>?_) (λ h=>?_)|refine Br.nd (λ h=>?_) (λ h=>?_)|refine Br.e (λ h=>?_) (λ h=>?_)|refine Br.ne (λ h=>?_) (λ h=>?_)|refine Br.nne (λ h=>?_) (λ h=>?_)|refine Br.se (λ h=>?_) (λ h=>?_)|refine Br.mk (λ h=>?_) (λ h=>?_))
  ·subst h
   refine ⟨?_,hw⟩;rw [hsplit,Ziu hn,hlen]
  ·rw [Zg (by omega) (by omega)]
   refine ⟨⟨j + 1,by omega,by omega,?_,hw⟩,by dsimp only;omega⟩;have:st.fs.take (j + 1)=st.fs.take j++[(E[j].1,E[j].2.2)]:=by
    rw [<-hge,List.take_succ_eq_append_getElem]
   rw [this];refine Z2 ?_;rw [List.map_append,List.mem_append,not_or];exact ⟨ZQ hn,by simp;exact λ h2=>h h2.symm⟩
 ·refine ⟨?_,hw⟩
  rw [List.take_of_length_le (by rw [<-hE,Zar];omega)] at hn;rw [Zbv hn]
end
section
open Go Go.VC Tryz
variable {R:Cx} {Hs Rest:List HP} {w:World}
theorem ZkC:ZeS 0=(-1,true):=rfl
theorem Zjt {n:Int} (h:0<n):ZeS n=(n - 1,false):=by
 unfold ZeS;rw [if_neg (by simp;omega)];simp;omega
theorem ZsG:ZeS (-1)=(-1,false):=rfl
theorem Zda {r:Nat} {st:DS} {k k2:ByteArray} (c:Counts st) (hk:k.size<=9223372036854775807) (hk2:k2.size<=9223372036854775807) (hw:Sat R (Zy r st::Hs) w):
  Zq prog 79 #[.pointer (some ⟨r,0,none⟩),.string k,.string k2] w λ v w'=>v=.int .i64 (chg st (Zm k && Zm k2)).2/\Sat R (Zy r (chg st (Zm k && Zm k2)).1::Hs) w':=by
 apply Zu9;refine (Zfd k hk hw).use ?_;rintro _ w ⟨rfl,hw⟩;refine ⟨_,rfl,(Zfd k2 hk2 hw).use ?_⟩;rintro _ w ⟨rfl,hw⟩;refine ⟨_,rfl,λ w=>(Zm k && Zm k2)=true/\Sat R (Zy r st::Hs) w,?_,?_⟩
 ·have no:(Zm k && Zm k2)=false->Value.int .i64 1=.int .i64 (chg st (Zm k && Zm k2)).2/\Sat R (Zy r (chg st (Zm k && Zm k2)).1::Hs) w:=λ h=>by rw [h];exact ⟨rfl,hw⟩
  (first|with_reducible refine Br.d (λ h=>?_) (λ h=>?_)|with_reducible refine Br.nd (λ h=>?_) (λ h=>?_)|with_reducible refine Br.e (λ h=>?_) (λ h=>?_)|with_reducible refine Br.ne (λ h=>?_) (λ h=>?_)|with_reducible refine Br.nne (λ h=>?_) (λ h=>?_)|with_reducible refine Br.se (λ h=>?_) (λ h=>?_)|with_reducible refine Br.sne (λ h=>?_) (λ h=>?_)|with_reducible refine Br.nb (λ h=>?_) (λ h=>?_)|with_reducible refine Br.mk (λ h=>?_) (λ h=>?_)|refine Br.d (λ h=>?_) (λ h=>?_)|refine Br.nd (λ h=>?_) (λ h=>?_)|refine Br.e (λ h=>?_) (λ h=>?_)|refine Br.ne (λ h=>?_) (λ h=>?_)|refine Br.nne (λ h=>?_) (λ h=>?_)|refine Br.se (λ h=>?_) (λ h=>?_)|refine Br.mk (λ h=>?_) (λ h=>?_))
  ·exact no (by rw [h];rfl)
  ·(first|with_reducible refine Br.d (λ h=>?_) (λ h=>?_)|with_reducible refine Br.nd (λ h=>?_) (λ h=>?_)|with_reducible refine Br.e (λ h=>?_) (λ h=>?_)|with_reducible refine Br.ne (λ h=>?_) (λ h=>?_)|with_reducible refine Br.nne (λ h=>?_) (λ h=>?_)|with_reducible refine Br.se (λ h=>?_) (λ h=>?_)|with_reducible refine Br.sne (λ h=>?_) (λ h=>?_)|with_reducible refine Br.nb (λ h=>?_) (λ h=>?_)|with_reducible refine Br.mk (λ h=>?_) (λ h=>?_)|refine Br.d (λ h=>?_) (λ h=>?_)|refine Br.nd (λ h=>?_) (λ h=>?_)|refine Br.e (λ h=>?_) (λ h=>?_)|refine Br.ne (λ h=>?_) (λ h=>?_)|refine Br.nne (λ h=>?_) (λ h=>?_)|refine Br.se (λ h=>?_) (λ h=>?_)|refine Br.mk (λ h=>?_) (λ h=>?_))
   ·rename_i h2;exact no (by rw [h,h2];rfl)
   ·rename_i h2;exact ⟨by rw [h,h2];rfl,hw⟩
 rintro z w ⟨hok,hw⟩;rw [hok];obtain ⟨s,E,hE,hw⟩:=Sat.ref.1 hw;have a0:=c.a0;have a1:=c.a1;have f0:=c.f0;have f1:=c.f1
 repeat (first|refine Zb.mk rfl ?_|refine ⟨_,At.own Ze (by exact ⟨rfl,trivial⟩),?_⟩|refine ⟨_,At.own (eqS hw) (by exact ⟨rfl,trivial⟩),?_⟩|refine ⟨_,(by rw [Zf];exact At.own Ze (by exact ⟨rfl,trivial⟩)),?_⟩|refine ⟨_,(by rw [Zf];exact At.own (eqS hw) (by exact ⟨rfl,trivial⟩)),?_⟩)
 (first|with_reducible refine Br.d (λ h=>?_) (λ h=>?_)|with_reducible refine Br.nd (λ h=>?_) (λ h=>?_)|with_reducible refine Br.e (λ h=>?_) (λ h=>?_)|with_reducible refine Br.ne (λ h=>?_) (λ h=>?_)|with_reducible refine Br.nne (λ h=>?_) (λ h=>?_)|with_reducible refine Br.se (λ h=>?_) (λ h=>?_)|with_reducible refine Br.sne (λ h=>?_) (λ h=>?_)|with_reducible refine Br.nb (λ h=>?_) (λ h=>?_)|with_reducible refine Br.mk (λ h=>?_) (λ h=>?_)|refine Br.d (λ h=>?_) (λ h=>?_)|refine Br.nd (λ h=>?_) (λ h=>?_)|refine Br.e (λ h=>?_) (λ h=>?_)|refine Br.ne (λ h=>?_) (λ h=>?_)|refine Br.nne (λ h=>?_) (λ h=>?_)|refine Br.se (λ h=>?_) (λ h=>?_)|refine Br.mk (λ h=>?_) (λ h=>?_))
 ·have e:chg st true=(st,5):=by simp [chg,h]
  rw [e];exact ⟨rfl,RO.shut hE hw⟩
 have hoff:=h
 repeat (first|refine Zb.mk rfl ?_|refine ⟨_,At.own Ze (by exact ⟨rfl,trivial⟩),?_⟩|refine ⟨_,At.own (eqS hw) (by exact ⟨rfl,trivial⟩),?_⟩|refine ⟨_,(by rw [Zf];exact At.own Ze (by exact ⟨rfl,trivial⟩)),?_⟩|refine ⟨_,(by rw [Zf];exact At.own (eqS hw) (by exact ⟨rfl,trivial⟩)),?_⟩)
 (first|with_reducible refine Br.d (λ h=>?_) (λ h=>?_)|with_reducible refine Br.nd (λ h=>?_) (λ h=>?_)|with_reducible refine Br.e (λ h=>?_) (λ h=>?_)|with_reducible refine Br.ne (λ h=>?_) (λ h=>?_)|with_reducible refine Br.nne (λ h=>?_) (λ h=>?_)|with_reducible refine Br.se (λ h=>?_) (λ h=>?_)|with_reducible refine Br.sne (λ h=>?_) (λ h=>?_)|with_reducible refine Br.nb (λ h=>?_) (λ h=>?_)|with_reducible refine Br.mk (λ h=>?_) (λ h=>?_)|refine Br.d (λ h=>?_) (λ h=>?_)|refine Br.nd (λ h=>?_) (λ h=>?_)|refine Br.e (λ h=>?_) (λ h=>?_)|refine Br.ne (λ h=>?_) (λ h=>?_)|refine Br.nne (λ h=>?_) (λ h=>?_)|refine Br.se (λ h=>?_) (λ h=>?_)|refine Br.mk (λ h=>?_) (λ h=>?_))
 ·repeat (first|refine Zb.mk rfl ?_|refine ⟨_,At.own Ze (by exact ⟨rfl,trivial⟩),?_⟩|refine ⟨_,At.own (eqS hw) (by exact ⟨rfl,trivial⟩),?_⟩|refine ⟨_,(by rw [Zf];exact At.own Ze (by exact ⟨rfl,trivial⟩)),?_⟩|refine ⟨_,(by rw [Zf];exact At.own (eqS hw) (by exact ⟨rfl,trivial⟩)),?_⟩)
  refine Zc hw (by kernel_rfl) rfl (by simp [Value.cells,Zn]) λ w hw=>?_
  repeat (first|refine Zb.mk rfl ?_|refine ⟨_,At.own Ze (by exact ⟨rfl,trivial⟩),?_⟩|refine ⟨_,At.own (eqS hw) (by exact ⟨rfl,trivial⟩),?_⟩|refine ⟨_,(by rw [Zf];exact At.own Ze (by exact ⟨rfl,trivial⟩)),?_⟩|refine ⟨_,(by rw [Zf];exact At.own (eqS hw) (by exact ⟨rfl,trivial⟩)),?_⟩)
  refine Zc hw (by kernel_rfl) rfl (by simp [Value.cells,Zn]) λ w hw=>?_;have e:chg st true=({ st with arm:=-1,off:=true },5):=by simp [chg,hoff,h,ZkC]
  rw [e];exact ⟨rfl,RO.shut hE hw⟩
 have harm:¬ st.arm=0:=h;have hm2:(ZeS st.arm).2=false:=by
  by_cases hp:0<st.arm
  ·rw [Zjt hp]
  ·rw [show st.arm=-1 by omega];rfl
 refine ⟨λ w=>Sat R (RO r s E { st with arm:=(ZeS st.arm).1 } Hs) w,?_,?_⟩
 ·repeat (first|refine Zb.mk rfl ?_|refine ⟨_,At.own Ze (by exact ⟨rfl,trivial⟩),?_⟩|refine ⟨_,At.own (eqS hw) (by exact ⟨rfl,trivial⟩),?_⟩|refine ⟨_,(by rw [Zf];exact At.own Ze (by exact ⟨rfl,trivial⟩)),?_⟩|refine ⟨_,(by rw [Zf];exact At.own (eqS hw) (by exact ⟨rfl,trivial⟩)),?_⟩)
  (first|with_reducible refine Br.d (λ h=>?_) (λ h=>?_)|with_reducible refine Br.nd (λ h=>?_) (λ h=>?_)|with_reducible refine Br.e (λ h=>?_) (λ h=>?_)|with_reducible refine Br.ne (λ h=>?_) (λ h=>?_)|with_reducible refine Br.nne (λ h=>?_) (λ h=>?_)|with_reducible refine Br.se (λ h=>?_) (λ h=>?_)|with_reducible refine Br.sne (λ h=>?_) (λ h=>?_)|with_reducible refine Br.nb (λ h=>?_) (λ h=>?_)|with_reducible refine Br.mk (λ h=>?_) (λ h=>?_)|refine Br.d (λ h=>?_) (λ h=>?_)|refine Br.nd (λ h=>?_) (λ h=>?_)|refine Br.e (λ h=>?_) (λ h=>?_)|refine Br.ne (λ h=>?_) (λ h=>?_)|refine Br.nne (λ h=>?_) (λ h=>?_)|refine Br.se (λ h=>?_) (λ h=>?_)|refine Br.mk (λ h=>?_) (λ h=>?_))
  ·have h:0<st.arm:=h
   repeat (first|refine Zb.mk rfl ?_|refine ⟨_,At.own Ze (by exact ⟨rfl,trivial⟩),?_⟩|refine ⟨_,At.own (eqS hw) (by exact ⟨rfl,trivial⟩),?_⟩|refine ⟨_,(by rw [Zf];exact At.own Ze (by exact ⟨rfl,trivial⟩)),?_⟩|refine ⟨_,(by rw [Zf];exact At.own (eqS hw) (by exact ⟨rfl,trivial⟩)),?_⟩)
   rw [Zg (by omega) (by omega)];refine Zc hw (by kernel_rfl) rfl (by simp [Value.cells,Zn]) λ w hw=>?_;rw [Zjt h];exact hw
  ·have h:¬ 0<st.arm:=h
   have:st.arm=-1:=by omega
   rw [this];have e:({ st with arm:=(ZeS (-1)).1 }:DS)=st:=by rw [show (ZeS (-1)).1=-1 from rfl,<-this]
   rw [e];exact hw
 intro z w hw
 repeat (first|refine Zb.mk rfl ?_|refine ⟨_,At.own Ze (by exact ⟨rfl,trivial⟩),?_⟩|refine ⟨_,At.own (eqS hw) (by exact ⟨rfl,trivial⟩),?_⟩|refine ⟨_,(by rw [Zf];exact At.own Ze (by exact ⟨rfl,trivial⟩)),?_⟩|refine ⟨_,(by rw [Zf];exact At.own (eqS hw) (by exact ⟨rfl,trivial⟩)),?_⟩)
 (first|with_reducible refine Br.d (λ h=>?_) (λ h=>?_)|with_reducible refine Br.nd (λ h=>?_) (λ h=>?_)|with_reducible refine Br.e (λ h=>?_) (λ h=>?_)|with_reducible refine Br.ne (λ h=>?_) (λ h=>?_)|with_reducible refine Br.nne (λ h=>?_) (λ h=>?_)|with_reducible refine Br.se (λ h=>?_) (λ h=>?_)|with_reducible refine Br.sne (λ h=>?_) (λ h=>?_)|with_reducible refine Br.nb (λ h=>?_) (λ h=>?_)|with_reducible refine Br.mk (λ h=>?_) (λ h=>?_)|refine Br.d (λ h=>?_) (λ h=>?_)|refine Br.nd (λ h=>?_) (λ h=>?_)|refine Br.e (λ h=>?_) (λ h=>?_)|refine Br.ne (λ h=>?_) (λ h=>?_)|refine Br.nne (λ h=>?_) (λ h=>?_)|refine Br.se (λ h=>?_) (λ h=>?_)|refine Br.mk (λ h=>?_) (λ h=>?_))
 ·repeat (first|refine Zb.mk rfl ?_|refine ⟨_,At.own Ze (by exact ⟨rfl,trivial⟩),?_⟩|refine ⟨_,At.own (eqS hw) (by exact ⟨rfl,trivial⟩),?_⟩|refine ⟨_,(by rw [Zf];exact At.own Ze (by exact ⟨rfl,trivial⟩)),?_⟩|refine ⟨_,(by rw [Zf];exact At.own (eqS hw) (by exact ⟨rfl,trivial⟩)),?_⟩)
  refine Zc hw (by kernel_rfl) rfl (by simp [Value.cells,Zn]) λ w hw=>?_;have h:st.fail=0:=h;have e:chg st true=({ st with arm:=(ZeS st.arm).1,fail:=-1 },4):=by simp [chg,hoff,hm2,h,ZkC]
  rw [e];exact ⟨rfl,RO.shut hE hw⟩
 have hfail:¬ st.fail=0:=h
 repeat (first|refine Zb.mk rfl ?_|refine ⟨_,At.own Ze (by exact ⟨rfl,trivial⟩),?_⟩|refine ⟨_,At.own (eqS hw) (by exact ⟨rfl,trivial⟩),?_⟩|refine ⟨_,(by rw [Zf];exact At.own Ze (by exact ⟨rfl,trivial⟩)),?_⟩|refine ⟨_,(by rw [Zf];exact At.own (eqS hw) (by exact ⟨rfl,trivial⟩)),?_⟩)
 (first|with_reducible refine Br.d (λ h=>?_) (λ h=>?_)|with_reducible refine Br.nd (λ h=>?_) (λ h=>?_)|with_reducible refine Br.e (λ h=>?_) (λ h=>?_)|with_reducible refine Br.ne (λ h=>?_) (λ h=>?_)|with_reducible refine Br.nne (λ h=>?_) (λ h=>?_)|with_reducible refine Br.se (λ h=>?_) (λ h=>?_)|with_reducible refine Br.sne (λ h=>?_) (λ h=>?_)|with_reducible refine Br.nb (λ h=>?_) (λ h=>?_)|with_reducible refine Br.mk (λ h=>?_) (λ h=>?_)|refine Br.d (λ h=>?_) (λ h=>?_)|refine Br.nd (λ h=>?_) (λ h=>?_)|refine Br.e (λ h=>?_) (λ h=>?_)|refine Br.ne (λ h=>?_) (λ h=>?_)|refine Br.nne (λ h=>?_) (λ h=>?_)|refine Br.se (λ h=>?_) (λ h=>?_)|refine Br.mk (λ h=>?_) (λ h=>?_))
 ·have h:0<st.fail:=h
  repeat (first|refine Zb.mk rfl ?_|refine ⟨_,At.own Ze (by exact ⟨rfl,trivial⟩),?_⟩|refine ⟨_,At.own (eqS hw) (by exact ⟨rfl,trivial⟩),?_⟩|refine ⟨_,(by rw [Zf];exact At.own Ze (by exact ⟨rfl,trivial⟩)),?_⟩|refine ⟨_,(by rw [Zf];exact At.own (eqS hw) (by exact ⟨rfl,trivial⟩)),?_⟩)
  rw [Zg (x:=st.fail - 1) (by omega) (by omega)];refine Zc hw (by kernel_rfl) rfl (by simp [Value.cells,Zn]) λ w hw=>?_;have e:chg st true=({ st with arm:=(ZeS st.arm).1,fail:=st.fail - 1 },0):=by simp [chg,hoff,hm2,Zjt h]
  rw [e];exact ⟨rfl,RO.shut hE hw⟩
 ·have h:¬ 0<st.fail:=h
  have hf:st.fail=-1:=by omega
  have e:chg st true=({ st with arm:=(ZeS st.arm).1,fail:=st.fail },0):=by simp [chg,hoff,hm2,hf,ZsG]
  rw [e];exact ⟨rfl,RO.shut hE hw⟩
def ltB (a b:ByteArray):Bool:=Op.bytesLess a.toList b.toList
def atM {β:Type} (k:ByteArray):List (ByteArray × β)->Nat
 |[]=>0
 |e::l=>if ltB e.1 k then atM k l + 1 else 0
def Zk4 {β:Type} (x:ByteArray × β) (l:List (ByteArray × β)):List (ByteArray × β):=l.take (atM x.1 l)++x::l.drop (atM x.1 l)
theorem Zsb {β:Type} (k:ByteArray):∀ l:List (ByteArray × β),atM k l<=l.length
 |[]=>Nat.le_refl _
 |e::l=>by rw [atM];split;have:=Zsb k l;simp;omega;simp
theorem Zdw {β:Type} (x:ByteArray × β) (l:List (ByteArray × β)):(Zk4 x l).Perm (x::l):=by
 unfold Zk4;refine List.perm_middle.trans ?_;rw [List.take_append_drop]
theorem Zri (e:RE):Zac (Zcc e)=true:=rfl
theorem ZgH (E:List RE):Zac (E.map Zcc).flatten=true:=by
 unfold Zac;rw [List.all_eq_true];intro v hv;obtain ⟨x,hx,hv⟩:=List.mem_flatten.1 hv;obtain ⟨e,_,rfl⟩:=List.mem_map.1 hx;exact List.all_eq_true.1 (Zri e) v hv
theorem elF:ElN prog 79 79 112 3 48:=⟨underlying79,⟨_,underlying79⟩,by kernel_rfl⟩
theorem Zkm {r:Nat} {s sb:Sl} {E:List RE} {st:DS} {k:ByteArray} {f:Fl} (hE:erR E=st.fs) (hl:E.length<=1000000) (hw:Sat R (RO r s E st (Own sb 5 (b8 f.b)::Hs)) w):
  Zq prog 82 #[.pointer (some ⟨r,0,none⟩),.agg #[.string k,.slice sb.a sb.len sb.cap,.int .i64 f.sure]] w λ v w'=>v=.tuple #[]/\Sat R (Zy r { st with fs:=Zk4 (k,f) st.fs }::Hs) w':=by
 apply Zu6;have hsl:s.len=E.length:=by have:=ZM.len (hw.take (ZM 3 s 112 (E.map Zcc)));rwa [List.length_map] at this
 have hcap:s.len<=s.cap:=ZM.cap (by decide) (hw.take (ZM 3 s 112 (E.map Zcc)));have hfl:st.fs.length=E.length:=by rw [<-hE,Zar]
 have hat:=Zsb k st.fs;refine Zd hw λ bf w hw=>?_
 let G:List HP:=pts bf (.cells [.string k,.slice sb.a sb.len sb.cap,.int .i64 f.sure].toArray 112 (0,0))::RO r s E st (Own sb 5 (b8 f.b)::Hs)
 have hw:Sat R G w:=hw;refine ⟨λ at_ w=>at_=(atM k st.fs:Nat)/\Sat R G w,?_,?_⟩
 ·refine ⟨λ i w=>∃ j:Nat,i=j/\j<=E.length/\atM k st.fs=j + atM k (st.fs.drop j)/\Sat R G w,λ i _=>E.length - i.toNat,⟨0,rfl,Nat.zero_le _,by simp,hw⟩,?_⟩
  rintro z _ w ⟨j,rfl,hj,hn,hw⟩;refine Zv hw λ w hw=>?_
  repeat (first|refine Zb.mk rfl ?_|refine ⟨_,At.own Ze (by exact ⟨rfl,trivial⟩),?_⟩|refine ⟨_,At.own (eqS hw) (by exact ⟨rfl,trivial⟩),?_⟩|refine ⟨_,(by rw [Zf];exact At.own Ze (by exact ⟨rfl,trivial⟩)),?_⟩|refine ⟨_,(by rw [Zf];exact At.own (eqS hw) (by exact ⟨rfl,trivial⟩)),?_⟩)
  (first|with_reducible refine Br.d (λ h=>?_) (λ h=>?_)|with_reducible refine Br.nd (λ h=>?_) (λ h=>?_)|with_reducible refine Br.e (λ h=>?_) (λ h=>?_)|with_reducible refine Br.ne (λ h=>?_) (λ h=>?_)|with_reducible refine Br.nne (λ h=>?_) (λ h=>?_)|with_reducible refine Br.se (λ h=>?_) (λ h=>?_)|with_reducible refine Br.sne (λ h=>?_) (λ h=>?_)|with_reducible refine Br.nb (λ h=>?_) (λ h=>?_)|with_reducible refine Br.mk (λ h=>?_) (λ h=>?_)|refine Br.d (λ h=>?_) (λ h=>?_)|refine Br.nd (λ h=>?_) (λ h=>?_)|refine Br.e (λ h=>?_) (λ h=>?_)|refine Br.ne (λ h=>?_) (λ h=>?_)|refine Br.nne (λ h=>?_) (λ h=>?_)|refine Br.se (λ h=>?_) (λ h=>?_)|refine Br.mk (λ h=>?_) (λ h=>?_))
  ·have hj':j<E.length:=by omega
   repeat (first|refine Zb.mk rfl ?_|refine ⟨_,At.own Ze (by exact ⟨rfl,trivial⟩),?_⟩|refine ⟨_,At.own (eqS hw) (by exact ⟨rfl,trivial⟩),?_⟩|refine ⟨_,(by rw [Zf];exact At.own Ze (by exact ⟨rfl,trivial⟩)),?_⟩|refine ⟨_,(by rw [Zf];exact At.own (eqS hw) (by exact ⟨rfl,trivial⟩)),?_⟩)
   have hr:ReadsN 3 s (E.map Zcc) (Sat R G):=ZM.readsM (rows:=E.map Zcc) (T:=112) hw Ze;refine hr.rngM hj' λ a ha el=>⟨_,el.zz (by exact ⟨rfl,trivial⟩),⟨_,At.own Ze (by exact ⟨rfl,trivial⟩),?_⟩⟩;have hge:st.fs[j]'(by omega)=(E[j].1,E[j].2.2):=by simp [<-hE,erR]
   rw [ZaQ (by omega),hge,atM] at hn;refine Br.mk (λ h=>?_) (λ h=>?_)
   ·rw [if_pos (show ltB _ k=true from h)] at hn
    rw [Zg (by omega) (by omega)];exact ⟨⟨j + 1,by omega,by omega,by omega,hw⟩,by dsimp only;omega⟩
   ·rw [if_neg (by rw [show ltB _ k=false from h];simp)] at hn
    exact ⟨by omega,hw⟩
  ·have:j=E.length:=by omega
   subst this;rw [List.drop_eq_nil_of_le (by omega)] at hn;exact ⟨by rw [hn];simp [atM],hw⟩
 rintro z _ w ⟨rfl,hw⟩;generalize hAt:atM k st.fs=at_ at hat;refine Zd hw λ b1 w hw=>?_;have hw:Sat R (ZM 3 s 112 (E.map Zcc)::pts b1 (.cells #[] 112 (0,0))::pts bf (.cells [.string k,.slice sb.a sb.len sb.cap,.int .i64 f.sure].toArray 112 (0,0))::pts r (ZcI st s)::Za4 E::Own sb 5 (b8 f.b)::Hs) w:=hw.take (ZM 3 s 112 (E.map Zcc));obtain ⟨R',hro,⟨xR,hxR⟩,hw,back⟩:=ZM.lend hw
 repeat (first|refine Zb.mk rfl ?_|refine ⟨_,At.own Ze (by exact ⟨rfl,trivial⟩),?_⟩|refine ⟨_,At.own (eqS hw) (by exact ⟨rfl,trivial⟩),?_⟩|refine ⟨_,(by rw [Zf];exact At.own Ze (by exact ⟨rfl,trivial⟩)),?_⟩|refine ⟨_,(by rw [Zf];exact At.own (eqS hw) (by exact ⟨rfl,trivial⟩)),?_⟩)
 refine ⟨by omega,by omega,?_⟩;have hr1:RoN 3 R' ⟨s.a,at_,s.cap⟩ ((E.map Zcc).take at_):=hro.take (by rw [List.length_map];omega) s.cap;have h1:∀ l:List RE,Wid 3 (l.map Zcc):=λ l x hx=>by obtain ⟨e,_,rfl⟩:=List.mem_map.1 hx;rfl
 rw [<-List.map_take] at hr1;refine ZbP elF hw (Zg0 elF.hk hw hr1 (ZgH _)) (h1 _) (by simp;omega) (by simp;omega) λ s2 w hw=>?_
 repeat (first|refine Zb.mk rfl ?_|refine ⟨_,At.own Ze (by exact ⟨rfl,trivial⟩),?_⟩|refine ⟨_,At.own (eqS hw) (by exact ⟨rfl,trivial⟩),?_⟩|refine ⟨_,(by rw [Zf];exact At.own Ze (by exact ⟨rfl,trivial⟩)),?_⟩|refine ⟨_,(by rw [Zf];exact At.own (eqS hw) (by exact ⟨rfl,trivial⟩)),?_⟩)
 refine ⟨k,sb,f.sure,At.own (eqS hw) (by exact ⟨rfl,rfl,rfl,trivial⟩),?_⟩;refine ZnM elF hw rfl rfl (by simp;omega) (by simp;omega) λ s3 w hw=>?_
 repeat (first|refine Zb.mk rfl ?_|refine ⟨_,At.own Ze (by exact ⟨rfl,trivial⟩),?_⟩|refine ⟨_,At.own (eqS hw) (by exact ⟨rfl,trivial⟩),?_⟩|refine ⟨_,(by rw [Zf];exact At.own Ze (by exact ⟨rfl,trivial⟩)),?_⟩|refine ⟨_,(by rw [Zf];exact At.own (eqS hw) (by exact ⟨rfl,trivial⟩)),?_⟩)
 refine ⟨by omega,by omega,?_⟩;have hr2:RoN 3 R' ⟨ZcW s.a at_ s.cap 3,s.len - at_,s.cap - at_⟩ (((E.map Zcc).take s.len).drop at_):=hro.sub (by omega) (by rw [List.length_map];omega) (λ h=>by omega);rw [<-List.map_take,<-List.map_drop,List.take_of_length_le (by omega)] at hr2;refine Zcl elF hw (Zg0 elF.hk hw hr2 (ZgH _)) (h1 _) (by simp;omega) (by simp;omega) λ s4 w hw=>?_;have hw:=hw.take (pts r (ZcI st s))
 repeat (first|refine Zb.mk rfl ?_|refine ⟨_,At.own Ze (by exact ⟨rfl,trivial⟩),?_⟩|refine ⟨_,At.own (eqS hw) (by exact ⟨rfl,trivial⟩),?_⟩|refine ⟨_,(by rw [Zf];exact At.own Ze (by exact ⟨rfl,trivial⟩)),?_⟩|refine ⟨_,(by rw [Zf];exact At.own (eqS hw) (by exact ⟨rfl,trivial⟩)),?_⟩)
 refine Zc hw (by kernel_rfl) rfl (by simp [Value.cells,Zn]) λ w hw=>?_;refine ⟨rfl,?_⟩;have hw:=back hw;have hw:=hw.drop;have eR:(E.take at_).map Zcc++[[.string k,.slice sb.a sb.len sb.cap,.int .i64 f.sure]]++(E.drop at_).map Zcc=(E.take at_++(k,sb,f)::E.drop at_).map Zcc:=by simp [Zcc]
 have hw:Sat R (pts r (ZcI { st with fs:=Zk4 (k,f) st.fs } s4)::ZM 3 s4 112 ((E.take at_++(k,sb,f)::E.drop at_).map Zcc)::pts bf (.cells [.string k,.slice sb.a sb.len sb.cap,.int .i64 f.sure].toArray 112 (0,0))::Za4 E::Own sb 5 (b8 f.b)::Hs) w:=by
  rw [<-eR];exact hw
 refine RO.shut (s:=s4) (E:=E.take at_++(k,sb,f)::E.drop at_) ?_ ?_
 ·rw [Zev,ZfI]
  show _=st.fs.take (atM k st.fs)++(k,f)::st.fs.drop (atM k st.fs);rw [hAt,<-hE];simp [erR,List.map_take,List.map_drop]
 ·refine hw.cons λ _ h=>h.cons λ _ h=>?_
  have h:=h.drop.swap;rw [show Za4 E=Za4 (E.take at_++E.drop at_) by rw [List.take_append_drop]] at h;exact Bufs.split.2 h
theorem Zhk {r:Nat} {s:Sl} {a b:List RE} {e:RE} {st:DS} (hE:erR (a++e::b)=st.fs) (hl:(a++e::b).length<=1000000) (hw:Sat R (RO r s (a++e::b) st Hs) w):
  Zq prog 134 #[.pointer (some ⟨r,0,none⟩),.int .i64 (a.length:Nat)] w λ v w'=>v=.tuple #[]/\Sat R (Own e.2.1 5 (b8 e.2.2.b)::Zy r { st with fs:=erR (a++b) }::Hs) w':=by
 apply ZtG;have hsl:s.len=(a++e::b).length:=by have:=ZM.len (hw.take (ZM 3 s 112 ((a++e::b).map Zcc)));rwa [List.length_map] at this
 have hcap:s.len<=s.cap:=ZM.cap (by decide) (hw.take (ZM 3 s 112 ((a++e::b).map Zcc)));have hll:(a++e::b).length=a.length + b.length + 1:=by simp;omega
 rw [hll] at hl hsl;refine Zd hw λ b1 w hw=>?_;have hw:=hw.take (ZM 3 s 112 ((a++e::b).map Zcc));obtain ⟨R',hro,⟨xR,hxR⟩,hw,back⟩:=ZM.lend hw
 repeat (first|refine Zb.mk rfl ?_|refine ⟨_,At.own Ze (by exact ⟨rfl,trivial⟩),?_⟩|refine ⟨_,At.own (eqS hw) (by exact ⟨rfl,trivial⟩),?_⟩|refine ⟨_,(by rw [Zf];exact At.own Ze (by exact ⟨rfl,trivial⟩)),?_⟩|refine ⟨_,(by rw [Zf];exact At.own (eqS hw) (by exact ⟨rfl,trivial⟩)),?_⟩)
 refine ⟨by omega,by omega,?_⟩;have h1:∀ l:List RE,Wid 3 (l.map Zcc):=λ l x hx=>by obtain ⟨e,_,rfl⟩:=List.mem_map.1 hx;rfl
 have hr1:RoN 3 R' ⟨s.a,a.length,s.cap⟩ (((a++e::b).map Zcc).take a.length):=hro.take (by rw [List.length_map,hll];omega) s.cap;rw [<-List.map_take,List.take_left' rfl] at hr1;refine ZbP elF hw (Zg0 elF.hk hw hr1 (ZgH _)) (h1 _) (by simp;omega) (by simp;omega) λ s2 w hw=>?_
 repeat (first|refine Zb.mk rfl ?_|refine ⟨_,At.own Ze (by exact ⟨rfl,trivial⟩),?_⟩|refine ⟨_,At.own (eqS hw) (by exact ⟨rfl,trivial⟩),?_⟩|refine ⟨_,(by rw [Zf];exact At.own Ze (by exact ⟨rfl,trivial⟩)),?_⟩|refine ⟨_,(by rw [Zf];exact At.own (eqS hw) (by exact ⟨rfl,trivial⟩)),?_⟩)
 rw [Zg (by omega) (by omega)];refine ⟨by omega,by omega,?_⟩;have hr2:RoN 3 R' ⟨ZcW s.a (a.length + 1) s.cap 3,s.len - (a.length + 1),s.cap - (a.length + 1)⟩ ((((a++e::b).map Zcc).take s.len).drop (a.length + 1)):=hro.sub (by omega) (by rw [List.length_map,hll];omega) (λ h=>by omega);rw [<-List.map_take,<-List.map_drop,List.take_of_length_le (by rw [hll];omega)] at hr2;have ed:(a++e::b).drop (a.length + 1)=b:=by rw [<-List.drop_drop,List.drop_left' rfl];rfl
 rw [ed] at hr2;refine Zcl elF hw (Zg0 elF.hk hw hr2 (ZgH _)) (h1 _) (by simp;omega) (by simp;omega) λ s4 w hw=>?_;have hw:=hw.take (pts r (ZcI st s))
 repeat (first|refine Zb.mk rfl ?_|refine ⟨_,At.own Ze (by exact ⟨rfl,trivial⟩),?_⟩|refine ⟨_,At.own (eqS hw) (by exact ⟨rfl,trivial⟩),?_⟩|refine ⟨_,(by rw [Zf];exact At.own Ze (by exact ⟨rfl,trivial⟩)),?_⟩|refine ⟨_,(by rw [Zf];exact At.own (eqS hw) (by exact ⟨rfl,trivial⟩)),?_⟩)
 refine Zc hw (by kernel_rfl) rfl (by simp [Value.cells,Zn]) λ w hw=>?_;refine ⟨rfl,?_⟩;have hw:=(back hw).drop;rw [<-List.map_append] at hw;have hw:Sat R (pts r (ZcI { st with fs:=erR (a++b) } s4)::ZM 3 s4 112 ((a++b).map Zcc)::Za4 (a++e::b)::Hs) w:=hw;have hw:=Bufs.split.1 (hw.take (Za4 (a++e::b)));exact hw.cons λ _ h=>RO.shut (s:=s4) (E:=a++b) rfl ((h.take (pts r (ZcI { st with fs:=erR (a++b) } s4))).cons λ _ h=>h.swap)
end
section
open Go Go.VC Tryz
variable {R:Cx} {Hs Rest:List HP} {w:World}
theorem Znv {r:Nat} {s:Sl} {E:List RE} {st:DS} (hE:erR E=st.fs) (hl:E.length<=1000000) (ht:total st.fs<=16777216) (hw:Sat R (RO r s E st Hs) w):
  Zq prog 80 #[.pointer (some ⟨r,0,none⟩)] w λ v w'=>v=.int .i64 (total st.fs)/\Sat R (RO r s E st Hs) w':=by
 apply Zu8;have hsl:s.len=E.length:=by have:=ZM.len (hw.take (ZM 3 s 112 (E.map Zcc)));rwa [List.length_map] at this
 refine ⟨λ n i w=>∃ j:Nat,i=j/\j<=E.length/\n + total (st.fs.drop j)=total st.fs/\0<=n/\Sat R (RO r s E st Hs) w,λ n i _=>E.length - i.toNat,⟨0,rfl,Nat.zero_le _,by simp,Int.le_refl 0,hw⟩,?_⟩;rintro z n _ w ⟨j,rfl,hj,hn,h0,hw⟩
 repeat (first|refine Zb.mk rfl ?_|refine ⟨_,At.own Ze (by exact ⟨rfl,trivial⟩),?_⟩|refine ⟨_,At.own (eqS hw) (by exact ⟨rfl,trivial⟩),?_⟩|refine ⟨_,(by rw [Zf];exact At.own Ze (by exact ⟨rfl,trivial⟩)),?_⟩|refine ⟨_,(by rw [Zf];exact At.own (eqS hw) (by exact ⟨rfl,trivial⟩)),?_⟩)
 (first|with_reducible refine Br.d (λ h=>?_) (λ h=>?_)|with_reducible refine Br.nd (λ h=>?_) (λ h=>?_)|with_reducible refine Br.e (λ h=>?_) (λ h=>?_)|with_reducible refine Br.ne (λ h=>?_) (λ h=>?_)|with_reducible refine Br.nne (λ h=>?_) (λ h=>?_)|with_reducible refine Br.se (λ h=>?_) (λ h=>?_)|with_reducible refine Br.sne (λ h=>?_) (λ h=>?_)|with_reducible refine Br.nb (λ h=>?_) (λ h=>?_)|with_reducible refine Br.mk (λ h=>?_) (λ h=>?_)|refine Br.d (λ h=>?_) (λ h=>?_)|refine Br.nd (λ h=>?_) (λ h=>?_)|refine Br.e (λ h=>?_) (λ h=>?_)|refine Br.ne (λ h=>?_) (λ h=>?_)|refine Br.nne (λ h=>?_) (λ h=>?_)|refine Br.se (λ h=>?_) (λ h=>?_)|refine Br.mk (λ h=>?_) (λ h=>?_))
 ·have hj':j<E.length:=by omega
  repeat (first|refine Zb.mk rfl ?_|refine ⟨_,At.own Ze (by exact ⟨rfl,trivial⟩),?_⟩|refine ⟨_,At.own (eqS hw) (by exact ⟨rfl,trivial⟩),?_⟩|refine ⟨_,(by rw [Zf];exact At.own Ze (by exact ⟨rfl,trivial⟩)),?_⟩|refine ⟨_,(by rw [Zf];exact At.own (eqS hw) (by exact ⟨rfl,trivial⟩)),?_⟩)
  refine (RO.reads hw (eqS hw)).rngM hj' λ a ha el=>⟨_,el.f 1 (by exact ⟨rfl,trivial⟩),?_⟩;have hfl:st.fs.length=E.length:=by rw [<-hE,Zar]
  have hge:st.fs[j]'(by omega)=(E[j].1,E[j].2.2):=by simp [<-hE,erR]
  rw [ZaQ (by omega),hge,ZD] at hn;have hlen:E[j].2.1.len=E[j].2.2.b.length:=by
   have h1:=hw.take (Za4 E);have hsplit:E=E.take j++E[j]::E.drop (j + 1):=by rw [<-List.drop_eq_getElem_cons,List.take_append_drop]
   rw [hsplit] at h1;have:=Own.len (Bufs.split.1 h1);simpa using this
  have hnn:=ZbG (st.fs.drop (j + 1));simp only at hn;rw [hlen,Zg (by omega) (by omega),Zg (by omega) (by omega)];exact ⟨⟨j + 1,by omega,by omega,by omega,by omega,hw⟩,by dsimp only;omega⟩
 ·have:j=E.length:=by omega
  subst this;rw [List.drop_eq_nil_of_le (by rw [<-hE,Zar];omega),ZcE] at hn;exact ⟨by rw [show n=total st.fs by omega],hw⟩
theorem ZnP (xs:List ByteArray):Zac (xs.map Value.string)=true:=by
 unfold Zac;rw [List.all_eq_true];intro v hv;obtain ⟨x,_,rfl⟩:=List.mem_map.1 hv;rfl
theorem ZlG {r:Nat} {s:Sl} {E:List RE} {st:DS} (hE:erR E=st.fs) (hl:E.length<=1000000) (hw:Sat R (RO r s E st Hs) w):
  Zq prog 43 #[.pointer (some ⟨r,0,none⟩)] w λ v w'=>∃ t:Sl,v=.slice t.a t.len t.cap/\Sat R (Own t 9 ((st.fs.map (·.1)).map Value.string)::RO r s E st Hs) w':=by
 apply ZvG;have hsl:s.len=E.length:=by have:=ZM.len (hw.take (ZM 3 s 112 (E.map Zcc)));rwa [List.length_map] at this
 have hfl:st.fs.length=E.length:=by rw [<-hE,Zar]
 refine ⟨λ t i w=>∃ j:Nat,i=j/\j<=E.length/\Sat R (Own t 9 (((st.fs.take j).map (·.1)).map Value.string)::RO r s E st Hs) w,λ t i _=>E.length - i.toNat,⟨0,rfl,Nat.zero_le _,by simpa using Own.nil hw⟩,?_⟩;rintro z t _ w ⟨j,rfl,hj,hw⟩
 repeat (first|refine Zb.mk rfl ?_|refine ⟨_,At.own Ze (by exact ⟨rfl,trivial⟩),?_⟩|refine ⟨_,At.own (eqS hw) (by exact ⟨rfl,trivial⟩),?_⟩|refine ⟨_,(by rw [Zf];exact At.own Ze (by exact ⟨rfl,trivial⟩)),?_⟩|refine ⟨_,(by rw [Zf];exact At.own (eqS hw) (by exact ⟨rfl,trivial⟩)),?_⟩)
 (first|with_reducible refine Br.d (λ h=>?_) (λ h=>?_)|with_reducible refine Br.nd (λ h=>?_) (λ h=>?_)|with_reducible refine Br.e (λ h=>?_) (λ h=>?_)|with_reducible refine Br.ne (λ h=>?_) (λ h=>?_)|with_reducible refine Br.nne (λ h=>?_) (λ h=>?_)|with_reducible refine Br.se (λ h=>?_) (λ h=>?_)|with_reducible refine Br.sne (λ h=>?_) (λ h=>?_)|with_reducible refine Br.nb (λ h=>?_) (λ h=>?_)|with_reducible refine Br.mk (λ h=>?_) (λ h=>?_)|refine Br.d (λ h=>?_) (λ h=>?_)|refine Br.nd (λ h=>?_) (λ h=>?_)|refine Br.e (λ h=>?_) (λ h=>?_)|refine Br.ne (λ h=>?_) (λ h=>?_)|refine Br.nne (λ h=>?_) (λ h=>?_)|refine Br.se (λ h=>?_) (λ h=>?_)|refine Br.mk (λ h=>?_) (λ h=>?_))
 ·have hj':j<E.length:=by omega
  repeat (first|refine Zb.mk rfl ?_|refine ⟨_,At.own Ze (by exact ⟨rfl,trivial⟩),?_⟩|refine ⟨_,At.own (eqS hw) (by exact ⟨rfl,trivial⟩),?_⟩|refine ⟨_,(by rw [Zf];exact At.own Ze (by exact ⟨rfl,trivial⟩)),?_⟩|refine ⟨_,(by rw [Zf];exact At.own (eqS hw) (by exact ⟨rfl,trivial⟩)),?_⟩)
  have hr:ReadsN 3 s (E.map Zcc) (λ w'=>w'=w):=ZM.readsM (rows:=E.map Zcc) (T:=112) hw (eqS hw);refine hr.rngM hj' λ a ha el=>⟨_,el.zz (by exact ⟨rfl,trivial⟩),?_⟩;have hge:st.fs[j]'(by omega)=(E[j].1,E[j].2.2):=by simp [<-hE,erR]
  have hlt:((st.fs.take j).map (·.1)).length=j:=by simp;omega
  refine Zhh (⟨underlying66,⟨_,underlying66⟩,by kernel_rfl⟩:El prog 66 66 9 16) hw (ZnP _) rfl (by rw [List.length_map,hlt];omega) (by rw [List.length_map,hlt];omega) λ t w hw=>?_;rw [Zg (by omega) (by omega)];refine ⟨⟨j + 1,by omega,by omega,?_⟩,by dsimp only;omega⟩;have e:((st.fs.take (j + 1)).map (·.1)).map Value.string=((st.fs.take j).map (·.1)).map Value.string++[.string E[j].1]:=by
   rw [List.take_succ_eq_append_getElem (by omega),hge];simp
  rw [e];exact hw
 ·have:j=E.length:=by omega
  subst this;rw [List.take_of_length_le (by omega)] at hw;exact ⟨t,rfl,hw⟩
theorem ZdY {E:List RE} {fs:Fs} {k:ByteArray} {f:Fl} (hE:erR E=fs) (hf:Zw k fs=some f):∃ a sb b,E=a++(k,sb,f)::b/\Zw k (erR a)=none/\fs=erR a++(k,f)::erR b/\Zhj k fs=(a.length:Nat):=by
 have hg:Zw k E=none->False:=λ h=>by
  have:Zw k (erR E)=none:=by
   refine Z2 ?_;have:=ZQ h;simpa [erR,Function.comp_def] using this
  rw [hE,hf] at this;cases this
 cases hc:Zw k E with
 |none=>exact (hg hc).elim
 |some x=>
  obtain ⟨a,b,rfl,ha⟩:=ZI hc;have ha2:Zw k (erR a)=none:=by
   refine Z2 ?_;have:=ZQ ha;simpa [erR,Function.comp_def] using this
  have hfs:fs=erR a++(k,x.2)::erR b:=by rw [<-hE,Zev,ZfI]
  rw [hfs,ZdX ha2 (Zbg k)] at hf;cases hf;exact ⟨a,x.1,b,rfl,ha2,hfs,by rw [hfs,Ziu ha2,Zar]⟩
theorem Z6 {α:Type} {a b:List α} {e:α} (h:a.length<(a++e::b).length):(a++e::b)[a.length]=e:=by simp
theorem Zjb {α:Type} {a b:List α} {e e':α}:(a++e::b).set a.length e'=a++e'::b:=by simp
def ZaB (k:ByteArray) (fs:Fs):Fs:=if (Zw k fs).isSome then fs else Zk4 (k,⟨[],0⟩) fs
def Zpl (k:ByteArray) (xs:List Int) (fs:Fs):Fs:=ZdJ k (λ f=>{ f with b:=f.b++xs }) (ZaB k fs)
def ZfR (st:DS) (k:ByteArray) (xs:List Int):DS × Int:=if total st.fs + xs.length>st.room then (st,3) else ({ st with fs:=Zpl k xs st.fs },0)
def ZW (st:DS) (k:ByteArray) (xs:List Int):DS × Int:=doing st (Zm k) λ st=>ZfR st k xs
theorem ZkN (k:ByteArray) (fs:Fs):(Zw k (ZaB k fs)).isSome=true:=by
 unfold ZaB;by_cases h:(Zw k fs).isSome=true
 ·rw [if_pos h];exact h
 ·rw [if_neg h]
  refine ZfE ?_;exact ((Zdw (k,(⟨[],0⟩:Fl)) fs).map (·.1)).mem_iff.2 (List.mem_map_of_mem (f:=Prod.fst) List.mem_cons_self)
theorem ZfV {a b:Fs} (h:a.Perm b):total a=total b:=by
 induction h with
 |nil=>rfl
 |cons x _ ih=>rw [ZD,ZD,ih]
 |swap x y l=>rw [ZD,ZD,ZD,ZD];omega
 |trans _ _ h1 h2=>rw [h1,h2]
theorem ZjC (k:ByteArray) (fs:Fs):total (ZaB k fs)=total fs:=by
 unfold ZaB;split
 ·rfl
 ·rw [ZfV (Zdw _ fs),ZD];simp
theorem ZlW (k:ByteArray) (fs:Fs):(ZaB k fs).length<=fs.length + 1:=by
 unfold ZaB;split
 ·omega
 ·rw [(Zdw (k,(⟨[],0⟩:Fl)) fs).length_eq];simp
theorem ZbD {r:Nat} {st:DS} {k:ByteArray} {x:Sl} {xs:List Int} (i:Inv st) (hn:st.fs.length<=100000) (hk:k.size<=9223372036854775807) (hx:Ro R x (b8 xs)) (hxl:xs.length<=1099511627776) (hw:Sat R (Zy r st::Hs) w):
  Zq prog 36 #[.pointer (some ⟨r,0,none⟩),.string k,.slice x.a x.len x.cap] w λ v w'=>v=.int .i64 (ZW st k xs).2/\Sat R (Zy r (ZW st k xs).1::Hs) w':=by
 have hxlen:x.len=xs.length:=by have:=hx.len;simpa using this
 apply ZvN;refine (Zda i.toCounts hk hk hw).use ?_;rw [Bool.and_self];rintro _ w ⟨rfl,hw⟩;refine ⟨_,rfl,?_⟩
 (first|with_reducible refine Br.d (λ h=>?_) (λ h=>?_)|with_reducible refine Br.nd (λ h=>?_) (λ h=>?_)|with_reducible refine Br.e (λ h=>?_) (λ h=>?_)|with_reducible refine Br.ne (λ h=>?_) (λ h=>?_)|with_reducible refine Br.nne (λ h=>?_) (λ h=>?_)|with_reducible refine Br.se (λ h=>?_) (λ h=>?_)|with_reducible refine Br.sne (λ h=>?_) (λ h=>?_)|with_reducible refine Br.nb (λ h=>?_) (λ h=>?_)|with_reducible refine Br.mk (λ h=>?_) (λ h=>?_)|refine Br.d (λ h=>?_) (λ h=>?_)|refine Br.nd (λ h=>?_) (λ h=>?_)|refine Br.e (λ h=>?_) (λ h=>?_)|refine Br.ne (λ h=>?_) (λ h=>?_)|refine Br.nne (λ h=>?_) (λ h=>?_)|refine Br.se (λ h=>?_) (λ h=>?_)|refine Br.mk (λ h=>?_) (λ h=>?_))
 ·have e:ZW st k xs=chg st (Zm k):=if_neg h
  rw [e];exact ⟨rfl,hw⟩
 have e:ZW st k xs=ZfR (chg st (Zm k)).1 k xs:=if_pos h;rw [e];have i2:=ZbN i (Zm k);have hn2:(chg st (Zm k)).1.fs.length<=100000:=by rw [(Zbp st (Zm k)).1];exact hn
 generalize (chg st (Zm k)).1=st2 at *;clear e i hn;obtain ⟨s,E,hE,hw⟩:=Sat.ref.1 hw;have r1:=i2.r1;have r0:=i2.r0;have hfull:=i2.full;have hfl:st2.fs.length=E.length:=by rw [<-hE,Zar]
 have hnn:=ZbG st2.fs;refine Zv hw λ w hw=>?_
 repeat (first|refine Zb.mk rfl ?_|refine ⟨_,At.own Ze (by exact ⟨rfl,trivial⟩),?_⟩|refine ⟨_,At.own (eqS hw) (by exact ⟨rfl,trivial⟩),?_⟩|refine ⟨_,(by rw [Zf];exact At.own Ze (by exact ⟨rfl,trivial⟩)),?_⟩|refine ⟨_,(by rw [Zf];exact At.own (eqS hw) (by exact ⟨rfl,trivial⟩)),?_⟩)
 refine (Znv hE (by omega) (by omega) hw).use ?_;rintro _ w ⟨rfl,hw⟩;refine ⟨_,rfl,hw,?_⟩;rw [Zg (by omega) (by omega)]
 (first|with_reducible refine Br.d (λ h=>?_) (λ h=>?_)|with_reducible refine Br.nd (λ h=>?_) (λ h=>?_)|with_reducible refine Br.e (λ h=>?_) (λ h=>?_)|with_reducible refine Br.ne (λ h=>?_) (λ h=>?_)|with_reducible refine Br.nne (λ h=>?_) (λ h=>?_)|with_reducible refine Br.se (λ h=>?_) (λ h=>?_)|with_reducible refine Br.sne (λ h=>?_) (λ h=>?_)|with_reducible refine Br.nb (λ h=>?_) (λ h=>?_)|with_reducible refine Br.mk (λ h=>?_) (λ h=>?_)|refine Br.d (λ h=>?_) (λ h=>?_)|refine Br.nd (λ h=>?_) (λ h=>?_)|refine Br.e (λ h=>?_) (λ h=>?_)|refine Br.ne (λ h=>?_) (λ h=>?_)|refine Br.nne (λ h=>?_) (λ h=>?_)|refine Br.se (λ h=>?_) (λ h=>?_)|refine Br.mk (λ h=>?_) (λ h=>?_))
 ·have e:ZfR st2 k xs=(st2,3):=if_pos (by omega)
  rw [e];exact ⟨rfl,RO.shut hE hw⟩
 have e:ZfR st2 k xs=({ st2 with fs:=Zpl k xs st2.fs },0):=if_neg (by omega);rw [e];refine ⟨λ w=>∃ s E,erR E=ZaB k st2.fs/\Sat R (RO r s E { st2 with fs:=ZaB k st2.fs } Hs) w,?_,?_⟩
 ·refine (Zb1 k hE (by omega) hw).use ?_
  rintro _ w ⟨rfl,hw⟩;refine ⟨_,rfl,?_⟩;cases hg:Zw k st2.fs with
  |none=>
   rw [Zbv hg];refine Br.t (by decide) ?_;have e2:ZaB k st2.fs=Zk4 (k,⟨[],0⟩) st2.fs:=by unfold ZaB;rw [hg];rfl
   rw [e2];have hw:=(Own.nil (T:=5) hw).arr (Hs':=RO r s E st2 (Own ⟨none,0,0⟩ 5 []::Hs));refine (Zkm (sb:=⟨none,0,0⟩) (f:=⟨[],0⟩) (k:=k) hE (by omega) hw).use ?_;rintro _ w ⟨rfl,hw⟩;obtain ⟨s,E,hE,hw⟩:=Sat.ref.1 hw;exact ⟨rfl,s,E,hE,hw⟩
  |some f=>
   obtain ⟨a,sb,b,_,_,_,hp⟩:=ZdY hE hg;rw [hp];refine Br.f (by simp) ?_;have e2:ZaB k st2.fs=st2.fs:=by unfold ZaB;rw [hg];rfl
   rw [e2];exact ⟨s,E,hE,hw⟩
 clear hw hE hfl;rintro z w ⟨s,E,hE,hw⟩;have hfl:E.length<=100001:=by have:=ZlW k st2.fs;rw [<-hE,Zar] at this;omega
 refine (Zb1 k hE (by omega) hw).use ?_;rintro _ w ⟨rfl,hw⟩;refine ⟨_,rfl,?_⟩;obtain ⟨f,hf⟩:=Option.isSome_iff_exists.1 (ZkN k st2.fs);have hft:(f.b.length:Int)<=total st2.fs:=by rw [<-ZjC k];exact ZbH hf
 obtain ⟨a,sb,b,rfl,ha,hfs,hp⟩:=ZdY hE hf;rw [show Zhj k (DS.mk st2.room (ZaB k st2.fs) st2.fail st2.arm st2.off).fs=(a.length:Nat) from hp]
 have hlt:a.length<(a++(k,sb,f)::b).length:=by simp
 have hsl:s.len=(a++(k,sb,f)::b).length:=by have:=ZM.len (hw.take (ZM 3 s 112 ((a++(k,sb,f)::b).map Zcc)));rwa [List.length_map] at this
 refine ZkQ hw λ w hw=>?_
 repeat (first|refine Zb.mk rfl ?_|refine ⟨_,At.own Ze (by exact ⟨rfl,trivial⟩),?_⟩|refine ⟨_,At.own (eqS hw) (by exact ⟨rfl,trivial⟩),?_⟩|refine ⟨_,(by rw [Zf];exact At.own Ze (by exact ⟨rfl,trivial⟩)),?_⟩|refine ⟨_,(by rw [Zf];exact At.own (eqS hw) (by exact ⟨rfl,trivial⟩)),?_⟩)
 have hr:ReadsN 3 s ((a++(k,sb,f)::b).map Zcc) (Sat R (tru::RO r s (a++(k,sb,f)::b) { st2 with fs:=ZaB k st2.fs } Hs)):=ZM.readsM (rows:=(a++(k,sb,f)::b).map Zcc) (T:=112) hw Ze;refine hr.rngM hlt λ ad hadr el=>?_;rw [Z6 hlt] at el;refine ⟨_,el.f 1 (by exact ⟨rfl,trivial⟩),Zd hw λ b1 w hw=>⟨hw.absorb,?_⟩⟩;simp only;have hw:=Bufs.split.1 (hw.take (Za4 (a++(k,sb,f)::b)));simp only at hw;obtain ⟨R',hr2,_,hwl,back⟩:=Own.lend hw (by rw [List.length_map];omega);have hsrc:Src prog 1 53 (.slice sb.a sb.len sb.cap) f.b.length (b8 f.b) w:=by
  have:=Zi9 underlying53 hwl hr2 (Zep f.b);simpa using this
 refine ZeB Zh1 hwl hsrc (by omega) (by omega) λ s2 w hw=>?_;have hw:=back hw;have toS:∀ {w} {xs:List Value} {s2:Sl},Sat R (Own sb 5 (b8 f.b)::Own s2 5 xs::Za4 (a++b)::tru::pts r (ZcI { st2 with fs:=ZaB k st2.fs } s)::ZM 3 s 112 ((a++(k,sb,f)::b).map Zcc)::Hs) w->Sat R (tru::RO r s (a++(k,sb,f)::b) { st2 with fs:=ZaB k st2.fs } Hs) w:=λ {w xs s2} h=>by
  have h:=h.swap.drop;have h:=(Bufs.split (a:=a) (b:=b) (e:=(k,sb,f))).2 h;exact h.arr
 refine ⟨toS hw,?_⟩;have hsrc2:Src prog 1 53 (.slice x.a x.len x.cap) xs.length (b8 xs) w:=by
  have:=Zi9 underlying53 hw hx (Zep xs);simpa using this
 refine Zas Zh1 hw.swap hsrc2 (Zep _) (by simp;omega) (by simp;omega) λ s3 w hw=>?_;refine ⟨toS hw.swap,?_⟩;refine (hr.rngM hlt λ ad hadr el=>?_);refine ZM.storeM (E:=a++(k,sb,f)::b) (g:=Zcc) (T:=112) 1 (k,s3,{ f with b:=f.b++xs }) hw hadr hlt (by kernel_rfl) rfl (by simp [Value.cells]) (by rw [Z6 hlt];rfl) λ w hw=>⟨trivial,?_⟩;rw [Zjb] at hw;refine RO.shut (s:=s) (E:=a++(k,s3,{ f with b:=f.b++xs })::b) ?_ ?_
 ·show _=Zpl k xs st2.fs
  unfold Zpl;rw [hfs,Zca ha,Zev,ZfI]
 ·have hw:Sat R (Own sb 5 (b8 f.b)::tru::Own s3 5 (b8 (f.b++xs))::Za4 (a++b)::pts r (ZcI { st2 with fs:=Zpl k xs st2.fs } s)::ZM 3 s 112 ((a++(k,s3,{ f with b:=f.b++xs })::b).map Zcc)::Hs) w:=by
   rw [show b8 (f.b++xs)=b8 f.b++b8 xs by simp];exact hw.arr
  have hw:=(Bufs.split (a:=a) (b:=b) (e:=(k,s3,{ f with b:=f.b++xs }))).2 hw.drop.drop;exact hw.arr
end
section
open Go Go.VC Tryz
variable {R:Cx} {Hs Rest:List HP} {w:World}
theorem Zoh {r:Nat} {st:DS} (n:Int) (hw:Sat R (Zy r st::Hs) w):
  Zq prog 12 #[.pointer (some ⟨r,0,none⟩),.int .i64 n] w λ v w'=>v=.int .i64 (if n<0 then 1 else 0)/\Sat R (Zy r { st with fail:=if n<0 then st.fail else n }::Hs) w':=by
 obtain ⟨s,E,hE,hw⟩:=Sat.ref.1 hw;apply Zwa
 (first|with_reducible refine Br.d (λ h=>?_) (λ h=>?_)|with_reducible refine Br.nd (λ h=>?_) (λ h=>?_)|with_reducible refine Br.e (λ h=>?_) (λ h=>?_)|with_reducible refine Br.ne (λ h=>?_) (λ h=>?_)|with_reducible refine Br.nne (λ h=>?_) (λ h=>?_)|with_reducible refine Br.se (λ h=>?_) (λ h=>?_)|with_reducible refine Br.sne (λ h=>?_) (λ h=>?_)|with_reducible refine Br.nb (λ h=>?_) (λ h=>?_)|with_reducible refine Br.mk (λ h=>?_) (λ h=>?_)|refine Br.d (λ h=>?_) (λ h=>?_)|refine Br.nd (λ h=>?_) (λ h=>?_)|refine Br.e (λ h=>?_) (λ h=>?_)|refine Br.ne (λ h=>?_) (λ h=>?_)|refine Br.nne (λ h=>?_) (λ h=>?_)|refine Br.se (λ h=>?_) (λ h=>?_)|refine Br.mk (λ h=>?_) (λ h=>?_))
 ·rw [if_pos h,if_pos h];exact ⟨rfl,RO.shut hE hw⟩
 ·repeat (first|refine Zb.mk rfl ?_|refine ⟨_,At.own Ze (by exact ⟨rfl,trivial⟩),?_⟩|refine ⟨_,At.own (eqS hw) (by exact ⟨rfl,trivial⟩),?_⟩|refine ⟨_,(by rw [Zf];exact At.own Ze (by exact ⟨rfl,trivial⟩)),?_⟩|refine ⟨_,(by rw [Zf];exact At.own (eqS hw) (by exact ⟨rfl,trivial⟩)),?_⟩)
  refine Zc hw (by kernel_rfl) rfl (by simp [Value.cells,Zn]) λ w hw=>?_;rw [if_neg h,if_neg h];exact ⟨rfl,RO.shut hE hw⟩
theorem ZqL {r:Nat} {st:DS} (n:Int) (hw:Sat R (Zy r st::Hs) w):
  Zq prog 74 #[.pointer (some ⟨r,0,none⟩),.int .i64 n] w λ v w'=>v=.int .i64 (if n<0 then 1 else 0)/\Sat R (Zy r { st with arm:=if n<0 then st.arm else n }::Hs) w':=by
 obtain ⟨s,E,hE,hw⟩:=Sat.ref.1 hw;apply Zvc
 (first|with_reducible refine Br.d (λ h=>?_) (λ h=>?_)|with_reducible refine Br.nd (λ h=>?_) (λ h=>?_)|with_reducible refine Br.e (λ h=>?_) (λ h=>?_)|with_reducible refine Br.ne (λ h=>?_) (λ h=>?_)|with_reducible refine Br.nne (λ h=>?_) (λ h=>?_)|with_reducible refine Br.se (λ h=>?_) (λ h=>?_)|with_reducible refine Br.sne (λ h=>?_) (λ h=>?_)|with_reducible refine Br.nb (λ h=>?_) (λ h=>?_)|with_reducible refine Br.mk (λ h=>?_) (λ h=>?_)|refine Br.d (λ h=>?_) (λ h=>?_)|refine Br.nd (λ h=>?_) (λ h=>?_)|refine Br.e (λ h=>?_) (λ h=>?_)|refine Br.ne (λ h=>?_) (λ h=>?_)|refine Br.nne (λ h=>?_) (λ h=>?_)|refine Br.se (λ h=>?_) (λ h=>?_)|refine Br.mk (λ h=>?_) (λ h=>?_))
 ·rw [if_pos h,if_pos h];exact ⟨rfl,RO.shut hE hw⟩
 ·repeat (first|refine Zb.mk rfl ?_|refine ⟨_,At.own Ze (by exact ⟨rfl,trivial⟩),?_⟩|refine ⟨_,At.own (eqS hw) (by exact ⟨rfl,trivial⟩),?_⟩|refine ⟨_,(by rw [Zf];exact At.own Ze (by exact ⟨rfl,trivial⟩)),?_⟩|refine ⟨_,(by rw [Zf];exact At.own (eqS hw) (by exact ⟨rfl,trivial⟩)),?_⟩)
  refine Zc hw (by kernel_rfl) rfl (by simp [Value.cells,Zn]) λ w hw=>?_;rw [if_neg h,if_neg h];exact ⟨rfl,RO.shut hE hw⟩
theorem RO.len {r:Nat} {s:Sl} {E:List RE} {st:DS} (hw:Sat R (RO r s E st Hs) w):s.len=E.length:=by
 have:=ZM.len (hw.take (ZM 3 s 112 (E.map Zcc)));rwa [List.length_map] at this
theorem RO.blen {r:Nat} {s:Sl} {a b:List RE} {e:RE} {st:DS} (hw:Sat R (RO r s (a++e::b) st Hs) w):e.2.1.len=e.2.2.b.length/\e.2.1.len<=e.2.1.cap:=by
 have h1:=Bufs.split.1 (hw.take (Za4 (a++e::b)));exact ⟨by have:=Own.len h1;simpa using this,Own.cap h1⟩
theorem Zdm {r:Nat} {st:DS} {k:ByteArray} (i:Inv st) (hn:st.fs.length<=1000000) (hk:k.size<=9223372036854775807) (hw:Sat R (Zy r st::Hs) w):
  Zq prog 38 #[.pointer (some ⟨r,0,none⟩),.string k] w λ v w'=>v=.int .i64 (ZA st k).2/\Sat R (Zy r (ZA st k).1::Hs) w':=by
 apply ZvL;refine (Zda i.toCounts hk hk hw).use ?_;rw [Bool.and_self];rintro _ w ⟨rfl,hw⟩;refine ⟨_,rfl,?_⟩
 (first|with_reducible refine Br.d (λ h=>?_) (λ h=>?_)|with_reducible refine Br.nd (λ h=>?_) (λ h=>?_)|with_reducible refine Br.e (λ h=>?_) (λ h=>?_)|with_reducible refine Br.ne (λ h=>?_) (λ h=>?_)|with_reducible refine Br.nne (λ h=>?_) (λ h=>?_)|with_reducible refine Br.se (λ h=>?_) (λ h=>?_)|with_reducible refine Br.sne (λ h=>?_) (λ h=>?_)|with_reducible refine Br.nb (λ h=>?_) (λ h=>?_)|with_reducible refine Br.mk (λ h=>?_) (λ h=>?_)|refine Br.d (λ h=>?_) (λ h=>?_)|refine Br.nd (λ h=>?_) (λ h=>?_)|refine Br.e (λ h=>?_) (λ h=>?_)|refine Br.ne (λ h=>?_) (λ h=>?_)|refine Br.nne (λ h=>?_) (λ h=>?_)|refine Br.se (λ h=>?_) (λ h=>?_)|refine Br.mk (λ h=>?_) (λ h=>?_))
 ·have e:ZA st k=chg st (Zm k):=if_neg h
  rw [e];exact ⟨rfl,hw⟩
 have e:ZA st k=Zcv k (chg st (Zm k)).1:=if_pos h;rw [e];have i2:=ZbN i (Zm k);have hn2:(chg st (Zm k)).1.fs.length<=1000000:=by rw [(Zbp st (Zm k)).1];exact hn
 generalize (chg st (Zm k)).1=st2 at *;clear e i hn;obtain ⟨s,E,hE,hw⟩:=Sat.ref.1 hw;refine (Zb1 k hE (by rw [<-Zar,hE];exact hn2) hw).use ?_;rintro _ w ⟨rfl,hw⟩;refine ⟨_,rfl,?_⟩;cases hg:Zw k st2.fs with
 |none=>
  rw [Zbv hg];have e:Zcv k st2=(st2,2):=by unfold Zcv;rw [hg];rfl
  rw [e];exact Br.t (by decide) ⟨rfl,RO.shut hE hw⟩
 |some f=>
  obtain ⟨a,sb,b,rfl,ha,hfs,hp⟩:=ZdY hE hg;rw [hp];refine Br.f (by simp) ?_;have e:Zcv k st2=({ st2 with fs:=ZdJ k (λ f=>{ f with sure:=f.b.length }) st2.fs },0):=if_pos (by rw [hg];rfl);rw [e];have hlt:a.length<(a++(k,sb,f)::b).length:=by simp
  have hbl:=(RO.blen hw).1;simp only at hbl;refine Zv hw λ w hw=>?_
  repeat (first|refine Zb.mk rfl ?_|refine ⟨_,At.own Ze (by exact ⟨rfl,trivial⟩),?_⟩|refine ⟨_,At.own (eqS hw) (by exact ⟨rfl,trivial⟩),?_⟩|refine ⟨_,(by rw [Zf];exact At.own Ze (by exact ⟨rfl,trivial⟩)),?_⟩|refine ⟨_,(by rw [Zf];exact At.own (eqS hw) (by exact ⟨rfl,trivial⟩)),?_⟩)
  have hr:ReadsN 3 s ((a++(k,sb,f)::b).map Zcc) (Sat R (RO r s (a++(k,sb,f)::b) st2 Hs)):=RO.reads hw Ze;refine hr.rngM hlt λ ad hadr el=>?_;rw [Z6 hlt] at el;refine ⟨_,el.f 1 (by exact ⟨rfl,trivial⟩),?_⟩;simp only;refine hr.rngM hlt λ ad hadr el=>?_;refine ZM.storeM (E:=a++(k,sb,f)::b) (g:=Zcc) (T:=112) 2 (k,sb,{ f with sure:=f.b.length }) hw hadr hlt (by kernel_rfl) rfl (by simp [Value.cells]) (by rw [Z6 hlt,hbl];rfl) λ w hw=>⟨trivial,?_⟩;rw [Zjb] at hw;refine RO.shut (s:=s) (E:=a++(k,sb,{ f with sure:=f.b.length })::b) ?_ ?_
  ·show _=ZdJ k _ st2.fs
   rw [hfs,Zca ha,Zev,ZfI]
  ·have hw:Sat R (Za4 (a++(k,sb,f)::b)::pts r (ZcI { st2 with fs:=ZdJ k (λ f=>{ f with sure:=f.b.length }) st2.fs } s)::ZM 3 s 112 ((a++(k,sb,{ f with sure:=f.b.length })::b).map Zcc)::Hs) w:=hw.arr
   have hw:=(Bufs.split (a:=a) (b:=b) (e:=(k,sb,{ f with sure:=f.b.length }))).2 ((Bufs.split (a:=a) (b:=b) (e:=(k,sb,f))).1 hw);exact hw.arr
theorem ZcY {r:Nat} {st:DS} {k:ByteArray} (i:Inv st) (hn:st.fs.length<=1000000) (hk:k.size<=9223372036854775807) (hw:Sat R (Zy r st::Hs) w):
  Zq prog 92 #[.pointer (some ⟨r,0,none⟩),.string k] w λ v w'=>v=.int .i64 (Zi st k).2/\Sat R (Zy r (Zi st k).1::Hs) w':=by
 apply ZuW;refine (Zda i.toCounts hk hk hw).use ?_;rw [Bool.and_self];rintro _ w ⟨rfl,hw⟩;refine ⟨_,rfl,?_⟩
 (first|with_reducible refine Br.d (λ h=>?_) (λ h=>?_)|with_reducible refine Br.nd (λ h=>?_) (λ h=>?_)|with_reducible refine Br.e (λ h=>?_) (λ h=>?_)|with_reducible refine Br.ne (λ h=>?_) (λ h=>?_)|with_reducible refine Br.nne (λ h=>?_) (λ h=>?_)|with_reducible refine Br.se (λ h=>?_) (λ h=>?_)|with_reducible refine Br.sne (λ h=>?_) (λ h=>?_)|with_reducible refine Br.nb (λ h=>?_) (λ h=>?_)|with_reducible refine Br.mk (λ h=>?_) (λ h=>?_)|refine Br.d (λ h=>?_) (λ h=>?_)|refine Br.nd (λ h=>?_) (λ h=>?_)|refine Br.e (λ h=>?_) (λ h=>?_)|refine Br.ne (λ h=>?_) (λ h=>?_)|refine Br.nne (λ h=>?_) (λ h=>?_)|refine Br.se (λ h=>?_) (λ h=>?_)|refine Br.mk (λ h=>?_) (λ h=>?_))
 ·have e:Zi st k=chg st (Zm k):=if_neg h
  rw [e];exact ⟨rfl,hw⟩
 have e:Zi st k=ZX k (chg st (Zm k)).1:=if_pos h;rw [e];have hn2:(chg st (Zm k)).1.fs.length<=1000000:=by rw [(Zbp st (Zm k)).1];exact hn
 generalize (chg st (Zm k)).1=st2 at *;clear e i hn;obtain ⟨s,E,hE,hw⟩:=Sat.ref.1 hw;refine (Zb1 k hE (by rw [<-Zar,hE];exact hn2) hw).use ?_;rintro _ w ⟨rfl,hw⟩;refine ⟨_,rfl,?_⟩;cases hg:Zw k st2.fs with
 |none=>
  rw [Zbv hg];have e:ZX k st2=(st2,2):=by unfold ZX;rw [hg];rfl
  rw [e];exact Br.t (by decide) ⟨rfl,RO.shut hE hw⟩
 |some f=>
  obtain ⟨a,sb,b,rfl,ha,hfs,hp⟩:=ZdY hE hg;rw [hp];refine Br.f (by simp) ?_;have e:ZX k st2=({ st2 with fs:=Zaa k st2.fs },0):=if_pos (by rw [hg];rfl);rw [e];refine (Zhk hE (by rw [<-Zar,hE];exact hn2) hw).use ?_;rintro _ w ⟨rfl,hw⟩;have ed:erR (a++b)=Zaa k st2.fs:=by rw [hfs,ZbM ha (Zbg k),Zev]
  rw [ed] at hw;exact ⟨rfl,rfl,hw.drop⟩
theorem ZeJ {r:Nat} {st:DS} {k:ByteArray} (i:Inv st) (hn:st.fs.length<=1000000) (hk:k.size<=9223372036854775807) (hw:Sat R (Zy r st::Hs) w):
  Zq prog 45 #[.pointer (some ⟨r,0,none⟩),.string k] w λ v w'=>∃ t:Sl,v=.tuple #[.slice t.a t.len t.cap,.int .i64 (ZC st k).2]/\Sat R (Own t 5 (b8 (ZC st k).1)::Zy r st::Hs) w':=by
 apply ZvE;refine (Zfd k hk hw).use ?_;rintro _ w ⟨rfl,hw⟩;refine ⟨_,rfl,?_⟩;obtain ⟨s,E,hE,hw⟩:=Sat.ref.1 hw;have r1:=i.r1;have hfull:=i.full
 repeat (first|refine Zb.mk rfl ?_|refine ⟨_,At.own Ze (by exact ⟨rfl,trivial⟩),?_⟩|refine ⟨_,At.own (eqS hw) (by exact ⟨rfl,trivial⟩),?_⟩|refine ⟨_,(by rw [Zf];exact At.own Ze (by exact ⟨rfl,trivial⟩)),?_⟩|refine ⟨_,(by rw [Zf];exact At.own (eqS hw) (by exact ⟨rfl,trivial⟩)),?_⟩)
 (first|with_reducible refine Br.d (λ h=>?_) (λ h=>?_)|with_reducible refine Br.nd (λ h=>?_) (λ h=>?_)|with_reducible refine Br.e (λ h=>?_) (λ h=>?_)|with_reducible refine Br.ne (λ h=>?_) (λ h=>?_)|with_reducible refine Br.nne (λ h=>?_) (λ h=>?_)|with_reducible refine Br.se (λ h=>?_) (λ h=>?_)|with_reducible refine Br.sne (λ h=>?_) (λ h=>?_)|with_reducible refine Br.nb (λ h=>?_) (λ h=>?_)|with_reducible refine Br.mk (λ h=>?_) (λ h=>?_)|refine Br.d (λ h=>?_) (λ h=>?_)|refine Br.nd (λ h=>?_) (λ h=>?_)|refine Br.e (λ h=>?_) (λ h=>?_)|refine Br.ne (λ h=>?_) (λ h=>?_)|refine Br.nne (λ h=>?_) (λ h=>?_)|refine Br.se (λ h=>?_) (λ h=>?_)|refine Br.mk (λ h=>?_) (λ h=>?_))
 ·have e:ZC st k=([],5):=if_pos h
  rw [e];exact ⟨⟨none,0,0⟩,rfl,Own.nil (RO.shut hE hw)⟩
 have hoff:=h
 (first|with_reducible refine Br.d (λ h=>?_) (λ h=>?_)|with_reducible refine Br.nd (λ h=>?_) (λ h=>?_)|with_reducible refine Br.e (λ h=>?_) (λ h=>?_)|with_reducible refine Br.ne (λ h=>?_) (λ h=>?_)|with_reducible refine Br.nne (λ h=>?_) (λ h=>?_)|with_reducible refine Br.se (λ h=>?_) (λ h=>?_)|with_reducible refine Br.sne (λ h=>?_) (λ h=>?_)|with_reducible refine Br.nb (λ h=>?_) (λ h=>?_)|with_reducible refine Br.mk (λ h=>?_) (λ h=>?_)|refine Br.d (λ h=>?_) (λ h=>?_)|refine Br.nd (λ h=>?_) (λ h=>?_)|refine Br.e (λ h=>?_) (λ h=>?_)|refine Br.ne (λ h=>?_) (λ h=>?_)|refine Br.nne (λ h=>?_) (λ h=>?_)|refine Br.se (λ h=>?_) (λ h=>?_)|refine Br.mk (λ h=>?_) (λ h=>?_))
 ·have e:ZC st k=([],1):=by unfold ZC;rw [if_neg (by simp [hoff]),if_pos (by simp [h])]
  rw [e];exact ⟨⟨none,0,0⟩,rfl,Own.nil (RO.shut hE hw)⟩
 have e:ZC st k=match Zw k st.fs with|none=>([],2)|some f=>(f.b,0):=by unfold ZC;rw [if_neg (by simp [hoff]),if_neg (by simp [h])];all_goals (cases Zw k st.fs<;>rfl)
 refine (Zb1 k hE (by rw [<-Zar,hE];exact hn) hw).use ?_;rintro _ w ⟨rfl,hw⟩;refine ⟨_,rfl,?_⟩;cases hg:Zw k st.fs with
 |none=>
  rw [Zbv hg,e,hg];exact Br.t (by decide) ⟨⟨none,0,0⟩,rfl,Own.nil (RO.shut hE hw)⟩
 |some f=>
  obtain ⟨a,sb,b,rfl,ha,hfs,hp⟩:=ZdY hE hg;have hft:=ZbH hg;rw [hp,e,hg];have hlt:a.length<(a++(k,sb,f)::b).length:=by simp
  refine Br.f (by simp) (Zd hw λ b1 w hw=>?_)
  repeat (first|refine Zb.mk rfl ?_|refine ⟨_,At.own Ze (by exact ⟨rfl,trivial⟩),?_⟩|refine ⟨_,At.own (eqS hw) (by exact ⟨rfl,trivial⟩),?_⟩|refine ⟨_,(by rw [Zf];exact At.own Ze (by exact ⟨rfl,trivial⟩)),?_⟩|refine ⟨_,(by rw [Zf];exact At.own (eqS hw) (by exact ⟨rfl,trivial⟩)),?_⟩)
  have hr:ReadsN 3 s ((a++(k,sb,f)::b).map Zcc) (λ w'=>w'=w):=ZM.readsM (rows:=(a++(k,sb,f)::b).map Zcc) (T:=112) hw (eqS hw);refine hr.rngM hlt λ ad hadr el=>?_;rw [Z6 hlt] at el;refine ⟨_,el.f 1 (by exact ⟨rfl,trivial⟩),?_⟩;simp only;have hw:=(Bufs.split (a:=a) (b:=b) (e:=(k,sb,f))).1 (hw.take (Za4 (a++(k,sb,f)::b)));simp only at hw;obtain ⟨R',hr2,_,hwl,back⟩:=Own.lend hw (by rw [List.length_map];omega);have hsrc:Src prog 1 53 (.slice sb.a sb.len sb.cap) f.b.length (b8 f.b) w:=by
   have:=Zi9 underlying53 hwl hr2 (Zep f.b);simpa using this
  refine ZeB Zh1 hwl hsrc (by omega) (by omega) λ s2 w hw=>⟨s2,rfl,?_⟩;have hw:=(back hw).swap;exact hw.cons λ _ h=>RO.shut (s:=s) hE ((Bufs.split (a:=a) (b:=b) (e:=(k,sb,f))).2 h).arr
def Zcw (k to:ByteArray) (st:DS):DS × Int:=
 match Zw k st.fs with
 |some f=>if k=to then (st,0) else ({ st with fs:=Zk4 (to,f) (Zaa to (Zaa k st.fs)) },0)
 |none=>(st,2)
def Zf3 (st:DS) (k to:ByteArray):DS × Int:=doing st (Zm k && Zm to) (Zcw k to)
theorem Zkd {r:Nat} {st:DS} {k to:ByteArray} (i:Inv st) (hn:st.fs.length<=1000000) (hk:k.size<=9223372036854775807) (hk2:to.size<=9223372036854775807) (hw:Sat R (Zy r st::Hs) w):
  Zq prog 140 #[.pointer (some ⟨r,0,none⟩),.string k,.string to] w λ v w'=>v=.int .i64 (Zf3 st k to).2/\Sat R (Zy r (Zf3 st k to).1::Hs) w':=by
 apply ZtA;refine (Zda i.toCounts hk hk2 hw).use ?_;rintro _ w ⟨rfl,hw⟩;refine ⟨_,rfl,?_⟩
 (first|with_reducible refine Br.d (λ h=>?_) (λ h=>?_)|with_reducible refine Br.nd (λ h=>?_) (λ h=>?_)|with_reducible refine Br.e (λ h=>?_) (λ h=>?_)|with_reducible refine Br.ne (λ h=>?_) (λ h=>?_)|with_reducible refine Br.nne (λ h=>?_) (λ h=>?_)|with_reducible refine Br.se (λ h=>?_) (λ h=>?_)|with_reducible refine Br.sne (λ h=>?_) (λ h=>?_)|with_reducible refine Br.nb (λ h=>?_) (λ h=>?_)|with_reducible refine Br.mk (λ h=>?_) (λ h=>?_)|refine Br.d (λ h=>?_) (λ h=>?_)|refine Br.nd (λ h=>?_) (λ h=>?_)|refine Br.e (λ h=>?_) (λ h=>?_)|refine Br.ne (λ h=>?_) (λ h=>?_)|refine Br.nne (λ h=>?_) (λ h=>?_)|refine Br.se (λ h=>?_) (λ h=>?_)|refine Br.mk (λ h=>?_) (λ h=>?_))
 ·have e:Zf3 st k to=chg st (Zm k && Zm to):=if_neg h
  rw [e];exact ⟨rfl,hw⟩
 have e:Zf3 st k to=Zcw k to (chg st (Zm k && Zm to)).1:=if_pos h;rw [e];have hn2:(chg st (Zm k && Zm to)).1.fs.length<=1000000:=by rw [(Zbp st _).1];exact hn
 generalize (chg st (Zm k && Zm to)).1=st2 at *;clear e i hn;obtain ⟨s,E,hE,hw⟩:=Sat.ref.1 hw;refine (Zb1 k hE (by rw [<-Zar,hE];exact hn2) hw).use ?_;rintro _ w ⟨rfl,hw⟩;refine ⟨_,rfl,?_⟩;cases hg:Zw k st2.fs with
 |none=>
  rw [Zbv hg];have e:Zcw k to st2=(st2,2):=by unfold Zcw;rw [hg]
  rw [e];exact Br.t (by decide) ⟨rfl,RO.shut hE hw⟩
 |some f=>
  obtain ⟨a,sb,b,rfl,ha,hfs,hp⟩:=ZdY hE hg;rw [hp];refine Br.f (by simp) ?_
  (first|with_reducible refine Br.d (λ h=>?_) (λ h=>?_)|with_reducible refine Br.nd (λ h=>?_) (λ h=>?_)|with_reducible refine Br.e (λ h=>?_) (λ h=>?_)|with_reducible refine Br.ne (λ h=>?_) (λ h=>?_)|with_reducible refine Br.nne (λ h=>?_) (λ h=>?_)|with_reducible refine Br.se (λ h=>?_) (λ h=>?_)|with_reducible refine Br.sne (λ h=>?_) (λ h=>?_)|with_reducible refine Br.nb (λ h=>?_) (λ h=>?_)|with_reducible refine Br.mk (λ h=>?_) (λ h=>?_)|refine Br.d (λ h=>?_) (λ h=>?_)|refine Br.nd (λ h=>?_) (λ h=>?_)|refine Br.e (λ h=>?_) (λ h=>?_)|refine Br.ne (λ h=>?_) (λ h=>?_)|refine Br.nne (λ h=>?_) (λ h=>?_)|refine Br.se (λ h=>?_) (λ h=>?_)|refine Br.mk (λ h=>?_) (λ h=>?_))
  ·have e:Zcw k to st2=(st2,0):=by unfold Zcw;rw [hg];exact if_pos h
   rw [e];exact ⟨rfl,RO.shut hE hw⟩
  have e:Zcw k to st2=({ st2 with fs:=Zk4 (to,f) (Zaa to (Zaa k st2.fs)) },0):=by unfold Zcw;rw [hg];exact if_neg h
  rw [e];have hlt:a.length<(a++(k,sb,f)::b).length:=by simp
  have hll:(a++b).length<=1000000:=by have:(a++(k,sb,f)::b).length<=1000000:=by { rw [<-Zar,hE];exact hn2 };simp at this ⊢;omega
  repeat (first|refine Zb.mk rfl ?_|refine ⟨_,At.own Ze (by exact ⟨rfl,trivial⟩),?_⟩|refine ⟨_,At.own (eqS hw) (by exact ⟨rfl,trivial⟩),?_⟩|refine ⟨_,(by rw [Zf];exact At.own Ze (by exact ⟨rfl,trivial⟩)),?_⟩|refine ⟨_,(by rw [Zf];exact At.own (eqS hw) (by exact ⟨rfl,trivial⟩)),?_⟩)
  refine (RO.reads hw (eqS hw)).rngM hlt λ ad hadr el=>?_;rw [Z6 hlt] at el;refine ⟨k,sb,f.sure,el.z (by exact ⟨rfl,rfl,rfl,trivial⟩),Zd hw λ bf w hw=>?_⟩;refine Zc (v:=.agg #[.string k,.slice sb.a sb.len sb.cap,.int .i64 f.sure]) hw (by kernel_rfl) rfl (by simp [Value.cells]) λ w hw=>?_;have hw:Sat R (RO r s (a++(k,sb,f)::b) st2 (pts bf (.cells [.string k,.slice sb.a sb.len sb.cap,.int .i64 f.sure].toArray 112 (0,0))::Hs)) w:=by
   have hw:Sat R (pts bf (.cells [.string k,.slice sb.a sb.len sb.cap,.int .i64 f.sure].toArray 112 (0,0))::RO r s (a++(k,sb,f)::b) st2 Hs) w:=hw;exact hw.arr
  refine (Zhk hE (by rw [<-Zar,hE];exact hn2) hw).use ?_;rintro _ w ⟨rfl,hw⟩;refine ⟨rfl,?_⟩;have ed:erR (a++b)=Zaa k st2.fs:=by rw [hfs,ZbM ha (Zbg k),Zev]
  rw [ed] at hw;obtain ⟨s2,E2,hE2,hw⟩:=Sat.ref.1 hw.swap;simp only at hE2 hw;have hl2:E2.length<=1000000:=by rw [<-Zar,hE2,<-ed,Zar];exact hll
  refine (Zb1 to hE2 hl2 hw).use ?_;rintro _ w ⟨rfl,hw⟩;refine ⟨_,rfl,?_⟩;simp only;have fin:∀ {w} {s:Sl} {E:List RE} {R},erR E=Zaa to (Zaa k st2.fs)->E.length<=1000000->Sat R (RO r s E { st2 with fs:=Zaa to (Zaa k st2.fs) } (Own sb 5 (b8 f.b)::pts bf (.cells [.string to,.slice sb.a sb.len sb.cap,.int .i64 f.sure].toArray 112 (0,0))::Hs)) w->
    ∃ t47:ByteArray,∃ t47_1:Sl,∃ t47_2:Int,(At (λ w'=>w'=w) ⟨bf,0,none⟩ [.string t47,.slice t47_1.a t47_1.len t47_1.cap,.int .i64 t47_2])/\
     Calls prog 82 #[.pointer (some ⟨r,0,none⟩),.agg #[.string t47,.slice t47_1.a t47_1.len t47_1.cap,.int .i64 t47_2]] w λ e_5 w_9=>
     (e_5=.returned (.tuple #[]))/\(True/\Sat R (Zy r { st2 with fs:=Zk4 (to,f) (Zaa to (Zaa k st2.fs)) }::Hs) w_9):=λ {w s E R} hE hl hw=>by
   refine ⟨to,sb,f.sure,At.own (eqS hw) (by exact ⟨rfl,rfl,rfl,trivial⟩),?_⟩;refine (Zkm (k:=to) (f:=f) hE hl hw).use ?_;rintro _ w ⟨rfl,hw⟩;exact ⟨rfl,trivial,hw.swap.drop⟩
  cases hg2:Zw to (Zaa k st2.fs) with
  |none=>
   rw [Zbv hg2];refine Br.f (by decide) ?_;have hw:=hw.take (pts bf (.cells [.string k,.slice sb.a sb.len sb.cap,.int .i64 f.sure].toArray 112 (0,0)));refine Zc hw (by kernel_rfl) rfl (by simp [Value.cells,Zn]) λ w hw=>?_;have hw:Sat R (RO r s2 E2 { st2 with fs:=Zaa to (Zaa k st2.fs) } (Own sb 5 (b8 f.b)::pts bf (.cells [.string to,.slice sb.a sb.len sb.cap,.int .i64 f.sure].toArray 112 (0,0))::Hs)) w:=by
    have hw:Sat R (pts bf (.cells [.string to,.slice sb.a sb.len sb.cap,.int .i64 f.sure].toArray 112 (0,0))::RO r s2 E2 st2 (Own sb 5 (b8 f.b)::Hs)) w:=hw;exact hw.arr
   exact fin (by rw [hE2,ZfN hg2]) hl2 hw
  |some f2=>
   obtain ⟨a2,sb2,b2,rfl,ha2,hfs2,hp2⟩:=ZdY hE2 hg2;rw [hp2];refine Br.t (by simp) ?_;refine (Zhk hE2 hl2 hw).use ?_;rintro _ w ⟨rfl,hw⟩;refine ⟨rfl,?_⟩;have ed2:erR (a2++b2)=Zaa to (Zaa k st2.fs):=by rw [hfs2,ZbM ha2 (Zbg to),Zev]
   rw [ed2] at hw;obtain ⟨s3,E3,hE3,hw⟩:=Sat.ref.1 hw.drop;simp only at hE3 hw;have hl3:E3.length<=1000000:=by rw [<-Zar,hE3,<-ed2,Zar];simp at hl2 ⊢;omega
   have hw:=hw.take (pts bf (.cells [.string k,.slice sb.a sb.len sb.cap,.int .i64 f.sure].toArray 112 (0,0)));refine Zc hw (by kernel_rfl) rfl (by simp [Value.cells,Zn]) λ w hw=>?_;have hw:Sat R (RO r s3 E3 { st2 with fs:=Zaa to (Zaa k st2.fs) } (Own sb 5 (b8 f.b)::pts bf (.cells [.string to,.slice sb.a sb.len sb.cap,.int .i64 f.sure].toArray 112 (0,0))::Hs)) w:=by
    have hw:Sat R (pts bf (.cells [.string to,.slice sb.a sb.len sb.cap,.int .i64 f.sure].toArray 112 (0,0))::RO r s3 E3 st2 (Own sb 5 (b8 f.b)::Hs)) w:=hw;exact hw.arr
   exact fin hE3 hl3 hw
def ZcQ (fs:Fs) (keep:List Int):Fs:=fs.mapIdx λ i e=>(e.1,ZcS keep[i]? e.2)
def Zm8 (st:DS) (keep:List Int):DS:=⟨st.room,ZcQ st.fs keep,-1,-1,false⟩
theorem ZlZ {r:Nat} {st:DS} {s:Sl} {keep:List Int} (i:Inv st) (hs:RoI R s keep) (hn:st.fs.length<=1000000) (hw:Sat R (Zy r st::Hs) w):
  Zq prog 31 #[.pointer (some ⟨r,0,none⟩),.slice s.a s.len s.cap] w λ v w'=>v=.tuple #[]/\Sat R (Zy r (Zm8 st keep)::Hs) w':=by
 have r1:=i.r1;have hfull:=i.full;have hsl:=hs.len;have hsb:=hs.bound;apply ZvS;obtain ⟨sL,E,hE,hw⟩:=Sat.ref.1 hw;have hfl:st.fs.length=E.length:=by rw [<-hE,Zar]
 refine ⟨λ x w=>∃ a b:List RE,x=(a.length:Nat)/\(a++b).length=st.fs.length/\erR b=st.fs.drop a.length/\erR a=(ZcQ st.fs keep).take a.length/\Sat R (RO r sL (a++b) st Hs) w,
  λ x _=>st.fs.length - x.toNat,⟨[],E,rfl,by simp [hfl],by simpa using hE,rfl,hw⟩,?_⟩
 rintro z _ w ⟨a,b,rfl,hlen,hb,ha,hw⟩;have hsL:=RO.len hw;rw [List.length_append] at hlen
 repeat (first|refine Zb.mk rfl ?_|refine ⟨_,At.own Ze (by exact ⟨rfl,trivial⟩),?_⟩|refine ⟨_,At.own (eqS hw) (by exact ⟨rfl,trivial⟩),?_⟩|refine ⟨_,(by rw [Zf];exact At.own Ze (by exact ⟨rfl,trivial⟩)),?_⟩|refine ⟨_,(by rw [Zf];exact At.own (eqS hw) (by exact ⟨rfl,trivial⟩)),?_⟩)
 (first|with_reducible refine Br.d (λ h=>?_) (λ h=>?_)|with_reducible refine Br.nd (λ h=>?_) (λ h=>?_)|with_reducible refine Br.e (λ h=>?_) (λ h=>?_)|with_reducible refine Br.ne (λ h=>?_) (λ h=>?_)|with_reducible refine Br.nne (λ h=>?_) (λ h=>?_)|with_reducible refine Br.se (λ h=>?_) (λ h=>?_)|with_reducible refine Br.sne (λ h=>?_) (λ h=>?_)|with_reducible refine Br.nb (λ h=>?_) (λ h=>?_)|with_reducible refine Br.mk (λ h=>?_) (λ h=>?_)|refine Br.d (λ h=>?_) (λ h=>?_)|refine Br.nd (λ h=>?_) (λ h=>?_)|refine Br.e (λ h=>?_) (λ h=>?_)|refine Br.ne (λ h=>?_) (λ h=>?_)|refine Br.nne (λ h=>?_) (λ h=>?_)|refine Br.se (λ h=>?_) (λ h=>?_)|refine Br.mk (λ h=>?_) (λ h=>?_))
 ·cases b with
  |nil=>simp at hsL hlen;omega
  |cons e b=>
  obtain ⟨k,sb,f⟩:=e;simp only [List.length_cons] at hlen;have hlt:a.length<(a++(k,sb,f)::b).length:=by simp
  have hj:a.length<st.fs.length:=by omega
  rw [ZaQ hj,ZfI] at hb;have hb1:st.fs[a.length]=(k,f):=(List.cons.inj hb).1.symm;have hb2:=(List.cons.inj hb).2;have hmem:(k,f)∈st.fs:=by rw [<-hb1];exact List.getElem_mem _
  have hsf:f.sure<=f.b.length:=i.sure _ hmem;have hfl2:(f.b.length:Int)<=total st.fs:=by
   obtain ⟨x,y,hxy⟩:=List.append_of_mem hmem;have:=Zbl (k:=k) (f:=f) x y;have:=ZbG (x++y);rw [hxy];omega
  have hbl:=RO.blen hw;simp only at hbl;obtain ⟨hbl1,hbl2⟩:=hbl;refine ⟨λ n w=>n=(Zj4 keep[a.length]? f:Nat)/\Sat R (RO r sL (a++(k,sb,f)::b) st Hs) w,?_,?_⟩
  ·(first|with_reducible refine Br.d (λ h=>?_) (λ h=>?_)|with_reducible refine Br.nd (λ h=>?_) (λ h=>?_)|with_reducible refine Br.e (λ h=>?_) (λ h=>?_)|with_reducible refine Br.ne (λ h=>?_) (λ h=>?_)|with_reducible refine Br.nne (λ h=>?_) (λ h=>?_)|with_reducible refine Br.se (λ h=>?_) (λ h=>?_)|with_reducible refine Br.sne (λ h=>?_) (λ h=>?_)|with_reducible refine Br.nb (λ h=>?_) (λ h=>?_)|with_reducible refine Br.mk (λ h=>?_) (λ h=>?_)|refine Br.d (λ h=>?_) (λ h=>?_)|refine Br.nd (λ h=>?_) (λ h=>?_)|refine Br.e (λ h=>?_) (λ h=>?_)|refine Br.ne (λ h=>?_) (λ h=>?_)|refine Br.nne (λ h=>?_) (λ h=>?_)|refine Br.se (λ h=>?_) (λ h=>?_)|refine Br.mk (λ h=>?_) (λ h=>?_))
   ·have hk2:a.length<keep.length:=by omega
    refine Zv hw λ w hw=>?_;have hr:ReadsN 3 sL ((a++(k,sb,f)::b).map Zcc) (Sat R (RO r sL (a++(k,sb,f)::b) st Hs)):=RO.reads hw Ze;refine hs.idx Ze hk2 ?_
    repeat (first|refine Zb.mk rfl ?_|refine ⟨_,At.own Ze (by exact ⟨rfl,trivial⟩),?_⟩|refine ⟨_,At.own (eqS hw) (by exact ⟨rfl,trivial⟩),?_⟩|refine ⟨_,(by rw [Zf];exact At.own Ze (by exact ⟨rfl,trivial⟩)),?_⟩|refine ⟨_,(by rw [Zf];exact At.own (eqS hw) (by exact ⟨rfl,trivial⟩)),?_⟩)
    refine hr.rngM hlt λ ad hadr el=>?_;rw [Z6 hlt] at el;refine ⟨_,el.f 1 (by exact ⟨rfl,trivial⟩),?_⟩
    repeat (first|refine Zb.mk rfl ?_|refine ⟨_,At.own Ze (by exact ⟨rfl,trivial⟩),?_⟩|refine ⟨_,At.own (eqS hw) (by exact ⟨rfl,trivial⟩),?_⟩|refine ⟨_,(by rw [Zf];exact At.own Ze (by exact ⟨rfl,trivial⟩)),?_⟩|refine ⟨_,(by rw [Zf];exact At.own (eqS hw) (by exact ⟨rfl,trivial⟩)),?_⟩)
    refine hr.rngM hlt λ ad hadr el=>?_;rw [Z6 hlt] at el;refine ⟨_,el.f 2 (by exact ⟨rfl,trivial⟩),?_,hw⟩;simp only;rw [Zg (by omega) (by omega),List.getElem?_eq_getElem hk2];simp only [Zj4];generalize keep[a.length]=x;rw [hbl1];split<;>split<;>omega
   ·refine ⟨?_,hw⟩
    rw [List.getElem?_eq_none (by omega)];rfl
  rintro z n w ⟨rfl,hw⟩;have hst:=ZfX keep[a.length]? f hsf;generalize hnn:Zj4 keep[a.length]? f=n at hst;have hgt:ZcS keep[a.length]? f=⟨f.b.take (f.sure + n),f.sure + n⟩:=by unfold ZcS;rw [hnn]
  refine Zv hw λ w hw=>?_;have hr:ReadsN 3 sL ((a++(k,sb,f)::b).map Zcc) (Sat R (RO r sL (a++(k,sb,f)::b) st Hs)):=RO.reads hw Ze
  repeat (first|refine Zb.mk rfl ?_|refine ⟨_,At.own Ze (by exact ⟨rfl,trivial⟩),?_⟩|refine ⟨_,At.own (eqS hw) (by exact ⟨rfl,trivial⟩),?_⟩|refine ⟨_,(by rw [Zf];exact At.own Ze (by exact ⟨rfl,trivial⟩)),?_⟩|refine ⟨_,(by rw [Zf];exact At.own (eqS hw) (by exact ⟨rfl,trivial⟩)),?_⟩)
  refine hr.rngM hlt λ ad hadr el=>?_;rw [Z6 hlt] at el;refine ⟨_,el.f 1 (by exact ⟨rfl,trivial⟩),?_⟩
  repeat (first|refine Zb.mk rfl ?_|refine ⟨_,At.own Ze (by exact ⟨rfl,trivial⟩),?_⟩|refine ⟨_,At.own (eqS hw) (by exact ⟨rfl,trivial⟩),?_⟩|refine ⟨_,(by rw [Zf];exact At.own Ze (by exact ⟨rfl,trivial⟩)),?_⟩|refine ⟨_,(by rw [Zf];exact At.own (eqS hw) (by exact ⟨rfl,trivial⟩)),?_⟩)
  refine hr.rngM hlt λ ad hadr el=>?_;rw [Z6 hlt] at el;refine ⟨_,el.f 2 (by exact ⟨rfl,trivial⟩),?_⟩;simp only;rw [Zg (by omega) (by omega)];refine ⟨by omega,by omega,?_⟩;rw [show ((f.sure:Int) + n).toNat=f.sure + n by omega];refine hr.rngM hlt λ ad hadr el=>?_;refine ZM.storeM (E:=a++(k,sb,f)::b) (g:=Zcc) (T:=112) (v:=.slice sb.a (f.sure + n) sb.cap) 1 (k,⟨sb.a,f.sure + n,sb.cap⟩,f) hw hadr hlt (by kernel_rfl) rfl (by simp [Value.cells]) (by rw [Z6 hlt];rfl) λ w hw=>?_;rw [Zjb] at hw;refine Zv hw λ w hw=>?_;have hr:ReadsN 3 sL ((a++(k,⟨sb.a,f.sure + n,sb.cap⟩,f)::b).map Zcc) (Sat R (ZM 3 sL 112 ((a++(k,⟨sb.a,f.sure + n,sb.cap⟩,f)::b).map Zcc)::pts r (ZcI st sL)::Za4 (a++(k,sb,f)::b)::Hs)):=
   ZM.readsM (rows:=(a++(k,⟨sb.a,f.sure + n,sb.cap⟩,f)::b).map Zcc) (T:=112) hw Ze
  have hlt:a.length<(a++(k,(⟨sb.a,f.sure + n,sb.cap⟩:Sl),f)::b).length:=by simp
  repeat (first|refine Zb.mk rfl ?_|refine ⟨_,At.own Ze (by exact ⟨rfl,trivial⟩),?_⟩|refine ⟨_,At.own (eqS hw) (by exact ⟨rfl,trivial⟩),?_⟩|refine ⟨_,(by rw [Zf];exact At.own Ze (by exact ⟨rfl,trivial⟩)),?_⟩|refine ⟨_,(by rw [Zf];exact At.own (eqS hw) (by exact ⟨rfl,trivial⟩)),?_⟩)
  refine hr.rngM hlt λ ad hadr el=>?_;rw [Z6 hlt] at el;refine ⟨⟨sb.a,f.sure + n,sb.cap⟩,el.f 1 (by exact ⟨rfl,trivial⟩),?_⟩;refine hr.rngM hlt λ ad hadr el=>?_;simp only;refine ZM.storeM (E:=a++(k,⟨sb.a,f.sure + n,sb.cap⟩,f)::b) (g:=Zcc) (T:=112) 2 (k,⟨sb.a,f.sure + n,sb.cap⟩,ZcS keep[a.length]? f) hw hadr hlt (by kernel_rfl) rfl (by simp [Value.cells]) (by rw [Z6 hlt,hgt];rfl) λ w hw=>?_;rw [Zjb,Zg (by omega) (by omega)] at *;have hw:=(Bufs.split (a:=a) (b:=b) (e:=(k,sb,f))).1 (hw.take (Za4 (a++(k,sb,f)::b)));have hw:=Own.short hw (n:=f.sure + n) (by simpa using hst);have hw:Sat R (Own ⟨sb.a,f.sure + n,sb.cap⟩ 5 (b8 (ZcS keep[a.length]? f).b)::Za4 (a++b)::ZM 3 sL 112 ((a++(k,⟨sb.a,f.sure + n,sb.cap⟩,ZcS keep[a.length]? f)::b).map Zcc)::pts r (ZcI st sL)::Hs) w:=by
   rw [show b8 (ZcS keep[a.length]? f).b=(b8 f.b).take (f.sure + n) by rw [hgt];exact List.map_take];exact hw
  have hw:=(Bufs.split (a:=a) (b:=b) (e:=(k,⟨sb.a,f.sure + n,sb.cap⟩,ZcS keep[a.length]? f))).2 hw;have e1:a++(k,(⟨sb.a,f.sure + n,sb.cap⟩:Sl),ZcS keep[a.length]? f)::b=(a++[(k,⟨sb.a,f.sure + n,sb.cap⟩,ZcS keep[a.length]? f)])++b:=by simp
  have hwf:Sat R (RO r sL (a++(k,⟨sb.a,f.sure + n,sb.cap⟩,ZcS keep[a.length]? f)::b) st Hs) w:=hw.arr;rw [e1] at hwf;refine ⟨⟨_,b,?_,?_,?_,?_,hwf⟩,by omega⟩
  ·simp
  ·simp;omega
  ·simpa using hb2
  ·have hlc:a.length<(ZcQ st.fs keep).length:=by simp [ZcQ];exact hj
   rw [Zev,ha];have:(a++[(k,(⟨sb.a,f.sure + n,sb.cap⟩:Sl),ZcS keep[a.length]? f)]).length=a.length + 1:=by simp
   rw [this,List.take_succ_eq_append_getElem hlc]
   congr 1
   simp [ZcQ,hb1,erR]
 ·have hb0:b=[]:=by
   rw [List.length_append] at hsL;exact List.length_eq_zero_iff.1 (by omega)
  subst hb0
  repeat (first|refine Zb.mk rfl ?_|refine ⟨_,At.own Ze (by exact ⟨rfl,trivial⟩),?_⟩|refine ⟨_,At.own (eqS hw) (by exact ⟨rfl,trivial⟩),?_⟩|refine ⟨_,(by rw [Zf];exact At.own Ze (by exact ⟨rfl,trivial⟩)),?_⟩|refine ⟨_,(by rw [Zf];exact At.own (eqS hw) (by exact ⟨rfl,trivial⟩)),?_⟩)
  refine Zc hw (by kernel_rfl) rfl (by simp [Value.cells,Zn]) λ w hw=>?_
  repeat (first|refine Zb.mk rfl ?_|refine ⟨_,At.own Ze (by exact ⟨rfl,trivial⟩),?_⟩|refine ⟨_,At.own (eqS hw) (by exact ⟨rfl,trivial⟩),?_⟩|refine ⟨_,(by rw [Zf];exact At.own Ze (by exact ⟨rfl,trivial⟩)),?_⟩|refine ⟨_,(by rw [Zf];exact At.own (eqS hw) (by exact ⟨rfl,trivial⟩)),?_⟩)
  refine Zc hw (by kernel_rfl) rfl (by simp [Value.cells,Zn]) λ w hw=>?_
  repeat (first|refine Zb.mk rfl ?_|refine ⟨_,At.own Ze (by exact ⟨rfl,trivial⟩),?_⟩|refine ⟨_,At.own (eqS hw) (by exact ⟨rfl,trivial⟩),?_⟩|refine ⟨_,(by rw [Zf];exact At.own Ze (by exact ⟨rfl,trivial⟩)),?_⟩|refine ⟨_,(by rw [Zf];exact At.own (eqS hw) (by exact ⟨rfl,trivial⟩)),?_⟩)
  refine Zc hw (by kernel_rfl) rfl (by simp [Value.cells,Zn]) λ w hw=>?_;refine ⟨rfl,RO.shut (s:=sL) (E:=a++[]) ?_ (st:=Zm8 st keep) hw⟩;rw [List.append_nil,ha];show _=ZcQ st.fs keep;rw [List.take_of_length_le];simp at hlen;simp [ZcQ];omega
end
section
open Go Go.VC Tryz
def Srt (fs:Fs):Prop:=fs.Pairwise λ x y=>x.1.data.toList<y.1.data.toList
theorem Zr7 (a b:ByteArray):ltB a b=decide (a.data.toList<b.data.toList):=by
  unfold ltB;rw [ByteArray.toList_eq,ByteArray.toList_eq,Proofs.bytesLess_eq]
theorem Zcs {a b:Fs} (h:a.Perm b) (u:Uni a):Uni b:=(h.map _).nodup_iff.1 u
theorem ZkI {a b:Fs} (h:a.Perm b) (u:Uni a) (k:ByteArray):Zw k a=Zw k b:=by
  have key:∀ {l:Fs} {f:Fl},Uni l->(Zw k l=some f↔(k,f)∈l):=λ {l f} u=>by
    constructor
    · intro hg
      obtain ⟨a,b,rfl,_⟩:=ZI hg;simp
    · intro hm
      obtain ⟨a,b,rfl⟩:=List.append_of_mem hm;refine ZdX (Z2 ?_) (Zbg k);unfold Uni at u;rw [List.map_append,List.nodup_append] at u;intro hk;exact u.2.2 k hk k (by simp) rfl
  cases hb:Zw k b with
  |some f=>exact (key u).2 (h.mem_iff.2 ((key (Zcs h u)).1 hb))
  |none=>
    cases ha:Zw k a with
    |none=>rfl
    |some f=>rw [(key (Zcs h u)).2 (h.mem_iff.1 ((key u).1 ha))] at hb;cases hb
theorem ZeY {k:ByteArray} {g:Fl->Fl}:∀ {l:Fs},Uni l->ZdJ k g l=l.map λ e=>if k==e.1 then (e.1,g e.2) else e
  |[],_=>rfl
  |e::l,u=>by
    unfold Uni at u;rw [List.map_cons,List.nodup_cons] at u;rw [ZdJ,List.map_cons];by_cases h:(k==e.1)=true
    · rw [if_pos h,if_pos h]
      congr 1
      have e1:=(MapKept.bytes_beq _ _).1 h;have:∀ x∈l,(if k==x.1 then (x.1,g x.2) else x)=x:=λ x hx=>by
        rw [if_neg];intro h2;have:=(MapKept.bytes_beq _ _).1 h2;exact u.1 (by rw [<-e1,this];exact List.mem_map_of_mem hx)
      rw [List.map_congr_left this];simp
    · rw [if_neg h,if_neg h,ZeY (l:=l) u.2]
theorem ZgT {a b:Fs} (h:a.Perm b) (u:Uni a) (k:ByteArray) (g:Fl->Fl):(ZdJ k g a).Perm (ZdJ k g b):=by
  rw [ZeY u,ZeY (Zcs h u)];exact h.map _
theorem ZaC {k:ByteArray}:∀ {l:Fs},Uni l->Zaa k l=l.filter λ e=>!(k==e.1)
  |[],_=>rfl
  |e::l,u=>by
    unfold Uni at u;rw [List.map_cons,List.nodup_cons] at u;rw [Zaa];by_cases h:(k==e.1)=true
    · rw [if_pos h,List.filter_cons_of_neg (by simp [h])]
      have e1:=(MapKept.bytes_beq _ _).1 h
      symm
      rw [List.filter_eq_self];intro x hx;simp only [Bool.not_eq_true'];cases h2:(k==x.1)
      · rfl
      · have:=(MapKept.bytes_beq _ _).1 h2
        exact absurd (by rw [<-e1,this];exact List.mem_map_of_mem hx) u.1
    · rw [if_neg h,List.filter_cons_of_pos (by simp [h]),ZaC (l:=l) u.2]
theorem ZhJ {a b:Fs} (h:a.Perm b) (u:Uni a) (k:ByteArray):(Zaa k a).Perm (Zaa k b):=by
  rw [ZaC u,ZaC (Zcs h u)];exact h.filter _
theorem Zlg {a b:Fs} (h:a.Sublist b) (s:Srt b):Srt a:=s.sublist h
theorem Zi8 {a b:Fs} (h:a.map (·.1)=b.map (·.1)) (s:Srt b):Srt a:=by
  have h1:(b.map (·.1)).Pairwise λ x y:ByteArray=>x.data.toList<y.data.toList:=List.pairwise_map.2 s;rw [<-h] at h1;unfold Srt;exact (List.pairwise_map (R:=λ x y:ByteArray=>x.data.toList<y.data.toList)).1 h1
theorem ZkE {a b c:List UInt8} (h1:a<b) (h2:b<c):a<c:=List.lt_trans h1 h2
theorem Zwf {a b:ByteArray} (h:a.data.toList=b.data.toList):a=b:=by
  cases a;cases b;simp only at h;congr 1;exact Array.ext' h
theorem Zjw {k:ByteArray} {f:Fl}:∀ {l:Fs},Srt l->k ∉ l.map (·.1)->Srt (Zk4 (k,f) l)
  |[],_,_=>by simp [Zk4,Srt]
  |e::l,s,hk=>by
    unfold Srt at s;rw [List.pairwise_cons] at s;rw [List.map_cons,List.mem_cons,not_or] at hk;by_cases h:ltB e.1 k=true
    · have e1:Zk4 (k,f) (e::l)=e::Zk4 (k,f) l:=by
        unfold Zk4;simp only [atM,if_pos h,List.take_succ_cons,List.drop_succ_cons,List.cons_append]
      rw [e1];refine List.pairwise_cons.2 ⟨λ x hx=>?_,Zjw s.2 hk.2⟩;rw [(Zdw (k,f) l).mem_iff] at hx;rcases List.mem_cons.1 hx with rfl|hx
      · rw [Zr7] at h;exact of_decide_eq_true h
      · exact s.1 x hx
    · have e1:Zk4 (k,f) (e::l)=(k,f)::e::l:=by
        unfold Zk4;simp only [atM,if_neg h,List.take_zero,List.drop_zero,List.nil_append]
      rw [e1];rw [Zr7,decide_eq_true_eq] at h;have hlt:k.data.toList<e.1.data.toList:=by
        exact Std.lt_of_le_of_ne h λ h2=>hk.1 (Zwf h2)
      refine List.pairwise_cons.2 ⟨λ x hx=>?_,List.pairwise_cons.2 s⟩;rcases List.mem_cons.1 hx with rfl|hx
      · exact hlt
      · exact ZkE hlt (s.1 x hx)
theorem Zhq {a b:Fs} (h:a.Perm b) (s:Srt b):Zr a=b.map (·.1):=by
  unfold Zr;rw [mergeSort_of_perm (h.map _)];have hs:(b.map λ e=>e.1.data.toList).Pairwise λ x y=>(decide (x<=y))=true:=by
    rw [List.pairwise_map];exact s.imp λ h=>by simp only [decide_eq_true_eq];exact List.le_of_lt h
  rw [List.mergeSort_of_pairwise hs,List.map_map];apply List.map_congr_left;intro e _;simp
theorem ZhM:∀ {ks:List ByteArray} {keep:List Int} {a b:Fs},a.Perm b->Uni a->(Zak ks keep a).Perm (Zak ks keep b)
  |[],_,_,_,h,_=>h
  |k::ks,keep,a,b,h,u=>by
    rw [Zak,Zak];exact ZhM (ZgT h u k _) (Zi3 u)
theorem ZiT:∀ {l p:Fs} {keep:List Int},Uni (p++l)->Zak (l.map (·.1)) keep (p++l)=p++ZcQ l keep
  |[],p,keep,_=>by simp [Zak,ZcQ]
  |e::l,p,keep,u=>by
    have hg:Zw e.1 p=none:=by
      refine Z2 ?_;unfold Uni at u;rw [List.map_append,List.nodup_append] at u;intro hk;exact u.2.2 _ hk e.1 (by simp) rfl
    have hu2:Uni ((p++[(e.1,ZcS keep.head? e.2)])++l):=by
      unfold Uni at *;have:((p++[(e.1,ZcS keep.head? e.2)])++l).map (·.1)=(p++e::l).map (·.1):=by simp
      rw [this];exact u
    rw [List.map_cons,Zak,show p++e::l=p++(e.1,e.2)::l from rfl,Zca hg]
    rw [show p++(e.1,ZcS keep.head? e.2)::l=(p++[(e.1,ZcS keep.head? e.2)])++l by simp,ZiT hu2];have:ZcQ (e::l) keep=(e.1,ZcS keep.head? e.2)::ZcQ l keep.tail:=by
      unfold ZcQ;rw [List.mapIdx_cons]
      congr 1
      · cases keep<;>rfl
      · apply List.ext_getElem?
        intro i;simp only [List.getElem?_mapIdx]
        congr 1
        funext x
        cases keep<;>simp
    rw [this];simp
theorem Za8:∀ (ks:List ByteArray) (keep:List Int) (fs:Fs),(Zak ks keep fs).map (·.1)=fs.map (·.1)
  |[],_,_=>rfl
  |k::ks,keep,fs=>by rw [Zak,Za8,Za6]
theorem ZhL:∀ (ks:List ByteArray) (keep:List Int) {fs:Fs},ZdH fs->ZdH (Zak ks keep fs)
  |[],_,_,h=>h
  |k::ks,keep,fs,h=>by
    rw [Zak];refine ZhL ks _ (ZeG (λ f hf=>?_) h);have:=ZfX keep.head? f hf;show f.sure + Zj4 keep.head? f<=(f.b.take (f.sure + Zj4 keep.head? f)).length;rw [List.length_take];omega
theorem Zfl {k:ByteArray} {g:Fl->Fl} (hg:∀ f,(g f).b.length<=f.b.length):∀ fs:Fs,total (ZdJ k g fs)<=total fs
  |[]=>Int.le_refl _
  |e::fs=>by
    rw [ZdJ];split
    · rw [ZD,ZD];have:=hg e.2;simp only;omega
    · rw [ZD,ZD];have:=Zfl (k:=k) hg fs;omega
theorem Zc9:∀ (ks:List ByteArray) (keep:List Int) (fs:Fs),total (Zak ks keep fs)<=total fs
  |[],_,_=>Int.le_refl _
  |k::ks,keep,fs=>by
    rw [Zak];refine Int.le_trans (Zc9 ks _ _) (Zfl (λ f=>?_) fs);show (f.b.take _).length<=_;rw [List.length_take];omega
theorem ZkU {st:DS} (i:Inv st) (keep:List Int):Inv (ZaM st keep):=
  { a0:=Int.le_refl _,a1:=by show (-1:Int)<_;omega,f0:=Int.le_refl _,f1:=by show (-1:Int)<_;omega,r0:=i.r0,r1:=i.r1,
    full:=Int.le_trans (Zc9 _ _ _) i.full,uni:=by unfold Uni ZaM;simp only [Za8];exact i.uni,
    names:=by unfold ZaM;simp only [Za8];exact i.names,sure:=ZhL _ _ i.sure }
structure Rel (a b:DS):Prop where
  room:a.room=b.room
  fail:a.fail=b.fail
  arm:a.arm=b.arm
  off:a.off=b.off
  perm:a.fs.Perm b.fs
  srt:Srt b.fs
  inv:Inv a
theorem Rel.invR {a b:DS} (h:Rel a b):Inv b:=
  { a0:=by rw [<-h.arm];exact h.inv.a0,a1:=by rw [<-h.arm];exact h.inv.a1,f0:=by rw [<-h.fail];exact h.inv.f0,f1:=by rw [<-h.fail];exact h.inv.f1,
    r0:=by rw [<-h.room];exact h.inv.r0,r1:=by rw [<-h.room];exact h.inv.r1,full:=by rw [<-h.room,<-ZfV h.perm];exact h.inv.full,
    uni:=Zcs h.perm h.inv.uni,names:=λ k hk=>h.inv.names k ((h.perm.map _).mem_iff.2 hk),sure:=λ e he=>h.inv.sure e (h.perm.mem_iff.2 he) }
theorem Rel.new {room:Int} (h0:1<=room) (h1:room<=16777216):Rel ⟨room,[],-1,-1,false⟩ ⟨room,[],-1,-1,false⟩:=
  ⟨rfl,rfl,rfl,rfl,List.Perm.refl _,List.Pairwise.nil,ZpW h0 h1⟩
theorem Rel.chg {a b:DS} (h:Rel a b) (ok:Bool):Rel (chg a ok).1 (chg b ok).1/\(chg a ok).2=(chg b ok).2:=by
  have hi:=ZbN h.inv ok;obtain ⟨room,fs,fail,arm,off⟩:=a;obtain ⟨room2,fs2,fail2,arm2,off2⟩:=b;obtain ⟨h1,h2,h3,h4,h5,h6,_⟩:=h;simp only at h1 h2 h3 h4 h5 h6;subst h1 h2 h3 h4
  revert hi
  unfold Proofs.YtkfedbncmfnpnaaGreatDoor.chg;cases ok
  · exact λ hi=>⟨⟨rfl,rfl,rfl,rfl,h5,h6,hi⟩,rfl⟩
  · cases off
    · cases hm:(ZeS arm).2
      · simp only [hm]
        exact λ hi=>⟨⟨rfl,rfl,rfl,rfl,h5,h6,hi⟩,rfl⟩
      · simp only [hm]
        exact λ hi=>⟨⟨rfl,rfl,rfl,rfl,h5,h6,hi⟩,rfl⟩
    · exact λ hi=>⟨⟨rfl,rfl,rfl,rfl,h5,h6,hi⟩,rfl⟩
theorem Rel.doing {a b:DS} (h:Rel a b) (ok:Bool) {g g':DS->DS × Int} (hg:ok=true->∀ a b,Rel a b->Rel (g a).1 (g' b).1/\(g a).2=(g' b).2):
    Rel (doing a ok g).1 (doing b ok g').1/\(doing a ok g).2=(doing b ok g').2:=by
  have h1:=h.chg ok;unfold Proofs.YtkfedbncmfnpnaaGreatDoor.doing;by_cases h0:(Proofs.YtkfedbncmfnpnaaGreatDoor.chg a ok).2=0
  · rw [if_pos h0,if_pos (by rw [<-h1.2];exact h0)]
    exact hg (Zqu h0) _ _ h1.1
  · rw [if_neg h0,if_neg (by rw [<-h1.2];exact h0)]
    exact h1
theorem Rel.get {a b:DS} (h:Rel a b) (k:ByteArray):Zw k a.fs=Zw k b.fs:=ZkI h.perm h.inv.uni k
theorem Rel.total {a b:DS} (h:Rel a b):total a.fs=total b.fs:=ZfV h.perm
theorem Rel.names {a b:DS} (h:Rel a b):Zr a.fs=b.fs.map (·.1):=Zhq h.perm h.srt
theorem Rel.read {a b:DS} (h:Rel a b) (k:ByteArray):ZC a k=ZC b k:=by
  unfold ZC;rw [h.off,h.get]
theorem Rel.append {a b:DS} (h:Rel a b) (k:ByteArray) (xs:List Int):Rel (Zk a k xs).1 (ZW b k xs).1/\(Zk a k xs).2=(ZW b k xs).2:=by
  refine h.doing _ λ hk a b h=>?_;have hi:=ZhW h.inv hk xs;unfold ZaE ZfR at *;rw [h.total,h.room] at *;by_cases hc:Proofs.YtkfedbncmfnpnaaGreatDoor.total b.fs + xs.length>b.room
  · rw [if_pos hc,if_pos hc];exact ⟨h,rfl⟩
  · rw [if_neg hc] at *
    rw [if_neg hc];have hperm:(ZaT k a.fs).Perm (ZaB k b.fs):=by
      unfold ZaT ZaB;rw [h.get];split
      · exact h.perm
      · refine List.perm_append_comm.trans ((h.perm.cons _).trans (Zdw (k,(⟨[],0⟩:Fl)) b.fs).symm)
    have hsrt:Srt (ZaB k b.fs):=by
      unfold ZaB;by_cases hs:(Zw k b.fs).isSome=true
      · rw [if_pos hs];exact h.srt
      · rw [if_neg hs];exact Zjw h.srt (ZQ (by simpa using hs))
    refine ⟨⟨rfl,h.fail,h.arm,h.off,ZgT hperm (Zih h.inv.uni k) k _,Zi8 (Za6 _ _ _) hsrt,hi⟩,rfl⟩
theorem Rel.sync {a b:DS} (h:Rel a b) (k:ByteArray):Rel (ZA a k).1 (ZA b k).1/\(ZA a k).2=(ZA b k).2:=by
  refine h.doing _ λ hk a b h=>?_;unfold Zcv;rw [h.get];split
  · refine ⟨⟨h.room,h.fail,h.arm,h.off,ZgT h.perm h.inv.uni k _,Zi8 (Za6 _ _ _) h.srt,?_⟩,rfl⟩
    have i:=h.inv;exact { toCounts:=⟨i.a0,i.a1,i.f0,i.f1⟩,r0:=i.r0,r1:=i.r1,full:=by simp only;rw [ZcA (g:=λ f=>{ f with sure:=f.b.length }) (λ _=>rfl)];exact i.full,uni:=Zi3 i.uni,names:=by simp only [Za6];exact i.names,sure:=ZeG (λ f _=>Nat.le_refl _) i.sure }
  · exact ⟨h,rfl⟩
theorem Rel.unlink {a b:DS} (h:Rel a b) (k:ByteArray):Rel (Zi a k).1 (Zi b k).1/\(Zi a k).2=(Zi b k).2:=by
  refine h.doing _ λ hk a b h=>?_;unfold ZX;rw [h.get];split
  · exact ⟨⟨h.room,h.fail,h.arm,h.off,ZhJ h.perm h.inv.uni k,Zlg (Zbd k b.fs) h.srt,Zqi h.inv k⟩,rfl⟩
  · exact ⟨h,rfl⟩
theorem Rel.rename {a b:DS} (h:Rel a b) (k to:ByteArray):Rel (ZY a k to).1 (Zf3 b k to).1/\(ZY a k to).2=(Zf3 b k to).2:=by
  have hri:=Zf1 h.inv k to;refine h.doing _ λ hk a b h=>?_;have hi:Inv (Zan k to a).1:=Zhe h.inv (by simp only [Bool.and_eq_true] at hk;exact hk.2);unfold Zan Zcw at *;rw [h.get] at *;cases hg:Zw k b.fs with
  |none=>exact ⟨h,rfl⟩
  |some f=>
    rw [hg] at hi;simp only at hi ⊢;by_cases hc:k=to
    · rw [if_pos hc,if_pos hc];exact ⟨h,rfl⟩
    · rw [if_neg hc] at *
      rw [if_neg hc];have p1:(Zaa k (Zaa to a.fs)).Perm (Zaa to (Zaa k b.fs)):=by
        have hb:=Zcs h.perm h.inv.uni;refine (ZhJ (ZhJ h.perm h.inv.uni to) (Zdc h.inv.uni to) k).trans ?_;rw [ZaC (Zdc hb to),ZaC hb,ZaC (Zdc hb k),ZaC hb,List.filter_filter,List.filter_filter];refine List.Perm.of_eq ?_
        congr 1
        funext e
        exact Bool.and_comm _ _
      have hno:to ∉ (Zaa to (Zaa k b.fs)).map (·.1):=ZQ (ZaP to (Zdc (Zcs h.perm h.inv.uni) k));refine ⟨⟨h.room,h.fail,h.arm,h.off,?_,?_,hi⟩,rfl⟩
      · exact List.perm_append_comm.trans ((p1.cons _).trans (Zdw (to,f) _).symm)
      · exact Zjw (Zlg (Zbd _ _) (Zlg (Zbd _ _) h.srt)) hno
theorem Rel.crash {a b:DS} (h:Rel a b) (keep:List Int):Rel (ZaM a keep) (Zm8 b keep):=by
  refine ⟨h.room,rfl,rfl,rfl,?_,?_,ZkU h.inv keep⟩
  · show (Zak (Zr a.fs) keep a.fs).Perm (ZcQ b.fs keep)
    rw [h.names];refine (ZhM h.perm h.inv.uni).trans ?_;have:=ZiT (l:=b.fs) (p:=[]) (keep:=keep) (by simpa using Zcs h.perm h.inv.uni);simp only [List.nil_append] at this;rw [this]
  · refine Zi8 ?_ h.srt
    show (ZcQ b.fs keep).map (·.1)=_;unfold ZcQ;apply List.ext_getElem?;intro i;simp [List.getElem?_mapIdx];cases b.fs[i]?<;>rfl
theorem Rel.setFail {a b:DS} (h:Rel a b) (n:Int) (hn:n<9223372036854775808):Rel { a with fail:=if n<0 then a.fail else n } { b with fail:=if n<0 then b.fail else n }:=by
  refine ⟨h.room,by simp only [h.fail],h.arm,h.off,h.perm,h.srt,?_⟩;have i:=h.inv;have f0:=i.f0;have f1:=i.f1;exact { a0:=i.a0,a1:=i.a1,f0:=by simp only;split<;>omega,f1:=by simp only;split<;>omega,r0:=i.r0,r1:=i.r1,full:=i.full,uni:=i.uni,names:=i.names,sure:=i.sure }
theorem Rel.setArm {a b:DS} (h:Rel a b) (n:Int) (hn:n<9223372036854775808):Rel { a with arm:=if n<0 then a.arm else n } { b with arm:=if n<0 then b.arm else n }:=by
  refine ⟨h.room,h.fail,by simp only [h.arm],h.off,h.perm,h.srt,?_⟩;have i:=h.inv;have f0:=i.a0;have f1:=i.a1;exact { f0:=i.f0,f1:=i.f1,a0:=by simp only;split<;>omega,a1:=by simp only;split<;>omega,r0:=i.r0,r1:=i.r1,full:=i.full,uni:=i.uni,names:=i.names,sure:=i.sure }
end
end Go.Proofs.YtkfedbncmfnpnaaGreatDoor
namespace Go.VC
def ZhK (r:Nat):Nat:=if r % 2=1 then (r / 2) ^^^ 2197175160 else r / 2
def Za2:Nat->Nat->Nat
 |0,r=>r
 |n + 1,r=>Za2 n (ZhK r)
theorem ZqY (a b:Nat):(a ^^^ b) % 2=(a % 2 + b % 2) % 2:=by
 rcases Nat.mod_two_eq_zero_or_one a with ha|ha<;>rcases Nat.mod_two_eq_zero_or_one b with hb|hb<;>
  simp [Nat.xor_mod_two_eq_one,Nat.mod_two_eq_zero_iff_testBit_zero,ha,hb]<;>(try omega)<;>
  (have:=Nat.xor_mod_two_eq_one (a:=a) (b:=b);rcases Nat.mod_two_eq_zero_or_one (a ^^^ b) with h|h<;>omega)
theorem Zqo (a b:Nat):ZhK (a ^^^ b)=ZhK a ^^^ ZhK b:=by
 have hd:(a ^^^ b) / 2=a / 2 ^^^ b / 2:=Nat.xor_div_two;have hm:=ZqY a b;unfold ZhK;rw [hd];rcases Nat.mod_two_eq_zero_or_one a with ha|ha<;>rcases Nat.mod_two_eq_zero_or_one b with hb|hb<;>rw [ha,hb] at hm
 ·rw [if_neg (by omega),if_neg (by omega),if_neg (by omega)]
 ·rw [if_pos (by omega),if_neg (by omega),if_pos hb,Nat.xor_assoc]
 ·rw [if_pos (by omega),if_pos ha,if_neg (by omega),Nat.xor_assoc,Nat.xor_assoc]
  congr 1;exact Nat.xor_comm _ _
 ·rw [if_neg (by omega),if_pos ha,if_pos hb]
  rw [Nat.xor_assoc,Nat.xor_comm (2197175160) (b / 2 ^^^ 2197175160),Nat.xor_assoc,Nat.xor_self,Nat.xor_zero]
theorem ZiQ:∀ (n a b:Nat),Za2 n (a ^^^ b)=Za2 n a ^^^ Za2 n b
 |0,_,_=>rfl
 |n + 1,a,b=>by rw [Za2,Za2,Za2,Zqo,ZiQ n]
theorem Zgw:∀ (n a:Nat),Za2 n (a * 2 ^ n)=a
 |0,a=>by simp [Za2]
 |n + 1,a=>by
  have:ZhK (a * 2 ^ (n + 1))=a * 2 ^ n:=by
   unfold ZhK;have e:a * 2 ^ (n + 1)=2 * (a * 2 ^ n):=by rw [Nat.pow_succ,Nat.mul_comm 2,Nat.mul_assoc]
   rw [e,if_neg (by omega)];omega
  rw [Za2,this,Zgw n]
theorem Zur (x:Nat):x=(x / 256 * 2 ^ 8) ^^^ (x % 256):=by
 have h:(x / 256 * 2 ^ 8) ^^^ (x % 256)=x / 256 * 2 ^ 8 + x % 256:=by
  have:=Nat.two_pow_add_eq_or_of_lt (i:=8) (b:=x % 256) (by omega) (x / 256);rw [Nat.mul_comm] at this;rw [this];apply Nat.eq_of_testBit_eq;intro j;rw [Nat.testBit_xor,Nat.testBit_or];by_cases hj:j<8
  ·have:(x / 256 * 2 ^ 8).testBit j=false:=by rw [Nat.testBit_mul_two_pow];simp;omega
   rw [this];simp
  ·have:(x % 256).testBit j=false:=Nat.testBit_lt_two_pow (Nat.lt_of_lt_of_le (show x % 256<2 ^ 8 by omega) (Nat.pow_le_pow_right (by omega) (by omega)))
   rw [this];simp
 rw [h];omega
theorem Zqp (x:Nat):Za2 8 x=(x / 256) ^^^ Za2 8 (x % 256):=by
 conv=>lhs;rw [Zur x]
 rw [ZiQ,Zgw]
def ZfC (m:List Nat) (r:Nat):Nat->Nat->Nat
 |0,out=>out
 |k + 1,out=>ZfC m r k (out ^^^ (if (r / 2 ^ (32 - (k + 1))) % 2=1 then m.getD (32 - (k + 1)) 0 else 0))
def ZmO (m:List Nat) (r:Nat):Nat:=ZfC m r 32 0
def msq (m:List Nat):List Nat:=m.map (ZmO m)
def Zh6:List Nat:=2197175160::(List.range 31).map λ i=>2 ^ i
def ZpO:List Nat:=msq (msq (msq Zh6))
theorem Zrs:∀ i,i<256->ZmO ZpO i=Za2 8 i:=by decide +kernel
theorem ZpN:ZpO.length=32:=by decide +kernel
def dig (n:Nat):List Int:=if h:n=0 then [] else dig (n / 256)++[((n % 256:Nat):Int)]
termination_by n
decreasing_by omega
theorem Zbs:dig 0=[]:=by unfold dig;simp
theorem Zde {n:Nat} (h:n≠0):dig n=dig (n / 256)++[((n % 256:Nat):Int)]:=by
 conv=>lhs;unfold dig
 rw [dif_neg h]
def ZbR (acc:Int) (l:List Int):Int:=l.foldl (λ a b=>a * 256 + b) acc
theorem Zq2 (acc:Int):ZbR acc []=acc:=rfl
theorem Zfj (acc b:Int) (l:List Int):ZbR acc (b::l)=ZbR (acc * 256 + b) l:=rfl
theorem Zq3 (acc:Int) (a b:List Int):ZbR acc (a++b)=ZbR (ZbR acc a) b:=List.foldl_append
theorem ZcC (acc:Int) (a:List Int) (b:Int):ZbR acc (a++[b])=ZbR acc a * 256 + b:=by rw [Zq3];rfl
theorem ZcD:∀ {l:List Int} {acc:Int},0<=acc->(∀ x∈l,0<=x/\x<256)->0<=ZbR acc l
 |[],_,h,_=>h
 |b::l,acc,h,hb=>by
  rw [Zfj];have:=hb b List.mem_cons_self;exact ZcD (by omega) λ x hx=>hb x (List.mem_cons_of_mem _ hx)
theorem ZeX:∀ {l:List Int} {acc:Int},0<=acc->(∀ x∈l,0<=x/\x<256)->ZbR acc l<(acc + 1) * 256 ^ l.length
 |[],acc,h,_=>by simp [ZbR];omega
 |b::l,acc,h,hb=>by
  rw [Zfj];have h1:=hb b List.mem_cons_self;have:=ZeX (l:=l) (acc:=acc * 256 + b) (by omega) λ x hx=>hb x (List.mem_cons_of_mem _ hx);refine Int.lt_of_lt_of_le this ?_;rw [List.length_cons,Int.pow_succ,Int.mul_comm (256 ^ l.length) 256,<-Int.mul_assoc];exact Int.mul_le_mul_of_nonneg_right (by omega) (Int.le_of_lt (Int.pow_pos (by decide)))
theorem ZsP (n:Nat):ZbR 0 (dig n)=n:=by
 induction n using Nat.strongRecOn with
 |ind n ih=>
  by_cases h:n=0
  ·subst h;rw [Zbs];rfl
  ·rw [Zde h,ZcC,ih (n / 256) (by omega)];omega
theorem ZuL (n:Nat):∀ x∈dig n,0<=x/\x<256:=by
 induction n using Nat.strongRecOn with
 |ind n ih=>
  by_cases h:n=0
  ·subst h;rw [Zbs];intro x hx;cases hx
  ·rw [Zde h]
   intro x hx;rcases List.mem_append.1 hx with hx|hx
   ·exact ih (n / 256) (by omega) x hx
   ·simp at hx;omega
theorem ZrB (n:Nat):∀ x l,dig n=x::l->x≠0:=by
 induction n using Nat.strongRecOn with
 |ind n ih=>
  intro x l hx;by_cases h:n=0
  ·subst h;rw [Zbs] at hx;cases hx
  ·rw [Zde h] at hx
   by_cases h2:n / 256=0
   ·rw [h2,Zbs] at hx
    simp at hx;omega
   ·cases hd:dig (n / 256) with
    |nil=>rw [Zde h2] at hd;simp at hd
    |cons y l'=>
     rw [hd] at hx;simp at hx;obtain ⟨rfl,_⟩:=hx;exact ih (n / 256) (by omega) _ _ hd
theorem Zgf:∀ (k n:Nat),n<256 ^ k->(dig n).length<=k
 |0,n,h=>by
  have:n=0:=by simpa using h
  subst this;rw [Zbs];simp
 |k + 1,n,h=>by
  by_cases h0:n=0
  ·subst h0;rw [Zbs];simp
  ·rw [Zde h0,List.length_append]
   have:=Zgf k (n / 256) (by rw [Nat.pow_succ] at h;exact Nat.div_lt_of_lt_mul (by rwa [Nat.mul_comm] at h));simp;omega
theorem ZfM {n:Nat} (h:n<18446744073709551616):(dig n).length<=8:=Zgf 8 n (by simpa using h)
theorem Zqh (n:Nat) (h:n<18446744073709551616):(Lib.bitLen n + 7) / 8=(dig n).length:=by
 induction n using Nat.strongRecOn with
 |ind n ih=>
  by_cases h0:n=0
  ·subst h0;rw [Zbs];decide
  ·rw [Zde h0,List.length_append]
   by_cases h1:256<=n
   ·rw [Lib.bitLen_shift8 n h1 h,<-ih (n / 256) (by omega) (by omega)]
    simp;omega
   ·have e:n / 256=0:=by omega
    rw [e,Zbs];have h2:∀ m:Fin 256,m.val≠0->(Lib.bitLen m.val + 7) / 8=1:=by decide +kernel
    simpa using h2 ⟨n,by omega⟩ h0
theorem Zm2:∀ (k n:Nat),k<=(dig n).length->(dig n).take ((dig n).length - k)=dig (n / 256 ^ k)
 |0,n,_=>by simp
 |k + 1,n,h=>by
  by_cases h0:n=0
  ·subst h0;rw [Zbs] at h;simp at h
  ·rw [Zde h0] at h ⊢
   rw [List.length_append] at h ⊢;simp only [List.length_cons,List.length_nil] at h ⊢;have e:(dig (n / 256)).length + (0 + 1) - (k + 1)=(dig (n / 256)).length - k:=by omega
   rw [e,List.take_append_of_le_length (by omega),Zm2 k (n / 256) (by omega),Nat.div_div_eq_div_mul,Nat.pow_succ,Nat.mul_comm 256]
theorem ZsQ {n k:Nat} (h:k<(dig n).length):(dig n)[(dig n).length - 1 - k]'(by omega)=((n / 256 ^ k % 256:Nat):Int):=by
 have h1:=Zm2 k n (by omega);have hn:n / 256 ^ k≠0:=by
  intro h0;rw [h0,Zbs] at h1;have:=congrArg List.length h1;simp at this;omega
 rw [Zde hn] at h1;have h2:((dig n).take ((dig n).length - k)).getLast? =some ((n / 256 ^ k % 256:Nat):Int):=by rw [h1];simp
 rw [List.getLast?_eq_getElem?,List.length_take,Nat.min_eq_left (by omega),List.getElem?_take] at h2;split at h2
 ·rw [List.getElem?_eq_some_iff] at h2
  obtain ⟨h3,h4⟩:=h2;have e:(dig n).length - 1 - k=(dig n).length - k - 1:=by omega
  simp only [e];exact h4
 ·cases h2
def Ze9 (n:Nat):List Int:=((dig n).length:Int)::dig n
def Zfo (b:List Int):List Int:=Ze9 b.length++b
theorem ZbJ {n:Nat} (h:n<18446744073709551616):∀ x∈Ze9 n,0<=x/\x<256:=by
 intro x hx;rcases List.mem_cons.1 hx with rfl|hx
 ·have:=ZfM h;omega
 ·exact ZuL n x hx
theorem ZdQ {n:Nat} (h:n<18446744073709551616):(Ze9 n).length<=9:=by
 have:=ZfM h;unfold Ze9;simp;omega
def Za5 (l:List Int):Option (Int × Bool × Nat):=
 match l with
 |[]=>none
 |k::rest=>
  let neg:=decide (16<=k)
  let w:=(if 16<=k then k - 16 else k).toNat
  if k<32/\w<=8/\w<=rest.length/\(w=0->k=0)/\(w≠0->rest.head?≠some 0) then some (ZbR 0 (rest.take w),neg,w + 1) else none
theorem Zkp {n:Nat} (h:n<18446744073709551616) (rest:List Int):Za5 (Ze9 n++rest)=some ((n:Int),false,(Ze9 n).length):=by
 have h8:=ZfM h;unfold Za5 Ze9;simp only [List.cons_append];have e1:¬ (16:Int)<=((dig n).length:Int):=by omega
 rw [if_neg e1];rw [if_pos]
 ·simp only [Int.toNat_natCast,List.take_left',ZsP,List.length_cons,Option.some.injEq,Prod.mk.injEq,and_true,true_and]
  simpa using e1
 ·refine ⟨by omega,by omega,by simp,λ h0=>by omega,λ h0=>?_⟩
  simp only [Int.toNat_natCast] at h0;cases hd:dig n with
  |nil=>rw [hd] at h0;simp at h0
  |cons x l=>
   have:=ZrB n x l hd;simp;exact this
theorem Zc3 {l:List Int} {n:Int} {neg:Bool} {k:Nat} (hb:∀ x∈l,0<=x/\x<256) (h:Za5 l=some (n,neg,k)):0<=n/\n<18446744073709551616/\1<=k/\k<=9/\k<=l.length:=by
 unfold Za5 at h;split at h
 ·cases h
 ·rename_i c rest
  simp only at h;generalize hw:(if 16<=c then c - 16 else c).toNat=w at h
  split at h
  ·rename_i hc
   obtain ⟨_,h8,hr,_,_⟩:=hc;simp only [Option.some.injEq,Prod.mk.injEq] at h;obtain ⟨rfl,_,rfl⟩:=h;have hb2:∀ x∈rest.take w,0<=x/\x<256:=λ x hx=>hb x (List.mem_cons_of_mem _ (List.mem_of_mem_take hx));refine ⟨ZcD (Int.le_refl _) hb2,?_,by omega,by omega,by simp;omega⟩;refine Int.lt_of_lt_of_le (ZeX (Int.le_refl _) hb2) ?_;rw [List.length_take,Nat.min_eq_left hr,Int.zero_add,Int.one_mul];have h9:256 ^ w<=256 ^ 8:=Nat.pow_le_pow_right (by omega) h8;have:((256 ^ w:Nat):Int)<=((256 ^ 8:Nat):Int):=Int.ofNat_le.2 h9;rw [Int.natCast_pow] at this;exact Int.le_trans this (by decide)
  ·cases h
structure Rd where
 bs:List Int
 bad:Bool
def ZE (most:Int) (r:Rd):Int × Rd:=
 if r.bad then (0,r) else match Za5 r.bs with
 |some (n,neg,k)=>if neg=false/\n<=most then (n,⟨r.bs.drop k,false⟩) else (0,⟨r.bs,true⟩)
 |none=>(0,⟨r.bs,true⟩)
def ZaJ (most:Int) (r:Rd):List Int × Rd:=
 if r.bad then ([],r) else match Za5 r.bs with
 |some (n,neg,k)=>if neg=false/\0<=most/\n<=most/\n<=((r.bs.length:Int) - k) then (((r.bs.drop k).take n.toNat),⟨r.bs.drop (k + n.toNat),false⟩) else ([],⟨r.bs,true⟩)
 |none=>([],⟨r.bs,true⟩)
def Zab (r:Rd):Bool:=!r.bad && decide (r.bs.length=0)
def Zcp:Nat:=4294967295
def ZdA (r:Nat) (bs:List Int):Nat:=bs.foldl (λ r c=>Za2 8 (r ^^^ c.toNat)) r
def Zay (sum:Nat) (bs:List Int):Nat:=ZdA (sum ^^^ Zcp) bs ^^^ Zcp
theorem Zoq (r:Nat) (a b:List Int):ZdA r (a++b)=ZdA (ZdA r a) b:=List.foldl_append
theorem ZiR (s:Nat) (a b:List Int):Zay (Zay s a) b=Zay s (a++b):=by
 unfold Zay;rw [Nat.xor_assoc,Nat.xor_self,Nat.xor_zero,Zoq]
theorem Zm7 {r:Nat} (h:r<4294967296):ZhK r<4294967296:=by
 unfold ZhK;split
 ·exact Nat.xor_lt_two_pow (n:=32) (by omega) (by decide)
 ·omega
theorem ZfO:∀ (n:Nat) {r:Nat},r<4294967296->Za2 n r<4294967296
 |0,_,h=>h
 |n + 1,_,h=>ZfO n (Zm7 h)
theorem ZkT:∀ {bs:List Int} {r:Nat},r<4294967296->(∀ x∈bs,0<=x/\x<256)->ZdA r bs<4294967296
 |[],_,h,_=>h
 |b::bs,r,h,hb=>by
  have:=hb b List.mem_cons_self;exact ZkT (bs:=bs) (ZfO 8 (Nat.xor_lt_two_pow (n:=32) h (by omega))) λ x hx=>hb x (List.mem_cons_of_mem _ hx)
theorem ZdB {s:Nat} {bs:List Int} (hs:s<4294967296) (hb:∀ x∈bs,0<=x/\x<256):Zay s bs<4294967296:=
 Nat.xor_lt_two_pow (n:=32) (ZkT (Nat.xor_lt_two_pow (n:=32) hs (by decide)) hb) (by decide)
def ZaL (n:Nat):List Int:=[((n / 16777216 % 256:Nat):Int),((n / 65536 % 256:Nat):Int),((n / 256 % 256:Nat):Int),((n % 256:Nat):Int)]
theorem Zbk (n:Nat):(ZaL n).length=4:=rfl
theorem ZdL (n:Nat):∀ x∈ZaL n,0<=x/\x<256:=by
 intro x hx;simp only [ZaL,List.mem_cons,List.not_mem_nil,or_false] at hx;rcases hx with rfl|rfl|rfl|rfl<;>omega
theorem Zfi {n:Nat} (h:n<4294967296):ZbR 0 (ZaL n)=n:=by
 simp only [ZaL,ZbR,List.foldl];omega
theorem ZjX {l:List Int} (hl:l.length=4) (hb:∀ x∈l,0<=x/\x<256):ZaL (ZbR 0 l).toNat=l:=by
 match l,hl with
 |[a,b,c,d],_=>
  have ha:=hb a (by simp);have h2:=hb b (by simp);have h3:=hb c (by simp);have h4:=hb d (by simp);simp only [ZaL,ZbR,List.foldl,List.cons.injEq,and_true];omega
def ZP (b:List Int):List Int:=ZaL b.length++ZaL (Zay 0 (ZaL b.length++b))++b
theorem ZK (b:List Int):(ZP b).length=8 + b.length:=by simp [ZP,Zbk];omega
theorem Zlw {b:List Int} (h:∀ x∈b,0<=x/\x<256):∀ x∈ZP b,0<=x/\x<256:=by
 intro x hx;simp only [ZP,List.mem_append] at hx;rcases hx with (hx|hx)|hx
 ·exact ZdL _ x hx
 ·exact ZdL _ x hx
 ·exact h x hx
def first (l:List Int):Option (List Int):=
 if 8<=l.length then
  let n:=(ZbR 0 (l.take 4)).toNat
  if n<=65536/\n<=l.length - 8/\Zay 0 (l.take 4++(l.drop 8).take n)=(ZbR 0 ((l.drop 4).take 4)).toNat then some ((l.drop 8).take n) else none
 else none
theorem ZcP {l b:List Int} (h:first l=some b):8 + b.length<=l.length/\b.length<=65536/\b=(l.drop 8).take b.length/\b.length=(ZbR 0 (l.take 4)).toNat:=by
 unfold first at h
 split at h
 ·simp only at h
  split at h
  ·rename_i h8 hc
   obtain ⟨h1,h2,_⟩:=hc;simp only [Option.some.injEq] at h;have hl:b.length=(ZbR 0 (l.take 4)).toNat:=by rw [<-h];simp;omega
   exact ⟨by omega,by omega,by rw [hl];exact h.symm,hl⟩
  ·cases h
 ·cases h
def scan (l:List Int):List (List Int):=
 match h:first l with
 |none=>[]
 |some b=>b::scan (l.drop (8 + b.length))
termination_by l.length
decreasing_by
 have:=(ZcP h).1;simp;omega
theorem Zbm {l:List Int} (h:first l=none):scan l=[]:=by
 unfold scan;split
 ·rfl
 ·rename_i b hb;rw [h] at hb;cases hb
theorem Zdn {l b:List Int} (h:first l=some b):scan l=b::scan (l.drop (8 + b.length)):=by
 conv=>lhs;unfold scan
 split
 ·rename_i hb;rw [h] at hb;cases hb
 ·rename_i b' hb;rw [h] at hb;cases hb;rfl
def Zo (l:List (List Int)):Nat:=(l.map λ b=>8 + b.length).foldr (· + ·) 0
theorem ZJ (b:List Int) (l:List (List Int)):Zo (b::l)=8 + b.length + Zo l:=rfl
theorem Zp4 {b rest:List Int} (hb:b.length<=65536) (hbd:∀ x∈b,0<=x/\x<256):first (ZP b++rest)=some b:=by
 unfold first
 have hl:=ZK b;rw [if_pos (by rw [List.length_append];omega)];have e0:ZP b++rest=ZaL b.length++(ZaL (Zay 0 (ZaL b.length++b))++(b++rest)):=by simp [ZP]
 have e1:(ZP b++rest).take 4=ZaL b.length:=by rw [e0,List.take_left' (Zbk _)]
 have e2:(ZP b++rest).drop 4=ZaL (Zay 0 (ZaL b.length++b))++(b++rest):=by rw [e0,List.drop_left' (Zbk _)]
 have e3:(ZP b++rest).drop 8=b++rest:=by
  rw [show 8=4 + 4 from rfl,<-List.drop_drop,e2,List.drop_left' (Zbk _)]
 have hv:(ZbR 0 (ZaL b.length)).toNat=b.length:=by rw [Zfi (by omega)];rfl
 simp only;have hc:Zay 0 (ZaL b.length++b)<4294967296:=ZdB (by decide) λ x hx=>(List.mem_append.1 hx).elim (ZdL _ x) (hbd x);rw [e1,e2,e3,hv,List.take_left' rfl,List.take_left' (Zbk _),Zfi hc];rw [if_pos ⟨hb,by rw [List.length_append];omega,rfl⟩]
end Go.VC
namespace Go.Proofs.YtkfedbncmfnpnaaGreatDoor
section
open Go Go.VC Tryz
variable {R:Cx} {Hs Rest:List HP} {w:World}
theorem At.intsK {kd:IntKind} {S:World->Prop} {b:Nat} {xs:List Int} {T:TypeId} {fr:Nat × Nat} (hS:∀ w,S w->Sat R Hs w)
  [t:Zcy b Hs (.cells (xs.map (Value.int kd)).toArray T fr) Rest] {i:Nat} (hi:i<xs.length):At S (Addr.add ⟨b,0,none⟩ i) [.int kd xs[i]]:=by
 rw [Zf];refine At.own hS ?_;rw [Nat.zero_add,List.drop_eq_getElem_cons (by simpa using hi)];exact ⟨by simp,trivial⟩
theorem Zg3 (n k:Nat) (hk:k<=32):ZhY .u32 (n:Int) (k:Int)=((n / 2 ^ k:Nat):Int):=by
 have e:min ((k:Int).toNat) IntKind.u32.bits=k:=by rw [Int.toNat_natCast];exact Nat.min_eq_left hk
 unfold ZhY;rw [e,Int.fdiv_eq_ediv_of_nonneg _ (by exact Int.le_of_lt (Int.pow_pos (by decide)))];rw [show ((2:Int) ^ k)=((2 ^ k:Nat):Int) from (Int.natCast_pow 2 k).symm]
 exact (Int.natCast_ediv n (2 ^ k)).symm
theorem Zub (x:Nat) (hx:x<4294967296):ZcT .and .u32 (x:Int) 1=((x % 2:Nat):Int):=by
 have:=ZqN (x:=x) (y:=1) hx (by omega);rw [Nat.and_one_is_mod] at this;exact this
theorem ZuD {x b:Nat} (hx:x<4294967296) (hb:b<2):ZcT .and .u32 (x:Int) (IntKind.u32.wrap (0 - (b:Int)))=((if b=1 then x else 0:Nat):Int):=by
 rw [ZqZ];rcases (show b=0\/b=1 by omega) with rfl|rfl
 ·have:=ZqN (x:=x) (y:=0) hx (by omega)
  rw [Nat.and_zero] at this;exact this
 ·have:=ZqN (x:=x) (y:=4294967295) hx (by omega)
  have e:x &&& 4294967295=x:=by
   have:=Nat.and_two_pow_sub_one_eq_mod x 32;rw [show (2:Nat) ^ 32 - 1=4294967295 from rfl,show (2:Nat) ^ 32=4294967296 from rfl] at this
   rw [this];omega
  rw [e] at this;exact this
theorem Zr6 {x:Nat} (hx:x<4294967296):IntKind.u32.wrap ((BitVec.ofInt IntKind.u32.bits (if IntKind.u32.signed=true then -1 else IntKind.u32.max) ^^^ BitVec.ofInt IntKind.u32.bits (x:Int)).toNat:Nat)=((x ^^^ Zcp:Nat):Int):=by
 have:=ZgQ (x:=4294967295) (y:=x) (by omega) hx;rw [Nat.xor_comm] at this;exact this
abbrev mi (l:List Nat):List Int:=l.map (λ n:Nat=>(n:Int))
abbrev m32 (l:List Nat):List Value:=(mi l).map (Value.int .u32)
abbrev mAt (m:Nat) (l:List Nat):HP:=pts m (.cells (m32 l).toArray 260 (0,0))
def Zsg (t c:List Nat) (k:Nat):Prop:=c.length=t.length/\∀ i,i<k->c[i]? =t[i]?
theorem Zsg.set {t c:List Nat} {k x:Nat} (h:Zsg t c k) (hk:k<t.length) (hx:x=t[k]):Zsg t (c.set k x) (k + 1):=by
 refine ⟨by simp [h.1],λ i hi=>?_⟩;rcases (show i=k\/i<k by omega) with rfl|hik
 ·rw [List.getElem?_set_self (by rw [h.1];exact hk),hx,List.getElem?_eq_getElem hk]
 ·rw [List.getElem?_set_ne (by omega)];exact h.2 i hik
theorem Zsg.done {t c:List Nat} {k:Nat} (h:Zsg t c k) (hk:t.length<=k):c=t:=by
 apply List.ext_getElem?;intro i;rcases Nat.lt_or_ge i k with hi|hi
 ·exact h.2 i hi
 ·rw [List.getElem?_eq_none (by rw [h.1];omega),List.getElem?_eq_none (by omega)]
theorem Znj {a b:Nat} (ha:a<4294967296) (hb:b<4294967296):a ^^^ b<4294967296:=Nat.xor_lt_two_pow (n:=32) ha hb
theorem Zhr {l:List Nat} (hl:∀ x∈l,x<4294967296) (r:Nat):∀ (k:Nat) {out:Nat},out<4294967296->ZfC l r k out<4294967296
 |0,_,h=>h
 |k + 1,out,h=>by
  refine Zhr hl r k (Znj h ?_);split
  ·rw [List.getD_eq_getElem?_getD]
   cases hx:l[32 - (k + 1)]? with
   |none=>simp
   |some x=>exact hl x (List.mem_of_getElem? hx)
  ·omega
theorem ZiB {l:List Nat} (hl:∀ x∈l,x<4294967296):∀ x∈msq l,x<4294967296:=by
 intro x hx;obtain ⟨r,_,rfl⟩:=List.mem_map.1 hx;exact Zhr hl r 32 (by omega)
theorem Zii {m r:Nat} {l:List Nat} (hl:l.length=32) (hb:∀ x∈l,x<4294967296) (hr:r<4294967296) (hw:Sat R (mAt m l::Hs) w):
  Zq prog 226 #[.pointer (some ⟨m,0,none⟩),.int .u32 r] w λ v w'=>v=.int .u32 (ZmO l r:Nat)/\Sat R (mAt m l::Hs) w':=by
 apply ZsV;refine ⟨λ o t w=>∃ k n:Nat,t=k/\k<=32/\o=n/\n<4294967296/\ZfC l r (32 - k) n=ZmO l r/\Sat R (mAt m l::Hs) w,λ _ t _=>32 - t.toNat,⟨0,0,rfl,by omega,rfl,by omega,rfl,hw⟩,?_⟩;rintro _ _ _ w ⟨k,n,rfl,hk,rfl,hn,he,hw⟩;refine Br.d (λ h=>?_) (λ h=>?_)
 ·refine Zv hw λ w hw=>Zb.mk rfl (Rng.mk (by omega) (by omega) ⟨(l[k]'(by omega):Nat),?_,Ge0.mk (by omega) ?_⟩)
  ·have:=At.intsK (b:=m) (T:=260) (fr:=(0,0)) (kd:=.u32) (xs:=mi l) (S:=Sat R (mAt m l::Hs)) Ze (i:=k) (by simp;omega)
   rw [Int.toNat_natCast];simpa using this
  ·have hx:=hb (l[k]'(by omega)) (List.getElem_mem _)
   have h2:r / 2 ^ k<4294967296:=Nat.lt_of_le_of_lt (Nat.div_le_self _ _) hr;rw [Zg3 r k (by omega),Zub _ h2,ZuD hx (by omega),Zg (by omega) (by omega)];have hm:(if r / 2 ^ k % 2=1 then l[k]'(by omega) else 0)<4294967296:=by split<;>omega
   rw [ZgQ hn hm];refine ⟨⟨k + 1,_,by omega,by omega,rfl,Znj hn hm,?_,hw⟩,by dsimp only;omega⟩;rw [<-he];have e:32 - k=(31 - k) + 1:=by omega
   have e2:32 - (k + 1)=31 - k:=by omega
   have e3:32 - (31 - k + 1)=k:=by omega
   rw [e,e2,ZfC,e3,List.getD_eq_getElem?_getD,List.getElem?_eq_getElem (by omega:k<l.length)];rfl
 ·have hk2:k=32:=by omega
  subst hk2;refine ⟨?_,hw⟩;rw [<-he];rfl
theorem ZgD {b:Nat} {n:Nat} {T:TypeId} {o:Obj} (ho:o=.cells (m32 (List.replicate n 0)).toArray T (0,0)) (hw:Sat R (pts b o::Hs) w):Sat R (pts b (.cells (m32 (List.replicate n 0)).toArray T (0,0))::Hs) w:=by
 rw [<-ho];exact hw
theorem ZpH (l:List Nat) (i x:Nat):(mi l).set i (x:Int)=mi (l.set i x):=by simp [mi,List.map_set]
theorem Zel {m:Nat} {l:List Nat} (hl:l.length=32) (hb:∀ x∈l,x<4294967296) (hw:Sat R (mAt m l::Hs) w):
  Zq prog 225 #[.pointer (some ⟨m,0,none⟩)] w λ v w'=>∃ b,v=.pointer (some ⟨b,0,none⟩)/\Sat R (mAt b (msq l)::Hs) w':=by
 have hml:(msq l).length=32:=by simp [msq,hl]
 apply ZsW;refine Zd hw λ b w hw=>?_;have hw:=ZgD (n:=32) (T:=260) rfl hw;refine ⟨λ t w=>∃ k:Nat,t=k/\k<=32/\∃ c,Zsg (msq l) c k/\Sat R (mAt b c::mAt m l::Hs) w,λ t _=>32 - t.toNat,⟨0,rfl,by omega,_,⟨by simp [hml],λ i hi=>absurd hi (by omega)⟩,hw⟩,?_⟩;rintro _ _ w ⟨k,rfl,hk,c,hf,hw⟩;refine Br.d (λ h=>?_) (λ h=>?_)
 ·have hkl:k<l.length:=by omega
  refine Zv hw λ w hw=>Zb.mk rfl (Rng.mk (by omega) (by omega) ⟨(l[k]:Nat),?_,?_⟩)
  ·have:=At.intsK (b:=m) (T:=260) (fr:=(0,0)) (kd:=.u32) (xs:=mi l) (S:=Sat R (mAt m l::mAt b c::Hs)) Ze (i:=k) (by simp;omega)
   rw [Int.toNat_natCast];have h2:At (Sat R (mAt m l::mAt b c::Hs)) (Addr.add ⟨m,0,none⟩ k) [.int .u32 (l[k]:Nat)]:=by simpa using this
   exact λ w hw=>h2 w hw.swap
  ·refine (Zii hl hb (hb l[k] (List.getElem_mem _)) hw.swap).use ?_
   rintro _ w ⟨rfl,hw⟩;refine ⟨_,rfl,Rng.mk (by omega) (by omega) ?_⟩;rw [Int.toNat_natCast];refine Ze0 (l:=mi c) (by kernel_rfl) hw (by simp [hf.1,hml];omega) λ w hw=>?_;rw [ZpH] at hw;rw [Zg (by omega) (by omega)];exact ⟨⟨k + 1,by omega,by omega,_,hf.set (by omega) (by simp [msq]),hw⟩,by dsimp only;omega⟩
 ·have:=hf.done (by omega)
  subst this;exact ⟨b,rfl,hw.swap.drop⟩
theorem ZcM:Zh6.length=32:=by decide
theorem ZgK:∀ x∈Zh6,x<4294967296:=by decide +kernel
theorem ZpF {k:Nat} (hk:k<31):Zh6[k + 1]'(by rw [ZcM];omega)=2 ^ k:=by simp [Zh6]
theorem Zj3 (hw:Sat R Hs w):Zq prog 224 #[] w λ v w'=>∃ b,v=.pointer (some ⟨b,0,none⟩)/\Sat R (mAt b Zh6::Hs) w':=by
 apply ZsX;refine Zd hw λ b w hw=>?_;have hw:Sat R (mAt b (2197175160::List.replicate 31 0)::Hs) w:=hw;refine ⟨λ t w=>∃ k:Nat,t=k/\k<=31/\∃ c,Zsg Zh6 c (k + 1)/\Sat R (mAt b c::Hs) w,λ t _=>31 - t.toNat,⟨0,rfl,by omega,_,⟨by simp [Zh6],λ i hi=>by (have:i=0:=by omega);subst this;rfl⟩,hw⟩,?_⟩;rintro _ _ w ⟨k,rfl,hk,c,hf,hw⟩;refine Br.d (λ h=>?_) (λ h=>?_)
 ·refine Zv hw λ w hw=>Ge0.mk (by omega) ?_
  rw [Zg (by omega) (by omega)];refine Rng.mk (by omega) (by omega) ?_;have e:((k:Int) + 1).toNat=k + 1:=by omega
  have e2:Zlj .u32 1 (k:Int)=((2 ^ k:Nat):Int):=by
   unfold Zlj;have e3:min ((k:Int).toNat) IntKind.u32.bits=k:=by rw [Int.toNat_natCast];exact Nat.min_eq_left (by show k<=32;omega)
   rw [e3,Int.one_mul,show ((2:Int) ^ k)=((2 ^ k:Nat):Int) from (Int.natCast_pow 2 k).symm]
   have:2 ^ k<4294967296:=Nat.pow_lt_pow_right (n:=32) (by omega) (by omega);generalize 2 ^ k=q at this ⊢;exact ZbF (by omega) (by omega)
  rw [e,e2];refine Ze0 (l:=mi c) (by kernel_rfl) hw (by simp [hf.1,ZcM];omega) λ w hw=>?_;rw [ZpH] at hw;exact ⟨⟨k + 1,by omega,by omega,_,hf.set (by rw [ZcM];omega) (ZpF (by omega)).symm,hw⟩,by dsimp only;omega⟩
 ·have:=hf.done (by rw [ZcM];omega)
  subst this;exact ⟨b,rfl,hw⟩
def ZfW:List Nat:=(List.range 256).map (Za2 8)
theorem Zct:ZfW.length=256:=by simp [ZfW]
theorem Zmq {k:Nat} (hk:k<256):ZfW[k]'(by rw [Zct];exact hk)=Za2 8 k:=by simp [ZfW]
set_option maxRecDepth 20000 in
theorem Znp (hw:Sat R Hs w):Zq prog 196 #[] w λ v w'=>v=.agg (m32 ZfW).toArray/\Sat R Hs w':=by
 apply Zs3;refine Zd hw λ b0 w hw=>?_;have hw:=ZgD (n:=256) (T:=211) (by kernel_rfl) hw;refine (Zj3 hw).use ?_;rintro _ w ⟨m1,rfl,hw⟩;refine ⟨_,rfl,(Zel ZcM ZgK hw).use ?_⟩;rintro _ w ⟨m2,rfl,hw⟩;have l2:(msq Zh6).length=32:=by simp [msq,ZcM]
 refine ⟨_,rfl,(Zel l2 (ZiB ZgK) hw).use ?_⟩;rintro _ w ⟨m3,rfl,hw⟩;have l3:(msq (msq Zh6)).length=32:=by simp [msq,ZcM]
 refine ⟨_,rfl,(Zel l3 (ZiB (ZiB ZgK)) hw).use ?_⟩;rintro _ w ⟨m4,rfl,hw⟩;have hmb:∀ x∈ZpO,x<4294967296:=ZiB (ZiB (ZiB ZgK));have hw:Sat R (mAt m4 ZpO::pts b0 (.cells (m32 (List.replicate 256 0)).toArray 211 (0,0))::Hs) w:=hw;refine ⟨_,rfl,?_⟩;refine Zd hw λ b2 w hw=>?_;have hw:=ZgD (n:=256) (T:=211) (by kernel_rfl) hw;refine ⟨λ t w=>∃ k:Nat,t=k/\k<=256/\∃ c,Zsg ZfW c k/\Sat R (pts b2 (.cells (m32 c).toArray 211 (0,0))::mAt m4 ZpO::pts b0 (.cells (m32 (List.replicate 256 0)).toArray 211 (0,0))::Hs) w,λ t _=>256 - t.toNat,⟨0,rfl,by omega,_,⟨by simp [Zct],λ i hi=>absurd hi (by omega)⟩,hw⟩,?_⟩;rintro _ _ w ⟨k,rfl,hk,c,hf,hw⟩;have hcl:c.length=256:=by rw [hf.1,Zct]
 refine Br.d (λ h=>?_) (λ h=>?_)
 ·rw [ZbF (by omega) (by omega)]
  refine (Zii ZpN hmb (r:=k) (by omega) hw.swap).use ?_;rintro _ w ⟨rfl,hw⟩;refine ⟨_,rfl,Rng.mk (by omega) (by omega) ?_⟩;rw [Int.toNat_natCast];refine Ze0 (l:=mi c) (by kernel_rfl) hw (by simp;omega) λ w hw=>?_;rw [ZpH] at hw;rw [Zg (by omega) (by omega)];exact ⟨⟨k + 1,by omega,by omega,_,hf.set (by rw [Zct];omega) (by rw [Zmq (by omega)];exact Zrs k (by omega)),hw⟩,by dsimp only;omega⟩
 ·have:=hf.done (by rw [Zct];omega)
  subst this;have hlen:(m32 ZfW).length=256:=by simp [Zct]
  have h1:Zac (m32 ZfW)=true:=by unfold Zac;simp [Value.oneCell']
  refine ⟨m32 ZfW,hlen,At.own (eqS hw) (by exact Pre.refl _),?_⟩;have hw:Sat R (pts b0 (.cells (m32 (List.replicate 256 0)).toArray 211 (0,0))::Hs) w:=hw.drop.drop;refine Zc hw (v:=.agg (m32 ZfW).toArray) (by show _=some ((m32 ZfW).length);rw [hlen];kernel_rfl) h1 (by show 0 + (m32 ZfW).length<=_;rw [hlen];simp) λ w hw=>?_;have e:Ze5 (m32 (List.replicate 256 0)) 0 (Value.agg (m32 ZfW).toArray).cells.toList=m32 ZfW:=by
   show Ze5 _ 0 (m32 ZfW)=_;rw [Zhg _ _ _ (by rw [hlen];simp),hlen];simp
  rw [e] at hw;exact ⟨m32 ZfW,hlen,At.own (eqS hw) (by exact Pre.refl _),rfl,hw.drop⟩
theorem Zop {n c:Nat} (hc:c<256):(n / 256) ^^^ Za2 8 ((n % 256) ^^^ c)=Za2 8 (n ^^^ c):=by
 rw [Zqp (n ^^^ c)];have h1:(n ^^^ c) / 256=n / 256:=by
  have:=Nat.xor_div_two_pow (a:=n) (b:=c) (n:=8);rw [show (2:Nat) ^ 8=256 from rfl] at this
  rw [this,Nat.div_eq_of_lt hc,Nat.xor_zero]
 have h2:(n ^^^ c) % 256=(n % 256) ^^^ c:=by
  have:=Nat.xor_mod_two_pow (a:=n) (b:=c) (n:=8);rw [show (2:Nat) ^ 8=256 from rfl] at this
  rw [this,Nat.mod_eq_of_lt hc]
 rw [h1,h2]
set_option maxRecDepth 20000 in
theorem ZjK {sum:Nat} {s:Sl} {xs:List Int} (hsum:sum<4294967296) (hxs:∀ x∈xs,0<=x/\x<256) (hs:Ro R s (b8 xs)) (hw:Sat R Hs w):
  Zq prog 163 #[.int .u32 sum,.slice s.a s.len s.cap] w λ v w'=>v=.int .u32 (Zay sum xs:Nat)/\Sat R Hs w':=by
 have hlen:s.len=xs.length:=by have:=hs.len;simpa using this
 have hbd:xs.length<=9223372036854775807:=by have:=hs.bound;simpa using this
 apply Ztn;refine (Znp hw).use ?_;rintro _ w ⟨rfl,hw⟩;refine ⟨_,rfl,?_⟩;refine Zd hw λ b w hw=>?_;have hw:=ZgD (n:=256) (T:=211) (by kernel_rfl) hw;have htl:(m32 ZfW).length=256:=by simp [Zct]
 have h1:Zac (m32 ZfW)=true:=by unfold Zac;simp [Value.oneCell']
 refine Zc hw (v:=.agg (m32 ZfW).toArray) (by show _=some ((m32 ZfW).length);rw [htl];kernel_rfl) h1 (by show 0 + (m32 ZfW).length<=_;rw [htl];simp) λ w hw=>?_;have e:Ze5 (m32 (List.replicate 256 0)) 0 (Value.agg (m32 ZfW).toArray).cells.toList=m32 ZfW:=by
  show Ze5 _ 0 (m32 ZfW)=_;rw [Zhg _ _ _ (by rw [htl];simp),htl];simp
 rw [e] at hw;clear e;have hst:sum ^^^ Zcp<4294967296:=Znj hsum (by unfold Zcp;omega);rw [Zr6 hsum];refine ⟨λ r t w=>∃ k n:Nat,t=k/\k<=xs.length/\r=n/\n<4294967296/\ZdA n (xs.drop k)=ZdA (sum ^^^ Zcp) xs/\Sat R (pts b (.cells (m32 ZfW).toArray 211 (0,0))::Hs) w,λ _ t _=>xs.length - t.toNat,⟨0,_,rfl,by omega,rfl,hst,rfl,hw⟩,?_⟩;rintro _ _ _ w ⟨k,n,rfl,hk,rfl,hn,he,hw⟩;refine Br.d (λ h=>?_) (λ h=>?_)
 ·have hkx:k<xs.length:=by omega
  have:=Ro.idxK (S:=λ w'=>w'=w) hs (eqS hw) (k:=k) hkx (F:=λ t=>t=xs[k]) rfl;obtain ⟨h0,h1,this⟩:=this.out;obtain ⟨a,ha,t,hat,rfl⟩:=this.out;refine Rng.mk h0 h1 (Zb.mk ha ⟨_,hat,?_⟩);have hc:=hxs xs[k] (List.getElem_mem _);obtain ⟨c,hce⟩:=Int.eq_ofNat_of_zero_le hc.1;have hc2:c<256:=by omega
  have e1:ZcT .xor .u8 (IntKind.u8.wrap (n:Int)) xs[k]=(((n % 256) ^^^ c:Nat):Int):=by
   rw [Zi1,hce,show (n:Int) % 256=((n % 256:Nat):Int) from (Int.natCast_emod _ _).symm]
   exact Zwy (by omega) hc2
  have hlt:(n % 256) ^^^ c<256:=Nat.xor_lt_two_pow (n:=8) (by omega) hc2;rw [e1];refine Rng.mk (by omega) (by omega) ⟨(ZfW[(n % 256) ^^^ c]'(by rw [Zct];exact hlt):Nat),?_,?_⟩
  ·have:=At.intsK (b:=b) (T:=211) (fr:=(0,0)) (kd:=.u32) (xs:=mi ZfW) (S:=λ w'=>w'=w) (eqS hw) (i:=(n % 256) ^^^ c) (by simp [Zct];exact hlt)
   rw [Int.toNat_natCast];simpa using this
  ·have hct:Za2 8 ((n % 256) ^^^ c)<4294967296:=ZfO 8 (by omega)
   rw [Zmq hlt,show ZhY .u32 (n:Int) 8=((n / 256:Nat):Int) from Zg3 n 8 (by omega),ZgQ (by omega) hct,Zop hc2,Zg (by omega) (by omega)]
   refine ⟨⟨k + 1,_,by omega,by omega,rfl,ZfO 8 (Znj hn (by omega)),?_,hw⟩,by dsimp only;omega⟩;rw [<-he,List.drop_eq_getElem_cons hkx];show _=ZdA (Za2 8 (n ^^^ xs[k].toNat)) (xs.drop (k + 1));rw [hce];rfl
 ·have hk2:k=xs.length:=by omega
  subst hk2;rw [Zr6 hn];refine ⟨?_,hw.drop⟩;have:n=ZdA (sum ^^^ Zcp) xs:=by rw [<-he,List.drop_length];rfl
  unfold Zay;rw [this]
theorem Zmw {s:Sl} {xs:List Int} (hxs:∀ x∈xs,0<=x/\x<256) (hs:Ro R s (b8 xs)) (hw:Sat R Hs w):
  Zq prog 164 #[.slice s.a s.len s.cap] w λ v w'=>v=.int .u32 (Zay 0 xs:Nat)/\Sat R Hs w':=by
 apply Ztm;refine (ZjK (sum:=0) (by omega) hxs hs hw).use ?_;rintro _ w ⟨rfl,hw⟩;exact ⟨_,rfl,rfl,hw⟩
end
section
open Go Go.VC Tryz
variable {R:Cx} {Hs Rest:List HP} {w:World}
theorem ZjV {n:Nat} (hn:n<4294967296) (hw:Sat R Hs w):
  Zq prog 161 #[.int .u32 n] w λ v w'=>∃ b,v=.slice (some ⟨b,0,none⟩) 4 4/\Sat R (pts b (.cells (b8 (ZaL n)).toArray 5 (0,0))::Hs) w':=by
 apply Ztp;have e:∀ k:Nat,k<=32->IntKind.u8.wrap (ZhY .u32 (n:Int) (k:Int))=((n / 2 ^ k % 256:Nat):Int):=λ k hk=>by
  rw [Zg3 n k hk,Zi1];exact (Int.natCast_emod _ _).symm
 have e0:IntKind.u8.wrap (n:Int)=((n % 256:Nat):Int):=by rw [Zi1];exact (Int.natCast_emod _ _).symm
 have e1:=e 24 (by omega);have e2:=e 16 (by omega);have e3:=e 8 (by omega);rw [show ((24:Nat):Int)=24 from rfl] at e1
 rw [show ((16:Nat):Int)=16 from rfl] at e2
 rw [show ((8:Nat):Int)=8 from rfl] at e3
 unfold B161;rw [e1,e2,e3,e0];refine Zd hw λ b w hw=>⟨b,rfl,hw⟩
theorem ZrY {b:Nat} {xs:List Int} {T:TypeId} (hl:xs.length<=9223372036854775807) (hc:R.m b=.none):Ro (R.add (ZS.one b (.cells (b8 xs).toArray T (0,0)))) ⟨some ⟨b,0,none⟩,xs.length,xs.length⟩ (b8 xs):=
 ⟨by simp,by simpa using hl,λ _=>⟨b,0,_,T,(0,0),rfl,Cx.lent hc,λ i v hv=>by rw [Nat.zero_add];simpa using hv⟩⟩
theorem ZoZ {n t:Int} (h0:0<=n) (h1:n<16777216) (t0:0<=t) (t1:t<256):ZcT .or .u32 (Zlj .u32 n 8) (IntKind.u32.wrap t)=n * 256 + t:=by
 have e:Zlj .u32 n 8=n * 256:=by
  show IntKind.u32.wrap (n * 2 ^ 8)=_;rw [ZbF (by omega) (by omega)];omega
 rw [e,ZbF t0 (by omega)];obtain ⟨a,rfl⟩:=Int.eq_ofNat_of_zero_le h0;obtain ⟨b,rfl⟩:=Int.eq_ofNat_of_zero_le t0;have:=Zxa (x:=a * 256) (y:=b) (by omega) (by omega);rw [Zpr a b (by omega)] at this;rw [show ((a * 256:Nat):Int)=(a:Int) * 256 from Int.natCast_mul a 256] at this
 rw [this];exact (Int.natCast_add (a * 256) b).trans (by rw [Int.natCast_mul];rfl)
theorem Zgs {s:Sl} {xs:List Int} (hl:xs.length<=4) (hxs:∀ x∈xs,0<=x/\x<256) (hs:Ro R s (b8 xs)) (hw:Sat R Hs w):
  Zq prog 189 #[.slice s.a s.len s.cap] w λ v w'=>v=.int .u32 (ZbR 0 xs)/\Sat R Hs w':=by
 have hlen:s.len=xs.length:=by have:=hs.len;simpa using this
 apply Zta;refine ⟨λ n t w=>∃ k:Nat,t=k/\k<=xs.length/\n=ZbR 0 (xs.take k)/\Sat R Hs w,λ _ t _=>xs.length - t.toNat,⟨0,rfl,by omega,rfl,hw⟩,?_⟩;rintro _ _ _ w ⟨k,rfl,hk,rfl,hw⟩;refine Br.d (λ h=>?_) (λ h=>?_)
 ·have hkx:k<xs.length:=by omega
  have:=Ro.idxK (S:=λ w'=>w'=w) hs (eqS hw) (k:=k) hkx (F:=λ t=>t=xs[k]) rfl;obtain ⟨h0,h1,this⟩:=this.out;obtain ⟨a,ha,t,hat,rfl⟩:=this.out;refine Rng.mk h0 h1 (Zb.mk ha ⟨_,hat,?_⟩);have hx:=hxs xs[k] (List.getElem_mem _);have hvb:∀ x∈xs.take k,0<=x/\x<256:=λ x hx=>hxs x (List.mem_of_mem_take hx);have hv0:=ZcD (acc:=0) (Int.le_refl _) hvb;have hv1:ZbR 0 (xs.take k)<16777216:=by
   refine Int.lt_of_lt_of_le (ZeX (Int.le_refl _) hvb) ?_;rw [List.length_take,Nat.min_eq_left (by omega),Int.zero_add,Int.one_mul];have h9:256 ^ k<=256 ^ 3:=Nat.pow_le_pow_right (by omega) (by omega);have:((256 ^ k:Nat):Int)<=((256 ^ 3:Nat):Int):=Int.ofNat_le.2 h9;rw [Int.natCast_pow] at this;exact Int.le_trans this (by decide)
  rw [ZoZ hv0 hv1 hx.1 hx.2,Zg (by omega) (by omega)];refine ⟨⟨k + 1,by omega,by omega,?_,hw⟩,by dsimp only;omega⟩;rw [List.take_succ_eq_append_getElem hkx,ZcC]
 ·have hk2:k=xs.length:=by omega
  subst hk2;exact ⟨by rw [List.take_length],hw⟩
theorem Zp0 {n:Nat} (hn:n<=1099511627776) (hw:Sat R Hs w):
  Zq prog 195 #[.slice none 0 0,.int .i64 n] w λ v w'=>∃ t:Sl,v=.slice t.a t.len t.cap/\Sat R (Own t 5 []::Hs) w':=by
 refine Zdg.gets (Zs4 ⟨none,0,0⟩ n _ _ w ?_);refine ⟨λ w=>Sat R Hs w,?_,?_⟩
 ·exact Br.d (λ h=>absurd h (by omega)) (λ h=>hw)
 intro _ w hw;have e:IntKind.i64.wrap ((n:Int) - IntKind.i64.wrap (((0:Nat):Int) - ((0:Nat):Int)))=n:=by
  rw [Zg (x:=((0:Nat):Int) - ((0:Nat):Int)) (by omega) (by omega),Zg (by omega) (by omega)];omega
 refine Br.mk (λ h=>?_) (λ h=>?_)
 ·have h:decide (IntKind.i64.wrap ((n:Int) - IntKind.i64.wrap (((0:Nat):Int) - ((0:Nat):Int)))>0)=true:=h
  rw [e] at h;have h:=of_decide_eq_true h;refine ⟨by simp,by simp,?_⟩;show ∃ w',∃ t:Sl,(Builtin.append_ #[53,3 ] 53 #[.slice none 0 0,.int .i64 (IntKind.i64.wrap ((n:Int) - IntKind.i64.wrap (((0:Nat):Int) - ((0:Nat):Int))))]).run prog w=_/\_;rw [e];exact Zni underlying53 underlying3 (by kernel_rfl) (n:=n) (bytes:=1) (by omega) (by omega) (by omega) hw λ t w hw=>⟨by simp,by simp,⟨t.a,0,t.cap⟩,rfl,hw⟩
 ·exact ⟨⟨none,0,0⟩,rfl,Own.nil hw⟩
abbrev ZbK (ps:List (Sl × List Int)):List Int:=(ps.map (·.2)).flatten
theorem ZdT {ps:List (Sl × List Int)} {k:Nat} (h:k<ps.length):ZbK (ps.take (k + 1))=ZbK (ps.take k)++ps[k].2:=by
 unfold ZbK;rw [List.take_succ_eq_append_getElem h,List.map_append,List.flatten_append];congr 1;simp
theorem ZkG (ps:List (Sl × List Int)) (k:Nat):(ZbK (ps.take k)).length<=(ZbK ps).length:=by
 have:ZbK ps=ZbK (ps.take k)++ZbK (ps.drop k):=by
  unfold ZbK;rw [<-List.flatten_append,<-List.map_append,List.take_append_drop]
 rw [this];simp
theorem Zl2 {m:Sl} {ps:List (Sl × List Int)} (hm:Ro R m ((ps.map (·.1)).map Sl.v)) (hps:∀ p∈ps,Ro R p.1 (b8 p.2)) (hl:(ZbK ps).length<=1099511627776) (hw:Sat R Hs w):
  Zq prog 162 #[.slice m.a m.len m.cap] w λ v w'=>∃ t:Sl,v=.slice t.a t.len t.cap/\Sat R (Own t 5 (b8 (ZbK ps))::Hs) w':=by
 have hlen:m.len=ps.length:=by have:=hm.len;simpa using this
 have hbd:ps.length<=9223372036854775807:=by have:=hm.bound;simpa using this
 refine Zdg.gets (Zto m _ _ w ?_);refine ⟨λ n t w=>∃ k:Nat,t=k/\k<=ps.length/\n=((ZbK (ps.take k)).length:Nat)/\Sat R Hs w,λ _ t _=>ps.length - t.toNat,⟨0,rfl,by omega,rfl,hw⟩,?_⟩;rintro _ _ _ w ⟨k,rfl,hk,rfl,hw⟩;refine Br.d (λ h=>?_) (λ h=>?_)
 ·have hkx:k<ps.length:=by omega
  have:=Ro.idxS (S:=λ w'=>w'=w) hm (eqS hw) (k:=k) (by simpa using hkx) (F:=λ t=>t=ps[k].1) (by simp);obtain ⟨h0,h1,this⟩:=this.out;obtain ⟨a,ha,t,hat,rfl⟩:=this.out;refine Rng.mk h0 h1 (Zb.mk ha ⟨_,hat,?_⟩);have hp:=(hps ps[k] (List.getElem_mem _)).len;rw [List.length_map] at hp;have h1:=ZkG ps (k + 1);rw [ZdT hkx,List.length_append] at h1;have e:IntKind.i64.wrap (((ZbK (ps.take k)).length:Int) + ((ps[k].1.len:Nat):Int))=((ZbK (ps.take (k + 1))).length:Nat):=by
   rw [ZdT hkx,List.length_append,hp,Zg (by omega) (by omega)];omega
  rw [e];refine Br.d (λ h=>absurd h (by omega)) (λ h=>?_);rw [Zg (by omega) (by omega)];exact ⟨⟨k + 1,by omega,by omega,rfl,hw⟩,by dsimp only;omega⟩
 ·have hk2:k=ps.length:=by omega
  subst hk2;rw [List.take_length];refine (Zp0 hl hw).use ?_;rintro _ w ⟨t,rfl,hw⟩;refine .inl ⟨t,rfl,?_⟩;refine ⟨λ ns t w=>∃ k:Nat,t=k/\k<=ps.length/\Sat R (Own ns 5 (b8 (ZbK (ps.take k)))::Hs) w,λ _ t _=>ps.length - t.toNat,⟨0,rfl,by omega,by simpa [ZbK] using hw⟩,?_⟩;rintro _ ns _ w ⟨k,rfl,hk,hw⟩;refine Br.d (λ h=>?_) (λ h=>?_)
  ·have hkx:k<ps.length:=by omega
   have:=Ro.idxS (S:=λ w'=>w'=w) hm (eqS hw) (k:=k) (by simpa using hkx) (F:=λ t=>t=ps[k].1) (by simp);obtain ⟨h0,h1,this⟩:=this.out;obtain ⟨a,ha,t,hat,rfl⟩:=this.out;refine Rng.mk h0 h1 (Zb.mk ha ⟨_,hat,?_⟩);have h1:=ZkG ps (k + 1);rw [ZdT hkx,List.length_append] at h1;have hsrc:Src prog 1 53 (.slice ps[k].1.a ps[k].1.len ps[k].1.cap) ps[k].2.length (b8 ps[k].2) w:=by
    have:=Zi9 underlying53 hw (hps ps[k] (List.getElem_mem _)) (Zep _);simpa using this
   refine Zas Zh1 (s:=ns) hw hsrc (Zep _) (by rw [List.length_map];omega) (by rw [List.length_map];omega) λ t w hw=>?_;rw [Zg (by omega) (by omega)];refine ⟨⟨k + 1,by omega,by omega,?_⟩,by dsimp only;omega⟩;rw [ZdT hkx];simpa [b8] using hw
  ·have hk2:k=ps.length:=by omega
   subst hk2;rw [List.take_length] at hw;exact ⟨ns,rfl,hw⟩
theorem Zha {s:Sl} {bs:List Int} (hbs:∀ x∈bs,0<=x/\x<256) (hs:Ro R s (b8 bs)) (hw:Sat R Hs w):
  Zq prog 112 #[.slice s.a s.len s.cap] w λ v w'=>
   (bs.length>65536/\v=.tuple #[.slice none 0 0,.int .i64 3]/\Sat R Hs w')\/
   (bs.length<=65536/\∃ t:Sl,v=.tuple #[.slice t.a t.len t.cap,.int .i64 0]/\Sat R (Own t 5 (b8 (ZP bs))::Hs) w'):=by
 have hlen:s.len=bs.length:=by have:=hs.len;simpa using this
 apply ZtZ;refine Br.d (λ h=>?_) (λ h=>?_)
 ·exact .inl ⟨by omega,rfl,hw⟩
 ·have hb:bs.length<=65536:=by omega
  have hb':s.len<=65536:=by omega
  rw [ZbF (by omega) (by omega)];refine (ZjV (n:=s.len) (by omega) hw).use ?_;rintro _ w ⟨b1,rfl,hw⟩;refine ⟨⟨some ⟨b1,0,none⟩,4,4⟩,rfl,?_⟩;obtain ⟨hn1,hw⟩:=Sat.lend.1 hw;have r1:=ZrY (R:=R) (b:=b1) (xs:=ZaL s.len) (T:=5) (by rw [Zbk];omega) hn1;refine (Zmw (ZdL _) r1 hw).use ?_;rintro _ w ⟨rfl,hw⟩;refine ⟨_,rfl,?_⟩;have hc1:Zay 0 (ZaL s.len)<4294967296:=ZdB (by omega) (ZdL _);have hq2:=ZiR 0 (ZaL s.len) bs;generalize Zay 0 (ZaL s.len)=q at hc1 hq2 ⊢;refine (ZjK (sum:=q) hc1 hbs hs.add hw).use ?_;rintro _ w ⟨rfl,hw⟩;refine ⟨_,rfl,?_⟩;rw [hq2];have hc2:Zay 0 (ZaL s.len++bs)<4294967296:=ZdB (by omega) λ x hx=>(List.mem_append.1 hx).elim (ZdL _ x) (hbs x);clear hq2 hc1;refine (ZjV hc2 hw).use ?_;rintro _ w ⟨b2,rfl,hw⟩;refine ⟨⟨some ⟨b2,0,none⟩,4,4⟩,rfl,?_⟩;obtain ⟨hn2,hw⟩:=Sat.lend.1 hw;have r2:=ZrY (b:=b2) (xs:=ZaL (Zay 0 (ZaL s.len++bs))) (T:=5) (by rw [Zbk];omega) hn2;refine Zd hw λ b3 w hw=>?_;have hw:Sat _ (pts b3 (.cells ([(⟨some ⟨b1,0,none⟩,4,4⟩:Sl),⟨some ⟨b2,0,none⟩,4,4⟩,s].map Sl.v).toArray 53 (0,0))::Hs) w:=hw;obtain ⟨hn3,hw⟩:=Sat.lend.1 hw;refine (Zl2 (m:=⟨some ⟨b3,0,none⟩,3,3⟩) (ps:=[(⟨some ⟨b1,0,none⟩,4,4⟩,ZaL s.len),(⟨some ⟨b2,0,none⟩,4,4⟩,ZaL (Zay 0 (ZaL s.len++bs))),(s,bs)]) ?_ ?_ ?_ hw).use ?_
  ·exact ⟨rfl,by simp,λ _=>⟨b3,0,_,53,(0,0),rfl,Cx.lent hn3,λ i v hv=>by rw [Nat.zero_add,List.getElem?_toArray];exact hv⟩⟩
  ·intro p hp
   simp only [List.mem_cons,List.not_mem_nil,or_false] at hp;rcases hp with rfl|rfl|rfl
   ·exact r1.add.add
   ·exact r2.add
   ·exact hs.add.add.add
  ·simp [ZbK,Zbk];omega
  ·rintro _ w ⟨t,rfl,hw⟩
   refine ⟨t,rfl,.inr ⟨hb,t,rfl,?_⟩⟩;have e:ZbK [((⟨some ⟨b1,0,none⟩,4,4⟩:Sl),ZaL s.len),(⟨some ⟨b2,0,none⟩,4,4⟩,ZaL (Zay 0 (ZaL s.len++bs))),(s,bs)]=ZP bs:=by simp [ZbK,ZP,hlen]
   rw [e] at hw;have hw:=(Sat.lend.2 ⟨hn3,hw⟩).drop;have hw:=(Sat.lend.2 ⟨hn2,hw⟩).drop;exact (Sat.lend.2 ⟨hn1,hw⟩).drop
end
section
open Go Go.VC Tryz
variable {R:Cx} {Hs Rest:List HP} {w:World}
theorem _root_.Go.VC.SlR.mono {h h':ZS} {s:Sl} {xs:List Value} (hs:∀ b o,h b=some o->h' b=some o) (a:SlR h s xs):SlR h' s xs:=
 ⟨a.len,a.cap,λ hx=>let ⟨b,off,l,T,fr,ha,hb,hl⟩:=a.mem hx;⟨b,off,l,T,fr,ha,hs _ _ hb,hl⟩⟩
abbrev ZeW:List PanicEntry:=[⟨.iface 239 (.agg #[]),false,false⟩]
theorem Zc4 {b:Bool} {Q:Ending->World->Prop} (h1:b=true->Q (.returned (.tuple #[])) w) (h2:b=false->Q (.panicked ZeW) w):Calls prog 193 #[.bool b] w Q:=by
 have h:Zdg prog 193 #[.bool b] w (λ ch w'=>b=false/\ch=ZeW/\w'=w) (λ v w'=>b=true/\v=.tuple #[]/\w'=w):=by
  apply Zs6;refine Br.nb (λ h=>?_) (λ h=>?_)
  ·exact ⟨h,rfl,rfl⟩
  ·exact ⟨h,rfl,rfl⟩
 refine h.use ?_ ?_
 ·rintro v w' ⟨hb,rfl,e⟩;rw [e];exact h1 hb
 ·rintro v w' ⟨hb,rfl,e⟩;rw [e];exact h2 hb
abbrev lp (l:Nat) (s:Sl):HP:=pts l (.cells [.slice s.a s.len s.cap].toArray 53 (0,0))
abbrev Z0 (s:Sl) (k:Nat):Sl:=⟨ZcW s.a k s.cap 1,s.len - k,s.cap - k⟩
theorem ZgY {l:Nat} {s:Sl} {xs:List Value} {k:Nat} (hr:SlR R.m s xs) (hw:Sat R (lp l s::Hs) w):
  Zdg prog 222 #[.pointer (some ⟨l,0,none⟩),.int .i64 k] w
   (λ ch w'=>xs.length<k/\ch=ZeW/\Sat R (lp l s::Hs) w')
   (λ v w'=>k<=xs.length/\v=.slice s.a k s.cap/\Sat R (lp l (Z0 s k)::Hs) w'):=by
 have hlen:=hr.len;have hcap:=hr.cap;apply ZsZ;refine Zb.mk rfl ⟨s,At.own (eqS hw) (by exact ⟨rfl,trivial⟩),Zc4 (λ h=>.inl ⟨rfl,?_⟩) (λ h=>.inr ⟨_,rfl,?_⟩)⟩
 ·have h:=of_decide_eq_true h
  refine Zb.mk rfl ⟨s,At.own (eqS hw) (by exact ⟨rfl,trivial⟩),by omega,by omega,Zb.mk rfl ⟨s,At.own (eqS hw) (by exact ⟨rfl,trivial⟩),by omega,by omega,Zb.mk rfl ?_⟩⟩;rw [Int.toNat_natCast];refine Zc hw (by kernel_rfl) rfl (by simp [Value.cells]) λ w hw=>?_;exact ⟨by omega,rfl,hw⟩
 ·have h:=of_decide_eq_false h
  exact ⟨by omega,rfl,hw⟩
theorem Zwh:∀ c:Fin 32,ZcT .andNot .u8 ((c.1:Nat):Int) 16=if 16<=((c.1:Nat):Int) then ((c.1:Nat):Int) - 16 else ((c.1:Nat):Int):=by decide +kernel
theorem andn {c:Int} (h0:0<=c) (h1:c<32):IntKind.i64.wrap (ZcT .andNot .u8 c 16)=if 16<=c then c - 16 else c:=by
 obtain ⟨n,rfl⟩:=Int.eq_ofNat_of_zero_le h0;have:=Zwh ⟨n,by omega⟩;simp only at this;rw [this];split<;>exact Zg (by omega) (by omega)
theorem Zss {n t:Int} (h0:0<=n) (h1:n<72057594037927936) (t0:0<=t) (t1:t<256):ZcT .or .u64 (Zlj .u64 n 8) (IntKind.u64.wrap t)=n * 256 + t:=by
 have e:Zlj .u64 n 8=n * 256:=by
  show IntKind.u64.wrap (n * 2 ^ 8)=_;rw [Zbt (by omega) (by omega)];omega
 rw [e,Zbt t0 (by omega)];obtain ⟨a,rfl⟩:=Int.eq_ofNat_of_zero_le h0;obtain ⟨b,rfl⟩:=Int.eq_ofNat_of_zero_le t0;have:=Zw9 (x:=a * 256) (y:=b) (by omega) (by omega);rw [Zpr a b (by omega)] at this;rw [show ((a * 256:Nat):Int)=(a:Int) * 256 from Int.natCast_mul a 256] at this
 rw [this];exact (Int.natCast_add (a * 256) b).trans (by rw [Int.natCast_mul];rfl)
abbrev Zk1 (c:Int):Nat:=(if 16<=c then c - 16 else c).toNat
theorem ZiI {h:ZS} {l:Nat} {s:Sl} {bs:List Int} (hb:∀ x∈bs,0<=x/\x<256) (hsub:∀ b o,h b=some o->R.m b=some o) (hr0:SlR h s (b8 bs)) (hw:Sat R (lp l s::Hs) w):
  Zdg prog 192 #[.pointer (some ⟨l,0,none⟩)] w
   (λ ch w'=>Za5 bs=none/\ch=ZeW/\∃ s',Sat R (lp l s'::Hs) w')
   (λ v w'=>∃ n neg k s',Za5 bs=some (n,neg,k)/\v=.tuple #[.int .u64 n,.bool neg]/\SlR h s' (b8 (bs.drop k))/\Sat R (lp l s'::Hs) w'):=by
 have hr:SlR R.m s (b8 bs):=hr0.mono hsub;apply Zs7;refine (ZgY (k:=1) hr hw).use ?_ ?_
 rotate_left
 ·rintro _ w ⟨h,rfl,hw⟩
  refine .inr ⟨_,rfl,?_,rfl,s,hw⟩;cases bs with
  |nil=>rfl
  |cons=>simp at h
 rintro _ w ⟨hlen,rfl,hw⟩;cases bs with
 |nil=>simp at hlen
 |cons c rest=>
 have hc:=hb c List.mem_cons_self;have hbr:∀ x∈rest,0<=x/\x<256:=λ x hx=>hb x (List.mem_cons_of_mem _ hx);refine .inl ⟨⟨s.a,1,s.cap⟩,rfl,?_⟩;have hr1:SlR R.m ⟨s.a,1,s.cap⟩ (b8 [c]):=hr.take (k:=1) hlen;have hrd:SlR R.m (Z0 s 1) (b8 rest):=hr.drop (k:=1) hlen;have:=SlR.idxK (Hs:=lp l (Z0 s 1)::Hs) (S:=λ w'=>w'=w) hr1 (eqS hw) (k:=0) (by simp) (F:=λ t=>t=c) rfl;obtain ⟨h0,h1,this⟩:=this.out;obtain ⟨a,ha,t,hat,rfl⟩:=this.out;refine Rng.mk h0 h1 (Zb.mk ha ⟨t,hat,?_⟩);have hsnone:∀ {p:Prop},¬ p->True:=λ _=>trivial;refine ⟨λ w=>(t<32/\Zk1 t<=8/\(Zk1 t=0->t=0))/\Sat R (lp l (Z0 s 1)::Hs) w,?_,?_⟩
 ·have bad:(t<32/\Zk1 t<=8/\Zk1 t<=rest.length/\(Zk1 t=0->t=0)/\(Zk1 t≠0->rest.head?≠some 0)->False)->Za5 (t::rest)=none:=λ h=>by
   unfold Za5;simp only;rw [if_neg h]
  refine Br.d (λ h=>?_) (λ h=>?_)
  ·rw [andn hc.1 h]
   refine Br.d (λ h2=>?_) (λ h2=>?_)
   ·refine Br.d (λ h3=>?_) (λ h3=>?_)
    ·exact Zc4 (λ _=>.inl ⟨rfl,⟨h,by unfold Zk1;omega,λ h4=>by unfold Zk1 at h4;omega⟩,hw⟩) (λ h=>by cases h)
    ·refine Zc4 (λ h4=>.inl ⟨rfl,⟨h,by unfold Zk1;omega,λ h5=>?_⟩,hw⟩) (λ h4=>.inr ⟨_,rfl,bad ?_,rfl,_,hw⟩)
     ·simp only [ge_iff_le,Bool.not_eq_true',decide_eq_false_iff_not] at h4
      rw [if_neg h4] at h3;omega
     ·simp only [ge_iff_le,Bool.not_eq_false',decide_eq_true_eq] at h4
      rintro ⟨_,_,_,h5,_⟩;rw [if_pos h4] at h3;have:=h5 (by unfold Zk1;rw [if_pos h4];omega);omega
   ·exact Zc4 (λ h=>by cases h) (λ _=>.inr ⟨_,rfl,bad (by rintro ⟨_,h3,_⟩;unfold Zk1 at h3;omega),rfl,_,hw⟩)
  ·exact Zc4 (λ h=>by cases h) (λ _=>.inr ⟨_,rfl,bad (by rintro ⟨h3,_⟩;exact h h3),rfl,_,hw⟩)
 clear hat ha h0 h1;rintro _ w ⟨⟨h32,h8,hz⟩,hw⟩;rw [andn hc.1 h32];have hwid:(if 16<=t then t - 16 else t)=((Zk1 t:Nat):Int):=by
  unfold Zk1;rw [Int.toNat_of_nonneg];split<;>omega
 rw [hwid];generalize hW:Zk1 t=W at *;refine (ZgY (k:=W) hrd hw).use ?_ ?_
 rotate_left
 ·rintro _ w ⟨h,rfl,hw⟩
  refine .inr ⟨_,rfl,?_,rfl,_,hw⟩;unfold Za5;simp only;rw [if_neg];rintro ⟨_,_,h3,_⟩;have:Zk1 t<=rest.length:=h3;simp at h;omega
 rintro _ w ⟨hl,rfl,hw⟩;have hl:W<=rest.length:=by simpa using hl
 have hrt:SlR R.m ⟨(Z0 s 1).a,W,(Z0 s 1).cap⟩ (b8 (rest.take W)):=by have:=hrd.take (k:=W) (by simpa using hl);rwa [<-List.map_take] at this
 have hlt:(rest.take W).length=W:=by simp;omega
 refine .inl ⟨⟨(Z0 s 1).a,W,(Z0 s 1).cap⟩,rfl,?_⟩;refine ⟨λ n i w=>∃ k:Nat,i=k/\k<=W/\n=ZbR 0 (rest.take k)/\(k≠0->rest.head?≠some 0)/\Sat R (lp l (Z0 (Z0 s 1) W)::Hs) w,λ _ i _=>W - i.toNat,⟨0,rfl,Nat.zero_le _,rfl,λ h=>absurd rfl h,hw⟩,?_⟩;rintro _ _ _ w ⟨k,rfl,hk,rfl,hh,hw⟩;refine Br.d (λ h=>?_) (λ h=>?_)
 ·have hk2:k<W:=by have:((k:Nat):Int)<(W:Int):=h;omega
  have hkr:k<rest.length:=by omega
  have:=SlR.idxK (Hs:=lp l (Z0 (Z0 s 1) W)::Hs) (S:=λ w'=>w'=w) hrt (eqS hw) (k:=k) (by omega) (F:=λ t=>t=rest[k]) (by simp);obtain ⟨h0,h1,this⟩:=this.out;obtain ⟨a,ha,x,hat,rfl⟩:=this.out;refine Rng.mk h0 h1 (Zb.mk ha ⟨_,hat,?_⟩);have hx:=hbr rest[k] (List.getElem_mem _);have hvb:∀ x∈rest.take k,0<=x/\x<256:=λ x hx=>hbr x (List.mem_of_mem_take hx);have hv0:=ZcD (acc:=0) (Int.le_refl _) hvb;have hv1:ZbR 0 (rest.take k)<72057594037927936:=by
   refine Int.lt_of_lt_of_le (ZeX (Int.le_refl _) hvb) ?_;rw [List.length_take,Nat.min_eq_left (by omega),Int.zero_add,Int.one_mul];have h9:256 ^ k<=256 ^ 7:=Nat.pow_le_pow_right (by omega) (by omega);have:((256 ^ k:Nat):Int)<=((256 ^ 7:Nat):Int):=Int.ofNat_le.2 h9;rw [Int.natCast_pow] at this;exact Int.le_trans this (by decide)
  have hstep:∀ w,(rest.head?≠some 0)->Sat R (lp l (Z0 (Z0 s 1) W)::Hs) w->
    (∃ k':Nat,IntKind.i64.wrap ((k:Int) + 1)=k'/\k'<=W/\ZcT .or .u64 (Zlj .u64 (ZbR 0 (rest.take k)) 8) (IntKind.u64.wrap rest[k])=ZbR 0 (rest.take k')/\(k'≠0->rest.head?≠some 0)/\Sat R (lp l (Z0 (Z0 s 1) W)::Hs) w)/\W - (IntKind.i64.wrap ((k:Int) + 1)).toNat<W - (k:Int).toNat:=λ w h1 hw=>by
   rw [Zg (by omega) (by omega)];refine ⟨⟨k + 1,by omega,by omega,?_,λ _=>h1,hw⟩,by omega⟩;rw [Zss hv0 hv1 hx.1 hx.2,List.take_succ_eq_append_getElem hkr,ZcC]
  refine Br.d (λ h3=>?_) (λ h3=>?_)
  ·exact Zc4 (λ _=>.inl ⟨rfl,hstep _ (hh (by omega)) hw⟩) (λ h=>by cases h)
  ·have hk0:k=0:=by omega
   subst hk0;have hhead:rest.head? =some rest[0]:=by rw [List.head?_eq_getElem?,List.getElem?_eq_getElem hkr]
   refine Zc4 (λ h4=>.inl ⟨rfl,hstep _ ?_ hw⟩) (λ h4=>.inr ⟨_,rfl,?_,rfl,_,hw⟩)
   ·have h4:=of_decide_eq_true h4
    rw [hhead];intro h5;simp only [Option.some.injEq] at h5;omega
   ·have h4:=of_decide_eq_false h4
    unfold Za5;simp only;rw [if_neg];rintro ⟨_,_,_,_,h5⟩;have h6:Zk1 t≠0:=by omega
    refine h5 h6 ?_;rw [hhead];congr 1;omega
 ·have hkW:k=W:=by have:¬ ((k:Nat):Int)<(W:Int):=h;omega
  subst hkW;refine ⟨ZbR 0 (rest.take k),decide (t >= 16),k + 1,Z0 (Z0 s 1) k,?_,rfl,?_,?_⟩
  ·unfold Za5;simp only
   have e:(if 16<=t then t - 16 else t).toNat=k:=hW
   rw [e,if_pos ⟨h32,h8,hl,hz,hh⟩]
  ·have:=(hr0.drop (k:=1) hlen).drop (k:=k) (by simpa using hl)
   simpa using this
  ·exact hw
end
section
open Go Go.VC Tryz
variable {R:Cx} {Hs Rest:List HP} {w:World}
theorem _root_.Go.VC.Sat.restTru {A:HP} (h:Sat R (A::Hs) w):Sat R [A,VC.tru] w:=
 h.cons λ R' h=>by
  have key:∀ (Hs:List HP) (R':Cx),Sat R' Hs w->Sat R' [VC.tru] w:=λ Hs=>by
   induction Hs with
   |nil=>exact λ R' h=>h.tru
   |cons B Hs ih=>exact λ R' h=>Sat.absorb (h.cons λ R'' h=>ih R'' h)
  exact key _ _ h
def Znu (c:Nat) (w:World):Nat:=match (w.heap[c]? :Option Obj) with
 |some (Obj.cells l _ _)=>(match (l[0]? :Option Value) with|some (Value.slice _ n _)=>n|_=>0)
 |_=>0
theorem Zmx {c:Nat} {t:Sl} {T:TypeId} (hw:Sat R (pts c (.cells [.slice t.a t.len t.cap].toArray T (0,0))::Hs) w):Znu c w=t.len:=by
 unfold Znu;rw [hw.at];rfl
theorem Zkh {s:Sl} (hw:Sat R Hs w):Zq prog 154 #[.slice s.a s.len s.cap] w λ v w'=>∃ c,v=.func (.func 188) #[] #[.pointer (some ⟨c,0,none⟩)]/\Sat R (lp c s::Hs) w':=by
 apply Ztw;exact Zd hw λ c w hw=>⟨c,rfl,hw⟩
theorem _root_.Go.VC.SlR.b8take {h:ZS} {s:Sl} {xs:List Int} (a:SlR h s (b8 xs)) {k:Nat} (hk:k<=xs.length):SlR h ⟨s.a,k,s.cap⟩ (b8 (xs.take k)):=by
 have:=a.take (k:=k) (by simpa using hk);simpa using this
theorem _root_.Go.VC.SlR.b8drop {h:ZS} {s:Sl} {xs:List Int} (a:SlR h s (b8 xs)) {k:Nat} (hk:k<=xs.length):SlR h (Z0 s k) (b8 (xs.drop k)):=by
 have:=a.drop (k:=k) (by simpa using hk);simpa using this
theorem ZpV {L c nn:Nat} {s:Sl} {bs:List Int} (hbs:∀ x∈bs,0<=x/\x<256) (hlen:bs.length<=1099511627776) (hs:SlR R.m s (b8 bs)) (I:List (List Int)->List HP)
  (hY:∀ (pre:List (List Int)) (x:List Int) (W:World) (A:HP) (t:Sl),pre++[x]<+:scan bs->SlR R.m t (b8 x)->Sat R (A::I pre) W->
   YieldAt Fence.wide (nn - 1) prog L #[.slice t.a t.len t.cap] W λ e W'=>e=.returned (.bool true)/\Sat R (A::I (pre++[x])) W')
  (hw:Sat R (lp c s::I []) w):
  CallsIn Fence.wide nn prog 188 #[.func (.yield L) #[] #[],.pointer (some ⟨c,0,none⟩)] w λ e w'=>(∃ v,e=.returned v)/\Sat R (I (scan bs)) w':=by
 refine CallsIn.mono (ZrH L (some ⟨c,0,none⟩) (λ _ w'=>Sat R (I (scan bs)) w') w ?_) (λ e w' ⟨v,hv,h⟩=>⟨⟨v,hv⟩,h⟩);refine ⟨λ w=>∃ pre rest t,scan bs=pre++scan rest/\rest.length<=bs.length/\(∀ x∈rest,0<=x/\x<256)/\SlR R.m t (b8 rest)/\Sat R (lp c t::I pre) w,λ w=>Znu c w,⟨[],bs,s,rfl,Nat.le_refl _,hbs,hs,hw⟩,?_⟩;clear hw;rintro _ w0 ⟨pre,rest,t,hsc,hrl,hrb,hr,hw⟩;have hmu:Znu c w0=t.len:=Zmx hw;have hl:t.len=rest.length:=by have:=hr.len;simpa using this
 have hcap:=hr.cap;have stop:∀ {w},first rest=none->Sat R (lp c t::I pre) w->Sat R (I (scan bs)) w:=λ hf hw=>by
  rw [hsc,Zbm hf,List.append_nil];exact hw.drop
 refine Zb.mk rfl ⟨t,At.own (eqS hw) (by exact ⟨rfl,trivial⟩),?_⟩;refine Br.mk (λ h=>?_) (λ h=>?_)
 rotate_left
 ·have h:=of_decide_eq_false h
  exact stop (by unfold first;rw [if_neg (by omega)]) hw
 have h8:8<=rest.length:=by have:=of_decide_eq_true h;omega
 have hfirst:first rest=if (ZbR 0 (rest.take 4)).toNat<=65536/\(ZbR 0 (rest.take 4)).toNat<=rest.length - 8/\Zay 0 (rest.take 4++(rest.drop 8).take (ZbR 0 (rest.take 4)).toNat)=(ZbR 0 ((rest.drop 4).take 4)).toNat then some ((rest.drop 8).take (ZbR 0 (rest.take 4)).toNat) else none:=by
  unfold first;rw [if_pos h8]
 have hb4:∀ x∈rest.take 4,0<=x/\x<256:=λ x hx=>hrb x (List.mem_of_mem_take hx);have hb8:∀ x∈(rest.drop 4).take 4,0<=x/\x<256:=λ x hx=>hrb x (List.mem_of_mem_drop (List.mem_of_mem_take hx));have hn0:=ZcD (acc:=0) (Int.le_refl _) hb4;have hn1:ZbR 0 (rest.take 4)<4294967296:=by
  refine Int.lt_of_lt_of_le (ZeX (Int.le_refl _) hb4) ?_;rw [List.length_take,Nat.min_eq_left (by omega)];decide
 have hm0:=ZcD (acc:=0) (Int.le_refl _) hb8;obtain ⟨n,hn⟩:=Int.eq_ofNat_of_zero_le hn0;rw [hn] at hn1 hfirst;rw [Int.toNat_natCast] at hfirst;have r4:SlR R.m ⟨t.a,4,t.cap⟩ (b8 (rest.take 4)):=hr.b8take (by omega);have r48:SlR R.m ⟨(Z0 t 4).a,4,(Z0 t 4).cap⟩ (b8 ((rest.drop 4).take 4)):=(hr.b8drop (k:=4) (by omega)).b8take (by simp;omega);refine Zb.mk rfl ⟨t,At.own (eqS hw) (by exact ⟨rfl,trivial⟩),by omega,by omega,?_⟩;refine (Zgs (s:=⟨t.a,4,t.cap⟩) (xs:=rest.take 4) (by simp;omega) hb4 (r4.ro (by simp;omega)) hw).use ?_;rintro _ w ⟨rfl,hw⟩;rw [hn];refine ⟨_,rfl,λ w=>(n<=65536/\n<=rest.length - 8)/\Sat R (lp c t::I pre) w,?_,?_⟩
 ·refine Br.mk (λ h=>?_) (λ h=>?_)
  ·have h:=of_decide_eq_true h
   exact stop (by rw [hfirst,if_neg];rintro ⟨h1,_⟩;omega) hw
  ·have h:=of_decide_eq_false h
   refine Zb.mk rfl ⟨t,At.own (eqS hw) (by exact ⟨rfl,trivial⟩),?_⟩;rw [Zg (by omega) (by omega),Zg (by omega) (by omega)];refine Br.mk (λ h2=>?_) (λ h2=>?_)
   ·have h2:=of_decide_eq_true h2
    exact stop (by rw [hfirst,if_neg];rintro ⟨_,h1,_⟩;omega) hw
   ·have h2:=of_decide_eq_false h2
    exact ⟨⟨by omega,by omega⟩,hw⟩
 clear hw;rintro _ w ⟨⟨hn2,hn3⟩,hw⟩;have e8:IntKind.i64.wrap (8 + IntKind.i64.wrap (n:Int))=((8 + n:Nat):Int):=by
  rw [Zg (x:=(n:Int)) (by omega) (by omega),Zg (by omega) (by omega)];omega
 have e9:(((8 + n:Nat):Int)).toNat - Int.toNat 8=n:=by omega
 have rb:SlR R.m ⟨(Z0 t 8).a,n,(Z0 t 8).cap⟩ (b8 ((rest.drop 8).take n)):=(hr.b8drop (k:=8) (by omega)).b8take (by simp;omega);have hbb:∀ x∈(rest.drop 8).take n,0<=x/\x<256:=λ x hx=>hrb x (List.mem_of_mem_drop (List.mem_of_mem_take hx));refine Zb.mk rfl ⟨t,At.own (eqS hw) (by exact ⟨rfl,trivial⟩),?_⟩;rw [e8,e9];refine ⟨by omega,by omega,by omega,by omega,?_⟩;refine Zs (Sat R [lp c t,VC.tru]) hw (λ w hw=>hw.restTru) λ w hw=>?_;refine Zb.mk rfl ⟨t,At.own Ze (by exact ⟨rfl,trivial⟩),by omega,by omega,Zb.mk rfl ⟨t,At.own Ze (by exact ⟨rfl,trivial⟩),by omega,by omega,by omega,by omega,?_⟩⟩;refine (Zmw (s:=⟨t.a,4,t.cap⟩) (xs:=rest.take 4) hb4 (r4.ro (by simp;omega)) hw).use ?_;rintro _ w ⟨rfl,hw⟩;refine ⟨_,rfl,hw.restTru,?_⟩;have hc1:Zay 0 (rest.take 4)<4294967296:=ZdB (by omega) hb4;have hq2:=ZiR 0 (rest.take 4) ((rest.drop 8).take n);generalize Zay 0 (rest.take 4)=q at hc1 hq2 ⊢;refine (ZjK (sum:=q) (s:=⟨(Z0 t 8).a,n,(Z0 t 8).cap⟩) hc1 hbb (rb.ro (by simp;omega)) hw).use ?_;rintro _ w ⟨rfl,hw⟩;refine ⟨_,rfl,hw.restTru,?_⟩;rw [hq2];refine (Zgs (s:=⟨(Z0 t 4).a,4,(Z0 t 4).cap⟩) (xs:=(rest.drop 4).take 4) (by simp;omega) hb8 (r48.ro (by simp;omega)) hw).use ?_;rintro _ w ⟨rfl,hw⟩;refine ⟨_,rfl,hw.restTru,?_⟩;generalize hC:Zay 0 (rest.take 4++(rest.drop 8).take n)=C at hfirst ⊢;refine Br.ne (λ h=>?_) (λ h=>?_)
 ·exact stop (by rw [hfirst,if_neg];rintro ⟨_,_,h1⟩;omega) hw
 have hsome:first rest=some ((rest.drop 8).take n):=by rw [hfirst,if_pos ⟨hn2,hn3,by omega⟩]
 have hxl:((rest.drop 8).take n).length=n:=by simp;omega
 have hss:=Zdn hsome;rw [hxl] at hss;refine (hY pre ((rest.drop 8).take n) w (lp c t) ⟨(Z0 t 8).a,n,(Z0 t 8).cap⟩ ⟨scan (rest.drop (8 + n)),by rw [hsc,hss];simp⟩ rb hw).imp ?_;rintro fn ⟨tmps,assign,body,hrun,hround⟩;refine ⟨tmps,assign,body,hrun,RoundIn.mono hround ?_⟩;rintro e w ⟨rfl,hw⟩;refine ⟨true,rfl,hw.restTru,?_⟩;refine Br.f rfl ?_;refine Zb.mk rfl ⟨t,At.own (eqS hw) (by exact ⟨rfl,trivial⟩),?_⟩;refine ⟨by omega,by omega,?_⟩;rw [Int.toNat_natCast];refine Zc hw (by kernel_rfl) rfl (by simp [Value.cells]) λ w hw=>?_;have hw:Sat R (lp c (Z0 t (8 + n))::I (pre++[(rest.drop 8).take n])) w:=hw;refine ⟨⟨pre++[(rest.drop 8).take n],rest.drop (8 + n),Z0 t (8 + n),?_,by simp;omega,λ x hx=>hrb x (List.mem_of_mem_drop hx),hr.b8drop (by omega),hw⟩,?_⟩
 ·rw [hsc,hss];simp
 ·show Znu c w<Znu c w0
  rw [Zmx hw,hmu];show t.len - (8 + n)<t.len;omega
end
section
open Go Go.VC Tryz
variable {R:Cx} {Hs Rest:List HP} {w:World}
def ZaW (l:Sl) (xss:List (List Int)):HP:=
 exs λ ps:List (Sl × List Int)=>Zig [pur (ps.map (·.2)=xss),Own l 53 (ps.map λ p=>Sl.v p.1),Zig (ps.map λ p=>Own p.1 5 (b8 p.2))]
theorem Sat.bytesL {l:Sl} {xss:List (List Int)}:Sat R (ZaW l xss::Hs) w↔∃ ps:List (Sl × List Int),ps.map (·.2)=xss/\Sat R (Own l 53 (ps.map λ p=>Sl.v p.1)::Zig (ps.map λ p=>Own p.1 5 (b8 p.2))::Hs) w:=by
 unfold ZaW;rw [Sat.exs];exact ⟨λ⟨ps,h⟩=>let h:=Sat.pur.1 (Sat.star.1 h);⟨ps,h.1,h.2⟩,λ⟨ps,h,hs⟩=>⟨ps,Sat.star.2 (Sat.pur.2 ⟨h,hs⟩)⟩⟩
def Zfh (b:Nat) (xss:List (List Int)):HP:=exs λ l:Sl=>Zig [pts b (.cells [.slice l.a l.len l.cap].toArray 139 (0,0)),ZaW l xss]
theorem Sat.outAt {b:Nat} {xss:List (List Int)}:Sat R (Zfh b xss::Hs) w↔∃ l:Sl,Sat R (pts b (.cells [.slice l.a l.len l.cap].toArray 139 (0,0))::ZaW l xss::Hs) w:=by
 unfold Zfh;rw [Sat.exs];exact ⟨λ⟨s,h⟩=>⟨s,Sat.star.1 h⟩,λ⟨s,h⟩=>⟨s,Sat.star.2 h⟩⟩
theorem Zwu:El prog 139 139 53 24:=⟨underlying139,⟨_,underlying139⟩,by kernel_rfl⟩
theorem Zr5 (ps:List (Sl × List Int)):Zac (ps.map λ p=>Sl.v p.1)=true:=by unfold Zac;simp [Value.oneCell',Sl.v]
theorem ZcF:∀ a b:List (List Int),Zo (a++b)=Zo a + Zo b
 |[],b=>by simp [Zo]
 |x::a,b=>by rw [List.cons_append,ZJ,ZJ,ZcF a b];omega
theorem Zb3:∀ a:List (List Int),8 * a.length<=Zo a
 |[]=>by simp [Zo]
 |x::a=>by rw [ZJ,List.length_cons];have:=Zb3 a;omega
theorem ZeH:∀ (n:Nat) (bs:List Int),bs.length<=n->Zo (scan bs)<=bs.length:=λ n=>by
 induction n with
 |zero=>
  intro bs h;cases hf:first bs with
  |none=>rw [Zbm hf];simp [Zo]
  |some b=>have:=(ZcP hf).1;omega
 |succ n ih=>
  intro bs h;cases hf:first bs with
  |none=>rw [Zbm hf];simp [Zo]
  |some b=>
   have hb:=(ZcP hf).1;rw [Zdn hf,ZJ];have:=ih (bs.drop (8 + b.length)) (by simp;omega);rw [List.length_drop] at this;omega
theorem Zll {pre bs} (h:pre<+:scan bs):Zo pre<=bs.length:=by
 obtain ⟨r,hr⟩:=h;have:=ZeH _ bs (Nat.le_refl _);rw [<-hr,ZcF] at this;omega
theorem ZqJ {b4 b5:Nat} {s:Sl} {x:List Int} {pre:List (List Int)} {K:World->Prop} (hs:Ro R s (b8 x)) (hl:Zo (pre++[x])<=1099511627776)
  (hw:Sat R (Zfh b4 pre::pts b5 (.cells [.int .i64 (Zo pre:Nat)].toArray 3 (0,0))::Hs) w)
  (k:∀ w,Sat R (Zfh b4 (pre++[x])::pts b5 (.cells [.int .i64 (Zo (pre++[x]):Nat)].toArray 3 (0,0))::Hs) w->K w):
  Zwk (some ⟨b4,0,none⟩) (some ⟨b5,0,none⟩) s K w:=by
 have hsl:s.len=x.length:=by have:=hs.len;simpa using this
 have happ:=ZcF pre [x];rw [ZJ] at happ;have hsn:Zo []=0:=rfl;have hpl:=Zb3 pre;obtain ⟨l,hw⟩:=Sat.outAt.1 hw;refine Zs (Sat R [pts b4 (.cells [.slice l.a l.len l.cap].toArray 139 (0,0)),VC.tru]) hw (λ w hw=>hw.restTru) λ w hw=>?_;refine Zb.mk rfl ⟨l,At.own Ze (by exact ⟨rfl,trivial⟩),?_⟩;refine (ZdC hs (by omega) hw).use ?_;rintro _ w ⟨t,rfl,hw⟩;refine ⟨t,rfl,hw.swap.restTru,?_⟩;refine Zd hw λ b13 w hw=>?_;have hw:Sat R (pts b13 (.cells [Value.slice t.a t.len t.cap].toArray 53 (0,0))::Own t 5 (b8 x)::pts b4 (.cells [.slice l.a l.len l.cap].toArray 139 (0,0))::ZaW l pre::pts b5 (.cells [.int .i64 (Zo pre:Nat)].toArray 3 (0,0))::Hs) w:=hw;have hw2:Sat R (pts b4 (.cells [.slice l.a l.len l.cap].toArray 139 (0,0))::ZaW l pre::pts b5 (.cells [.int .i64 (Zo pre:Nat)].toArray 3 (0,0))::pts b13 (.cells [Value.slice t.a t.len t.cap].toArray 53 (0,0))::Own t 5 (b8 x)::Hs) w:=hw.arr;refine ⟨hw2.restTru,?_⟩;have hw3:Sat R (ZaW l pre::pts b4 (.cells [.slice l.a l.len l.cap].toArray 139 (0,0))::pts b5 (.cells [.int .i64 (Zo pre:Nat)].toArray 3 (0,0))::pts b13 (.cells [Value.slice t.a t.len t.cap].toArray 53 (0,0))::Own t 5 (b8 x)::Hs) w:=hw2.swap;obtain ⟨ps,hps,hw4⟩:=Sat.bytesL.1 hw3;have hpsl:ps.length=pre.length:=by rw [<-hps];simp
 have hsrc:Src prog 1 139 (.slice (some ⟨b13,0,none⟩) 1 1) 1 [Value.slice t.a t.len t.cap] w:=ZjN Zwu.hk 1 hw rfl;refine Zas Zwu (s:=l) hw4 hsrc (Zr5 ps) (by rw [List.length_map];omega) (by rw [List.length_map];omega) λ l2 w hw=>?_;have hw:Sat R (pts b4 (.cells [.slice l.a l.len l.cap].toArray 139 (0,0))::Own l2 53 ((ps.map λ p=>Sl.v p.1)++[Value.slice t.a t.len t.cap])::Zig (ps.map λ p=>Own p.1 5 (b8 p.2))::pts b5 (.cells [.int .i64 (Zo pre:Nat)].toArray 3 (0,0))::pts b13 (.cells [Value.slice t.a t.len t.cap].toArray 53 (0,0))::Own t 5 (b8 x)::Hs) w:=hw.arr;refine Zc hw (by kernel_rfl) rfl (by simp [Value.cells]) λ w hw=>?_;have hw:=hw.re (pts b4 (.cells [.slice l2.a l2.len l2.cap].toArray 139 (0,0)));have hw:Sat R (pts b5 (.cells [.int .i64 (Zo pre:Nat)].toArray 3 (0,0))::pts b4 (.cells [.slice l2.a l2.len l2.cap].toArray 139 (0,0))::Own l2 53 ((ps.map λ p=>Sl.v p.1)++[Value.slice t.a t.len t.cap])::Own t 5 (b8 x)::Zig (ps.map λ p=>Own p.1 5 (b8 p.2))::pts b13 (.cells [Value.slice t.a t.len t.cap].toArray 53 (0,0))::Hs) w:=hw.arr;refine Zb.mk rfl ⟨_,At.own (eqS hw) (by exact ⟨rfl,trivial⟩),?_⟩;rw [hsl,Zg (x:=8 + (x.length:Int)) (by omega) (by omega),Zg (by omega) (by omega)];refine Zc hw (by kernel_rfl) rfl (by simp [Value.cells]) λ w hw=>k w ?_;have e:((Zo pre:Nat):Int) + (8 + (x.length:Int))=((Zo (pre++[x]):Nat):Int):=by rw [happ,hsn];omega
 rw [e] at hw;have hw:Sat R (pts b5 (.cells [.int .i64 (Zo (pre++[x]):Nat)].toArray 3 (0,0))::pts b4 (.cells [.slice l2.a l2.len l2.cap].toArray 139 (0,0))::Own l2 53 ((ps.map λ p=>Sl.v p.1)++[Value.slice t.a t.len t.cap])::Own t 5 (b8 x)::Zig (ps.map λ p=>Own p.1 5 (b8 p.2))::pts b13 (.cells [Value.slice t.a t.len t.cap].toArray 53 (0,0))::Hs) w:=hw;have hw:Sat R (pts b4 (.cells [.slice l2.a l2.len l2.cap].toArray 139 (0,0))::Own l2 53 ((ps.map λ p=>Sl.v p.1)++[Value.slice t.a t.len t.cap])::Own t 5 (b8 x)::Zig (ps.map λ p=>Own p.1 5 (b8 p.2))::pts b13 (.cells [Value.slice t.a t.len t.cap].toArray 53 (0,0))::pts b5 (.cells [.int .i64 (Zo (pre++[x]):Nat)].toArray 3 (0,0))::Hs) w:=hw.arr;refine Sat.outAt.2 ⟨l2,hw.cons λ R' hw=>Sat.bytesL.2 ⟨ps++[(t,x)],by simp [hps],?_⟩⟩;have e2:((ps++[(t,x)]).map λ p=>Sl.v p.1)=(ps.map λ p=>Sl.v p.1)++[Value.slice t.a t.len t.cap]:=by simp [Sl.v]
 rw [e2];refine hw.cons λ R' hw=>?_;refine Sat.star.2 ?_;rw [List.map_append,List.append_assoc];have h3:Sat R' (Zig (ps.map λ p=>Own p.1 5 (b8 p.2))::Own t 5 (b8 x)::pts b13 (.cells [Value.slice t.a t.len t.cap].toArray 53 (0,0))::pts b5 (.cells [.int .i64 (Zo (pre++[x]):Nat)].toArray 3 (0,0))::Hs) w:=hw.swap;have h4:=Sat.star.1 h3;have dropB:∀ (l:List HP) (R:Cx),Sat R (l++(Own t 5 (b8 x)::pts b13 (.cells [Value.slice t.a t.len t.cap].toArray 53 (0,0))::pts b5 (.cells [.int .i64 (Zo (pre++[x]):Nat)].toArray 3 (0,0))::Hs)) w->Sat R (l++(Own t 5 (b8 x)::pts b5 (.cells [.int .i64 (Zo (pre++[x]):Nat)].toArray 3 (0,0))::Hs)) w:=λ l=>by
  induction l with
  |nil=>exact λ R h=>h.cons λ _ h=>h.drop
  |cons A l ih=>exact λ R h=>h.cons λ _ h=>ih _ h
 exact dropB _ _ h4
end
end Go.Proofs.YtkfedbncmfnpnaaGreatDoor
