/- The disk: its memory, its small operations. Condition: none. -/
import Derived.Test.YtkfedbncmfnpnaaGreatDoorB2
import Derived.Shelf.SlIter.Nil
import Derived.Shelf.SortM.Plain
import Derived.Shelf.SortM.SortNone
import Derived.Ground.GgzProg
import Derived.Ground.SlgmProg
import Derived.Test.YtkfedbncmfnpnaaGreatDoorProg
import Derived.Sort.Walk0
import Derived.KernelRfl
import Derived.Lib.BitFns
import Derived.Test.YtkfedbncmfnpnaaGreatDoorB1
namespace Go.Proofs.YtkfedbncmfnpnaaGreatDoor
set_option linter.unusedVariables false
set_option linter.unusedSimpArgs false
open Go Go.VC
variable {R:Cx} {Hs Rest:List HP} {w:World}
def FileAt (p:Nat) (f:Fl):HP:=exs fun s:Sl=>Star [pts p (.cells [.slice s.a s.len s.cap,.int .i64 f.sure].toArray 106 (0,0)),Own s 5 (b8 f.b)]
abbrev DE:=ByteArray × Nat × Fl
def er (E:List DE):Fs:=E.map fun e=>(e.1,e.2.2)
def ptrs (E:List DE):List (ByteArray × Value):=E.map fun e=>(e.1,.pointer (some ⟨e.2.1,0,none⟩))
def FilesAt (E:List DE):HP:=Star (E.map fun e=>FileAt e.2.1 e.2.2)
abbrev dCells (st:DS) (m:Nat):Obj:=.cells [.int .i64 st.room,.int .i64 (total st.fs),.map (some m),.int .i64 st.fail,.int .i64 st.arm,.bool st.off].toArray 78 (0,0)
def DiskAt (d:Nat) (st:DS):HP:=exs fun x:Nat × List DE=>Star [pur (er x.2=st.fs),pts d (dCells st x.1),MapAt x.1 (ptrs x.2),FilesAt x.2]
theorem Sat.disk {d:Nat} {st:DS}:Sat R (DiskAt d st::Hs) w↔∃ m E,er E=st.fs∧Sat R (pts d (dCells st m)::MapAt m (ptrs E)::FilesAt E::Hs) w:=by
 unfold DiskAt
 rw [Sat.exs]
 constructor
 ·rintro ⟨⟨m,E⟩,h⟩
  have:=Sat.star.1 h
  exact ⟨m,E,Sat.pur.1 this⟩
 ·rintro ⟨m,E,h1,h2⟩
  exact ⟨⟨m,E⟩,Sat.star.2 (Sat.pur.2 ⟨h1,h2⟩)⟩
theorem Sat.file {p:Nat} {f:Fl}:Sat R (FileAt p f::Hs) w↔∃ s:Sl,Sat R (pts p (.cells [.slice s.a s.len s.cap,.int .i64 f.sure].toArray 106 (0,0))::Own s 5 (b8 f.b)::Hs) w:=by
 unfold FileAt
 rw [Sat.exs]
 exact ⟨fun ⟨s,h⟩=>⟨s,Sat.star.1 h⟩,fun ⟨s,h⟩=>⟨s,Sat.star.2 h⟩⟩
theorem Sat.split {a b:List DE} {e:DE}:Sat R (FilesAt (a++e::b)::Hs) w↔Sat R (FileAt e.2.1 e.2.2::FilesAt (a++b)::Hs) w:=by
 have p:((a++e::b).map fun e:DE=>FileAt e.2.1 e.2.2).Perm (FileAt e.2.1 e.2.2::(a++b).map fun e:DE=>FileAt e.2.1 e.2.2):=by
  rw [List.map_append,List.map_cons,List.map_append];exact List.perm_middle
 unfold FilesAt
 constructor
 ·intro h
  have h1:=(Sat.star.1 h).perm (p.append_right Hs)
  exact h1.cons fun _ h=>Sat.star.2 h
 ·intro h
  have h1:Sat R ((FileAt e.2.1 e.2.2::(a++b).map fun e:DE=>FileAt e.2.1 e.2.2)++Hs) w:=h.cons fun _ h=>Sat.star.1 h
  exact Sat.star.2 (h1.perm (p.symm.append_right Hs))
def newErr (room:Int):Int:=if room<1∨room>16777216 then 1 else 0
theorem new_spec (room:Int) (hw:Sat R Hs w):Gets Tryz.prog 17 #[.int .i64 room] w fun v w'=>
  (newErr room=1∧v=.tuple #[.pointer none,.int .i64 1]∧Sat R Hs w')∨
  (newErr room=0∧1≤room∧room≤16777216∧∃ d,v=.tuple #[.pointer (some ⟨d,0,none⟩),.int .i64 0]∧Sat R (DiskAt d ⟨room,[],-1,-1,false⟩::Hs) w'):=by
 apply call17
 refine Br.mk (fun h=>?_) (fun h=>Br.mk (fun h2=>?_) (fun h2=>?_))<;>simp only [decide_eq_true_eq,decide_eq_false_iff_not] at h
 ·exact .inl ⟨if_pos (.inl h),rfl,hw⟩
 ·simp only [decide_eq_true_eq] at h2
  exact .inl ⟨if_pos (.inr h2),rfl,hw⟩
 ·simp only [decide_eq_false_iff_not] at h2
  refine new_rule hw fun m w hw=>new_rule hw fun d w hw=>.inr ⟨if_neg (by omega),by omega,by omega,d,rfl,?_⟩
  refine Sat.disk.2 ⟨m,[],rfl,hw.cons fun _ h=>(MapAt.new rfl h).cons fun _ h=>?_⟩
  exact Sat.star.2 h
def metN (n:Int):Int × Bool:=if n==-1 then (n,false) else (n - 1,n - 1==-1)
theorem met_spec {b i:Nat} {l:List Value} {T:TypeId} {n:Int} (hw:Sat R (pts b (.cells l.toArray T (0,0))::Hs) w) (hi:l[i]? =some (.int .i64 n)) (h0: -1≤n) (h1:n<9223372036854775808):
  Gets Tryz.prog 122 #[.pointer (some ⟨b,i,none⟩)] w fun r w'=>r=.bool (metN n).2∧Sat R (pts b (.cells (l.set i (.int .i64 (metN n).1)).toArray T (0,0))::Hs) w':=by
 have hlt:i<l.length:=(List.getElem?_eq_some_iff.1 hi).1
 have hat:∀ {w} {l:List Value} {v:Value},Sat R (pts b (.cells l.toArray T (0,0))::Hs) w→l[i]? =some v→At (fun w'=>w'=w) ⟨b,i,none⟩ [v]:=fun {w l v} hw hi=>by
  refine At.own (eqS hw) ?_
  obtain ⟨h,rfl⟩:=List.getElem?_eq_some_iff.1 hi
  rw [List.drop_eq_getElem_cons h];exact ⟨rfl,trivial⟩
 apply call122
 refine NilP.mk rfl ⟨n,hat hw hi,Br.mk (fun h=>?_) (fun h=>?_)⟩
 ·refine ⟨by simp [metN,h],?_⟩
  have:l.set i (.int .i64 (metN n).1)=l:=by
   obtain ⟨h',e⟩:=List.getElem?_eq_some_iff.1 hi
   unfold metN;rw [if_pos h,←e,List.set_getElem_self]
  rw [this];exact hw
 ·simp only [beq_eq_false_iff_ne,ne_eq] at h
  refine NilP.mk rfl ⟨n,hat hw hi,NilP.mk rfl ?_⟩
  rw [wrap64 (by omega) (by omega)]
  refine store_rule hw (by kernel_rfl) rfl (by simp [Value.cells];omega) fun w' hw=>?_
  have e:putL l i (Value.int .i64 (n - 1)).cells.toList=l.set i (.int .i64 (n - 1)):=by simp [putL,Value.cells]
  rw [e] at hw
  refine NilP.mk rfl ⟨n - 1,hat hw (by simp [hlt]),?_⟩
  unfold metN
  rw [if_neg (by simpa using h)]
  exact ⟨rfl,hw⟩
theorem later_spec {b i:Nat} {l:List Value} {T:TypeId} {n0:Int} (n:Int) (hw:Sat R (pts b (.cells l.toArray T (0,0))::Hs) w) (hi:l[i]? =some (.int .i64 n0)):
  Gets Tryz.prog 39 #[.pointer (some ⟨b,i,none⟩),.int .i64 n] w fun r w'=>r=.int .i64 (if n<0 then 1 else 0)∧Sat R (pts b (.cells (l.set i (.int .i64 (if n<0 then n0 else n))).toArray T (0,0))::Hs) w':=by
 have hlt:i<l.length:=(List.getElem?_eq_some_iff.1 hi).1
 apply call39
 refine Br.mk (fun h=>?_) (fun h=>?_)<;>simp only [decide_eq_true_eq,decide_eq_false_iff_not] at h
 ·rw [if_pos h,if_pos h]
  refine ⟨rfl,?_⟩
  obtain ⟨h',e⟩:=List.getElem?_eq_some_iff.1 hi
  rw [←e,List.set_getElem_self];exact hw
 ·rw [if_neg h,if_neg h]
  refine NilP.mk rfl ?_
  refine store_rule hw (by kernel_rfl) rfl (by simp [Value.cells];omega) fun w' hw=>⟨rfl,?_⟩
  have e:putL l i (Value.int .i64 n).cells.toList=l.set i (.int .i64 n):=by simp [putL,Value.cells]
  rw [e] at hw;exact hw
theorem arm_spec {d:Nat} {st:DS} (n:Int) (hw:Sat R (DiskAt d st::Hs) w):
  Gets Tryz.prog 28 #[.pointer (some ⟨d,0,none⟩),.int .i64 n] w fun r w'=>r=.int .i64 (if n<0 then 1 else 0)∧Sat R (DiskAt d { st with arm:=if n<0 then st.arm else n }::Hs) w':=by
 obtain ⟨m,E,hE,hw⟩:=Sat.disk.1 hw
 apply call28
 refine NilP.mk rfl ?_
 refine (later_spec n hw (i:=4) rfl).use ?_
 rintro _ w ⟨rfl,hw⟩
 exact ⟨_,rfl,rfl,Sat.disk.2 ⟨m,E,hE,hw⟩⟩
theorem off_spec {d:Nat} {st:DS} (hw:Sat R (DiskAt d st::Hs) w):
  Gets Tryz.prog 40 #[.pointer (some ⟨d,0,none⟩)] w fun r w'=>r=.bool st.off∧Sat R (DiskAt d st::Hs) w':=by
 have hw0:=hw
 obtain ⟨m,E,hE,hw⟩:=Sat.disk.1 hw
 apply call40
 exact NilP.mk rfl ⟨_,At.own (eqS hw) (by exact ⟨rfl,trivial⟩),rfl,hw0⟩
def chg (st:DS) (ok:Bool):DS × Int:=
 if !ok then (st,1)
 else if st.off then (st,5)
 else if (metN st.arm).2 then ({ st with arm:=(metN st.arm).1,off:=true },5)
 else ({ st with arm:=(metN st.arm).1,fail:=(metN st.fail).1 },if (metN st.fail).2 then 4 else 0)
structure Counts (st:DS):Prop where
 a0: -1≤st.arm
 a1:st.arm<9223372036854775808
 f0: -1≤st.fail
 f1:st.fail<9223372036854775808
theorem change_spec {d:Nat} {st:DS} {s:Sl} {names:List ByteArray} {make:Value} {Q:Int→World→Prop} (hw:Sat R (DiskAt d st::Hs) w) (c:Counts st) (hs:Ro R s (names.map Value.string)) (hn:names.length≤1000)
  (hmake:(chg st (names.all nameOk)).2=0→∀ w,Sat R (DiskAt d (chg st (names.all nameOk)).1::Hs) w→CalW Tryz.prog cl make [] w (fun e w'=>∃ n:Int,e=.returned (.int .i64 n)∧Q n w'))
  (herr:∀ e,(chg st (names.all nameOk)).2=e→e≠0→∀ w,Sat R (DiskAt d (chg st (names.all nameOk)).1::Hs) w→Q e w):
  Gets Tryz.prog 77 #[.pointer (some ⟨d,0,none⟩),make,.slice s.a s.len s.cap] w fun r w'=>∃ n:Int,r=.int .i64 n∧Q n w':=by
 apply call77
 refine (named_spec hw hs hn).use ?_
 rintro _ w ⟨rfl,hw⟩
 refine ⟨_,rfl,Br.mk (fun h=>?_) (fun h=>?_)⟩
 ·simp only [Bool.not_eq_true'] at h
  have e:chg st (names.all nameOk)=(st,1):=by simp [chg,h]
  rw [e] at herr
  exact ⟨1,rfl,herr 1 rfl (by decide) w hw⟩
 simp only [Bool.not_eq_false'] at h
 rw [h] at hmake herr
 obtain ⟨m,E,hE,hw⟩:=Sat.disk.1 hw
 refine NilP.mk rfl ⟨st.off,At.own (eqS hw) (by exact ⟨rfl,trivial⟩),Br.mk (fun ho=>?_) (fun ho=>NilP.mk rfl ?_)⟩
 ·have e:chg st true=(st,5):=by simp [chg,ho]
  rw [e] at herr
  exact ⟨5,rfl,herr 5 rfl (by decide) w (Sat.disk.2 ⟨m,E,hE,hw⟩)⟩
 refine (met_spec hw (i:=4) (n:=st.arm) rfl c.a0 c.a1).use ?_
 rintro _ w ⟨rfl,hw⟩
 refine ⟨_,rfl,Br.mk (fun ha=>NilP.mk rfl ?_) (fun ha=>NilP.mk rfl ?_)⟩
 ·have e:chg st true=({ st with arm:=(metN st.arm).1,off:=true },5):=by simp [chg,ho,ha]
  rw [e] at herr
  refine store_rule hw (by kernel_rfl) rfl (by simp [Value.cells]) fun w hw=>?_
  exact ⟨5,rfl,herr 5 rfl (by decide) w (Sat.disk.2 ⟨m,E,hE,hw⟩)⟩
 refine (met_spec hw (i:=3) (n:=st.fail) rfl c.f0 c.f1).use ?_
 rintro _ w ⟨rfl,hw⟩
 have hw:Sat R (DiskAt d { st with arm:=(metN st.arm).1,fail:=(metN st.fail).1 }::Hs) w:=Sat.disk.2 ⟨m,E,hE,hw⟩
 have e:chg st true=({ st with arm:=(metN st.arm).1,fail:=(metN st.fail).1 },if (metN st.fail).2 then 4 else 0):=by simp [chg,ho,ha]
 rw [e] at herr hmake
 refine ⟨_,rfl,Br.mk (fun hf=>?_) (fun hf=>?_)⟩
 ·exact ⟨4,rfl,herr 4 (by simp [hf]) (by decide) w hw⟩
 ·refine (hmake (by simp [hf]) w hw).mono ?_
  rintro _ w ⟨n,rfl,hq⟩
  exact ⟨n,rfl,n,rfl,hq⟩
end Go.Proofs.YtkfedbncmfnpnaaGreatDoor
/- The disk: Append. Condition: none. -/
namespace Go.Proofs.YtkfedbncmfnpnaaGreatDoor
set_option linter.unusedVariables false
set_option linter.unusedSimpArgs false
open Go Go.VC
variable {R:Cx} {Hs Rest:List HP} {w:World}
def updM {β:Type} (k:ByteArray) (g:β→β):List (ByteArray × β)→List (ByteArray × β)
 |[]=>[]
 |e::es=>if k==e.1 then (e.1,g e.2)::es else e::updM k g es
theorem ba_rfl (k:ByteArray):(k==k)=true:=(MapKept.bytes_beq k k).2 rfl
theorem ba_ne {a b:ByteArray} (h:a≠b):(a==b)=false:=by
 cases hc:(a==b)
 ·rfl
 ·exact absurd ((MapKept.bytes_beq a b).1 hc) h
theorem updM_app {β:Type} {k:ByteArray} {g:β→β} {v:β}:∀ {a b:List (ByteArray × β)},getM k a=none→updM k g (a++(k,v)::b)=a++(k,g v)::b
 |[],b,_=>by simp [updM,ba_rfl]
 |e::a,b,h=>by
  rw [getM] at h
  split at h
  ·cases h
  ·rename_i hne
   rw [List.cons_append,updM,if_neg hne,updM_app h];rfl
theorem er_app (a b:List DE):er (a++b)=er a++er b:=by simp [er]
theorem er_cons (e:DE) (b:List DE):er (e::b)=(e.1,e.2.2)::er b:=rfl
theorem er_get (k:ByteArray) (E:List DE):getM k (er E)=(getM k E).map (·.2):=getM_map (fun x:Nat × Fl=>x.2) k E
theorem ptrs_get (k:ByteArray) (E:List DE):getM k (ptrs E)=(getM k E).map fun x=>.pointer (some ⟨x.1,0,none⟩):=getM_map (fun x:Nat × Fl=>Value.pointer (some ⟨x.1,0,none⟩)) k E
theorem ptrs_app (a b:List DE):ptrs (a++b)=ptrs a++ptrs b:=by simp [ptrs]
theorem total_nil:total []=0:=rfl
theorem total_cons (e:ByteArray × Fl) (l:Fs):total (e::l)=e.2.b.length + total l:=rfl
theorem total_app (a b:Fs):total (a++b)=total a + total b:=by
 induction a with
 |nil=>simp [total_nil]
 |cons e a ih=>rw [List.cons_append,total_cons,total_cons,ih];omega
theorem total_nn (l:Fs):0≤total l:=by
 induction l with
 |nil=>exact Int.le_refl 0
 |cons e l ih=>rw [total_cons];omega
theorem total_one {k:ByteArray} {f:Fl} (a b:Fs):total (a++(k,f)::b)=total (a++b) + f.b.length:=by
 rw [total_app,total_cons,total_app];simp only;omega
def ensure (k:ByteArray) (fs:Fs):Fs:=if (getM k fs).isSome then fs else fs++[(k,⟨[],0⟩)]
def putB (k:ByteArray) (xs:List Int) (fs:Fs):Fs:=updM k (fun f=>{ f with b:=f.b++xs }) (ensure k fs)
def Uni (fs:Fs):Prop:=(fs.map (·.1)).Nodup
def SureOk (fs:Fs):Prop:=∀ e∈fs,e.2.sure≤e.2.b.length
structure Inv (st:DS):Prop extends Counts st where
 r0:1≤st.room
 r1:st.room≤16777216
 full:total st.fs≤st.room
 uni:Uni st.fs
 names:∀ k∈st.fs.map (·.1),nameOk k=true
 sure:SureOk st.fs
theorem notin_of_getM {β:Type} {k:ByteArray}:∀ {l:List (ByteArray × β)},getM k l=none→k ∉ l.map (·.1)
 |[],_,h=>by cases h
 |e::l,h,hm=>by
  rw [getM] at h
  split at h
  ·cases h
  ·rename_i hne
   rw [List.map_cons,List.mem_cons] at hm
   rcases hm with rfl|hm
   ·exact hne (ba_rfl _)
   ·exact notin_of_getM h hm
theorem getM_of_notin {β:Type} {k:ByteArray}:∀ {l:List (ByteArray × β)},k ∉ l.map (·.1)→getM k l=none
 |[],_=>rfl
 |e::l,h=>by
  rw [List.map_cons,List.mem_cons,not_or] at h
  rw [getM,if_neg (by rw [ba_ne h.1];simp),getM_of_notin h.2]
theorem updM_keys {β:Type} (k:ByteArray) (g:β→β):∀ l:List (ByteArray × β),(updM k g l).map (·.1)=l.map (·.1)
 |[]=>rfl
 |e::l=>by
  rw [updM]
  split
  ·rename_i h;have:=(MapKept.bytes_beq _ _).1 h;simp
  ·rw [List.map_cons,List.map_cons,updM_keys k g l]
theorem uni_upd {k:ByteArray} {g:Fl→Fl} {fs:Fs} (h:Uni fs):Uni (updM k g fs):=by unfold Uni;rw [updM_keys];exact h
theorem sure_upd {k:ByteArray} {g:Fl→Fl} (hg:∀ f:Fl,f.sure≤f.b.length→(g f).sure≤(g f).b.length):∀ {fs:Fs},SureOk fs→SureOk (updM k g fs)
 |[],h=>h
 |e::fs,h=>by
  have h0:=h e List.mem_cons_self
  have h1:SureOk fs:=fun x hx=>h x (List.mem_cons_of_mem _ hx)
  rw [updM]
  intro x hx
  split at hx
  ·rcases List.mem_cons.1 hx with rfl|hx
   ·exact hg _ h0
   ·exact h1 x hx
  ·rcases List.mem_cons.1 hx with rfl|hx
   ·exact h0
   ·exact sure_upd hg h1 x hx
def appendG (st:DS) (k:ByteArray) (xs:List Int):DS × Int:=
 if total st.fs + xs.length>st.room then (st,3) else ({ st with fs:=putB k xs st.fs },0)
theorem ensure_total (k:ByteArray) (fs:Fs):total (ensure k fs)=total fs:=by
 unfold ensure
 split
 ·rfl
 ·rw [total_app];simp [total_cons,total_nil]
theorem uni_app {fs:Fs} (h:Uni fs) {k:ByteArray} {f:Fl} (hk:getM k fs=none):Uni (fs++[(k,f)]):=by
 unfold Uni at *
 rw [List.map_append,List.nodup_append]
 refine ⟨h,by simp,fun x hx y hy=>?_⟩
 simp at hy
 subst hy
 intro he
 subst he
 exact notin_of_getM hk hx
theorem sure_app {fs:Fs} (h:SureOk fs) {k:ByteArray} {f:Fl} (hf:f.sure≤f.b.length):SureOk (fs++[(k,f)]):=by
 intro x hx
 rcases List.mem_append.1 hx with hx|hx
 ·exact h x hx
 ·simp at hx;subst hx;exact hf
theorem uni_ensure {fs:Fs} (h:Uni fs) (k:ByteArray):Uni (ensure k fs):=by
 unfold ensure;split
 ·exact h
 ·rename_i hk;exact uni_app h (by simpa using hk)
theorem sure_ensure {fs:Fs} (h:SureOk fs) (k:ByteArray):SureOk (ensure k fs):=by
 unfold ensure;split
 ·exact h
 ·exact sure_app h (Nat.le_refl _)
abbrev box (b:Nat) (v:Value) (T:TypeId):HP:=pts b (.cells [v].toArray T (0,0))
abbrev mapT:MapT Tryz.prog 76 ByteArray 9 104 (.pointer none):=⟨Tryz.underlying76,Tryz.underlying9,Tryz.zeroValue104⟩
abbrev DO (d m:Nat) (E:List DE) (st:DS) (Hs:List HP):List HP:=pts d (dCells st m)::MapAt m (ptrs E)::FilesAt E::Hs
theorem DO.look {d m:Nat} {E:List DE} {st:DS} (hw:Sat R (DO d m E st Hs) w) (k:ByteArray) (c:Bool):
  (Instr.lookup 76 (.map (some m)) (.string k) c).run Tryz.prog w=.ok (if c then .tuple #[.pointer ((getM k E).map fun x=>⟨x.1,0,none⟩),.bool (getM k E).isSome] else .pointer ((getM k E).map fun x=>⟨x.1,0,none⟩)) w:=by
 have h:=MapAt.look mapT (hw.swap.cons fun _ h=>h) k c
 rw [ptrs_get] at h
 have e:((getM k E).map fun x=>Value.pointer (some ⟨x.1,0,none⟩)).getD (.pointer none)=.pointer ((getM k E).map fun x=>⟨x.1,0,none⟩):=by cases getM k E<;>rfl
 have e2:((getM k E).map fun x=>Value.pointer (some ⟨x.1,0,none⟩)).isSome=(getM k E).isSome:=by cases getM k E<;>rfl
 rw [e,e2] at h
 exact h
theorem append1_spec {d bd bb bn:Nat} {st:DS} {k:ByteArray} {x:Sl} {xs:List Int} (i:Inv st) (hx:Ro R x (b8 xs)) (hl:xs.length≤1099511627776)
  (hw:Sat R (DiskAt d st::box bd (.pointer (some ⟨d,0,none⟩)) 25::box bb (.slice x.a x.len x.cap) 53::box bn (.string k) 9::Hs) w):
  Gets Tryz.prog 78 #[.pointer (some ⟨bd,0,none⟩),.pointer (some ⟨bb,0,none⟩),.pointer (some ⟨bn,0,none⟩)] w fun r w'=>r=.int .i64 (appendG st k xs).2∧
   Sat R (DiskAt d (appendG st k xs).1::box bd (.pointer (some ⟨d,0,none⟩)) 25::box bb (.slice x.a x.len x.cap) 53::box bn (.string k) 9::Hs) w':=by
 have hxl:x.len=xs.length:=by have:=hx.len;simpa using this
 have hnn:=total_nn st.fs
 have r0:=i.r0;have r1:=i.r1;have hfull:=i.full
 apply call78
 obtain ⟨m,E,hE,hw⟩:=Sat.disk.1 hw
 refine drw_rule hw fun w hw=>?_
 refine NilP.mk rfl ⟨some ⟨d,0,none⟩,At.own selfS (by exact ⟨rfl,trivial⟩),NilP.mk rfl ⟨total st.fs,At.own selfS (by exact ⟨rfl,trivial⟩),NilP.mk rfl ⟨x,At.own selfS (by exact ⟨rfl,trivial⟩),NilP.mk rfl ⟨some ⟨d,0,none⟩,At.own selfS (by exact ⟨rfl,trivial⟩),NilP.mk rfl ⟨st.room,by rw [add_off];exact At.own selfS (by exact ⟨rfl,trivial⟩),?_⟩⟩⟩⟩⟩
 rw [wrap64 (by omega) (by omega)]
 refine Br.mk (fun h=>?_) (fun h=>?_)<;>simp only [decide_eq_true_eq,decide_eq_false_iff_not] at h
 ·have e:appendG st k xs=(st,3):=if_pos (by omega)
  rw [e];exact ⟨rfl,Sat.disk.2 ⟨m,E,hE,hw⟩⟩
 have e:appendG st k xs=({ st with fs:=putB k xs st.fs },0):=if_neg (by omega)
 rw [e]
 refine drw_rule hw fun w hw=>?_
 refine NilP.mk rfl ⟨some ⟨d,0,none⟩,At.own selfS (by exact ⟨rfl,trivial⟩),NilP.mk rfl ⟨some m,At.own selfS (by exact ⟨rfl,trivial⟩),NilP.mk rfl ⟨k,At.own selfS (by exact ⟨rfl,trivial⟩),_,_,fun w' hw'=>DO.look hw' k true,?_⟩⟩⟩
 refine ⟨fun p w=>∃ q a b f,p=some ⟨q,0,none⟩∧getM k a=none∧er (a++(k,q,f)::b)=ensure k st.fs∧
  Sat R (DO d m (a++(k,q,f)::b) st (box bd (.pointer (some ⟨d,0,none⟩)) 25::box bb (.slice x.a x.len x.cap) 53::box bn (.string k) 9::Hs)) w,?_,?_⟩
 ·refine Br.mk (fun hk=>?_) (fun hk=>?_)
  ·simp only [Bool.not_eq_true',Option.isSome_eq_false_iff,Option.isNone_iff_eq_none] at hk
   have hk2:getM k st.fs=none:=by rw [←hE,er_get,hk];rfl
   refine new_rule hw fun q w hw=>drw_rule hw fun w hw=>?_
   refine NilP.mk rfl ⟨some ⟨d,0,none⟩,At.own selfS (by exact ⟨rfl,trivial⟩),NilP.mk rfl ⟨some m,At.own selfS (by exact ⟨rfl,trivial⟩),NilP.mk rfl ⟨k,At.own selfS (by exact ⟨rfl,trivial⟩),?_⟩⟩⟩
   have hw2:=hw.take (MapAt m (ptrs E))
   refine MapAt.put mapT hw2 k (.pointer (some ⟨q,0,none⟩)) fun w hw=>⟨q,E,[],⟨[],0⟩,rfl,hk,?_,?_⟩
   ·rw [er_app,hE];simp [ensure,hk2,er]
   ·have ep:putM k (.pointer (some ⟨q,0,none⟩)) (ptrs E)=ptrs (E++[(k,q,⟨[],0⟩)]):=by
     unfold putM;rw [ptrs_get,hk];simp [ptrs]
    rw [ep] at hw
    have hw:=hw.take (pts d (dCells st m))
    refine hw.cons fun _ h=>h.cons fun _ h=>?_
    refine Sat.split.2 (Sat.file.2 ⟨⟨none,0,0⟩,?_⟩)
    rw [List.append_nil]
    exact h.cons fun _ h=>Own.nil h
  ·simp only [Bool.not_eq_false'] at hk
   obtain ⟨⟨q,f⟩,hf⟩:=Option.isSome_iff_exists.1 hk
   obtain ⟨a,b,rfl,ha⟩:=getM_split hf
   rw [hf]
   refine ⟨q,a,b,f,rfl,ha,?_,hw⟩
   rw [hE];unfold ensure
   rw [if_pos];rw [←hE,er_get,hf];rfl
 rintro z _ w ⟨q,a,b,f,rfl,ha,hE2,hw⟩
 have ht2:total (er (a++(k,q,f)::b))=total st.fs:=by rw [hE2,ensure_total]
 rw [er_app,er_cons,total_one] at ht2
 have hnn2:=total_nn (er a++er b)
 simp only at ht2
 -- the file is opened
 have hw:Sat R (FilesAt (a++(k,q,f)::b)::pts d (dCells st m)::MapAt m (ptrs (a++(k,q,f)::b))::box bd (.pointer (some ⟨d,0,none⟩)) 25::box bb (.slice x.a x.len x.cap) 53::box bn (.string k) 9::Hs) w:=(hw.cons fun _ h=>h.swap).swap
 obtain ⟨s,hw⟩:=Sat.file.1 (Sat.split.1 hw)
 refine drw_rule hw fun w hw=>?_
 refine NilP.mk rfl ⟨s,by rw [add_off];exact At.own selfS (by exact ⟨rfl,trivial⟩),NilP.mk rfl ⟨x,At.own selfS (by exact ⟨rfl,trivial⟩),?_⟩⟩
 have el:El Tryz.prog 53 53 5 1:=⟨Tryz.underlying53,⟨_,Tryz.underlying53⟩,by kernel_rfl⟩
 have hwo:=hw.swap
 have hsrc:Src Tryz.prog 1 53 (.slice x.a x.len x.cap) xs.length (b8 xs) w:=by
  have:=srcRo Tryz.underlying53 hwo hx (by unfold oneAll;simp [Value.oneCell'])
  simpa using this
 refine append_rule (K:=fun t w'=>NilP (some ⟨q,0,none⟩) fun a_t44=>∃ w_9:World,((Instr.storeAt 53 (.pointer ((some (Addr.add a_t44 0)))) (.slice t.a t.len t.cap)).run Tryz.prog w'=.ok () w_9)∧_) el hwo hsrc (by unfold oneAll;simp [Value.oneCell']) (by simp;omega) (by simp;omega) fun t w hw=>NilP.mk rfl ?_
 rw [add_off]
 refine store_rule hw (by kernel_rfl) rfl (by simp [Value.cells]) fun w hw=>?_
 have hw:Sat R (pts q (.cells [.slice t.a t.len t.cap,.int .i64 f.sure].toArray 106 (0,0))::Own t 5 (b8 (f.b++xs))::FilesAt (a++b)::pts d (dCells st m)::MapAt m (ptrs (a++(k,q,f)::b))::box bd (.pointer (some ⟨d,0,none⟩)) 25::box bb (.slice x.a x.len x.cap) 53::box bn (.string k) 9::Hs) w:=by
  rw [show b8 (f.b++xs)=b8 f.b++b8 xs by simp];exact hw
 have hw:Sat R (FilesAt (a++(k,q,{ f with b:=f.b++xs })::b)::pts d (dCells st m)::MapAt m (ptrs (a++(k,q,f)::b))::box bd (.pointer (some ⟨d,0,none⟩)) 25::box bb (.slice x.a x.len x.cap) 53::box bn (.string k) 9::Hs) w:=
  Sat.split.2 (Sat.file.2 ⟨t,hw⟩)
 refine drw_rule hw fun w hw=>?_
 refine NilP.mk rfl ⟨some ⟨d,0,none⟩,At.own selfS (by exact ⟨rfl,trivial⟩),NilP.mk rfl ⟨total st.fs,At.own selfS (by exact ⟨rfl,trivial⟩),NilP.mk rfl ⟨x,At.own selfS (by exact ⟨rfl,trivial⟩),NilP.mk rfl ?_⟩⟩⟩
 rw [wrap64 (by omega) (by omega)]
 refine store_rule hw (by kernel_rfl) rfl (by simp [Value.cells]) fun w hw=>⟨rfl,?_⟩
 refine Sat.disk.2 ⟨m,a++(k,q,{ f with b:=f.b++xs })::b,?_,?_⟩
 ·simp only [putB]
  rw [←hE2,er_app,er_cons,er_app,er_cons,updM_app]
  rw [er_get,ha];rfl
 ·have ep:ptrs (a++(k,q,{ f with b:=f.b++xs })::b)=ptrs (a++(k,q,f)::b):=by simp [ptrs]
  have et:total (putB k xs st.fs)=total st.fs + x.len:=by
   unfold putB
   rw [←hE2,er_app,er_cons,updM_app (by rw [er_get,ha];rfl),total_one,←ht2,hxl]
   simp;omega
  rw [ep]
  have hw:=hw.cons fun _ h=>h.swap
  unfold dCells
  simp only [et]
  exact hw
end Go.Proofs.YtkfedbncmfnpnaaGreatDoor
/- The disk: Append, whole; what is true of a disk stays so; DiskFails. Condition: none. -/
namespace Go.Proofs.YtkfedbncmfnpnaaGreatDoor
set_option linter.unusedVariables false
set_option linter.unusedSimpArgs false
open Go Go.VC
variable {R:Cx} {Hs Rest:List HP} {w:World}
theorem metN_bd {n:Int} (h0: -1≤n) (h1:n<9223372036854775808): -1≤(metN n).1∧(metN n).1<9223372036854775808:=by
 unfold metN
 split
 ·exact ⟨h0,h1⟩
 ·rename_i h;simp at h;exact ⟨by simp only;omega,by simp only;omega⟩
theorem chg_counts {st:DS} (c:Counts st) (ok:Bool):Counts (chg st ok).1:=by
 have ha:=metN_bd c.a0 c.a1
 have hf:=metN_bd c.f0 c.f1
 unfold chg
 split
 ·exact c
 split
 ·exact c
 split
 ·exact ⟨ha.1,ha.2,c.f0,c.f1⟩
 ·exact ⟨ha.1,ha.2,hf.1,hf.2⟩
theorem chg_fs (st:DS) (ok:Bool):(chg st ok).1.fs=st.fs∧(chg st ok).1.room=st.room:=by
 unfold chg
 split
 ·exact ⟨rfl,rfl⟩
 split
 ·exact ⟨rfl,rfl⟩
 split<;>exact ⟨rfl,rfl⟩
theorem chg_inv {st:DS} (i:Inv st) (ok:Bool):Inv (chg st ok).1:=by
 obtain ⟨h1,h2⟩:=chg_fs st ok
 exact { toCounts:=chg_counts i.toCounts ok,r0:=by rw [h2];exact i.r0,r1:=by rw [h2];exact i.r1,full:=by rw [h1,h2];exact i.full,uni:=by rw [h1];exact i.uni,names:=by rw [h1];exact i.names,sure:=by rw [h1];exact i.sure }
def doing (st:DS) (ok:Bool) (g:DS→DS × Int):DS × Int:=if (chg st ok).2=0 then g (chg st ok).1 else chg st ok
def appendD (st:DS) (k:ByteArray) (xs:List Int):DS × Int:=doing st (nameOk k) fun st=>appendG st k xs
theorem all_one (k:ByteArray):[k].all nameOk=nameOk k:=by simp
theorem ro_one {b:Nat} {k:ByteArray} {T:TypeId} (hc:R.m b=.none):Ro (R.add (Heap.one b (.cells [.string k].toArray T (0,0)))) ⟨some ⟨b,0,none⟩,1,1⟩ ([k].map Value.string):=
 ⟨rfl,by simp,fun _=>⟨b,0,_,T,(0,0),rfl,Cx.lent hc,fun i v h=>by simpa using h⟩⟩
theorem ro_two {b:Nat} {k k2:ByteArray} {T:TypeId} (hc:R.m b=.none):Ro (R.add (Heap.one b (.cells [.string k,.string k2].toArray T (0,0)))) ⟨some ⟨b,0,none⟩,2,2⟩ ([k,k2].map Value.string):=
 ⟨rfl,by simp,fun _=>⟨b,0,_,T,(0,0),rfl,Cx.lent hc,fun i v h=>by simpa using h⟩⟩
theorem append_spec {d:Nat} {st:DS} {k:ByteArray} {x:Sl} {xs:List Int} (i:Inv st) (hx:Ro R x (b8 xs)) (hl:xs.length≤1099511627776) (hw:Sat R (DiskAt d st::Hs) w):
  Gets Tryz.prog 35 #[.pointer (some ⟨d,0,none⟩),.string k,.slice x.a x.len x.cap] w fun r w'=>r=.int .i64 (appendD st k xs).2∧Sat R (DiskAt d (appendD st k xs).1::Hs) w':=by
 apply call35
 refine new_rule hw fun bd w hw=>new_rule hw fun bn w hw=>new_rule hw fun bb w hw=>?_
 have hw:Sat R (box bb (.slice x.a x.len x.cap) 53::box bn (.string k) 9::box bd (.pointer (some ⟨d,0,none⟩)) 25::DiskAt d st::Hs) w:=hw
 refine ⟨some ⟨d,0,none⟩,At.own (eqS hw) (by exact ⟨rfl,trivial⟩),k,At.own (eqS hw) (by exact ⟨rfl,trivial⟩),new_rule hw fun bt w hw=>?_⟩
 obtain ⟨hc,hw⟩:=Sat.lend.1 hw
 have hw:=hw.take (DiskAt d st)
 refine (change_spec (Q:=fun n w=>n=(appendD st k xs).2∧Sat R (DiskAt d (appendD st k xs).1::Hs) w) hw i.toCounts (ro_one hc) (by simp) ?_ ?_).use ?_
 ·rw [all_one]
  intro h0 w hw
  have e:appendD st k xs=appendG (chg st (nameOk k)).1 k xs:=if_pos h0
  rw [e]
  have hw:Sat (R.add (Heap.one bt (.cells [.string k].toArray 9 (0,0)))) (DiskAt d (chg st (nameOk k)).1::box bd (.pointer (some ⟨d,0,none⟩)) 25::box bb (.slice x.a x.len x.cap) 53::box bn (.string k) 9::Hs) w:=
   hw.cons fun _ h=>(h.take (box bd (.pointer (some ⟨d,0,none⟩)) 25))
  refine (append1_spec (chg_inv i _) hx.add hl hw).use ?_
  rintro _ w ⟨rfl,hw⟩
  refine ⟨_,rfl,rfl,?_⟩
  exact (Sat.lend.2 ⟨hc,hw⟩).drop.cons fun _ h=>h.drop.drop.drop
 ·rw [all_one]
  intro e h0 hne w hw
  have e2:appendD st k xs=chg st (nameOk k):=if_neg (by rw [h0];exact hne)
  rw [e2]
  exact ⟨h0.symm,(Sat.lend.2 ⟨hc,hw⟩).drop.cons fun _ h=>h.drop.drop.drop⟩
 ·rintro _ w ⟨n,rfl,rfl,hw⟩
  exact ⟨_,rfl,rfl,hw⟩
theorem putB_total (k:ByteArray) (xs:List Int) (fs:Fs):total (putB k xs fs)=total fs + xs.length:=by
 have hsome:(getM k (ensure k fs)).isSome=true:=by
  unfold ensure
  split
  ·assumption
  ·rename_i h
   have:getM k fs=none:=by simpa using h
   rw [getM_app this (ba_rfl k)];rfl
 obtain ⟨f,hf⟩:=Option.isSome_iff_exists.1 hsome
 obtain ⟨a,b,e,ha⟩:=getM_split hf
 have h1:=ensure_total k fs
 unfold putB
 rw [e] at h1 ⊢
 rw [total_one] at h1
 rw [updM_app ha,total_one,←h1]
 simp;omega
theorem chg_ok {st:DS} {ok:Bool} (h:(chg st ok).2=0):ok=true:=by
 cases ok
 ·unfold chg at h;simp at h
 ·rfl
theorem names_ensure {k:ByteArray} {fs:Fs} (hk:nameOk k=true) (h:∀ x∈fs.map (·.1),nameOk x=true):∀ x∈(ensure k fs).map (·.1),nameOk x=true:=by
 unfold ensure
 by_cases hc:(getM k fs).isSome=true
 ·rw [if_pos hc];exact h
 ·rw [if_neg hc]
  intro x hx
  rw [List.map_append,List.mem_append] at hx
  rcases hx with hx|hx
  ·exact h x hx
  ·simp at hx;subst hx;exact hk
theorem appendG_inv {st:DS} (i:Inv st) {k:ByteArray} (hk:nameOk k=true) (xs:List Int):Inv (appendG st k xs).1:=by
 unfold appendG
 split
 ·exact i
 ·exact { toCounts:=⟨i.a0,i.a1,i.f0,i.f1⟩,r0:=i.r0,r1:=i.r1,full:=by simp only [putB_total];omega,uni:=uni_upd (uni_ensure i.uni k),names:=by simp only [putB,updM_keys];exact names_ensure hk i.names,sure:=sure_upd (fun f h=>by simp;omega) (sure_ensure i.sure k) }
theorem appendD_inv {st:DS} (i:Inv st) (k:ByteArray) (xs:List Int):Inv (appendD st k xs).1:=by
 unfold appendD doing
 split
 ·rename_i h;exact appendG_inv (chg_inv i _) (chg_ok h) xs
 ·exact chg_inv i _
theorem inv_new {room:Int} (h0:1≤room) (h1:room≤16777216):Inv ⟨room,[],-1,-1,false⟩:=
 { a0:=by simp,a1:=by simp,f0:=by simp,f1:=by simp,r0:=h0,r1:=h1,full:=by show total []≤room;rw [total_nil];omega,uni:=List.nodup_nil,names:=fun _ h=>(by cases h),sure:=fun _ h=>by cases h }
theorem new_ok {room:Int} (h0:1≤room) (h1:room≤16777216) (hw:Sat R Hs w):Gets Tryz.prog 17 #[.int .i64 room] w fun v w'=>
  ∃ d,v=.tuple #[.pointer (some ⟨d,0,none⟩),.int .i64 0]∧Sat R (DiskAt d ⟨room,[],-1,-1,false⟩::Hs) w':=
 Calls.mono (new_spec room hw) fun e w' ⟨v,he,h⟩=>by
  rcases h with ⟨hn,_⟩|⟨_,_,_,d,hv,hw⟩
  ·unfold newErr at hn;rw [if_neg (by omega)] at hn;cases hn
  ·exact ⟨v,he,d,hv,hw⟩
structure FailsAt (n:Int) (i:Nat) (st:DS):Prop where
 inv:Inv st
 room:st.room=10000
 size:total st.fs≤1 + i
 arm:st.arm=-1
 off:st.off=false
 fail:st.fail=if (i:Int)≤n then n - i else -1
end Go.Proofs.YtkfedbncmfnpnaaGreatDoor
/- The disk: Sync, Unlink, Rename, Read. Condition: none. -/
namespace Go.Proofs.YtkfedbncmfnpnaaGreatDoor
set_option linter.unusedVariables false
set_option linter.unusedSimpArgs false
open Go Go.VC
variable {R:Cx} {Hs Rest:List HP} {w:World}
instance TakeP.app {b:Nat} {X Hs:List HP} {o:Obj} {Rest:List HP} [t:TakeP b Hs o Rest]:TakeP b (X++Hs) o (X++Rest):=
 ⟨(t.perm.append_left X).trans List.perm_middle⟩
abbrev bx (bm bn bd d:Nat) (v:Value) (k:ByteArray) (Hs:List HP):List HP:=
 box bm v 123::box bn (.string k) 9::box bd (.pointer (some ⟨d,0,none⟩)) 25::Hs
theorem with_spec {d:Nat} {k:ByteArray} {v:Value} (hv:v.cells=#[v]) (hw:Sat R Hs w):
  Gets Tryz.prog 83 #[.pointer (some ⟨d,0,none⟩),.string k,v] w fun r w'=>∃ bm bn bd,r=.func (.func 123) #[] #[.pointer (some ⟨bd,0,none⟩),.pointer (some ⟨bn,0,none⟩),.pointer (some ⟨bm,0,none⟩)]∧Sat R (bx bm bn bd d v k Hs) w':=by
 apply call83
 refine new_rule hw fun bd w hw=>new_rule hw fun bn w hw=>?_
 rw [hv]
 exact new_rule hw fun bm w hw=>⟨bm,bn,bd,rfl,hw⟩
theorem with1_spec {d bm bn bd:Nat} {st:DS} {k:ByteArray} {v:Value} {Q:Int→World→Prop} (hw:Sat R (DiskAt d st::bx bm bn bd d v k Hs) w)
  (hm:∀ m a q f b w,getM k a=none→er (a++(k,q,f)::b)=st.fs→Sat R (DO d m (a++(k,q,f)::b) st (bx bm bn bd d v k Hs)) w→
   CalW Tryz.prog cl v [.pointer (some ⟨q,0,none⟩)] w (fun e w'=>e=.returned (.tuple #[])∧Q 0 w'))
  (hn:getM k st.fs=none→∀ w,Sat R (DiskAt d st::bx bm bn bd d v k Hs) w→Q 2 w):
  Gets Tryz.prog 123 #[.pointer (some ⟨bd,0,none⟩),.pointer (some ⟨bn,0,none⟩),.pointer (some ⟨bm,0,none⟩)] w fun r w'=>∃ n:Int,r=.int .i64 n∧Q n w':=by
 apply call123
 obtain ⟨m,E,hE,hw⟩:=Sat.disk.1 hw
 refine drw_rule hw fun w hw=>?_
 refine NilP.mk rfl ⟨some ⟨d,0,none⟩,At.own selfS (by exact ⟨rfl,trivial⟩),NilP.mk rfl ⟨some m,At.own selfS (by exact ⟨rfl,trivial⟩),NilP.mk rfl ⟨k,At.own selfS (by exact ⟨rfl,trivial⟩),_,_,fun w' hw'=>DO.look hw' k true,?_⟩⟩⟩
 refine Br.mk (fun hk=>?_) (fun hk=>?_)
 ·simp only [Bool.not_eq_true',Option.isSome_eq_false_iff,Option.isNone_iff_eq_none] at hk
  exact ⟨2,rfl,hn (by rw [←hE,er_get,hk];rfl) w (Sat.disk.2 ⟨m,E,hE,hw⟩)⟩
 ·simp only [Bool.not_eq_false'] at hk
  obtain ⟨⟨q,f⟩,hf⟩:=Option.isSome_iff_exists.1 hk
  obtain ⟨a,b,rfl,ha⟩:=getM_split hf
  rw [hf]
  refine NilP.mk rfl ⟨v,At.own (eqS hw) (by exact ⟨rfl,trivial⟩),(hm m a q f b w ha hE hw).mono ?_⟩
  rintro _ w ⟨rfl,hq⟩
  exact ⟨rfl,0,rfl,hq⟩
theorem one_spec {d:Nat} {st:DS} {k:ByteArray} {v:Value} (g:DS→DS × Int) (i:Inv st) (hv:v.cells=#[v]) (hw:Sat R (DiskAt d st::Hs) w)
  (hm:∀ (R:Cx) (X:List HP) st m a q f b w,Inv st→getM k a=none→er (a++(k,q,f)::b)=st.fs→Sat R (DO d m (a++(k,q,f)::b) st (X++Hs)) w→
   CalW Tryz.prog cl v [.pointer (some ⟨q,0,none⟩)] w (fun e w'=>e=.returned (.tuple #[])∧(g st).2=0∧Sat R (DiskAt d (g st).1::(X++Hs)) w'))
  (hn:∀ st,getM k st.fs=none→g st=(st,2)):
  Gets Tryz.prog 83 #[.pointer (some ⟨d,0,none⟩),.string k,v] w fun c w=>∃ Hs',Sat R (DiskAt d st::Hs') w∧(∀ R w,Sat R Hs' w→Sat R Hs w)∧
   ∀ (R':Cx) (s:Sl) (ks:List ByteArray) w,Sat R' (DiskAt d st::Hs') w→Ro R' s (ks.map Value.string)→ks.length≤1000→
    Gets Tryz.prog 77 #[.pointer (some ⟨d,0,none⟩),c,.slice s.a s.len s.cap] w fun r w'=>r=.int .i64 (doing st (ks.all nameOk) g).2∧Sat R' (DiskAt d (doing st (ks.all nameOk) g).1::Hs') w':=by
 refine (with_spec hv hw).mono ?_
 rintro _ w ⟨bm,bn,bd,rfl,hw⟩
 refine ⟨bx bm bn bd d v k Hs,hw.take (DiskAt d st),fun R w h=>h.drop.drop.drop,fun R' s ks w hw hs hks=>?_⟩
 refine (change_spec (Q:=fun n w=>n=(doing st (ks.all nameOk) g).2∧Sat R' (DiskAt d (doing st (ks.all nameOk) g).1::bx bm bn bd d v k Hs) w) hw i.toCounts hs hks ?_ ?_).mono ?_
 ·intro h0 w hw
  have e:doing st (ks.all nameOk) g=g (chg st (ks.all nameOk)).1:=if_pos h0
  rw [e]
  show Calls Tryz.prog _ _ w _
  refine (with1_spec (Q:=fun n w=>n=(g (chg st (ks.all nameOk)).1).2∧Sat R' (DiskAt d (g (chg st (ks.all nameOk)).1).1::bx bm bn bd d v k Hs) w) hw ?_ ?_).use ?_
  ·intro m a q f b w ha hE hw
   refine (hm R' [box bm v 123,box bn (.string k) 9,box bd (.pointer (some ⟨d,0,none⟩)) 25 ] _ m a q f b w (chg_inv i _) ha hE hw).mono ?_
   rintro _ w ⟨rfl,h1,h2⟩
   exact ⟨rfl,h1.symm,h2⟩
  ·intro hnone w hw
   rw [hn _ hnone];exact ⟨rfl,hw⟩
  ·rintro _ w ⟨n,rfl,hq⟩;exact ⟨n,rfl,hq⟩
 ·intro e h0 hne w hw
  have e2:doing st (ks.all nameOk) g=chg st (ks.all nameOk):=if_neg (by rw [h0];exact hne)
  rw [e2];exact ⟨h0.symm,hw⟩
 ·rintro _ w ⟨n,rfl,rfl,hw⟩;exact ⟨rfl,hw⟩
end Go.Proofs.YtkfedbncmfnpnaaGreatDoor
/- The disk: Sync, Unlink, Rename. Condition: none. -/
namespace Go.Proofs.YtkfedbncmfnpnaaGreatDoor
set_option linter.unusedVariables false
set_option linter.unusedSimpArgs false
open Go Go.VC
variable {R:Cx} {Hs Rest:List HP} {w:World}
theorem updM_total {k:ByteArray} {g:Fl→Fl} (hg:∀ f,(g f).b.length=f.b.length):∀ fs:Fs,total (updM k g fs)=total fs
 |[]=>rfl
 |e::fs=>by
  rw [updM]
  split
  ·rw [total_cons,total_cons,hg]
  ·rw [total_cons,total_cons,updM_total hg fs]
theorem delM_total (k:ByteArray):∀ fs:Fs,total (delM k fs)≤total fs
 |[]=>Int.le_refl _
 |e::fs=>by
  rw [delM]
  split
  ·rw [total_cons];omega
  ·rw [total_cons,total_cons];have:=delM_total k fs;omega
def syncG (k:ByteArray) (st:DS):DS × Int:=if (getM k st.fs).isSome then ({ st with fs:=updM k (fun f=>{ f with sure:=f.b.length }) st.fs },0) else (st,2)
def syncD (st:DS) (k:ByteArray):DS × Int:=doing st (nameOk k) (syncG k)
theorem sync1_spec {d m q:Nat} {st:DS} {a b:List DE} {k:ByteArray} {f:Fl} (ha:getM k a=none) (hE:er (a++(k,q,f)::b)=st.fs) (hw:Sat R (DO d m (a++(k,q,f)::b) st Hs) w):
  Gets Tryz.prog 84 #[.pointer (some ⟨q,0,none⟩)] w fun r w'=>r=.tuple #[]∧(syncG k st).2=0∧Sat R (DiskAt d (syncG k st).1::Hs) w':=by
 have hk:getM k st.fs=some f:=by rw [←hE,er_app,er_cons,getM_app (by rw [er_get,ha];rfl) (ba_rfl k)]
 have e:syncG k st=({ st with fs:=updM k (fun f=>{ f with sure:=f.b.length }) st.fs },0):=if_pos (by rw [hk];rfl)
 rw [e]
 have hw:Sat R (FilesAt (a++(k,q,f)::b)::pts d (dCells st m)::MapAt m (ptrs (a++(k,q,f)::b))::Hs) w:=(hw.cons fun _ h=>h.swap).swap
 obtain ⟨s,hw⟩:=Sat.file.1 (Sat.split.1 hw)
 apply call84
 have hlen:s.len=f.b.length:=by have:=Own.len hw.swap;rwa [List.length_map] at this
 refine NilP.mk rfl ⟨s,by rw [add_off];exact At.own (eqS hw) (by exact ⟨rfl,trivial⟩),NilP.mk rfl ?_⟩
 refine store_rule hw (by kernel_rfl) rfl (by simp [Value.cells]) fun w hw=>⟨rfl,rfl,?_⟩
 have hw:Sat R (pts q (.cells [.slice s.a s.len s.cap,.int .i64 (f.b.length:Nat)].toArray 106 (0,0))::Own s 5 (b8 f.b)::FilesAt (a++b)::pts d (dCells st m)::MapAt m (ptrs (a++(k,q,f)::b))::Hs) w:=by
  rw [←hlen];exact hw
 have hw:Sat R (FilesAt (a++(k,q,{ f with sure:=f.b.length })::b)::pts d (dCells st m)::MapAt m (ptrs (a++(k,q,f)::b))::Hs) w:=Sat.split.2 (Sat.file.2 ⟨s,hw⟩)
 refine Sat.disk.2 ⟨m,a++(k,q,{ f with sure:=f.b.length })::b,?_,?_⟩
 ·rw [←hE,er_app,er_cons,er_app,er_cons,updM_app]
  rw [er_get,ha];rfl
 ·have ep:ptrs (a++(k,q,{ f with sure:=f.b.length })::b)=ptrs (a++(k,q,f)::b):=by simp [ptrs]
  rw [ep]
  unfold dCells
  simp only [updM_total (g:=fun f=>{ f with sure:=f.b.length }) (fun _=>rfl)]
  exact hw.swap.cons fun _ h=>h.swap
theorem sync_spec {d:Nat} {st:DS} {k:ByteArray} (i:Inv st) (hw:Sat R (DiskAt d st::Hs) w):
  Gets Tryz.prog 37 #[.pointer (some ⟨d,0,none⟩),.string k] w fun r w'=>r=.int .i64 (syncD st k).2∧Sat R (DiskAt d (syncD st k).1::Hs) w':=by
 apply call37
 refine (one_spec (v:=.func (.func 84) #[] #[]) (syncG k) i rfl hw ?_ ?_).use ?_
 ·intro R X st m a q f b w _ ha hE hw
  show Calls Tryz.prog _ _ w _
  refine (sync1_spec ha hE hw).use ?_
  rintro _ w ⟨rfl,h⟩;exact ⟨rfl,h⟩
 ·intro st h;unfold syncG;rw [h];rfl
 ·rintro c w ⟨Hs',hw,back,k2⟩
  refine ⟨c,rfl,new_rule hw fun bt w hw=>?_⟩
  obtain ⟨hc,hw⟩:=Sat.lend.1 hw
  refine (k2 _ _ [k] w hw (ro_one hc) (by simp)).use ?_
  rw [all_one]
  rintro _ w ⟨rfl,hw⟩
  exact ⟨_,rfl,rfl,(Sat.lend.2 ⟨hc,hw⟩).drop.cons fun _ h=>back _ _ h⟩
theorem sync_inv {st:DS} (i:Inv st) (k:ByteArray):Inv (syncD st k).1:=by
 have hg:∀ {st},Inv st→Inv (syncG k st).1:=fun {st} i=>by
  unfold syncG
  split
  ·exact { toCounts:=⟨i.a0,i.a1,i.f0,i.f1⟩,r0:=i.r0,r1:=i.r1,full:=by simp only;rw [updM_total (g:=fun f=>{ f with sure:=f.b.length }) (fun _=>rfl)];exact i.full,uni:=uni_upd i.uni,names:=by simp only [updM_keys];exact i.names,sure:=sure_upd (fun f _=>Nat.le_refl _) i.sure }
  ·exact i
 unfold syncD doing
 split
 ·exact hg (chg_inv i _)
 ·exact chg_inv i _
theorem gone_spec {d:Nat} {st:DS} (i:Inv st) (k:ByteArray) (hw:Sat R (DiskAt d st::Hs) w):
  Gets Tryz.prog 142 #[.pointer (some ⟨d,0,none⟩),.string k] w fun r w'=>r=.tuple #[]∧Sat R (DiskAt d { st with fs:=delM k st.fs }::Hs) w':=by
 obtain ⟨m,E,hE,hw⟩:=Sat.disk.1 hw
 have hnn:=total_nn st.fs
 have r1:=i.r1;have hfull:=i.full
 apply call142
 refine NilP.mk rfl ⟨some m,At.own (eqS hw) (by exact ⟨rfl,trivial⟩),_,_,fun w' hw'=>DO.look (eqS hw _ hw') k true,?_⟩
 refine Br.mk (fun hk=>?_) (fun hk=>?_)
 ·obtain ⟨⟨q,f⟩,hf⟩:=Option.isSome_iff_exists.1 hk
  obtain ⟨a,b,rfl,ha⟩:=getM_split hf
  rw [hf]
  have ht:total st.fs=total (er a++er b) + f.b.length:=by rw [←hE,er_app,er_cons,total_one]
  have hnn2:=total_nn (er a++er b)
  have hw:Sat R (FilesAt (a++(k,q,f)::b)::pts d (dCells st m)::MapAt m (ptrs (a++(k,q,f)::b))::Hs) w:=(hw.cons fun _ h=>h.swap).swap
  obtain ⟨s,hw⟩:=Sat.file.1 (Sat.split.1 hw)
  have hlen:s.len=f.b.length:=by have:=Own.len hw.swap;rwa [List.length_map] at this
  refine drw_rule hw fun w hw=>?_
  refine NilP.mk rfl ⟨total st.fs,At.own selfS (by exact ⟨rfl,trivial⟩),NilP.mk rfl ⟨s,by rw [add_off];exact At.own selfS (by exact ⟨rfl,trivial⟩),NilP.mk rfl ?_⟩⟩
  rw [wrap64 (by omega) (by omega)]
  refine store_rule hw (by kernel_rfl) rfl (by simp [Value.cells]) fun w hw=>NilP.mk rfl ⟨some m,At.own (eqS hw) (by exact ⟨rfl,trivial⟩),?_⟩
  refine MapAt.del mapT (hw.take (MapAt m (ptrs (a++(k,q,f)::b)))) k fun w hw=>⟨rfl,?_⟩
  have ep:delM k (ptrs (a++(k,q,f)::b))=ptrs (a++b):=by
   rw [ptrs_app,show ptrs ((k,q,f)::b)=(k,Value.pointer (some ⟨q,0,none⟩))::ptrs b from rfl,delM_app (by rw [ptrs_get,ha];rfl) (ba_rfl k),←ptrs_app]
  have ef:delM k st.fs=er (a++b):=by rw [←hE,er_app,er_cons,delM_app (by rw [er_get,ha];rfl) (ba_rfl k),←er_app]
  rw [ep] at hw
  refine Sat.disk.2 ⟨m,a++b,ef.symm,?_⟩
  unfold dCells
  simp only [ef,er_app]
  have e3:total st.fs - (s.len:Int)=total (er a++er b):=by omega
  rw [e3] at hw
  exact hw.swap.cons fun _ h=>h.cons fun _ h=>h.drop.drop
 ·simp only [Option.isSome_eq_false_iff,Option.isNone_iff_eq_none] at hk
  have e:delM k st.fs=st.fs:=by
   have hk2:getM k st.fs=none:=by rw [←hE,er_get,hk];rfl
   have:∀ l:Fs,getM k l=none→delM k l=l:=fun l=>by
    induction l with
    |nil=>intro _;rfl
    |cons e l ih=>
     intro h
     rw [getM] at h
     split at h
     ·cases h
     ·rename_i hne;rw [delM,if_neg hne,ih h]
   exact this _ hk2
  refine ⟨rfl,?_⟩
  rw [e];exact Sat.disk.2 ⟨m,E,hE,hw⟩
end Go.Proofs.YtkfedbncmfnpnaaGreatDoor
/- The disk: Unlink, Rename. Condition: none. -/
namespace Go.Proofs.YtkfedbncmfnpnaaGreatDoor
set_option linter.unusedVariables false
set_option linter.unusedSimpArgs false
open Go Go.VC
variable {R:Cx} {Hs Rest:List HP} {w:World}
theorem delM_sub {β:Type} (k:ByteArray):∀ l:List (ByteArray × β),(delM k l).Sublist l
 |[]=>List.Sublist.refl _
 |x::l=>by
  rw [delM];split
  ·exact List.sublist_cons_self _ _
  ·exact (delM_sub k l).cons_cons _
theorem uni_del {fs:Fs} (h:Uni fs) (k:ByteArray):Uni (delM k fs):=((delM_sub k fs).map _).nodup h
theorem sure_del {fs:Fs} (h:SureOk fs) (k:ByteArray):SureOk (delM k fs):=fun e he=>h e ((delM_sub k fs).subset he)
def unlinkG (k:ByteArray) (st:DS):DS × Int:=if (getM k st.fs).isSome then ({ st with fs:=delM k st.fs },0) else (st,2)
def unlinkD (st:DS) (k:ByteArray):DS × Int:=doing st (nameOk k) (unlinkG k)
theorem del_inv {st:DS} (i:Inv st) (k:ByteArray):Inv { st with fs:=delM k st.fs }:=
 { toCounts:=⟨i.a0,i.a1,i.f0,i.f1⟩,r0:=i.r0,r1:=i.r1,full:=by have:=delM_total k st.fs;have:=i.full;simp only;omega,uni:=uni_del i.uni k,names:=fun x hx=>i.names x (((delM_sub k st.fs).map _).subset hx),sure:=sure_del i.sure k }
theorem unlink_inv {st:DS} (i:Inv st) (k:ByteArray):Inv (unlinkD st k).1:=by
 unfold unlinkD doing
 split
 ·unfold unlinkG
  split
  ·exact del_inv (chg_inv i _) k
  ·exact chg_inv i _
 ·exact chg_inv i _
theorem DO.shut {d m:Nat} {E:List DE} {st:DS} (hE:er E=st.fs) (hw:Sat R (DO d m E st Hs) w):Sat R (DiskAt d st::Hs) w:=Sat.disk.2 ⟨m,E,hE,hw⟩
theorem unlink1_spec {d m q bd bn:Nat} {st:DS} {a b:List DE} {k:ByteArray} {f:Fl} (i:Inv st) (ha:getM k a=none) (hE:er (a++(k,q,f)::b)=st.fs) (hw:Sat R (DO d m (a++(k,q,f)::b) st Hs) w)
  {Rest1 Rest2:List HP} {T1 T2:TypeId} [t1:TakeP bd Hs (.cells [.pointer (some ⟨d,0,none⟩)].toArray T1 (0,0)) Rest1] [t2:TakeP bn Hs (.cells [.string k].toArray T2 (0,0)) Rest2]:
  Gets Tryz.prog 141 #[.pointer (some ⟨q,0,none⟩),.pointer (some ⟨bd,0,none⟩),.pointer (some ⟨bn,0,none⟩)] w fun r w'=>r=.tuple #[]∧(unlinkG k st).2=0∧Sat R (DiskAt d (unlinkG k st).1::Hs) w':=by
 have hk:getM k st.fs=some f:=by rw [←hE,er_app,er_cons,getM_app (by rw [er_get,ha];rfl) (ba_rfl k)]
 have e:unlinkG k st=({ st with fs:=delM k st.fs },0):=if_pos (by rw [hk];rfl)
 rw [e]
 have hw:=DO.shut hE hw
 apply call141
 refine NilP.mk rfl ⟨some ⟨d,0,none⟩,At.own (eqS hw) (by exact ⟨rfl,trivial⟩),NilP.mk rfl ⟨k,At.own (eqS hw) (by exact ⟨rfl,trivial⟩),?_⟩⟩
 refine (gone_spec i k hw).use ?_
 rintro _ w ⟨rfl,hw⟩
 exact ⟨rfl,rfl,rfl,hw⟩
theorem Sat.toTru:∀ {As:List HP} {R:Cx} {w:World},Sat R (As++Hs) w→Sat R (As++[VC.tru]) w
 |[],R,w,h=>by
  have:∀ {Hs:List HP} {R:Cx},Sat R (VC.tru::Hs) w→Sat R [VC.tru] w:=fun {Hs}=>by
   induction Hs with
   |nil=>exact fun h=>h
   |cons H Hs ih=>exact fun h=>ih h.swap.absorb
  exact this h.tru
 |A::As,R,w,h=>h.cons fun _ h=>Sat.toTru (As:=As) h
theorem unlink_spec {d:Nat} {st:DS} {k:ByteArray} (i:Inv st) (hw:Sat R (DiskAt d st::Hs) w):
  Gets Tryz.prog 104 #[.pointer (some ⟨d,0,none⟩),.string k] w fun r w'=>r=.int .i64 (unlinkD st k).2∧Sat R (DiskAt d (unlinkD st k).1::Hs) w':=by
 apply call104
 refine new_rule hw fun bd w hw=>new_rule hw fun bn w hw=>?_
 have hw:Sat R (DiskAt d st::box bd (.pointer (some ⟨d,0,none⟩)) 25::box bn (.string k) 9::Hs) w:=
  (hw.take (DiskAt d st)).cons fun _ h=>h.swap
 have toS:∀ {w},Sat R (box bd (.pointer (some ⟨d,0,none⟩)) 25::box bn (.string k) 9::Hs) w→Sat R (box bd (.pointer (some ⟨d,0,none⟩)) 25::box bn (.string k) 9::VC.tru::[]) w:=fun h=>
  Sat.toTru (As:=[_,_]) h
 have hm:∀ (R:Cx) (X:List HP) st m a q f b w,Inv st→getM k a=none→er (a++(k,q,f)::b)=st.fs→Sat R (DO d m (a++(k,q,f)::b) st (X++(box bd (.pointer (some ⟨d,0,none⟩)) 25::box bn (.string k) 9::Hs))) w→
   CalW Tryz.prog cl (.func (.func 141) #[] #[.pointer (some ⟨bd,0,none⟩),.pointer (some ⟨bn,0,none⟩)]) [.pointer (some ⟨q,0,none⟩)] w (fun e w'=>e=.returned (.tuple #[])∧(unlinkG k st).2=0∧Sat R (DiskAt d (unlinkG k st).1::(X++(box bd (.pointer (some ⟨d,0,none⟩)) 25::box bn (.string k) 9::Hs))) w'):=by
  intro R X st m a q f b w i ha hE hw
  show Calls Tryz.prog _ _ w _
  refine (unlink1_spec i ha hE hw).use ?_
  rintro _ w ⟨rfl,h⟩;exact ⟨rfl,h⟩
 have hn:∀ st,getM k st.fs=none→unlinkG k st=(st,2):=by intro st h;unfold unlinkG;rw [h];rfl
 refine drw_rule' (fun w=>Sat R (box bd (.pointer (some ⟨d,0,none⟩)) 25::box bn (.string k) 9::tru::[]) w) hw (fun w h=>toS h.drop) fun w hw=>?_
 refine ⟨_,At.own selfS (by exact ⟨rfl,trivial⟩),_,At.own selfS (by exact ⟨rfl,trivial⟩),_,At.own selfS (by exact ⟨rfl,trivial⟩),_,At.own selfS (by exact ⟨rfl,trivial⟩),?_,?_⟩
 ·refine (one_spec (unlinkG k) i rfl hw hm hn).use ?_
  rintro c w ⟨Hs',hw,back,k2⟩
  refine ⟨c,rfl,toS (back _ _ hw.drop),new_rule hw fun bt w hw=>?_⟩
  obtain ⟨hc,hwl⟩:=Sat.lend.1 hw
  refine ⟨toS (back _ _ hw.drop.drop),(k2 _ _ [k] w hwl (ro_one hc) (by simp)).use ?_⟩
  rw [all_one]
  rintro _ w ⟨rfl,hw⟩
  have hw:=(Sat.lend.2 ⟨hc,hw⟩).drop
  exact ⟨_,rfl,toS (back _ _ hw.drop),rfl,hw.cons fun _ h=>(back _ _ h).drop.drop⟩
 ·refine new_rule hw fun bt w hw=>?_
  obtain ⟨hc,hwl⟩:=Sat.lend.1 hw
  refine ⟨toS hw.drop.drop,?_⟩
  refine (one_spec (unlinkG k) i rfl hwl hm hn).use ?_
  rintro c w ⟨Hs',hw,back,k2⟩
  refine ⟨c,rfl,toS (back _ _ (Sat.lend.2 ⟨hc,hw⟩).drop.drop),(k2 _ _ [k] w hw (ro_one hc) (by simp)).use ?_⟩
  rw [all_one]
  rintro _ w ⟨rfl,hw⟩
  have hw:=(Sat.lend.2 ⟨hc,hw⟩).drop
  exact ⟨_,rfl,toS (back _ _ hw.drop),rfl,hw.cons fun _ h=>(back _ _ h).drop.drop⟩
end Go.Proofs.YtkfedbncmfnpnaaGreatDoor
/- The disk: Rename. Condition: none. -/
namespace Go.Proofs.YtkfedbncmfnpnaaGreatDoor
set_option linter.unusedVariables false
set_option linter.unusedSimpArgs false
open Go Go.VC
variable {R:Cx} {Hs Rest:List HP} {w:World}
theorem delM_map {β γ:Type} (g:β→γ) (k:ByteArray):∀ l:List (ByteArray × β),(delM k l).map (fun e=>(e.1,g e.2))=delM k (l.map fun e=>(e.1,g e.2))
 |[]=>rfl
 |e::l=>by
  rw [delM,List.map_cons,delM]
  split
  ·rfl
  ·rw [List.map_cons,delM_map g k l]
theorem delM_none {β:Type} {k:ByteArray}:∀ {l:List (ByteArray × β)},getM k l=none→delM k l=l
 |[],_=>rfl
 |e::l,h=>by
  rw [getM] at h
  split at h
  ·cases h
  ·rename_i hne;rw [delM,if_neg hne,delM_none h]
theorem getM_del_ne {β:Type} {k k2:ByteArray} (hne:k≠k2):∀ {l:List (ByteArray × β)},getM k (delM k2 l)=getM k l
 |[]=>rfl
 |e::l=>by
  rw [delM]
  split
  ·rename_i h
   have:=(MapKept.bytes_beq _ _).1 h
   rw [getM,←this,if_neg (by rw [ba_ne hne];simp)]
  ·rw [getM,getM,getM_del_ne hne]
theorem er_del (k:ByteArray) (E:List DE):er (delM k E)=delM k (er E):=delM_map (fun x:Nat × Fl=>x.2) k E
theorem ptrs_del (k:ByteArray) (E:List DE):ptrs (delM k E)=delM k (ptrs E):=delM_map (fun x:Nat × Fl=>Value.pointer (some ⟨x.1,0,none⟩)) k E
theorem gone_open {d m:Nat} {E:List DE} {st:DS} (i:Inv st) (k:ByteArray) (hE:er E=st.fs) (hw:Sat R (DO d m E st Hs) w):
  Gets Tryz.prog 142 #[.pointer (some ⟨d,0,none⟩),.string k] w fun r w'=>r=.tuple #[]∧Sat R (DO d m (delM k E) { st with fs:=delM k st.fs } Hs) w':=by
 have hnn:=total_nn st.fs
 have r1:=i.r1;have hfull:=i.full
 apply call142
 refine NilP.mk rfl ⟨some m,At.own (eqS hw) (by exact ⟨rfl,trivial⟩),_,_,fun w' hw'=>DO.look (eqS hw _ hw') k true,?_⟩
 refine Br.mk (fun hk=>?_) (fun hk=>?_)
 ·obtain ⟨⟨q,f⟩,hf⟩:=Option.isSome_iff_exists.1 hk
  obtain ⟨a,b,rfl,ha⟩:=getM_split hf
  rw [hf]
  have ht:total st.fs=total (er a++er b) + f.b.length:=by rw [←hE,er_app,er_cons,total_one]
  have hnn2:=total_nn (er a++er b)
  have hw:Sat R (FilesAt (a++(k,q,f)::b)::pts d (dCells st m)::MapAt m (ptrs (a++(k,q,f)::b))::Hs) w:=(hw.cons fun _ h=>h.swap).swap
  obtain ⟨s,hw⟩:=Sat.file.1 (Sat.split.1 hw)
  have hlen:s.len=f.b.length:=by have:=Own.len hw.swap;rwa [List.length_map] at this
  refine drw_rule hw fun w hw=>?_
  refine NilP.mk rfl ⟨total st.fs,At.own selfS (by exact ⟨rfl,trivial⟩),NilP.mk rfl ⟨s,by rw [add_off];exact At.own selfS (by exact ⟨rfl,trivial⟩),NilP.mk rfl ?_⟩⟩
  rw [wrap64 (by omega) (by omega)]
  refine store_rule hw (by kernel_rfl) rfl (by simp [Value.cells]) fun w hw=>NilP.mk rfl ⟨some m,At.own (eqS hw) (by exact ⟨rfl,trivial⟩),?_⟩
  refine MapAt.del mapT (hw.take (MapAt m (ptrs (a++(k,q,f)::b)))) k fun w hw=>⟨rfl,?_⟩
  have ep:delM k (ptrs (a++(k,q,f)::b))=ptrs (a++b):=by
   rw [ptrs_app,show ptrs ((k,q,f)::b)=(k,Value.pointer (some ⟨q,0,none⟩))::ptrs b from rfl,delM_app (by rw [ptrs_get,ha];rfl) (ba_rfl k),←ptrs_app]
  have eE:delM k (a++(k,q,f)::b)=a++b:=delM_app ha (ba_rfl k)
  have ef:delM k st.fs=er (a++b):=by rw [←hE,←er_del,eE]
  rw [ep] at hw
  rw [eE]
  unfold DO dCells
  simp only [ef,er_app]
  have e3:total st.fs - (s.len:Int)=total (er a++er b):=by omega
  rw [e3] at hw
  exact hw.swap.cons fun _ h=>h.cons fun _ h=>h.drop.drop
 ·simp only [Option.isSome_eq_false_iff,Option.isNone_iff_eq_none] at hk
  rw [delM_none hk,delM_none (by rw [←hE,er_get,hk];rfl)]
  exact ⟨rfl,hw⟩
def renameG (k to:ByteArray) (st:DS):DS × Int:=
 match getM k st.fs with
 |some f=>if k=to then (st,0) else ({ st with fs:=delM k (delM to st.fs)++[(to,f)] },0)
 |none=>(st,2)
def renameD (st:DS) (k to:ByteArray):DS × Int:=doing st (nameOk k && nameOk to) (renameG k to)
theorem getM_del_self {β:Type} (k:ByteArray):∀ {l:List (ByteArray × β)},(l.map (·.1)).Nodup→getM k (delM k l)=none
 |[],_=>rfl
 |e::l,h=>by
  rw [List.map_cons,List.nodup_cons] at h
  rw [delM]
  split
  ·rename_i hk
   have e1:=(MapKept.bytes_beq _ _).1 hk
   exact getM_of_notin (by rw [e1];exact h.1)
  ·rename_i hk
   rw [getM,if_neg hk,getM_del_self k h.2]
theorem total_get {k:ByteArray} {f:Fl}:∀ {fs:Fs},getM k fs=some f→total fs=total (delM k fs) + f.b.length
 |fs,h=>by
  obtain ⟨a,b,rfl,ha⟩:=getM_split h
  rw [delM_app ha (ba_rfl k),total_one]
theorem rename1_spec {d m q bd bn bt:Nat} {st:DS} {a b:List DE} {k to:ByteArray} {f:Fl} (i:Inv st) (ha:getM k a=none) (hE:er (a++(k,q,f)::b)=st.fs) (hw:Sat R (DO d m (a++(k,q,f)::b) st Hs) w)
  {Rest1 Rest2 Rest3:List HP} {T1 T2 T3:TypeId} [t1:TakeP bd Hs (.cells [.pointer (some ⟨d,0,none⟩)].toArray T1 (0,0)) Rest1] [t2:TakeP bn Hs (.cells [.string k].toArray T2 (0,0)) Rest2] [t3:TakeP bt Hs (.cells [.string to].toArray T3 (0,0)) Rest3]:
  Gets Tryz.prog 172 #[.pointer (some ⟨q,0,none⟩),.pointer (some ⟨bn,0,none⟩),.pointer (some ⟨bt,0,none⟩),.pointer (some ⟨bd,0,none⟩)] w fun r w'=>r=.tuple #[]∧(renameG k to st).2=0∧Sat R (DiskAt d (renameG k to st).1::Hs) w':=by
 have hk0:getM k (a++(k,q,f)::b)=some (q,f):=getM_app ha (ba_rfl k)
 have hk:getM k st.fs=some f:=by rw [←hE,er_get,hk0];rfl
 apply call172
 refine NilP.mk rfl ⟨k,At.own (eqS hw) (by exact ⟨rfl,trivial⟩),NilP.mk rfl ⟨to,At.own (eqS hw) (by exact ⟨rfl,trivial⟩),?_⟩⟩
 have hto:(k.toList==to.toList)=decide (k=to):=by
  rw [ByteArray.toList_eq,ByteArray.toList_eq]
  by_cases h:k=to
  ·simp [h]
  ·have:k.data≠to.data:=fun h2=>h (by cases k;cases to;simp_all)
   simp [h,this]
 rw [hto]
 refine Br.mk (fun h=>?_) (fun h=>?_)<;>simp only [decide_eq_true_eq,decide_eq_false_iff_not] at h
 ·have e:renameG k to st=(st,0):=by unfold renameG;rw [hk];exact if_pos h
  rw [e]
  exact ⟨rfl,rfl,DO.shut hE hw⟩
 have e:renameG k to st=({ st with fs:=delM k (delM to st.fs)++[(to,f)] },0):=by unfold renameG;rw [hk];exact if_neg h
 rw [e]
 refine NilP.mk rfl ⟨_,At.own (eqS hw) (by exact ⟨rfl,trivial⟩),NilP.mk rfl ⟨_,At.own (eqS hw) (by exact ⟨rfl,trivial⟩),?_⟩⟩
 refine (gone_open i to hE hw).use ?_
 rintro _ w ⟨rfl,hw⟩
 refine ⟨rfl,?_⟩
 generalize hEe:delM to (a++(k,q,f)::b)=E1 at hw
 have hk1:getM k E1=some (q,f):=by rw [←hEe,getM_del_ne h,hk0]
 have hE1:er E1=delM to st.fs:=by rw [←hEe,er_del,hE]
 have hu1:(E1.map (·.1)).Nodup:=by
  rw [←hEe]
  have hu:((a++(k,q,f)::b).map (·.1)).Nodup:=by
   have:(a++(k,q,f)::b).map (·.1)=st.fs.map (·.1):=by rw [←hE];simp [er,Function.comp_def]
   rw [this];exact i.uni
  exact ((delM_sub to _).map _).nodup hu
 have htonone:getM to E1=none:=by
  rw [←hEe]
  refine getM_del_self to ?_
  have:(a++(k,q,f)::b).map (·.1)=st.fs.map (·.1):=by rw [←hE];simp [er,Function.comp_def]
  rw [this];exact i.uni
 obtain ⟨a1,b1,rfl,ha1⟩:=getM_split hk1
 have hdel:delM k (a1++(k,q,f)::b1)=a1++b1:=delM_app ha1 (ba_rfl k)
 refine drw_rule' (fun w=>Sat R (pts d (dCells { st with fs:=delM to st.fs } m)::FilesAt (a1++(k,q,f)::b1)::Hs) w) hw (fun w h=>h.swap.drop) fun w hw=>?_
 refine NilP.mk rfl ⟨some ⟨d,0,none⟩,At.own selfS (by exact ⟨rfl,trivial⟩),NilP.mk rfl ⟨some m,At.own selfS (by exact ⟨rfl,trivial⟩),NilP.mk rfl ⟨k,At.own selfS (by exact ⟨rfl,trivial⟩),?_⟩⟩⟩
 have ep:delM k (ptrs (a1++(k,q,f)::b1))=ptrs (a1++b1):=by rw [←ptrs_del,hdel]
 refine MapAt.del mapT (hw.take (MapAt m (ptrs (a1++(k,q,f)::b1)))) k fun w hw=>?_
 rw [ep] at hw
 refine ⟨hw.drop,drw_rule hw fun w hw=>?_⟩
 refine NilP.mk rfl ⟨some ⟨d,0,none⟩,At.own selfS (by exact ⟨rfl,trivial⟩),NilP.mk rfl ⟨some m,At.own selfS (by exact ⟨rfl,trivial⟩),NilP.mk rfl ⟨to,At.own selfS (by exact ⟨rfl,trivial⟩),?_⟩⟩⟩
 refine MapAt.put mapT hw to (.pointer (some ⟨q,0,none⟩)) fun w hw=>⟨rfl,rfl,?_⟩
 have hno:getM to (a1++b1)=none:=by rw [←hdel,getM_del_ne (fun h2=>h h2.symm)];exact htonone
 have ep2:putM to (.pointer (some ⟨q,0,none⟩)) (ptrs (a1++b1))=ptrs (a1++b1++[(to,q,f)]):=by
  unfold putM;rw [ptrs_get,hno];simp [ptrs]
 rw [ep2] at hw
 have ef:delM k (delM to st.fs)++[(to,f)]=er (a1++b1++[(to,q,f)]):=by
  rw [er_app,←hdel,er_del,hE1];rfl
 have ht:total (delM k (delM to st.fs)++[(to,f)])=total (delM to st.fs):=by
  have hg:getM k (delM to st.fs)=some f:=by rw [←hE1,er_get,hk1];rfl
  rw [total_get hg,total_app];simp [total_cons,total_nil]
 refine Sat.disk.2 ⟨m,a1++b1++[(to,q,f)],ef.symm,?_⟩
 unfold dCells
 simp only [ht]
 refine hw.swap.cons fun _ h=>h.cons fun _ h=>?_
 have h2:=Sat.split.1 h
 have h3:Sat _ (FilesAt ((a1++b1)++(to,q,f)::[])::Hs) w:=Sat.split.2 (by simpa using h2)
 simpa using h3
theorem renameG_inv {st:DS} {k to:ByteArray} (i:Inv st) (hto:nameOk to=true):Inv (renameG k to st).1:=by
 unfold renameG
 split
 ·rename_i f hf
  split
  ·exact i
  ·rename_i hne
   have hg:getM k (delM to st.fs)=some f:=by rw [getM_del_ne hne];exact hf
   have hno:getM to (delM k (delM to st.fs))=none:=by rw [getM_del_ne (fun h2=>hne h2.symm)];exact getM_del_self to i.uni
   have hfm:f.sure≤f.b.length:=by
    obtain ⟨a,b,e,_⟩:=getM_split hf
    exact i.sure (k,f) (by rw [e];simp)
   refine { toCounts:=⟨i.a0,i.a1,i.f0,i.f1⟩,r0:=i.r0,r1:=i.r1,full:=?_,uni:=uni_app (uni_del (uni_del i.uni to) k) hno,names:=?_,sure:=sure_app (sure_del (sure_del i.sure to) k) hfm }
   all_goals (have:=total_get hg)
   all_goals (have h2:=delM_total to st.fs)
   all_goals (have:=i.full)
   ·simp only [total_app,total_cons,total_nil]
    omega
   ·intro x hx
    simp only [List.map_append,List.mem_append] at hx
    rcases hx with hx|hx
    ·exact i.names x ((((delM_sub k _).trans (delM_sub to st.fs)).map _).subset hx)
    ·simp at hx;subst hx;exact hto
 ·exact i
theorem rename_inv {st:DS} (i:Inv st) (k to:ByteArray):Inv (renameD st k to).1:=by
 unfold renameD doing
 split
 ·rename_i h;have h2:=chg_ok h;simp only [Bool.and_eq_true] at h2;exact renameG_inv (chg_inv i _) h2.2
 ·exact chg_inv i _
theorem rename_spec {d:Nat} {st:DS} {k to:ByteArray} (i:Inv st) (hw:Sat R (DiskAt d st::Hs) w):
  Gets Tryz.prog 130 #[.pointer (some ⟨d,0,none⟩),.string k,.string to] w fun r w'=>r=.int .i64 (renameD st k to).2∧Sat R (DiskAt d (renameD st k to).1::Hs) w':=by
 apply call130
 refine new_rule hw fun bd w hw=>new_rule hw fun bn w hw=>new_rule hw fun bto w hw=>?_
 have hw:Sat R (DiskAt d st::box bd (.pointer (some ⟨d,0,none⟩)) 25::box bn (.string k) 9::box bto (.string to) 9::Hs) w:=
  (hw.take (DiskAt d st)).cons fun _ h=>(h.take (box bd (.pointer (some ⟨d,0,none⟩)) 25)).cons fun _ h=>h.swap
 have toS:∀ {w},Sat R (box bd (.pointer (some ⟨d,0,none⟩)) 25::box bn (.string k) 9::box bto (.string to) 9::Hs) w→Sat R (box bd (.pointer (some ⟨d,0,none⟩)) 25::box bn (.string k) 9::box bto (.string to) 9::VC.tru::[]) w:=fun h=>
  Sat.toTru (As:=[_,_,_]) h
 have hm:∀ (R:Cx) (X:List HP) st m a q f b w,Inv st→getM k a=none→er (a++(k,q,f)::b)=st.fs→Sat R (DO d m (a++(k,q,f)::b) st (X++(box bd (.pointer (some ⟨d,0,none⟩)) 25::box bn (.string k) 9::box bto (.string to) 9::Hs))) w→
   CalW Tryz.prog cl (.func (.func 172) #[] #[.pointer (some ⟨bn,0,none⟩),.pointer (some ⟨bto,0,none⟩),.pointer (some ⟨bd,0,none⟩)]) [.pointer (some ⟨q,0,none⟩)] w (fun e w'=>e=.returned (.tuple #[])∧(renameG k to st).2=0∧Sat R (DiskAt d (renameG k to st).1::(X++(box bd (.pointer (some ⟨d,0,none⟩)) 25::box bn (.string k) 9::box bto (.string to) 9::Hs))) w'):=by
  intro R X st m a q f b w i ha hE hw
  show Calls Tryz.prog _ _ w _
  refine (rename1_spec i ha hE hw).use ?_
  rintro _ w ⟨rfl,h⟩;exact ⟨rfl,h⟩
 have hn:∀ st,getM k st.fs=none→renameG k to st=(st,2):=by intro st h;unfold renameG;rw [h]
 have all2:[k,to].all nameOk=(nameOk k && nameOk to):=by simp
 refine drw_rule' (fun w=>Sat R (box bd (.pointer (some ⟨d,0,none⟩)) 25::box bn (.string k) 9::box bto (.string to) 9::tru::[]) w) hw (fun w h=>toS h.drop) fun w hw=>?_
 refine ⟨_,At.own selfS (by exact ⟨rfl,trivial⟩),_,At.own selfS (by exact ⟨rfl,trivial⟩),_,At.own selfS (by exact ⟨rfl,trivial⟩),_,At.own selfS (by exact ⟨rfl,trivial⟩),_,At.own selfS (by exact ⟨rfl,trivial⟩),?_,?_⟩
 ·refine (one_spec (renameG k to) i rfl hw hm hn).use ?_
  rintro c w ⟨Hs',hw,back,k2⟩
  refine ⟨c,rfl,toS (back _ _ hw.drop),new_rule hw fun bt w hw=>?_⟩
  obtain ⟨hc,hwl⟩:=Sat.lend.1 hw
  refine ⟨toS (back _ _ hw.drop.drop),(k2 _ _ [k,to] w hwl (ro_two hc) (by simp)).use ?_⟩
  rw [all2]
  rintro _ w ⟨rfl,hw⟩
  have hw:=(Sat.lend.2 ⟨hc,hw⟩).drop
  exact ⟨_,rfl,toS (back _ _ hw.drop),rfl,hw.cons fun _ h=>(back _ _ h).drop.drop.drop⟩
 ·refine new_rule hw fun bt w hw=>?_
  obtain ⟨hc,hwl⟩:=Sat.lend.1 hw
  refine ⟨toS hw.drop.drop,?_⟩
  refine (one_spec (renameG k to) i rfl hwl hm hn).use ?_
  rintro c w ⟨Hs',hw,back,k2⟩
  refine ⟨c,rfl,toS (back _ _ (Sat.lend.2 ⟨hc,hw⟩).drop.drop),(k2 _ _ [k,to] w hw (ro_two hc) (by simp)).use ?_⟩
  rw [all2]
  rintro _ w ⟨rfl,hw⟩
  have hw:=(Sat.lend.2 ⟨hc,hw⟩).drop
  exact ⟨_,rfl,toS (back _ _ hw.drop),rfl,hw.cons fun _ h=>(back _ _ h).drop.drop.drop⟩
end Go.Proofs.YtkfedbncmfnpnaaGreatDoor
/-
  DERIVED: THE SHELF's CONTRACTS AT THIS DUMP, IN PLAIN WORDS (tools/lay-plain.mjs out of 'TryIter.lean', which tools/lay-shelf.mjs wrote): THE SAME DECLARATIONS UNDER THE SAME NAMES: 'import', 'namespace', 'open', 'def', 'theorem' AND NOTHING ELSE: no command of the shelf's: FOR A HAND-IN. Each laying: the table of numbers ('.._ren') and one theorem, a field a fact of the dump's own or the kernel's comparison; each contract: ONE APPLICATION.
-/
namespace Go.Proofs
set_option linter.unusedVariables false
set_option linter.unusedSimpArgs false
open Go.Shelf
def Tryz.keys76_ren:Go.Shelf.Ren:=⟨fun|7=>76|10=>121|n=>n,fun|23=>76|26=>9|3=>104|28=>115|0=>0|27=>114|33=>129|4=>4|n=>n,fun|n=>n⟩
theorem Tryz.keys76:Go.Proofs.SlLaysZ.n7 Tryz.prog Tryz.keys76_ren:={
  mixed:=by kernel_rfl
  f7:=⟨Tryz.f76.name,by decide,Tryz.func76.trans (congrArg some (by kernel_rfl))⟩
  f10:=⟨Tryz.f121.name,by decide,Tryz.func121.trans (congrArg some (by kernel_rfl))⟩
  t0:=Tryz.underlying0
  a0:=Tryz.isAgg0
  z0:=Tryz.sizeOf0
  v0:=Tryz.zeroValue0
  t4:=Tryz.underlying4
  a4:=Tryz.isAgg4
  z4:=Tryz.sizeOf4
  v4:=Tryz.zeroValue4
  t23:=Tryz.underlying76
  a23:=Tryz.isAgg76
  z23:=Tryz.sizeOf76
  v23:=Tryz.zeroValue76
  t26:=Tryz.underlying9
  a26:=Tryz.isAgg9
  z26:=Tryz.sizeOf9
  v26:=Tryz.zeroValue9
  t27:=Tryz.underlying114
  a27:=Tryz.isAgg114
  z27:=Tryz.sizeOf114
  v27:=Tryz.zeroValue114
  t28:=Tryz.underlying115
  a28:=Tryz.isAgg115
  z28:=Tryz.sizeOf115
  v28:=Tryz.zeroValue115
  t33:=Tryz.underlying129
  a33:=Tryz.isAgg129
  z33:=Tryz.sizeOf129
  v33:=Tryz.zeroValue129 }
def Tryz.sorted75_ren:Go.Shelf.Ren:=⟨fun|6=>75|8=>119|9=>120|11=>168|13=>170|12=>169|23=>206|24=>165|14=>197|15=>198|16=>199|17=>200|18=>201|19=>202|20=>203|21=>204|22=>205|25=>227|26=>228|27=>229|28=>230|29=>231|30=>232|31=>241|n=>n,fun|26=>9|28=>115|24=>66|0=>0|3=>3|37=>159|48=>182|50=>148|4=>4|40=>215|39=>214|45=>219|5=>5|9=>9|51=>243|55=>75|57=>261|58=>262|33=>129|n=>n,fun|n=>n⟩
theorem Tryz.sorted75:Go.Proofs.SlLaysZ.n6 Tryz.prog Tryz.sorted75_ren:={
  mixed:=by kernel_rfl
  f6:=⟨Tryz.f75.name,by decide,Tryz.func75.trans (congrArg some (by kernel_rfl))⟩
  f8:=⟨Tryz.f119.name,by decide,Tryz.func119.trans (congrArg some (by kernel_rfl))⟩
  f11:=⟨Tryz.f168.name,by decide,Tryz.func168.trans (congrArg some (by kernel_rfl))⟩
  t0:=Tryz.underlying0
  a0:=Tryz.isAgg0
  z0:=Tryz.sizeOf0
  v0:=Tryz.zeroValue0
  t24:=Tryz.underlying66
  a24:=Tryz.isAgg66
  z24:=Tryz.sizeOf66
  v24:=Tryz.zeroValue66
  t26:=Tryz.underlying9
  a26:=Tryz.isAgg9
  z26:=Tryz.sizeOf9
  v26:=Tryz.zeroValue9
  t28:=Tryz.underlying115
  a28:=Tryz.isAgg115
  z28:=Tryz.sizeOf115
  v28:=Tryz.zeroValue115
  i26:=by kernel_rfl }
def Tryz.sort120_ren:Go.Shelf.Ren:=⟨fun|6=>120|8=>170|9=>169|19=>206|20=>165|21=>197|22=>198|23=>199|24=>200|25=>201|26=>202|27=>203|28=>204|29=>205|36=>227|31=>228|32=>229|37=>230|38=>231|39=>232|41=>241|n=>n,fun|27=>66|29=>9|3=>3|32=>159|26=>66|0=>0|44=>182|46=>148|4=>4|36=>215|35=>214|41=>219|5=>5|9=>9|53=>243|57=>75|63=>261|64=>262|n=>n,fun|n=>n⟩
theorem Tryz.sort120:Go.Proofs.SlLaysM.n6 Tryz.prog Tryz.sort120_ren:={
  mixed:=by kernel_rfl
  f6:=⟨Tryz.f120.name,by decide,Tryz.func120.trans (congrArg some (by kernel_rfl))⟩
  f8:=Tryz.func170.trans (congrArg some (by kernel_rfl))
  f9:=⟨Tryz.f169.name,by decide,Tryz.func169.trans (congrArg some (by kernel_rfl))⟩
  f19:=Tryz.func206.trans (congrArg some (by kernel_rfl))
  f20:=Tryz.func165.trans (congrArg some (by kernel_rfl))
  f21:=⟨Tryz.f197.name,by decide,Tryz.func197.trans (congrArg some (by kernel_rfl))⟩
  f22:=⟨Tryz.f198.name,by decide,Tryz.func198.trans (congrArg some (by kernel_rfl))⟩
  f23:=⟨Tryz.f199.name,by decide,Tryz.func199.trans (congrArg some (by kernel_rfl))⟩
  f24:=⟨Tryz.f200.name,by decide,Tryz.func200.trans (congrArg some (by kernel_rfl))⟩
  f25:=⟨Tryz.f201.name,by decide,Tryz.func201.trans (congrArg some (by kernel_rfl))⟩
  f26:=⟨Tryz.f202.name,by decide,Tryz.func202.trans (congrArg some (by kernel_rfl))⟩
  f27:=⟨Tryz.f203.name,by decide,Tryz.func203.trans (congrArg some (by kernel_rfl))⟩
  f28:=⟨Tryz.f204.name,by decide,Tryz.func204.trans (congrArg some (by kernel_rfl))⟩
  f29:=⟨Tryz.f205.name,by decide,Tryz.func205.trans (congrArg some (by kernel_rfl))⟩
  f31:=Tryz.func228.trans (congrArg some (by kernel_rfl))
  f32:=Tryz.func229.trans (congrArg some (by kernel_rfl))
  f36:=⟨Tryz.f227.name,by decide,Tryz.func227.trans (congrArg some (by kernel_rfl))⟩
  f37:=⟨Tryz.f230.name,by decide,Tryz.func230.trans (congrArg some (by kernel_rfl))⟩
  f38:=⟨Tryz.f231.name,by decide,Tryz.func231.trans (congrArg some (by kernel_rfl))⟩
  f39:=⟨Tryz.f232.name,by decide,Tryz.func232.trans (congrArg some (by kernel_rfl))⟩
  f41:=⟨Tryz.f241.name,by decide,Tryz.func241.trans (congrArg some (by kernel_rfl))⟩
  t0:=Tryz.underlying0
  a0:=Tryz.isAgg0
  z0:=Tryz.sizeOf0
  v0:=Tryz.zeroValue0
  t3:=Tryz.underlying3
  a3:=Tryz.isAgg3
  z3:=Tryz.sizeOf3
  v3:=Tryz.zeroValue3
  t4:=Tryz.underlying4
  a4:=Tryz.isAgg4
  z4:=Tryz.sizeOf4
  v4:=Tryz.zeroValue4
  t5:=Tryz.underlying5
  a5:=Tryz.isAgg5
  z5:=Tryz.sizeOf5
  v5:=Tryz.zeroValue5
  t9:=Tryz.underlying9
  a9:=Tryz.isAgg9
  z9:=Tryz.sizeOf9
  v9:=Tryz.zeroValue9
  t26:=Tryz.underlying66
  a26:=Tryz.isAgg66
  z26:=Tryz.sizeOf66
  v26:=Tryz.zeroValue66
  t27:=Tryz.underlying66
  a27:=Tryz.isAgg66
  z27:=Tryz.sizeOf66
  v27:=Tryz.zeroValue66
  t29:=Tryz.underlying9
  a29:=Tryz.isAgg9
  z29:=Tryz.sizeOf9
  v29:=Tryz.zeroValue9
  t32:=Tryz.underlying159
  a32:=Tryz.isAgg159
  z32:=Tryz.sizeOf159
  v32:=Tryz.zeroValue159
  t35:=Tryz.underlying214
  a35:=Tryz.isAgg214
  z35:=Tryz.sizeOf214
  v35:=Tryz.zeroValue214
  t36:=Tryz.underlying215
  a36:=Tryz.isAgg215
  z36:=Tryz.sizeOf215
  v36:=Tryz.zeroValue215
  t41:=Tryz.underlying219
  a41:=Tryz.isAgg219
  z41:=Tryz.sizeOf219
  v41:=Tryz.zeroValue219
  t44:=Tryz.underlying182
  a44:=Tryz.isAgg182
  z44:=Tryz.sizeOf182
  v44:=Tryz.zeroValue182
  t46:=Tryz.underlying148
  a46:=Tryz.isAgg148
  z46:=Tryz.sizeOf148
  v46:=Tryz.zeroValue148
  t53:=Tryz.underlying243
  a53:=Tryz.isAgg243
  z53:=Tryz.sizeOf243
  v53:=Tryz.zeroValue243
  t57:=Tryz.underlying75
  a57:=Tryz.isAgg75
  z57:=Tryz.sizeOf75
  v57:=Tryz.zeroValue75
  t63:=Tryz.underlying261
  a63:=Tryz.isAgg261
  z63:=Tryz.sizeOf261
  v63:=Tryz.zeroValue261
  t64:=Tryz.underlying262
  a64:=Tryz.isAgg262
  z64:=Tryz.sizeOf262
  v64:=Tryz.zeroValue262 }
open Go.RowKit Go.Maps Go.Sort Go.Shelf in
theorem Tryz.sorts75 (m:Nat):AnyZ.SortsIn Tryz.prog Tryz.sorted75_ren Fence.wide m:=
  ⟨fun blk off cap ss W hH hblk hsz=>callsIn_wide.2 (AnyM.slices_Sort_string Tryz.sort120 blk off cap ss W hH hblk hsz),
   fun p cap W=>callsIn_wide.2 (AnyM.slices_Sort_string_none Tryz.sort120 p cap W)⟩
open Go.RowKit Go.Maps Go.Sort Go.Shelf in
theorem Tryz.maps_Keys_76 (mb:Option Nat) (W:World):CallsIn Fence.wide 5 Tryz.prog 76 #[.map mb] W fun e w'=>e=.returned (.func (.func 121) #[] #[.pointer (some ⟨W.heap.size,0,none⟩)])∧w'=W.alloc (.cells #[.map mb] 76):=
  AnyZ.keys_in Tryz.keys76 Fence.wide 5 trivial rfl mb W
open Go.RowKit Go.Maps Go.Sort Go.Shelf in
theorem Tryz.slices_Sorted_keys_75_76 {H:Type} (b nn:Nat) (D0:DataW H) (R:Value→Option (DataW H × List MemPlace)) (w:World) (hown:w.ownsMap Tryz.prog 9 R b nn D0) (hmax:Maps.size D0≤maxLen) (hbytes:Maps.size D0 * 16≤140737488355328):
    CallsIn Fence.wide 5 Tryz.prog 75 #[.func (.func 121) #[] #[.pointer (some ⟨w.heap.size,0,none⟩)]] (w.alloc (.cells #[.map (some b)] 76)) fun e w'=>∃ (v:Value) (ss:List (List UInt8)),e=.returned v∧ss.Perm (strKeys D0)∧
      w'.ownsRow (w.alloc (.cells #[.map (some b)] 76)).heap.size 9 1 v ss.length ((ss.mergeSort (fun x y=>decide (x≤y))).map encStr)∧(v=.slice none 0 0↔ss=[])∧Below (w.alloc (.cells #[.map (some b)] 76)).heap.size (w.alloc (.cells #[.map (some b)] 76)) w':=by
  have hbl:=hown.lt
  have hseq:SeqGives Fence.wide 2 Tryz.prog 121 #[.pointer (some ⟨w.heap.size,0,none⟩)] encStr (fun ss=>ss.Perm (strKeys D0)) (Maps.size D0) (w.alloc (.cells #[.map (some b)] 76)):=
    AnyZ.keys_gives (ρ:=Tryz.keys76_ren) { Tryz.keys76 with } Fence.wide _ trivial rfl (by omega) w.heap.size b nn D0 _ (by simp) (by simp) (by
      obtain ⟨es,clock,hb,Ft,hs,hD⟩:=hown
      exact ⟨es,clock,(Below.heap_alloc _ _ b hbl).trans hb,Ft,hs,hD⟩)
  exact AnyZ.sorted_in Tryz.sorted75 Fence.wide 5 trivial trivial trivial trivial rfl (by omega) (Tryz.sorts75 _) (enters_of Tryz.func120 (by kernel_rfl) rfl) 121 #[.pointer (some ⟨w.heap.size,0,none⟩)] trivial (enters_of Tryz.func121 (by kernel_rfl) rfl) _ _ hmax hbytes _ hseq
end Go.Proofs
/- The disk: Names. Condition: a bound on how many files there are. -/
namespace Go.Proofs.YtkfedbncmfnpnaaGreatDoor
set_option linter.unusedVariables false
set_option linter.unusedSimpArgs false
open Go Go.VC
variable {R:Cx} {Hs Rest:List HP} {w:World}
def namesOf (fs:Fs):List ByteArray:=((fs.map fun e=>e.1.data.toList).mergeSort (fun x y=>decide (x≤y))).map fun l=>⟨l.toArray⟩
theorem names_mapT {m c:Nat} {l:List (En ByteArray)} {E:List DE} (hs:strip l=ptrs E) (hst:StampsOk l c) (hu:(E.map (·.1)).Nodup) (hn:∀ k∈E.map (·.1),k.size≤64) (hlen:E.length≤1000000)
  (hm:w.heap[m]? =some (.map (l.map mkE).toArray c)):
  ∃ D0:DataW Unit,w.ownsMap Tryz.prog 9 (fun _=>some (.nil,[])) m 1000000 D0∧Maps.size D0≤1000000∧∀ ss:List (List UInt8),ss.Perm (strKeys D0)→ss.Perm (E.map fun e=>e.1.data.toList):=by
 have hkeys:l.map (·.1)=E.map (·.1):=by
  have h1:(strip l).map (·.1)=l.map (·.1):=by simp [strip,Function.comp_def]
  have h2:(ptrs E).map (·.1)=E.map (·.1):=by simp [ptrs,Function.comp_def]
  rw [←h1,hs,h2]
 have hlen2:l.length=E.length:=by have:=congrArg List.length hkeys;simpa using this
 have hkey:∀ e∈l,keyOf Tryz.prog 9 (mkE e).key=some (.string e.1.data.toList):=fun e he=>by
  have hm:e.1∈E.map (·.1):=by rw [←hkeys];exact List.mem_map_of_mem he
  have hsz:=hn _ hm
  simp only [keyOf,Tryz.underlying9,mkE,mapKey,KeyK.enc]
  rw [if_pos (by unfold maxLen;omega)]
 have hrd:∀ e∈l,WideElems.rd Tryz.prog 9 (fun _=>some ((.nil:DataW Unit),[])) (mkE e)=some (.string e.1.data.toList,.nil):=fun e he=>by
  unfold WideElems.rd
  rw [hkey e he];rfl
 have hrg:((l.map mkE).map (WideElems.rg Tryz.prog 9 (fun _=>some ((.nil:DataW Unit),[]))))=l.map fun e=>(.string e.1.data.toList,.nil):=by
  rw [List.map_map]
  apply List.map_congr_left
  intro e he
  simp only [Function.comp,WideElems.rg,hrd e he,Option.getD_some]
 refine ⟨_,⟨(l.map mkE).toArray,c,hm,⟨by simp [maxLen];omega,?_,?_⟩,by simp;omega,rfl⟩,?_,?_⟩
 ·refine ⟨fun x hx=>?_,?_,?_⟩
  ·simp only [List.mem_map] at hx
   obtain ⟨e,he,rfl⟩:=hx
   exact hst.1 e he
  ·have:=hst.2;simpa [mkE,Function.comp_def] using this
  ·have h2:(l.map (·.1)).Nodup:=by rw [hkeys];exact hu
   have e1:((l.map mkE).toArray.toList.map (·.key))=(l.map (·.1)).map Value.string:=by simp [mkE,Function.comp_def,KeyK.enc]
   rw [e1]
   exact List.Pairwise.map _ (fun a b hab h=>hab (by injection h)) h2
 ·intro x hx
  simp only [List.mem_map] at hx
  obtain ⟨e,he,rfl⟩:=hx
  exact ⟨_,hrd e he⟩
 ·simp only [Maps.size,hrg]
  rw [(WideShapes.sorted_perm _).length_eq];simp;omega
 ·intro ss hss
  refine hss.trans ?_
  simp only [strKeys,hrg]
  refine ((WideShapes.sorted_perm _).map _).trans ?_
  have:(l.map fun e=>((Lit.string e.1.data.toList,DataW.nil):Lit × DataW Unit)).map (fun p=>Go.strOf p.1)=E.map fun e=>e.1.data.toList:=by
   rw [List.map_map]
   show l.map (fun e=>e.1.data.toList)=_
   have:=congrArg (List.map fun k:ByteArray=>k.data.toList) hkeys
   simpa [Function.comp_def] using this
  rw [this]
theorem nameOk_size {k:ByteArray} (h:nameOk k=true):k.size≤64:=by
 unfold nameOk at h;simp at h;exact h.1.2
theorem er_keys (E:List DE):(er E).map (·.1)=E.map (·.1):=by simp [er,Function.comp_def]
theorem names_spec {d:Nat} {st:DS} (i:Inv st) (hc:st.fs.length≤1000000) (hw:Sat R (DiskAt d st::Hs) w):
  Gets Tryz.prog 33 #[.pointer (some ⟨d,0,none⟩)] w fun r w'=>∃ s:Sl,r=.slice s.a s.len s.cap∧Sat R (Own s 9 ((namesOf st.fs).map Value.string)::DiskAt d st::Hs) w':=by
 obtain ⟨m,E,hE,hw⟩:=Sat.disk.1 hw
 apply call33
 refine NilP.mk rfl ⟨some m,At.own (eqS hw) (by exact ⟨rfl,trivial⟩),?_⟩
 have hw2:=hw.take (MapAt m (ptrs E))
 obtain ⟨l,c,hs,hst,hp⟩:=MapAt.iff.1 hw2
 have hu:(E.map (·.1)).Nodup:=by rw [←er_keys,hE];exact i.uni
 have hlen:E.length≤1000000:=by have:=congrArg List.length hE;simp [er] at this;omega
 obtain ⟨D0,hown,hsz,hperm⟩:=names_mapT hs hst hu (fun k hk=>nameOk_size (i.names k (by rw [←hE,er_keys];exact hk))) hlen hp.at
 refine (callsIn_wide.1 (Tryz.maps_Keys_76 (some m) w)).mono ?_
 rintro _ _ ⟨rfl,rfl⟩
 refine ⟨_,rfl,?_⟩
 refine (callsIn_wide.1 (Tryz.slices_Sorted_keys_75_76 m _ D0 _ w hown (by unfold maxLen;omega) (by omega))).mono ?_
 rintro _ w' ⟨v,ss,rfl,hS,hrow,hnil,hb⟩
 have hw1:Sat R (DO d m E st Hs) (w.alloc (.cells #[.map (some m)] 76)):=(Sat.alloc _ hw).drop
 obtain ⟨s,rfl,h3⟩:=Sat.ownsRow hw1 hb hrow
 refine ⟨s,rfl,s,rfl,?_⟩
 have e:((ss.mergeSort (fun x y=>decide (x≤y))).map Proofs.encStr)=(namesOf st.fs).map Value.string:=by
  unfold namesOf
  have hp2:=hperm ss hS
  have e2:(E.map fun e=>e.1.data.toList)=st.fs.map fun e=>e.1.data.toList:=by rw [←hE];simp [er,Function.comp_def]
  rw [e2] at hp2
  rw [mergeSort_of_perm hp2,List.map_map]
  rfl
 rw [e] at h3
 exact h3.cons fun _ h=>DO.shut hE h
end Go.Proofs.YtkfedbncmfnpnaaGreatDoor
/- The disk: Clone, Read, Crash. Condition: bounds on lengths. -/
namespace Go.Proofs.YtkfedbncmfnpnaaGreatDoor
set_option linter.unusedVariables false
set_option linter.unusedSimpArgs false
open Go Go.VC
variable {R:Cx} {Hs Rest:List HP} {w:World}
def readD (st:DS) (k:ByteArray):List Int × Int:=
 if st.off then ([],5) else if !nameOk k then ([],1) else match getM k st.fs with|none=>([],2)|some f=>(f.b,0)
theorem total_le {k:ByteArray} {f:Fl} {fs:Fs} (h:getM k fs=some f):(f.b.length:Int)≤total fs:=by
 have:=total_get h;have:=total_nn (delM k fs);omega
theorem read_spec {d:Nat} {st:DS} {k:ByteArray} (i:Inv st) (hw:Sat R (DiskAt d st::Hs) w):
  Gets Tryz.prog 44 #[.pointer (some ⟨d,0,none⟩),.string k] w fun r w'=>∃ t:Sl,r=.tuple #[.slice t.a t.len t.cap,.int .i64 (readD st k).2]∧Sat R (Own t 5 (b8 (readD st k).1)::DiskAt d st::Hs) w':=by
 have hw0:=hw
 obtain ⟨m,E,hE,hw⟩:=Sat.disk.1 hw
 apply call44
 refine NilP.mk rfl ⟨st.off,At.own (eqS hw) (by exact ⟨rfl,trivial⟩),Br.mk (fun ho=>?_) (fun ho=>new_rule hw0 fun bt w hw=>?_)⟩
 ·have e:readD st k=([],5):=if_pos ho
  rw [e];exact ⟨⟨none,0,0⟩,rfl,Own.nil hw0⟩
 obtain ⟨hc,hwl⟩:=Sat.lend.1 hw
 refine (named_spec (names:=[k]) hwl (ro_one hc) (by simp)).use ?_
 rintro _ w ⟨rfl,hw⟩
 have hw:=(Sat.lend.2 ⟨hc,hw⟩).drop
 rw [all_one]
 refine ⟨_,rfl,Br.mk (fun hn=>?_) (fun hn=>?_)⟩
 ·have e:readD st k=([],1):=by unfold readD;rw [if_neg (by simp [ho]),if_pos hn]
  rw [e];exact ⟨⟨none,0,0⟩,rfl,Own.nil hw⟩
 obtain ⟨m,E,hE,hw⟩:=Sat.disk.1 hw
 refine NilP.mk rfl ⟨some m,At.own (eqS hw) (by exact ⟨rfl,trivial⟩),_,_,fun w' hw'=>DO.look (eqS hw _ hw') k true,?_⟩
 have e:readD st k=match getM k st.fs with|none=>([],2)|some f=>(f.b,0):=by unfold readD;rw [if_neg (by simp [ho]),if_neg (by simp [hn])]
 refine Br.mk (fun hk=>?_) (fun hk=>?_)
 ·simp only [Bool.not_eq_true',Option.isSome_eq_false_iff,Option.isNone_iff_eq_none] at hk
  have hk2:getM k st.fs=none:=by rw [←hE,er_get,hk];rfl
  rw [e,hk2]
  exact ⟨⟨none,0,0⟩,rfl,Own.nil (DO.shut hE hw)⟩
 ·simp only [Bool.not_eq_false'] at hk
  obtain ⟨⟨q,f⟩,hf⟩:=Option.isSome_iff_exists.1 hk
  have hk2:getM k st.fs=some f:=by rw [←hE,er_get,hf];rfl
  obtain ⟨a,b,rfl,ha⟩:=getM_split hf
  rw [hf,e,hk2]
  have hlen:=total_le hk2
  have r1:=i.r1;have hfull:=i.full
  have hw:Sat R (FilesAt (a++(k,q,f)::b)::pts d (dCells st m)::MapAt m (ptrs (a++(k,q,f)::b))::Hs) w:=(hw.cons fun _ h=>h.swap).swap
  obtain ⟨s,hw⟩:=Sat.file.1 (Sat.split.1 hw)
  simp only at hw
  refine NilP.mk rfl ⟨s,by rw [add_off];exact At.own (eqS hw) (by exact ⟨rfl,trivial⟩),?_⟩
  obtain ⟨R',hr,_,hw,back⟩:=Own.lend hw.swap (by rw [List.length_map];omega)
  refine (clone_spec hr (by omega) hw).use ?_
  rintro _ w ⟨t,rfl,hw⟩
  refine ⟨t,rfl,t,rfl,(back hw).swap.cons fun _ h=>?_⟩
  have h2:Sat _ (FilesAt (a++(k,q,f)::b)::pts d (dCells st m)::MapAt m (ptrs (a++(k,q,f)::b))::Hs) w:=Sat.split.2 (Sat.file.2 ⟨s,h.swap⟩)
  exact DO.shut hE (h2.swap.cons fun _ h=>h.swap)
theorem Own.short {s:Sl} {T:TypeId} {xs:List Value} (hw:Sat R (Own s T xs::Hs) w) {n:Nat} (hn:n≤xs.length):Sat R (Own ⟨s.a,n,s.cap⟩ T (xs.take n)::Hs) w:=by
 rcases Own.cases hw with ⟨rfl,rfl,h⟩|⟨b,rest,fr,rfl,hf,h⟩
 ·obtain rfl:n=0:=by simpa using hn
  exact Own.nil h
 ·have e:xs++rest=xs.take n++(xs.drop n++rest):=by rw [←List.append_assoc,List.take_append_drop]
  rw [e] at h hf
  have h2:=Own.of_pts h hf
  have e2:(xs.take n).length=n:=by simp;omega
  rw [e2] at h2
  have e3:(xs.take n++(xs.drop n++rest)).length=(xs++rest).length:=by rw [←e]
  rw [e3] at h2
  exact h2
def stay (kp:Option Int) (f:Fl):Nat:=match kp with|none=>0|some x=>(min (max x 0) ((f.b.length:Int) - f.sure)).toNat
def cutF (kp:Option Int) (f:Fl):Fl:=⟨f.b.take (f.sure + stay kp f),f.sure + stay kp f⟩
def crashL:List ByteArray→List Int→Fs→Fs
 |[],_,fs=>fs
 |k::ks,keep,fs=>crashL ks keep.tail (updM k (cutF keep.head?) fs)
def crashD (st:DS) (keep:List Int):DS:=⟨st.room,crashL (namesOf st.fs) keep st.fs,-1,-1,false⟩
theorem stay_le (kp:Option Int) (f:Fl) (h:f.sure≤f.b.length):f.sure + stay kp f≤f.b.length:=by
 unfold stay;split
 ·omega
 ·omega
theorem getM_upd {β:Type} {k:ByteArray} {g:β→β}:∀ {l:List (ByteArray × β)} {v:β},getM k l=some v→getM k (updM k g l)=some (g v)
 |[],_,h=>by cases h
 |e::l,v,h=>by
  rw [getM] at h
  rw [updM]
  split at h
  ·rename_i hk;rw [if_pos hk,getM,if_pos hk];simp only [Option.some.injEq] at h ⊢;rw [h]
  ·rename_i hk;rw [if_neg hk,getM,if_neg hk];exact getM_upd h
theorem total_upd {k:ByteArray} {g:Fl→Fl} {fs:Fs} {f:Fl} (h:getM k fs=some f):total (updM k g fs)=total fs - f.b.length + (g f).b.length:=by
 obtain ⟨a,b,rfl,ha⟩:=getM_split h
 rw [updM_app ha,total_one,total_one];omega
theorem mem_names {fs:Fs} {k:ByteArray}:k∈namesOf fs↔k∈fs.map (·.1):=by
 unfold namesOf
 rw [List.mem_map]
 constructor
 ·rintro ⟨l,hl,rfl⟩
  rw [List.mem_mergeSort,List.mem_map] at hl
  obtain ⟨e,he,rfl⟩:=hl
  exact List.mem_map.2 ⟨e,he,by simp⟩
 ·intro h
  obtain ⟨e,he,rfl⟩:=List.mem_map.1 h
  exact ⟨e.1.data.toList,by rw [List.mem_mergeSort];exact List.mem_map.2 ⟨e,he,rfl⟩,by simp⟩
theorem isSome_of_mem {β:Type} {k:ByteArray} {l:List (ByteArray × β)} (h:k∈l.map (·.1)):(getM k l).isSome=true:=by
 cases hg:getM k l with
 |some _=>rfl
 |none=>exact absurd h (notin_of_getM hg)
theorem namesOf_len (fs:Fs):(namesOf fs).length=fs.length:=by simp [namesOf]
theorem crash_spec {d:Nat} {st:DS} {s:Sl} {keep:List Int} (i:Inv st) (hs:RoI R s keep) (hc:st.fs.length≤1000000) (hw:Sat R (DiskAt d st::Hs) w):
  Gets Tryz.prog 25 #[.pointer (some ⟨d,0,none⟩),.slice s.a s.len s.cap] w fun r w'=>r=.tuple #[]∧Sat R (DiskAt d (crashD st keep)::Hs) w':=by
 have r1:=i.r1
 have hfull:=i.full
 have hsl:=hs.len
 have hsb:=hs.bound
 apply call25
 refine (names_spec i hc hw).use ?_
 rintro _ w ⟨t,rfl,hw⟩
 refine ⟨t,rfl,?_⟩
 have hnl:=namesOf_len st.fs
 obtain ⟨R',hr,up,hw,back⟩:=Own.lend hw (by rw [List.length_map,hnl];omega)
 have htl:t.len=(namesOf st.fs).length:=by have:=hr.len;simpa using this
 refine ⟨fun x w=>∃ (k:Nat) (fs:Fs),x=k∧k≤(namesOf st.fs).length∧crashL (namesOf st.fs) keep st.fs=crashL ((namesOf st.fs).drop k) (keep.drop k) fs∧fs.map (·.1)=st.fs.map (·.1)∧total fs≤total st.fs∧SureOk fs∧
  Sat R' (DiskAt d { st with fs:=fs }::Hs) w,fun x _=>(namesOf st.fs).length - x.toNat,⟨0,st.fs,rfl,Nat.zero_le _,rfl,rfl,Int.le_refl _,i.sure,hw⟩,?_⟩
 rintro z _ w ⟨k,fs,rfl,hk,he,hkeys,htot,hsure,hw⟩
 refine Br.mk (fun h=>?_) (fun h=>?_)<;>simp only [decide_eq_true_eq,decide_eq_false_iff_not] at h
 ·have hk':k<(namesOf st.fs).length:=by omega
  rw [drop_get hk'] at he
  refine hr.idxStr (eqS hw) hk' ?_
  generalize hnm:(namesOf st.fs)[k]=nm at he
  have hmem:nm∈fs.map (·.1):=by rw [hkeys];exact mem_names.1 (by rw [←hnm];exact List.getElem_mem _)
  obtain ⟨m,E,hE,hw⟩:=Sat.disk.1 hw
  refine NilP.mk rfl ⟨some m,At.own (eqS hw) (by exact ⟨rfl,trivial⟩),_,fun w' hw'=>DO.look (eqS hw _ hw') nm false,?_⟩
  obtain ⟨⟨q,f⟩,hf⟩:=Option.isSome_iff_exists.1 (isSome_of_mem (l:=E) (by rw [←er_keys,hE];exact hmem))
  obtain ⟨a,b,rfl,ha⟩:=getM_split hf
  rw [hf]
  have hgf:getM nm fs=some f:=by show getM nm ({ st with fs:=fs }:DS).fs=_;rw [←hE,er_get,hf];rfl
  have hfl:=total_le hgf
  have hsf:f.sure≤f.b.length:=by
   obtain ⟨a,b,e,_⟩:=getM_split hgf
   exact hsure (nm,f) (by rw [e];simp)
  have hw:Sat R' (FilesAt (a++(nm,q,f)::b)::pts d (dCells { st with fs:=fs } m)::MapAt m (ptrs (a++(nm,q,f)::b))::Hs) w:=(hw.cons fun _ h=>h.swap).swap
  obtain ⟨sf,hw⟩:=Sat.file.1 (Sat.split.1 hw)
  simp only at hw
  have hlf:sf.len=f.b.length:=by have:=Own.len hw.swap;rwa [List.length_map] at this
  have hcap:sf.len≤sf.cap:=Own.cap hw.swap
  refine ⟨fun n w=>n=stay (keep.drop k).head? f∧Sat R' (pts q (.cells [.slice sf.a sf.len sf.cap,.int .i64 f.sure].toArray 106 (0,0))::Own sf 5 (b8 f.b)::FilesAt (a++b)::pts d (dCells { st with fs:=fs } m)::MapAt m (ptrs (a++(nm,q,f)::b))::Hs) w,?_,?_⟩
  ·refine Br.mk (fun h2=>?_) (fun h2=>?_)<;>simp only [decide_eq_true_eq,decide_eq_false_iff_not] at h2
   ·have hk2:k<keep.length:=by omega
    refine drw_rule hw fun w hw=>?_
    refine (show RoI R' s keep from up _ _ hs).idx selfS hk2 ?_
    refine NilP.mk rfl ⟨_,by rw [add_off];exact At.own selfS (by exact ⟨rfl,trivial⟩),NilP.mk rfl ⟨_,At.own selfS (by exact ⟨rfl,trivial⟩),?_,hw⟩⟩
    rw [wrap64 (by omega) (by omega),drop_get hk2]
    simp only [List.head?_cons,stay]
    generalize keep[k]=x
    rw [hlf]
    split<;>split<;>omega
   ·refine ⟨?_,hw⟩
    rw [List.drop_eq_nil_of_le (by omega)];rfl
  rintro z n w ⟨rfl,hw⟩
  have hst:=stay_le (keep.drop k).head? f hsf
  generalize hn:stay (keep.drop k).head? f=n at hst
  have hgt:cutF (keep.drop k).head? f=⟨f.b.take (f.sure + n),f.sure + n⟩:=by unfold cutF;rw [hn]
  refine drw_rule hw fun w hw=>?_
  refine NilP.mk rfl ⟨total fs,At.own selfS (by exact ⟨rfl,trivial⟩),NilP.mk rfl ⟨_,by rw [add_off];exact At.own selfS (by exact ⟨rfl,trivial⟩),NilP.mk rfl ⟨_,At.own selfS (by exact ⟨rfl,trivial⟩),NilP.mk rfl ?_⟩⟩⟩
  have hnn:=total_nn fs
  rw [wrap64 (x:=(sf.len:Int) - f.sure) (by omega) (by omega),wrap64 (x:=(sf.len:Int) - f.sure - n) (by omega) (by omega),wrap64 (by omega) (by omega)]
  refine store_rule hw (by kernel_rfl) rfl (by simp [Value.cells,putL_len]) fun w hw=>?_
  have ef:crashL (nm::(namesOf st.fs).drop (k + 1)) (keep.drop k) fs=crashL ((namesOf st.fs).drop (k + 1)) (keep.drop (k + 1)) (updM nm (cutF (keep.drop k).head?) fs):=by
   rw [crashL,List.tail_drop]
  have hw:=hw.take (pts q (.cells [.slice sf.a sf.len sf.cap,.int .i64 f.sure].toArray 106 (0,0)))
  refine drw_rule hw fun w hw=>?_
  refine NilP.mk rfl ⟨_,by rw [add_off];exact At.own selfS (by exact ⟨rfl,trivial⟩),NilP.mk rfl ⟨_,At.own selfS (by exact ⟨rfl,trivial⟩),?_⟩⟩
  rw [wrap64 (by omega) (by omega)]
  refine ⟨by omega,by omega,NilP.mk rfl ?_⟩
  rw [add_off,show ((f.sure:Int) + n).toNat=f.sure + n by omega]
  refine store_rule hw (by kernel_rfl) rfl (by simp [Value.cells,putL_len]) fun w hw=>?_
  refine NilP.mk rfl ⟨⟨sf.a,f.sure + n,sf.cap⟩,by rw [add_off];exact At.own (eqS hw) (by exact ⟨rfl,trivial⟩),NilP.mk rfl ?_⟩
  refine store_rule hw (by kernel_rfl) rfl (by simp [Value.cells,putL_len]) fun w hw=>?_
  rw [wrap64 (by omega) (by omega)]
  have hw:Sat R' (pts q (.cells [.slice sf.a (f.sure + n) sf.cap,.int .i64 (f.sure + n:Nat)].toArray 106 (0,0))::pts d (.cells [.int .i64 st.room,.int .i64 (total fs - ((sf.len:Int) - f.sure - n)),.map (some m),.int .i64 st.fail,.int .i64 st.arm,.bool st.off].toArray 78 (0,0))::
    Own sf 5 (b8 f.b)::FilesAt (a++b)::MapAt m (ptrs (a++(nm,q,f)::b))::Hs) w:=hw
  have hw:=Own.short (hw.take (Own sf 5 (b8 f.b))) (n:=f.sure + n) (by simpa using hst)
  have hw:Sat R' (pts q (.cells [.slice sf.a (f.sure + n) sf.cap,.int .i64 (f.sure + n:Nat)].toArray 106 (0,0))::Own ⟨sf.a,f.sure + n,sf.cap⟩ 5 (b8 (f.b.take (f.sure + n)))::FilesAt (a++b)::
    pts d (.cells [.int .i64 st.room,.int .i64 (total fs - ((sf.len:Int) - f.sure - n)),.map (some m),.int .i64 st.fail,.int .i64 st.arm,.bool st.off].toArray 78 (0,0))::MapAt m (ptrs (a++(nm,q,f)::b))::Hs) w:=by
   rw [show b8 (f.b.take (f.sure + n))=(b8 f.b).take (f.sure + n) from List.map_take]
   exact hw.swap.cons fun _ h=>h.cons fun _ h=>h.swap
  have hw:Sat R' (FilesAt (a++(nm,q,cutF (keep.drop k).head? f)::b)::_) w:=Sat.split.2 (Sat.file.2 ⟨⟨sf.a,f.sure + n,sf.cap⟩,by rw [hgt];exact hw⟩)
  have et:=total_upd (g:=cutF (keep.drop k).head?) hgf
  have e4:total fs - ((sf.len:Int) - f.sure - n)=total (updM nm (cutF (keep.drop k).head?) fs):=by
   rw [et,hgt];simp;omega
  rw [e4] at hw
  have efs:fs=er a++(nm,f)::er b:=by rw [←er_cons (nm,q,f),←er_app];exact hE.symm
  refine ⟨⟨k + 1,updM nm (cutF (keep.drop k).head?) fs,by omega,by omega,by rw [he,ef],by rw [updM_keys];exact hkeys,by rw [←e4];omega,sure_upd (fun f hf=>?_) hsure,?_⟩,by dsimp only;omega⟩
  ·have:=stay_le (keep.drop k).head? f hf
   show f.sure + stay (keep.drop k).head? f≤(f.b.take (f.sure + stay (keep.drop k).head? f)).length
   rw [List.length_take];omega
  ·refine Sat.disk.2 ⟨m,a++(nm,q,cutF (keep.drop k).head? f)::b,?_,?_⟩
   ·simp only
    conv=>rhs;rw [efs]
    rw [er_app,er_cons,updM_app (by rw [er_get,ha];rfl)]
   ·have ep:ptrs (a++(nm,q,cutF (keep.drop k).head? f)::b)=ptrs (a++(nm,q,f)::b):=by simp [ptrs]
    rw [ep]
    exact hw.swap.cons fun _ h=>h.swap
 ·have:k=(namesOf st.fs).length:=by omega
  subst this
  rw [List.drop_length,crashL] at he
  obtain ⟨m,E,hE,hw⟩:=Sat.disk.1 hw
  refine NilP.mk rfl (store_rule hw (by kernel_rfl) rfl (by simp [Value.cells,putL_len]) fun w hw=>?_)
  refine NilP.mk rfl (store_rule hw (by kernel_rfl) rfl (by simp [Value.cells,putL_len]) fun w hw=>?_)
  refine NilP.mk rfl (store_rule hw (by kernel_rfl) rfl (by simp [Value.cells,putL_len]) fun w hw=>⟨rfl,?_⟩)
  have hw:Sat R' (DiskAt d (crashD st keep)::Hs) w:=Sat.disk.2 ⟨m,E,by rw [hE];exact he.symm,by
   unfold crashD;rw [he];exact hw⟩
  exact (back hw).drop
end Go.Proofs.YtkfedbncmfnpnaaGreatDoor

/- The reference's disk: its memory, its small operations. Condition: none. -/
namespace Go.Proofs.YtkfedbncmfnpnaaGreatDoor
set_option linter.unusedVariables false
set_option linter.unusedSimpArgs false
open Go Go.VC
variable {R:Cx} {Hs Rest:List HP} {w:World}
abbrev RE:=ByteArray × Sl × Fl
def erR (E:List RE):Fs:=E.map fun e=>(e.1,e.2.2)
def rowR (e:RE):List Value:=[.string e.1,.slice e.2.1.a e.2.1.len e.2.1.cap,.int .i64 e.2.2.sure]
def BufsAt (E:List RE):HP:=Star (E.map fun e=>Own e.2.1 5 (b8 e.2.2.b))
abbrev rCells (st:DS) (s:Sl):Obj:=.cells [.int .i64 st.room,.slice s.a s.len s.cap,.int .i64 st.fail,.int .i64 st.arm,.bool st.off].toArray 81 (0,0)
abbrev RO (r:Nat) (s:Sl) (E:List RE) (st:DS) (Hs:List HP):List HP:=pts r (rCells st s)::OwnN 3 s 112 (E.map rowR)::BufsAt E::Hs
def RefAt (r:Nat) (st:DS):HP:=exs fun x:Sl × List RE=>Star [pur (erR x.2=st.fs),pts r (rCells st x.1),OwnN 3 x.1 112 (x.2.map rowR),BufsAt x.2]
theorem Sat.ref {r:Nat} {st:DS}:Sat R (RefAt r st::Hs) w↔∃ s E,erR E=st.fs∧Sat R (RO r s E st Hs) w:=by
 unfold RefAt
 rw [Sat.exs]
 constructor
 ·rintro ⟨⟨s,E⟩,h⟩
  have:=Sat.star.1 h
  exact ⟨s,E,Sat.pur.1 this⟩
 ·rintro ⟨s,E,h1,h2⟩
  exact ⟨⟨s,E⟩,Sat.star.2 (Sat.pur.2 ⟨h1,h2⟩)⟩
theorem Bufs.split {a b:List RE} {e:RE}:Sat R (BufsAt (a++e::b)::Hs) w↔Sat R (Own e.2.1 5 (b8 e.2.2.b)::BufsAt (a++b)::Hs) w:=by
 have p:((a++e::b).map fun e:RE=>Own e.2.1 5 (b8 e.2.2.b)).Perm (Own e.2.1 5 (b8 e.2.2.b)::(a++b).map fun e:RE=>Own e.2.1 5 (b8 e.2.2.b)):=by
  rw [List.map_append,List.map_cons,List.map_append];exact List.perm_middle
 unfold BufsAt
 constructor
 ·intro h
  exact ((Sat.star.1 h).perm (p.append_right Hs)).cons fun _ h=>Sat.star.2 h
 ·intro h
  have h1:Sat R ((Own e.2.1 5 (b8 e.2.2.b)::(a++b).map fun e:RE=>Own e.2.1 5 (b8 e.2.2.b))++Hs) w:=h.cons fun _ h=>Sat.star.1 h
  exact Sat.star.2 (h1.perm (p.symm.append_right Hs))
theorem Bufs.nil:Sat R (BufsAt []::Hs) w↔Sat R Hs w:=Sat.star
theorem RO.reads {r:Nat} {s:Sl} {E:List RE} {st:DS} {S:World→Prop} (hw:Sat R (RO r s E st Hs) w) (hS:∀ w,S w→Sat R (RO r s E st Hs) w):ReadsN 3 s (E.map rowR) S:=
 OwnN.readsM (rows:=E.map rowR) (T:=112) hw hS
theorem RO.shut {r:Nat} {s:Sl} {E:List RE} {st:DS} (hE:erR E=st.fs) (h:Sat R (RO r s E st Hs) w):Sat R (RefAt r st::Hs) w:=Sat.ref.2 ⟨s,E,hE,h⟩
end Go.Proofs.YtkfedbncmfnpnaaGreatDoor
/- The reference's disk: change, put, out. Condition: bounds on lengths. -/
namespace Go.Proofs.YtkfedbncmfnpnaaGreatDoor
set_option linter.unusedVariables false
set_option linter.unusedSimpArgs false
open Go Go.VC
variable {R:Cx} {Hs Rest:List HP} {w:World}
def ltB (a b:ByteArray):Bool:=Op.bytesLess a.toList b.toList
def atM {β:Type} (k:ByteArray):List (ByteArray × β)→Nat
 |[]=>0
 |e::l=>if ltB e.1 k then atM k l + 1 else 0
def insM {β:Type} (x:ByteArray × β) (l:List (ByteArray × β)):List (ByteArray × β):=l.take (atM x.1 l)++x::l.drop (atM x.1 l)
theorem insM_perm {β:Type} (x:ByteArray × β) (l:List (ByteArray × β)):(insM x l).Perm (x::l):=by
 unfold insM
 refine List.perm_middle.trans ?_
 rw [List.take_append_drop]
end Go.Proofs.YtkfedbncmfnpnaaGreatDoor
/- The reference's disk: its operations. Condition: bounds on lengths. -/
namespace Go.Proofs.YtkfedbncmfnpnaaGreatDoor
set_option linter.unusedVariables false
set_option linter.unusedSimpArgs false
open Go Go.VC
variable {R:Cx} {Hs Rest:List HP} {w:World}
def ensureR (k:ByteArray) (fs:Fs):Fs:=if (getM k fs).isSome then fs else insM (k,⟨[],0⟩) fs
def putBR (k:ByteArray) (xs:List Int) (fs:Fs):Fs:=updM k (fun f=>{ f with b:=f.b++xs }) (ensureR k fs)
def appendGR (st:DS) (k:ByteArray) (xs:List Int):DS × Int:=if total st.fs + xs.length>st.room then (st,3) else ({ st with fs:=putBR k xs st.fs },0)
def appendR (st:DS) (k:ByteArray) (xs:List Int):DS × Int:=doing st (nameOk k) fun st=>appendGR st k xs
theorem total_perm {a b:Fs} (h:a.Perm b):total a=total b:=by
 induction h with
 |nil=>rfl
 |cons x _ ih=>rw [total_cons,total_cons,ih]
 |swap x y l=>rw [total_cons,total_cons,total_cons,total_cons];omega
 |trans _ _ h1 h2=>rw [h1,h2]
end Go.Proofs.YtkfedbncmfnpnaaGreatDoor
/- The reference's disk: Sync, Unlink, Rename, Read, Fail, Arm, Crash. Condition: bounds on lengths. -/
namespace Go.Proofs.YtkfedbncmfnpnaaGreatDoor
set_option linter.unusedVariables false
set_option linter.unusedSimpArgs false
open Go Go.VC
variable {R:Cx} {Hs Rest:List HP} {w:World}
theorem RO.len {r:Nat} {s:Sl} {E:List RE} {st:DS} (hw:Sat R (RO r s E st Hs) w):s.len=E.length:=by
 have:=OwnN.len (hw.take (OwnN 3 s 112 (E.map rowR)));rwa [List.length_map] at this
def crashP (fs:Fs) (keep:List Int):Fs:=fs.mapIdx fun i e=>(e.1,cutF keep[i]? e.2)
def crashR (st:DS) (keep:List Int):DS:=⟨st.room,crashP st.fs keep,-1,-1,false⟩
end Go.Proofs.YtkfedbncmfnpnaaGreatDoor
/- The disk and its reference are alike: the plain law. No program. Condition: none. -/
namespace Go.Proofs.YtkfedbncmfnpnaaGreatDoor
set_option linter.unusedVariables false
set_option linter.unusedSimpArgs false
open Go Go.VC
def Srt (fs:Fs):Prop:=fs.Pairwise fun x y=>x.1.data.toList<y.1.data.toList
theorem ltB_eq (a b:ByteArray):ltB a b=decide (a.data.toList<b.data.toList):=by
  unfold ltB;rw [ByteArray.toList_eq,ByteArray.toList_eq,Proofs.bytesLess_eq]
theorem uni_perm {a b:Fs} (h:a.Perm b) (u:Uni a):Uni b:=(h.map _).nodup_iff.1 u
theorem getM_perm {a b:Fs} (h:a.Perm b) (u:Uni a) (k:ByteArray):getM k a=getM k b:=by
  have key:∀ {l:Fs} {f:Fl},Uni l→(getM k l=some f↔(k,f)∈l):=fun {l f} u=>by
    constructor
    · intro hg
      obtain ⟨a,b,rfl,_⟩:=getM_split hg
      simp
    · intro hm
      obtain ⟨a,b,rfl⟩:=List.append_of_mem hm
      refine getM_app (getM_of_notin ?_) (ba_rfl k)
      unfold Uni at u
      rw [List.map_append,List.nodup_append] at u
      intro hk
      exact u.2.2 k hk k (by simp) rfl
  cases hb:getM k b with
  |some f=>exact (key u).2 (h.mem_iff.2 ((key (uni_perm h u)).1 hb))
  |none=>
    cases ha:getM k a with
    |none=>rfl
    |some f=>rw [(key (uni_perm h u)).2 (h.mem_iff.1 ((key u).1 ha))] at hb;cases hb
theorem updM_eq_map {k:ByteArray} {g:Fl→Fl}:∀ {l:Fs},Uni l→updM k g l=l.map fun e=>if k==e.1 then (e.1,g e.2) else e
  |[],_=>rfl
  |e::l,u=>by
    unfold Uni at u
    rw [List.map_cons,List.nodup_cons] at u
    rw [updM,List.map_cons]
    by_cases h:(k==e.1)=true
    · rw [if_pos h,if_pos h]
      congr 1
      have e1:=(MapKept.bytes_beq _ _).1 h
      have:∀ x∈l,(if k==x.1 then (x.1,g x.2) else x)=x:=fun x hx=>by
        rw [if_neg]
        intro h2
        have:=(MapKept.bytes_beq _ _).1 h2
        exact u.1 (by rw [←e1,this];exact List.mem_map_of_mem hx)
      rw [List.map_congr_left this];simp
    · rw [if_neg h,if_neg h,updM_eq_map (l:=l) u.2]
theorem updM_perm {a b:Fs} (h:a.Perm b) (u:Uni a) (k:ByteArray) (g:Fl→Fl):(updM k g a).Perm (updM k g b):=by
  rw [updM_eq_map u,updM_eq_map (uni_perm h u)];exact h.map _
theorem srt_keys {a b:Fs} (h:a.map (·.1)=b.map (·.1)) (s:Srt b):Srt a:=by
  have h1:(b.map (·.1)).Pairwise fun x y:ByteArray=>x.data.toList<y.data.toList:=List.pairwise_map.2 s
  rw [←h] at h1
  unfold Srt
  exact (List.pairwise_map (R:=fun x y:ByteArray=>x.data.toList<y.data.toList)).1 h1
theorem ltL_trans {a b c:List UInt8} (h1:a<b) (h2:b<c):a<c:=List.lt_trans h1 h2
theorem ba_ext {a b:ByteArray} (h:a.data.toList=b.data.toList):a=b:=by
  cases a;cases b;simp only at h;congr 1;exact Array.ext' h
theorem insM_srt {k:ByteArray} {f:Fl}:∀ {l:Fs},Srt l→k ∉ l.map (·.1)→Srt (insM (k,f) l)
  |[],_,_=>by simp [insM,Srt]
  |e::l,s,hk=>by
    unfold Srt at s
    rw [List.pairwise_cons] at s
    rw [List.map_cons,List.mem_cons,not_or] at hk
    by_cases h:ltB e.1 k=true
    · have e1:insM (k,f) (e::l)=e::insM (k,f) l:=by
        unfold insM
        simp only [atM,if_pos h,List.take_succ_cons,List.drop_succ_cons,List.cons_append]
      rw [e1]
      refine List.pairwise_cons.2 ⟨fun x hx=>?_,insM_srt s.2 hk.2⟩
      rw [(insM_perm (k,f) l).mem_iff] at hx
      rcases List.mem_cons.1 hx with rfl|hx
      · rw [ltB_eq] at h;exact of_decide_eq_true h
      · exact s.1 x hx
    · have e1:insM (k,f) (e::l)=(k,f)::e::l:=by
        unfold insM
        simp only [atM,if_neg h,List.take_zero,List.drop_zero,List.nil_append]
      rw [e1]
      rw [ltB_eq,decide_eq_true_eq] at h
      have hlt:k.data.toList<e.1.data.toList:=by
        exact Std.lt_of_le_of_ne h fun h2=>hk.1 (ba_ext h2)
      refine List.pairwise_cons.2 ⟨fun x hx=>?_,List.pairwise_cons.2 s⟩
      rcases List.mem_cons.1 hx with rfl|hx
      · exact hlt
      · exact ltL_trans hlt (s.1 x hx)
theorem names_srt {a b:Fs} (h:a.Perm b) (s:Srt b):namesOf a=b.map (·.1):=by
  unfold namesOf
  rw [mergeSort_of_perm (h.map _)]
  have hs:(b.map fun e=>e.1.data.toList).Pairwise fun x y=>(decide (x≤y))=true:=by
    rw [List.pairwise_map]
    exact s.imp fun h=>by simp only [decide_eq_true_eq];exact List.le_of_lt h
  rw [List.mergeSort_of_pairwise hs,List.map_map]
  apply List.map_congr_left
  intro e _
  simp
theorem crashL_perm:∀ {ks:List ByteArray} {keep:List Int} {a b:Fs},a.Perm b→Uni a→(crashL ks keep a).Perm (crashL ks keep b)
  |[],_,_,_,h,_=>h
  |k::ks,keep,a,b,h,u=>by
    rw [crashL,crashL]
    exact crashL_perm (updM_perm h u k _) (uni_upd u)
theorem crashL_app:∀ {l p:Fs} {keep:List Int},Uni (p++l)→crashL (l.map (·.1)) keep (p++l)=p++crashP l keep
  |[],p,keep,_=>by simp [crashL,crashP]
  |e::l,p,keep,u=>by
    have hg:getM e.1 p=none:=by
      refine getM_of_notin ?_
      unfold Uni at u
      rw [List.map_append,List.nodup_append] at u
      intro hk
      exact u.2.2 _ hk e.1 (by simp) rfl
    have hu2:Uni ((p++[(e.1,cutF keep.head? e.2)])++l):=by
      unfold Uni at *
      have:((p++[(e.1,cutF keep.head? e.2)])++l).map (·.1)=(p++e::l).map (·.1):=by simp
      rw [this];exact u
    rw [List.map_cons,crashL,show p++e::l=p++(e.1,e.2)::l from rfl,updM_app hg]
    rw [show p++(e.1,cutF keep.head? e.2)::l=(p++[(e.1,cutF keep.head? e.2)])++l by simp,crashL_app hu2]
    have:crashP (e::l) keep=(e.1,cutF keep.head? e.2)::crashP l keep.tail:=by
      unfold crashP
      rw [List.mapIdx_cons]
      congr 1
      · cases keep<;>rfl
      · apply List.ext_getElem?
        intro i
        simp only [List.getElem?_mapIdx]
        congr 1
        funext x
        cases keep<;>simp
    rw [this];simp
theorem crashL_keys:∀ (ks:List ByteArray) (keep:List Int) (fs:Fs),(crashL ks keep fs).map (·.1)=fs.map (·.1)
  |[],_,_=>rfl
  |k::ks,keep,fs=>by rw [crashL,crashL_keys,updM_keys]
theorem crashL_sure:∀ (ks:List ByteArray) (keep:List Int) {fs:Fs},SureOk fs→SureOk (crashL ks keep fs)
  |[],_,_,h=>h
  |k::ks,keep,fs,h=>by
    rw [crashL]
    refine crashL_sure ks _ (sure_upd (fun f hf=>?_) h)
    have:=stay_le keep.head? f hf
    show f.sure + stay keep.head? f≤(f.b.take (f.sure + stay keep.head? f)).length
    rw [List.length_take];omega
theorem updM_total_le {k:ByteArray} {g:Fl→Fl} (hg:∀ f,(g f).b.length≤f.b.length):∀ fs:Fs,total (updM k g fs)≤total fs
  |[]=>Int.le_refl _
  |e::fs=>by
    rw [updM]
    split
    · rw [total_cons,total_cons];have:=hg e.2;simp only;omega
    · rw [total_cons,total_cons];have:=updM_total_le (k:=k) hg fs;omega
theorem crashL_total:∀ (ks:List ByteArray) (keep:List Int) (fs:Fs),total (crashL ks keep fs)≤total fs
  |[],_,_=>Int.le_refl _
  |k::ks,keep,fs=>by
    rw [crashL]
    refine Int.le_trans (crashL_total ks _ _) (updM_total_le (fun f=>?_) fs)
    show (f.b.take _).length≤_
    rw [List.length_take];omega
theorem crash_inv {st:DS} (i:Inv st) (keep:List Int):Inv (crashD st keep):=
  { a0:=Int.le_refl _,a1:=by show (-1:Int)<_;omega,f0:=Int.le_refl _,f1:=by show (-1:Int)<_;omega,r0:=i.r0,r1:=i.r1,
    full:=Int.le_trans (crashL_total _ _ _) i.full,uni:=by unfold Uni crashD;simp only [crashL_keys];exact i.uni,
    names:=by unfold crashD;simp only [crashL_keys];exact i.names,sure:=crashL_sure _ _ i.sure }
structure Rel (a b:DS):Prop where
  room:a.room=b.room
  fail:a.fail=b.fail
  arm:a.arm=b.arm
  off:a.off=b.off
  perm:a.fs.Perm b.fs
  srt:Srt b.fs
  inv:Inv a
theorem Rel.new {room:Int} (h0:1≤room) (h1:room≤16777216):Rel ⟨room,[],-1,-1,false⟩ ⟨room,[],-1,-1,false⟩:=
  ⟨rfl,rfl,rfl,rfl,List.Perm.refl _,List.Pairwise.nil,inv_new h0 h1⟩
theorem Rel.chg {a b:DS} (h:Rel a b) (ok:Bool):Rel (chg a ok).1 (chg b ok).1∧(chg a ok).2=(chg b ok).2:=by
  have hi:=chg_inv h.inv ok
  obtain ⟨room,fs,fail,arm,off⟩:=a
  obtain ⟨room2,fs2,fail2,arm2,off2⟩:=b
  obtain ⟨h1,h2,h3,h4,h5,h6,_⟩:=h
  simp only at h1 h2 h3 h4 h5 h6
  subst h1 h2 h3 h4
  revert hi
  unfold Proofs.YtkfedbncmfnpnaaGreatDoor.chg
  cases ok
  · exact fun hi=>⟨⟨rfl,rfl,rfl,rfl,h5,h6,hi⟩,rfl⟩
  · cases off
    · cases hm:(metN arm).2
      · simp only [hm]
        exact fun hi=>⟨⟨rfl,rfl,rfl,rfl,h5,h6,hi⟩,rfl⟩
      · simp only [hm]
        exact fun hi=>⟨⟨rfl,rfl,rfl,rfl,h5,h6,hi⟩,rfl⟩
    · exact fun hi=>⟨⟨rfl,rfl,rfl,rfl,h5,h6,hi⟩,rfl⟩
theorem Rel.doing {a b:DS} (h:Rel a b) (ok:Bool) {g g':DS→DS × Int} (hg:ok=true→∀ a b,Rel a b→Rel (g a).1 (g' b).1∧(g a).2=(g' b).2):
    Rel (doing a ok g).1 (doing b ok g').1∧(doing a ok g).2=(doing b ok g').2:=by
  have h1:=h.chg ok
  unfold Proofs.YtkfedbncmfnpnaaGreatDoor.doing
  by_cases h0:(Proofs.YtkfedbncmfnpnaaGreatDoor.chg a ok).2=0
  · rw [if_pos h0,if_pos (by rw [←h1.2];exact h0)]
    exact hg (chg_ok h0) _ _ h1.1
  · rw [if_neg h0,if_neg (by rw [←h1.2];exact h0)]
    exact h1
theorem Rel.get {a b:DS} (h:Rel a b) (k:ByteArray):getM k a.fs=getM k b.fs:=getM_perm h.perm h.inv.uni k
theorem Rel.total {a b:DS} (h:Rel a b):total a.fs=total b.fs:=total_perm h.perm
theorem Rel.names {a b:DS} (h:Rel a b):namesOf a.fs=b.fs.map (·.1):=names_srt h.perm h.srt
theorem Rel.read {a b:DS} (h:Rel a b) (k:ByteArray):readD a k=readD b k:=by
  unfold readD;rw [h.off,h.get]
theorem Rel.append {a b:DS} (h:Rel a b) (k:ByteArray) (xs:List Int):Rel (appendD a k xs).1 (appendR b k xs).1∧(appendD a k xs).2=(appendR b k xs).2:=by
  refine h.doing _ fun hk a b h=>?_
  have hi:=appendG_inv h.inv hk xs
  unfold appendG appendGR at *
  rw [h.total,h.room] at *
  by_cases hc:Proofs.YtkfedbncmfnpnaaGreatDoor.total b.fs + xs.length>b.room
  · rw [if_pos hc,if_pos hc];exact ⟨h,rfl⟩
  · rw [if_neg hc] at *
    rw [if_neg hc]
    have hperm:(ensure k a.fs).Perm (ensureR k b.fs):=by
      unfold ensure ensureR
      rw [h.get]
      split
      · exact h.perm
      · refine List.perm_append_comm.trans ((h.perm.cons _).trans (insM_perm (k,(⟨[],0⟩:Fl)) b.fs).symm)
    have hsrt:Srt (ensureR k b.fs):=by
      unfold ensureR
      by_cases hs:(getM k b.fs).isSome=true
      · rw [if_pos hs];exact h.srt
      · rw [if_neg hs];exact insM_srt h.srt (notin_of_getM (by simpa using hs))
    refine ⟨⟨rfl,h.fail,h.arm,h.off,updM_perm hperm (uni_ensure h.inv.uni k) k _,srt_keys (updM_keys _ _ _) hsrt,hi⟩,rfl⟩
theorem Rel.sync {a b:DS} (h:Rel a b) (k:ByteArray):Rel (syncD a k).1 (syncD b k).1∧(syncD a k).2=(syncD b k).2:=by
  refine h.doing _ fun hk a b h=>?_
  unfold syncG
  rw [h.get]
  split
  · refine ⟨⟨h.room,h.fail,h.arm,h.off,updM_perm h.perm h.inv.uni k _,srt_keys (updM_keys _ _ _) h.srt,?_⟩,rfl⟩
    have i:=h.inv
    exact { toCounts:=⟨i.a0,i.a1,i.f0,i.f1⟩,r0:=i.r0,r1:=i.r1,full:=by simp only;rw [updM_total (g:=fun f=>{ f with sure:=f.b.length }) (fun _=>rfl)];exact i.full,uni:=uni_upd i.uni,names:=by simp only [updM_keys];exact i.names,sure:=sure_upd (fun f _=>Nat.le_refl _) i.sure }
  · exact ⟨h,rfl⟩
theorem Rel.crash {a b:DS} (h:Rel a b) (keep:List Int):Rel (crashD a keep) (crashR b keep):=by
  refine ⟨h.room,rfl,rfl,rfl,?_,?_,crash_inv h.inv keep⟩
  · show (crashL (namesOf a.fs) keep a.fs).Perm (crashP b.fs keep)
    rw [h.names]
    refine (crashL_perm h.perm h.inv.uni).trans ?_
    have:=crashL_app (l:=b.fs) (p:=[]) (keep:=keep) (by simpa using uni_perm h.perm h.inv.uni)
    simp only [List.nil_append] at this
    rw [this]
  · refine srt_keys ?_ h.srt
    show (crashP b.fs keep).map (·.1)=_
    unfold crashP
    apply List.ext_getElem?
    intro i
    simp [List.getElem?_mapIdx]
    cases b.fs[i]?<;>rfl
end Go.Proofs.YtkfedbncmfnpnaaGreatDoor
/- The check sum, plain: a table by linear algebra, and by steps. No program. No condition. -/
namespace Go.VC
set_option linter.unusedVariables false
set_option linter.unusedSimpArgs false
def cstep (r:Nat):Nat:=if r % 2=1 then (r / 2) ^^^ 2197175160 else r / 2
def cstepN:Nat→Nat→Nat
 |0,r=>r
 |n + 1,r=>cstepN n (cstep r)
theorem xor_mod2 (a b:Nat):(a ^^^ b) % 2=(a % 2 + b % 2) % 2:=by
 rcases Nat.mod_two_eq_zero_or_one a with ha|ha<;>rcases Nat.mod_two_eq_zero_or_one b with hb|hb<;>
  simp [Nat.xor_mod_two_eq_one,Nat.mod_two_eq_zero_iff_testBit_zero,ha,hb]<;>(try omega)<;>
  (have:=Nat.xor_mod_two_eq_one (a:=a) (b:=b);rcases Nat.mod_two_eq_zero_or_one (a ^^^ b) with h|h<;>omega)
theorem cstep_xor (a b:Nat):cstep (a ^^^ b)=cstep a ^^^ cstep b:=by
 have hd:(a ^^^ b) / 2=a / 2 ^^^ b / 2:=Nat.xor_div_two
 have hm:=xor_mod2 a b
 unfold cstep
 rw [hd]
 rcases Nat.mod_two_eq_zero_or_one a with ha|ha<;>rcases Nat.mod_two_eq_zero_or_one b with hb|hb<;>rw [ha,hb] at hm
 ·rw [if_neg (by omega),if_neg (by omega),if_neg (by omega)]
 ·rw [if_pos (by omega),if_neg (by omega),if_pos hb,Nat.xor_assoc]
 ·rw [if_pos (by omega),if_pos ha,if_neg (by omega),Nat.xor_assoc,Nat.xor_assoc]
  congr 1;exact Nat.xor_comm _ _
 ·rw [if_neg (by omega),if_pos ha,if_pos hb]
  rw [Nat.xor_assoc,Nat.xor_comm (2197175160) (b / 2 ^^^ 2197175160),Nat.xor_assoc,Nat.xor_self,Nat.xor_zero]
theorem cstepN_xor:∀ (n a b:Nat),cstepN n (a ^^^ b)=cstepN n a ^^^ cstepN n b
 |0,_,_=>rfl
 |n + 1,a,b=>by rw [cstepN,cstepN,cstepN,cstep_xor,cstepN_xor n]
theorem cstepN_shift:∀ (n a:Nat),cstepN n (a * 2 ^ n)=a
 |0,a=>by simp [cstepN]
 |n + 1,a=>by
  have:cstep (a * 2 ^ (n + 1))=a * 2 ^ n:=by
   unfold cstep
   have e:a * 2 ^ (n + 1)=2 * (a * 2 ^ n):=by rw [Nat.pow_succ,Nat.mul_comm 2,Nat.mul_assoc]
   rw [e,if_neg (by omega)];omega
  rw [cstepN,this,cstepN_shift n]
theorem split8 (x:Nat):x=(x / 256 * 2 ^ 8) ^^^ (x % 256):=by
 have h:(x / 256 * 2 ^ 8) ^^^ (x % 256)=x / 256 * 2 ^ 8 + x % 256:=by
  have:=Nat.two_pow_add_eq_or_of_lt (i:=8) (b:=x % 256) (by omega) (x / 256)
  rw [Nat.mul_comm] at this
  rw [this]
  apply Nat.eq_of_testBit_eq
  intro j
  rw [Nat.testBit_xor,Nat.testBit_or]
  by_cases hj:j<8
  ·have:(x / 256 * 2 ^ 8).testBit j=false:=by rw [Nat.testBit_mul_two_pow];simp;omega
   rw [this];simp
  ·have:(x % 256).testBit j=false:=Nat.testBit_lt_two_pow (Nat.lt_of_lt_of_le (show x % 256<2 ^ 8 by omega) (Nat.pow_le_pow_right (by omega) (by omega)))
   rw [this];simp
 rw [h];omega
theorem cstep8_eq (x:Nat):cstepN 8 x=(x / 256) ^^^ cstepN 8 (x % 256):=by
 conv=>lhs;rw [split8 x]
 rw [cstepN_xor,cstepN_shift]
def mtimesAt (m:List Nat) (r:Nat):Nat→Nat→Nat
 |0,out=>out
 |k + 1,out=>mtimesAt m r k (out ^^^ (if (r / 2 ^ (32 - (k + 1))) % 2=1 then m.getD (32 - (k + 1)) 0 else 0))
def mtimes (m:List Nat) (r:Nat):Nat:=mtimesAt m r 32 0
def msq (m:List Nat):List Nat:=m.map (mtimes m)
def mstep:List Nat:=2197175160::(List.range 31).map fun i=>2 ^ i
def mbyte:List Nat:=msq (msq (msq mstep))
theorem mbyte_eq:∀ i,i<256→mtimes mbyte i=cstepN 8 i:=by decide +kernel
theorem mbyte_len:mbyte.length=32:=by decide +kernel
end Go.VC
/- Codes of numbers and of bytes, plain. No program. No condition. -/
namespace Go.VC
set_option linter.unusedVariables false
set_option linter.unusedSimpArgs false
def dig (n:Nat):List Int:=if h:n=0 then [] else dig (n / 256)++[((n % 256:Nat):Int)]
termination_by n
decreasing_by omega
theorem dig_zero:dig 0=[]:=by unfold dig;simp
theorem dig_pos {n:Nat} (h:n≠0):dig n=dig (n / 256)++[((n % 256:Nat):Int)]:=by
 conv=>lhs;unfold dig
 rw [dif_neg h]
def valI (acc:Int) (l:List Int):Int:=l.foldl (fun a b=>a * 256 + b) acc
theorem valI_nil (acc:Int):valI acc []=acc:=rfl
theorem valI_cons (acc b:Int) (l:List Int):valI acc (b::l)=valI (acc * 256 + b) l:=rfl
theorem valI_app (acc:Int) (a b:List Int):valI acc (a++b)=valI (valI acc a) b:=List.foldl_append
theorem valI_snoc (acc:Int) (a:List Int) (b:Int):valI acc (a++[b])=valI acc a * 256 + b:=by rw [valI_app];rfl
theorem valI_nn:∀ {l:List Int} {acc:Int},0≤acc→(∀ x∈l,0≤x∧x<256)→0≤valI acc l
 |[],_,h,_=>h
 |b::l,acc,h,hb=>by
  rw [valI_cons]
  have:=hb b List.mem_cons_self
  exact valI_nn (by omega) fun x hx=>hb x (List.mem_cons_of_mem _ hx)
theorem valI_lt:∀ {l:List Int} {acc:Int},0≤acc→(∀ x∈l,0≤x∧x<256)→valI acc l<(acc + 1) * 256 ^ l.length
 |[],acc,h,_=>by simp [valI];omega
 |b::l,acc,h,hb=>by
  rw [valI_cons]
  have h1:=hb b List.mem_cons_self
  have:=valI_lt (l:=l) (acc:=acc * 256 + b) (by omega) fun x hx=>hb x (List.mem_cons_of_mem _ hx)
  refine Int.lt_of_lt_of_le this ?_
  rw [List.length_cons,Int.pow_succ,Int.mul_comm (256 ^ l.length) 256,←Int.mul_assoc]
  exact Int.mul_le_mul_of_nonneg_right (by omega) (Int.le_of_lt (Int.pow_pos (by decide)))
theorem dig_val (n:Nat):valI 0 (dig n)=n:=by
 induction n using Nat.strongRecOn with
 |ind n ih=>
  by_cases h:n=0
  ·subst h;rw [dig_zero];rfl
  ·rw [dig_pos h,valI_snoc,ih (n / 256) (by omega)];omega
theorem dig_bd (n:Nat):∀ x∈dig n,0≤x∧x<256:=by
 induction n using Nat.strongRecOn with
 |ind n ih=>
  by_cases h:n=0
  ·subst h;rw [dig_zero];intro x hx;cases hx
  ·rw [dig_pos h]
   intro x hx
   rcases List.mem_append.1 hx with hx|hx
   ·exact ih (n / 256) (by omega) x hx
   ·simp at hx;omega
theorem dig_head (n:Nat):∀ x l,dig n=x::l→x≠0:=by
 induction n using Nat.strongRecOn with
 |ind n ih=>
  intro x l hx
  by_cases h:n=0
  ·subst h;rw [dig_zero] at hx;cases hx
  ·rw [dig_pos h] at hx
   by_cases h2:n / 256=0
   ·rw [h2,dig_zero] at hx
    simp at hx
    omega
   ·cases hd:dig (n / 256) with
    |nil=>rw [dig_pos h2] at hd;simp at hd
    |cons y l'=>
     rw [hd] at hx
     simp at hx
     obtain ⟨rfl,_⟩:=hx
     exact ih (n / 256) (by omega) _ _ hd
theorem dig_len_le:∀ (k n:Nat),n<256 ^ k→(dig n).length≤k
 |0,n,h=>by
  have:n=0:=by simpa using h
  subst this;rw [dig_zero];simp
 |k + 1,n,h=>by
  by_cases h0:n=0
  ·subst h0;rw [dig_zero];simp
  ·rw [dig_pos h0,List.length_append]
   have:=dig_len_le k (n / 256) (by rw [Nat.pow_succ] at h;exact Nat.div_lt_of_lt_mul (by rwa [Nat.mul_comm] at h))
   simp;omega
theorem dig_len8 {n:Nat} (h:n<18446744073709551616):(dig n).length≤8:=dig_len_le 8 n (by simpa using h)
theorem dig_width (n:Nat) (h:n<18446744073709551616):(Lib.bitLen n + 7) / 8=(dig n).length:=by
 induction n using Nat.strongRecOn with
 |ind n ih=>
  by_cases h0:n=0
  ·subst h0;rw [dig_zero];decide
  ·rw [dig_pos h0,List.length_append]
   by_cases h1:256≤n
   ·rw [Lib.bitLen_shift8 n h1 h,←ih (n / 256) (by omega) (by omega)]
    simp;omega
   ·have e:n / 256=0:=by omega
    rw [e,dig_zero]
    have h2:∀ m:Fin 256,m.val≠0→(Lib.bitLen m.val + 7) / 8=1:=by decide +kernel
    simpa using h2 ⟨n,by omega⟩ h0
theorem dig_drop:∀ (k n:Nat),k≤(dig n).length→(dig n).take ((dig n).length - k)=dig (n / 256 ^ k)
 |0,n,_=>by simp
 |k + 1,n,h=>by
  by_cases h0:n=0
  ·subst h0;rw [dig_zero] at h;simp at h
  ·rw [dig_pos h0] at h ⊢
   rw [List.length_append] at h ⊢
   simp only [List.length_cons,List.length_nil] at h ⊢
   have e:(dig (n / 256)).length + (0 + 1) - (k + 1)=(dig (n / 256)).length - k:=by omega
   rw [e,List.take_append_of_le_length (by omega),dig_drop k (n / 256) (by omega),Nat.div_div_eq_div_mul,Nat.pow_succ,Nat.mul_comm 256]
theorem dig_get {n k:Nat} (h:k<(dig n).length):(dig n)[(dig n).length - 1 - k]'(by omega)=((n / 256 ^ k % 256:Nat):Int):=by
 have h1:=dig_drop k n (by omega)
 have hn:n / 256 ^ k≠0:=by
  intro h0
  rw [h0,dig_zero] at h1
  have:=congrArg List.length h1
  simp at this;omega
 rw [dig_pos hn] at h1
 have h2:((dig n).take ((dig n).length - k)).getLast? =some ((n / 256 ^ k % 256:Nat):Int):=by rw [h1];simp
 rw [List.getLast?_eq_getElem?,List.length_take,Nat.min_eq_left (by omega),List.getElem?_take] at h2
 split at h2
 ·rw [List.getElem?_eq_some_iff] at h2
  obtain ⟨h3,h4⟩:=h2
  have e:(dig n).length - 1 - k=(dig n).length - k - 1:=by omega
  simp only [e]
  exact h4
 ·cases h2
def numB (n:Nat):List Int:=((dig n).length:Int)::dig n
def textB (b:List Int):List Int:=numB b.length++b
theorem numB_bd {n:Nat} (h:n<18446744073709551616):∀ x∈numB n,0≤x∧x<256:=by
 intro x hx
 rcases List.mem_cons.1 hx with rfl|hx
 ·have:=dig_len8 h;omega
 ·exact dig_bd n x hx
theorem numB_len {n:Nat} (h:n<18446744073709551616):(numB n).length≤9:=by
 have:=dig_len8 h;unfold numB;simp;omega
def parse (l:List Int):Option (Int × Bool × Nat):=
 match l with
 |[]=>none
 |k::rest=>
  let neg:=decide (16≤k)
  let w:=(if 16≤k then k - 16 else k).toNat
  if k<32∧w≤8∧w≤rest.length∧(w=0→k=0)∧(w≠0→rest.head?≠some 0) then some (valI 0 (rest.take w),neg,w + 1) else none
theorem parse_num {n:Nat} (h:n<18446744073709551616) (rest:List Int):parse (numB n++rest)=some ((n:Int),false,(numB n).length):=by
 have h8:=dig_len8 h
 unfold parse numB
 simp only [List.cons_append]
 have e1:¬ (16:Int)≤((dig n).length:Int):=by omega
 rw [if_neg e1]
 rw [if_pos]
 ·simp only [Int.toNat_natCast,List.take_left',dig_val,List.length_cons,Option.some.injEq,Prod.mk.injEq,and_true,true_and]
  simpa using e1
 ·refine ⟨by omega,by omega,by simp,fun h0=>by omega,fun h0=>?_⟩
  simp only [Int.toNat_natCast] at h0
  cases hd:dig n with
  |nil=>rw [hd] at h0;simp at h0
  |cons x l=>
   have:=dig_head n x l hd
   simp;exact this
theorem parse_bd {l:List Int} {n:Int} {neg:Bool} {k:Nat} (hb:∀ x∈l,0≤x∧x<256) (h:parse l=some (n,neg,k)):0≤n∧n<18446744073709551616∧1≤k∧k≤9∧k≤l.length:=by
 unfold parse at h
 split at h
 ·cases h
 ·rename_i c rest
  simp only at h
  generalize hw:(if 16≤c then c - 16 else c).toNat=w at h
  split at h
  ·rename_i hc
   obtain ⟨_,h8,hr,_,_⟩:=hc
   simp only [Option.some.injEq,Prod.mk.injEq] at h
   obtain ⟨rfl,_,rfl⟩:=h
   have hb2:∀ x∈rest.take w,0≤x∧x<256:=fun x hx=>hb x (List.mem_cons_of_mem _ (List.mem_of_mem_take hx))
   refine ⟨valI_nn (Int.le_refl _) hb2,?_,by omega,by omega,by simp;omega⟩
   refine Int.lt_of_lt_of_le (valI_lt (Int.le_refl _) hb2) ?_
   rw [List.length_take,Nat.min_eq_left hr,Int.zero_add,Int.one_mul]
   have h9:256 ^ w≤256 ^ 8:=Nat.pow_le_pow_right (by omega) h8
   have:((256 ^ w:Nat):Int)≤((256 ^ 8:Nat):Int):=Int.ofNat_le.2 h9
   rw [Int.natCast_pow] at this
   exact Int.le_trans this (by decide)
  ·cases h
structure Rd where
 bs:List Int
 bad:Bool
def rdNum (most:Int) (r:Rd):Int × Rd:=
 if r.bad then (0,r) else match parse r.bs with
 |some (n,neg,k)=>if neg=false∧n≤most then (n,⟨r.bs.drop k,false⟩) else (0,⟨r.bs,true⟩)
 |none=>(0,⟨r.bs,true⟩)
def rdText (most:Int) (r:Rd):List Int × Rd:=
 if r.bad then ([],r) else match parse r.bs with
 |some (n,neg,k)=>if neg=false∧0≤most∧n≤most∧n≤((r.bs.length:Int) - k) then (((r.bs.drop k).take n.toNat),⟨r.bs.drop (k + n.toNat),false⟩) else ([],⟨r.bs,true⟩)
 |none=>([],⟨r.bs,true⟩)
def rdWhole (r:Rd):Bool:=!r.bad && decide (r.bs.length=0)
end Go.VC
/- Records, plain. No program. No condition. -/
namespace Go.VC
set_option linter.unusedVariables false
set_option linter.unusedSimpArgs false
def ones32:Nat:=4294967295
def crcRun (r:Nat) (bs:List Int):Nat:=bs.foldl (fun r c=>cstepN 8 (r ^^^ c.toNat)) r
def crcAdd (sum:Nat) (bs:List Int):Nat:=crcRun (sum ^^^ ones32) bs ^^^ ones32
theorem crcRun_app (r:Nat) (a b:List Int):crcRun r (a++b)=crcRun (crcRun r a) b:=List.foldl_append
theorem crcAdd_app (s:Nat) (a b:List Int):crcAdd (crcAdd s a) b=crcAdd s (a++b):=by
 unfold crcAdd
 rw [Nat.xor_assoc,Nat.xor_self,Nat.xor_zero,crcRun_app]
theorem cstep_lt {r:Nat} (h:r<4294967296):cstep r<4294967296:=by
 unfold cstep
 split
 ·exact Nat.xor_lt_two_pow (n:=32) (by omega) (by decide)
 ·omega
theorem cstepN_lt:∀ (n:Nat) {r:Nat},r<4294967296→cstepN n r<4294967296
 |0,_,h=>h
 |n + 1,_,h=>cstepN_lt n (cstep_lt h)
theorem crcRun_lt:∀ {bs:List Int} {r:Nat},r<4294967296→(∀ x∈bs,0≤x∧x<256)→crcRun r bs<4294967296
 |[],_,h,_=>h
 |b::bs,r,h,hb=>by
  have:=hb b List.mem_cons_self
  exact crcRun_lt (bs:=bs) (cstepN_lt 8 (Nat.xor_lt_two_pow (n:=32) h (by omega))) fun x hx=>hb x (List.mem_cons_of_mem _ hx)
theorem crcAdd_lt {s:Nat} {bs:List Int} (hs:s<4294967296) (hb:∀ x∈bs,0≤x∧x<256):crcAdd s bs<4294967296:=
 Nat.xor_lt_two_pow (n:=32) (crcRun_lt (Nat.xor_lt_two_pow (n:=32) hs (by decide)) hb) (by decide)
def word4 (n:Nat):List Int:=[((n / 16777216 % 256:Nat):Int),((n / 65536 % 256:Nat):Int),((n / 256 % 256:Nat):Int),((n % 256:Nat):Int)]
theorem word4_len (n:Nat):(word4 n).length=4:=rfl
theorem word4_bd (n:Nat):∀ x∈word4 n,0≤x∧x<256:=by
 intro x hx
 simp only [word4,List.mem_cons,List.not_mem_nil,or_false] at hx
 rcases hx with rfl|rfl|rfl|rfl<;>omega
theorem word4_val {n:Nat} (h:n<4294967296):valI 0 (word4 n)=n:=by
 simp only [word4,valI,List.foldl];omega
def recB (b:List Int):List Int:=word4 b.length++word4 (crcAdd 0 (word4 b.length++b))++b
theorem recB_len (b:List Int):(recB b).length=8 + b.length:=by simp [recB,word4_len];omega
theorem recB_bd {b:List Int} (h:∀ x∈b,0≤x∧x<256):∀ x∈recB b,0≤x∧x<256:=by
 intro x hx
 simp only [recB,List.mem_append] at hx
 rcases hx with (hx|hx)|hx
 ·exact word4_bd _ x hx
 ·exact word4_bd _ x hx
 ·exact h x hx
def first (l:List Int):Option (List Int):=
 if 8≤l.length then
  let n:=(valI 0 (l.take 4)).toNat
  if n≤65536∧n≤l.length - 8∧crcAdd 0 (l.take 4++(l.drop 8).take n)=(valI 0 ((l.drop 4).take 4)).toNat then some ((l.drop 8).take n) else none
 else none
theorem first_len {l b:List Int} (h:first l=some b):8 + b.length≤l.length∧b.length≤65536∧b=(l.drop 8).take b.length∧b.length=(valI 0 (l.take 4)).toNat:=by
 unfold first at h
 split at h
 ·simp only at h
  split at h
  ·rename_i h8 hc
   obtain ⟨h1,h2,_⟩:=hc
   simp only [Option.some.injEq] at h
   have hl:b.length=(valI 0 (l.take 4)).toNat:=by rw [←h];simp;omega
   exact ⟨by omega,by omega,by rw [hl];exact h.symm,hl⟩
  ·cases h
 ·cases h
def scan (l:List Int):List (List Int):=
 match h:first l with
 |none=>[]
 |some b=>b::scan (l.drop (8 + b.length))
termination_by l.length
decreasing_by
 have:=(first_len h).1
 simp;omega
theorem scan_none {l:List Int} (h:first l=none):scan l=[]:=by
 unfold scan
 split
 ·rfl
 ·rename_i b hb;rw [h] at hb;cases hb
theorem scan_some {l b:List Int} (h:first l=some b):scan l=b::scan (l.drop (8 + b.length)):=by
 conv=>lhs;unfold scan
 split
 ·rename_i hb;rw [h] at hb;cases hb
 ·rename_i b' hb;rw [h] at hb;cases hb;rfl
def scanLen (l:List (List Int)):Nat:=(l.map fun b=>8 + b.length).foldr (· + ·) 0
theorem scanLen_cons (b:List Int) (l:List (List Int)):scanLen (b::l)=8 + b.length + scanLen l:=rfl
theorem first_rec {b rest:List Int} (hb:b.length≤65536) (hbd:∀ x∈b,0≤x∧x<256):first (recB b++rest)=some b:=by
 unfold first
 have hl:=recB_len b
 rw [if_pos (by rw [List.length_append];omega)]
 have e0:recB b++rest=word4 b.length++(word4 (crcAdd 0 (word4 b.length++b))++(b++rest)):=by simp [recB]
 have e1:(recB b++rest).take 4=word4 b.length:=by rw [e0,List.take_left' (word4_len _)]
 have e2:(recB b++rest).drop 4=word4 (crcAdd 0 (word4 b.length++b))++(b++rest):=by rw [e0,List.drop_left' (word4_len _)]
 have e3:(recB b++rest).drop 8=b++rest:=by
  rw [show 8=4 + 4 from rfl,←List.drop_drop,e2,List.drop_left' (word4_len _)]
 have hv:(valI 0 (word4 b.length)).toNat=b.length:=by rw [word4_val (by omega)];rfl
 simp only
 have hc:crcAdd 0 (word4 b.length++b)<4294967296:=crcAdd_lt (by decide) fun x hx=>(List.mem_append.1 hx).elim (word4_bd _ x) (hbd x)
 rw [e1,e2,e3,hv,List.take_left' rfl,List.take_left' (word4_len _),word4_val hc]
 rw [if_pos ⟨hb,by rw [List.length_append];omega,rfl⟩]
end Go.VC
/- Package crc: the check sum. No condition. -/
namespace Go.Proofs.YtkfedbncmfnpnaaGreatDoor
set_option linter.unusedVariables false
set_option linter.unusedSimpArgs false
open Go Go.VC
variable {R:Cx} {Hs Rest:List HP} {w:World}
theorem At.intsK {kd:IntKind} {S:World→Prop} {b:Nat} {xs:List Int} {T:TypeId} {fr:Nat × Nat} (hS:∀ w,S w→Sat R Hs w)
  [t:TakeP b Hs (.cells (xs.map (Value.int kd)).toArray T fr) Rest] {i:Nat} (hi:i<xs.length):At S (Addr.add ⟨b,0,none⟩ i) [.int kd xs[i]]:=by
 rw [add_off]
 refine At.own hS ?_
 rw [Nat.zero_add,List.drop_eq_getElem_cons (by simpa using hi)]
 exact ⟨by simp,trivial⟩
theorem shr_nat32 (n k:Nat) (hk:k≤32):shrI .u32 (n:Int) (k:Int)=((n / 2 ^ k:Nat):Int):=by
 have e:min ((k:Int).toNat) IntKind.u32.bits=k:=by rw [Int.toNat_natCast];exact Nat.min_eq_left hk
 unfold shrI
 rw [e,Int.fdiv_eq_ediv_of_nonneg _ (by exact Int.le_of_lt (Int.pow_pos (by decide)))]
 rw [show ((2:Int) ^ k)=((2 ^ k:Nat):Int) from (Int.natCast_pow 2 k).symm]
 exact (Int.natCast_ediv n (2 ^ k)).symm
theorem and_one (x:Nat) (hx:x<4294967296):bitI .and .u32 (x:Int) 1=((x % 2:Nat):Int):=by
 have:=andU32 (x:=x) (y:=1) hx (by omega)
 rw [Nat.and_one_is_mod] at this
 exact this
theorem mask32 {x b:Nat} (hx:x<4294967296) (hb:b<2):bitI .and .u32 (x:Int) (IntKind.u32.wrap (0 - (b:Int)))=((if b=1 then x else 0:Nat):Int):=by
 rw [wrapU32m]
 rcases (show b=0∨b=1 by omega) with rfl|rfl
 ·have:=andU32 (x:=x) (y:=0) hx (by omega)
  rw [Nat.and_zero] at this
  exact this
 ·have:=andU32 (x:=x) (y:=4294967295) hx (by omega)
  have e:x &&& 4294967295=x:=by
   have:=Nat.and_two_pow_sub_one_eq_mod x 32
   rw [show (2:Nat) ^ 32 - 1=4294967295 from rfl,show (2:Nat) ^ 32=4294967296 from rfl] at this
   rw [this];omega
  rw [e] at this
  exact this
theorem notU32 {x:Nat} (hx:x<4294967296):IntKind.u32.wrap ((BitVec.ofInt IntKind.u32.bits (if IntKind.u32.signed=true then -1 else IntKind.u32.max) ^^^ BitVec.ofInt IntKind.u32.bits (x:Int)).toNat:Nat)=((x ^^^ ones32:Nat):Int):=by
 have:=xorU32 (x:=4294967295) (y:=x) (by omega) hx
 rw [Nat.xor_comm] at this
 exact this
abbrev mi (l:List Nat):List Int:=l.map (fun n:Nat=>(n:Int))
abbrev m32 (l:List Nat):List Value:=(mi l).map (Value.int .u32)
abbrev mAt (m:Nat) (l:List Nat):HP:=pts m (.cells (m32 l).toArray 260 (0,0))
def Fill (t c:List Nat) (k:Nat):Prop:=c.length=t.length∧∀ i,i<k→c[i]? =t[i]?
theorem Fill.set {t c:List Nat} {k x:Nat} (h:Fill t c k) (hk:k<t.length) (hx:x=t[k]):Fill t (c.set k x) (k + 1):=by
 refine ⟨by simp [h.1],fun i hi=>?_⟩
 rcases (show i=k∨i<k by omega) with rfl|hik
 ·rw [List.getElem?_set_self (by rw [h.1];exact hk),hx,List.getElem?_eq_getElem hk]
 ·rw [List.getElem?_set_ne (by omega)];exact h.2 i hik
theorem Fill.done {t c:List Nat} {k:Nat} (h:Fill t c k) (hk:t.length≤k):c=t:=by
 apply List.ext_getElem?
 intro i
 rcases Nat.lt_or_ge i k with hi|hi
 ·exact h.2 i hi
 ·rw [List.getElem?_eq_none (by rw [h.1];omega),List.getElem?_eq_none (by omega)]
theorem xor32 {a b:Nat} (ha:a<4294967296) (hb:b<4294967296):a ^^^ b<4294967296:=Nat.xor_lt_two_pow (n:=32) ha hb
theorem mtimesAt_lt {l:List Nat} (hl:∀ x∈l,x<4294967296) (r:Nat):∀ (k:Nat) {out:Nat},out<4294967296→mtimesAt l r k out<4294967296
 |0,_,h=>h
 |k + 1,out,h=>by
  refine mtimesAt_lt hl r k (xor32 h ?_)
  split
  ·rw [List.getD_eq_getElem?_getD]
   cases hx:l[32 - (k + 1)]? with
   |none=>simp
   |some x=>exact hl x (List.mem_of_getElem? hx)
  ·omega
theorem msq_bd {l:List Nat} (hl:∀ x∈l,x<4294967296):∀ x∈msq l,x<4294967296:=by
 intro x hx
 obtain ⟨r,_,rfl⟩:=List.mem_map.1 hx
 exact mtimesAt_lt hl r 32 (by omega)
theorem times_spec {m r:Nat} {l:List Nat} (hl:l.length=32) (hb:∀ x∈l,x<4294967296) (hr:r<4294967296) (hw:Sat R (mAt m l::Hs) w):
  Gets Tryz.prog 226 #[.pointer (some ⟨m,0,none⟩),.int .u32 r] w fun v w'=>v=.int .u32 (mtimes l r:Nat)∧Sat R (mAt m l::Hs) w':=by
 apply call226
 refine ⟨fun o t w=>∃ k n:Nat,t=k∧k≤32∧o=n∧n<4294967296∧mtimesAt l r (32 - k) n=mtimes l r∧Sat R (mAt m l::Hs) w,fun _ t _=>32 - t.toNat,⟨0,0,rfl,by omega,rfl,by omega,rfl,hw⟩,?_⟩
 rintro _ _ _ w ⟨k,n,rfl,hk,rfl,hn,he,hw⟩
 refine Br.d (fun h=>?_) (fun h=>?_)
 ·refine drw_rule hw fun w hw=>NilP.mk rfl (Rng.mk (by omega) (by omega) ⟨(l[k]'(by omega):Nat),?_,Ge0.mk (by omega) ?_⟩)
  ·have:=At.intsK (b:=m) (T:=260) (fr:=(0,0)) (kd:=.u32) (xs:=mi l) (S:=Sat R (mAt m l::Hs)) selfS (i:=k) (by simp;omega)
   rw [Int.toNat_natCast]
   simpa using this
  ·have hx:=hb (l[k]'(by omega)) (List.getElem_mem _)
   have h2:r / 2 ^ k<4294967296:=Nat.lt_of_le_of_lt (Nat.div_le_self _ _) hr
   rw [shr_nat32 r k (by omega),and_one _ h2,mask32 hx (by omega),wrap64 (by omega) (by omega)]
   have hm:(if r / 2 ^ k % 2=1 then l[k]'(by omega) else 0)<4294967296:=by split<;>omega
   rw [xorU32 hn hm]
   refine ⟨⟨k + 1,_,by omega,by omega,rfl,xor32 hn hm,?_,hw⟩,by dsimp only;omega⟩
   rw [←he]
   have e:32 - k=(31 - k) + 1:=by omega
   have e2:32 - (k + 1)=31 - k:=by omega
   have e3:32 - (31 - k + 1)=k:=by omega
   rw [e,e2,mtimesAt,e3,List.getD_eq_getElem?_getD,List.getElem?_eq_getElem (by omega:k<l.length)]
   rfl
 ·have hk2:k=32:=by omega
  subst hk2
  refine ⟨?_,hw⟩
  rw [←he];rfl
theorem zeros_at {b:Nat} {n:Nat} {T:TypeId} {o:Obj} (ho:o=.cells (m32 (List.replicate n 0)).toArray T (0,0)) (hw:Sat R (pts b o::Hs) w):Sat R (pts b (.cells (m32 (List.replicate n 0)).toArray T (0,0))::Hs) w:=by
 rw [←ho];exact hw
theorem mi_set (l:List Nat) (i x:Nat):(mi l).set i (x:Int)=mi (l.set i x):=by simp [mi,List.map_set]
theorem squared_spec {m:Nat} {l:List Nat} (hl:l.length=32) (hb:∀ x∈l,x<4294967296) (hw:Sat R (mAt m l::Hs) w):
  Gets Tryz.prog 225 #[.pointer (some ⟨m,0,none⟩)] w fun v w'=>∃ b,v=.pointer (some ⟨b,0,none⟩)∧Sat R (mAt b (msq l)::Hs) w':=by
 have hml:(msq l).length=32:=by simp [msq,hl]
 apply call225
 refine new_rule hw fun b w hw=>?_
 have hw:=zeros_at (n:=32) (T:=260) rfl hw
 refine ⟨fun t w=>∃ k:Nat,t=k∧k≤32∧∃ c,Fill (msq l) c k∧Sat R (mAt b c::mAt m l::Hs) w,fun t _=>32 - t.toNat,⟨0,rfl,by omega,_,⟨by simp [hml],fun i hi=>absurd hi (by omega)⟩,hw⟩,?_⟩
 rintro _ _ w ⟨k,rfl,hk,c,hf,hw⟩
 refine Br.d (fun h=>?_) (fun h=>?_)
 ·have hkl:k<l.length:=by omega
  refine drw_rule hw fun w hw=>NilP.mk rfl (Rng.mk (by omega) (by omega) ⟨(l[k]:Nat),?_,?_⟩)
  ·have:=At.intsK (b:=m) (T:=260) (fr:=(0,0)) (kd:=.u32) (xs:=mi l) (S:=Sat R (mAt m l::mAt b c::Hs)) selfS (i:=k) (by simp;omega)
   rw [Int.toNat_natCast]
   have h2:At (Sat R (mAt m l::mAt b c::Hs)) (Addr.add ⟨m,0,none⟩ k) [.int .u32 (l[k]:Nat)]:=by simpa using this
   exact fun w hw=>h2 w hw.swap
  ·refine (times_spec hl hb (hb l[k] (List.getElem_mem _)) hw.swap).use ?_
   rintro _ w ⟨rfl,hw⟩
   refine ⟨_,rfl,Rng.mk (by omega) (by omega) ?_⟩
   rw [Int.toNat_natCast]
   refine storeI_rule (l:=mi c) (by kernel_rfl) hw (by simp [hf.1,hml];omega) fun w hw=>?_
   rw [mi_set] at hw
   rw [wrap64 (by omega) (by omega)]
   exact ⟨⟨k + 1,by omega,by omega,_,hf.set (by omega) (by simp [msq]),hw⟩,by dsimp only;omega⟩
 ·have:=hf.done (by omega)
  subst this
  exact ⟨b,rfl,hw.swap.drop⟩
theorem mstep_len:mstep.length=32:=by decide
theorem mstep_bd:∀ x∈mstep,x<4294967296:=by decide +kernel
theorem mstep_get {k:Nat} (hk:k<31):mstep[k + 1]'(by rw [mstep_len];omega)=2 ^ k:=by simp [mstep]
theorem stepped_spec (hw:Sat R Hs w):Gets Tryz.prog 224 #[] w fun v w'=>∃ b,v=.pointer (some ⟨b,0,none⟩)∧Sat R (mAt b mstep::Hs) w':=by
 apply call224
 refine new_rule hw fun b w hw=>?_
 have hw:Sat R (mAt b (2197175160::List.replicate 31 0)::Hs) w:=hw
 refine ⟨fun t w=>∃ k:Nat,t=k∧k≤31∧∃ c,Fill mstep c (k + 1)∧Sat R (mAt b c::Hs) w,fun t _=>31 - t.toNat,⟨0,rfl,by omega,_,⟨by simp [mstep],fun i hi=>by (have:i=0:=by omega);subst this;rfl⟩,hw⟩,?_⟩
 rintro _ _ w ⟨k,rfl,hk,c,hf,hw⟩
 refine Br.d (fun h=>?_) (fun h=>?_)
 ·refine drw_rule hw fun w hw=>Ge0.mk (by omega) ?_
  rw [wrap64 (by omega) (by omega)]
  refine Rng.mk (by omega) (by omega) ?_
  have e:((k:Int) + 1).toNat=k + 1:=by omega
  have e2:shlI .u32 1 (k:Int)=((2 ^ k:Nat):Int):=by
   unfold shlI
   have e3:min ((k:Int).toNat) IntKind.u32.bits=k:=by rw [Int.toNat_natCast];exact Nat.min_eq_left (by show k≤32;omega)
   rw [e3,Int.one_mul,show ((2:Int) ^ k)=((2 ^ k:Nat):Int) from (Int.natCast_pow 2 k).symm]
   have:2 ^ k<4294967296:=Nat.pow_lt_pow_right (n:=32) (by omega) (by omega)
   generalize 2 ^ k=q at this ⊢
   exact wrapU32 (by omega) (by omega)
  rw [e,e2]
  refine storeI_rule (l:=mi c) (by kernel_rfl) hw (by simp [hf.1,mstep_len];omega) fun w hw=>?_
  rw [mi_set] at hw
  exact ⟨⟨k + 1,by omega,by omega,_,hf.set (by rw [mstep_len];omega) (mstep_get (by omega)).symm,hw⟩,by dsimp only;omega⟩
 ·have:=hf.done (by rw [mstep_len];omega)
  subst this
  exact ⟨b,rfl,hw⟩
def tabL:List Nat:=(List.range 256).map (cstepN 8)
theorem tabL_len:tabL.length=256:=by simp [tabL]
theorem tabL_get {k:Nat} (hk:k<256):tabL[k]'(by rw [tabL_len];exact hk)=cstepN 8 k:=by simp [tabL]
set_option maxRecDepth 20000 in
theorem table_spec (hw:Sat R Hs w):Gets Tryz.prog 196 #[] w fun v w'=>v=.agg (m32 tabL).toArray∧Sat R Hs w':=by
 apply call196
 refine new_rule hw fun b0 w hw=>?_
 have hw:=zeros_at (n:=256) (T:=211) (by kernel_rfl) hw
 refine (stepped_spec hw).use ?_
 rintro _ w ⟨m1,rfl,hw⟩
 refine ⟨_,rfl,(squared_spec mstep_len mstep_bd hw).use ?_⟩
 rintro _ w ⟨m2,rfl,hw⟩
 have l2:(msq mstep).length=32:=by simp [msq,mstep_len]
 refine ⟨_,rfl,(squared_spec l2 (msq_bd mstep_bd) hw).use ?_⟩
 rintro _ w ⟨m3,rfl,hw⟩
 have l3:(msq (msq mstep)).length=32:=by simp [msq,mstep_len]
 refine ⟨_,rfl,(squared_spec l3 (msq_bd (msq_bd mstep_bd)) hw).use ?_⟩
 rintro _ w ⟨m4,rfl,hw⟩
 have hmb:∀ x∈mbyte,x<4294967296:=msq_bd (msq_bd (msq_bd mstep_bd))
 have hw:Sat R (mAt m4 mbyte::pts b0 (.cells (m32 (List.replicate 256 0)).toArray 211 (0,0))::Hs) w:=hw
 refine ⟨_,rfl,?_⟩
 refine new_rule hw fun b2 w hw=>?_
 have hw:=zeros_at (n:=256) (T:=211) (by kernel_rfl) hw
 refine ⟨fun t w=>∃ k:Nat,t=k∧k≤256∧∃ c,Fill tabL c k∧Sat R (pts b2 (.cells (m32 c).toArray 211 (0,0))::mAt m4 mbyte::pts b0 (.cells (m32 (List.replicate 256 0)).toArray 211 (0,0))::Hs) w,fun t _=>256 - t.toNat,⟨0,rfl,by omega,_,⟨by simp [tabL_len],fun i hi=>absurd hi (by omega)⟩,hw⟩,?_⟩
 rintro _ _ w ⟨k,rfl,hk,c,hf,hw⟩
 have hcl:c.length=256:=by rw [hf.1,tabL_len]
 refine Br.d (fun h=>?_) (fun h=>?_)
 ·rw [wrapU32 (by omega) (by omega)]
  refine (times_spec mbyte_len hmb (r:=k) (by omega) hw.swap).use ?_
  rintro _ w ⟨rfl,hw⟩
  refine ⟨_,rfl,Rng.mk (by omega) (by omega) ?_⟩
  rw [Int.toNat_natCast]
  refine storeI_rule (l:=mi c) (by kernel_rfl) hw (by simp;omega) fun w hw=>?_
  rw [mi_set] at hw
  rw [wrap64 (by omega) (by omega)]
  exact ⟨⟨k + 1,by omega,by omega,_,hf.set (by rw [tabL_len];omega) (by rw [tabL_get (by omega)];exact mbyte_eq k (by omega)),hw⟩,by dsimp only;omega⟩
 ·have:=hf.done (by rw [tabL_len];omega)
  subst this
  have hlen:(m32 tabL).length=256:=by simp [tabL_len]
  have h1:oneAll (m32 tabL)=true:=by unfold oneAll;simp [Value.oneCell']
  refine ⟨m32 tabL,hlen,At.own (eqS hw) (by exact Pre.refl _),?_⟩
  have hw:Sat R (pts b0 (.cells (m32 (List.replicate 256 0)).toArray 211 (0,0))::Hs) w:=hw.drop.drop
  refine store_rule hw (v:=.agg (m32 tabL).toArray) (by show _=some ((m32 tabL).length);rw [hlen];kernel_rfl) h1 (by show 0 + (m32 tabL).length≤_;rw [hlen];simp) fun w hw=>?_
  have e:putL (m32 (List.replicate 256 0)) 0 (Value.agg (m32 tabL).toArray).cells.toList=m32 tabL:=by
   show putL _ 0 (m32 tabL)=_
   rw [putL_eq _ _ _ (by rw [hlen];simp),hlen]
   simp
  rw [e] at hw
  exact ⟨m32 tabL,hlen,At.own (eqS hw) (by exact Pre.refl _),rfl,hw.drop⟩
theorem cstep_byte {n c:Nat} (hc:c<256):(n / 256) ^^^ cstepN 8 ((n % 256) ^^^ c)=cstepN 8 (n ^^^ c):=by
 rw [cstep8_eq (n ^^^ c)]
 have h1:(n ^^^ c) / 256=n / 256:=by
  have:=Nat.xor_div_two_pow (a:=n) (b:=c) (n:=8)
  rw [show (2:Nat) ^ 8=256 from rfl] at this
  rw [this,Nat.div_eq_of_lt hc,Nat.xor_zero]
 have h2:(n ^^^ c) % 256=(n % 256) ^^^ c:=by
  have:=Nat.xor_mod_two_pow (a:=n) (b:=c) (n:=8)
  rw [show (2:Nat) ^ 8=256 from rfl] at this
  rw [this,Nat.mod_eq_of_lt hc]
 rw [h1,h2]
set_option maxRecDepth 20000 in
theorem add_spec {sum:Nat} {s:Sl} {xs:List Int} (hsum:sum<4294967296) (hxs:∀ x∈xs,0≤x∧x<256) (hs:Ro R s (b8 xs)) (hw:Sat R Hs w):
  Gets Tryz.prog 163 #[.int .u32 sum,.slice s.a s.len s.cap] w fun v w'=>v=.int .u32 (crcAdd sum xs:Nat)∧Sat R Hs w':=by
 have hlen:s.len=xs.length:=by have:=hs.len;simpa using this
 have hbd:xs.length≤9223372036854775807:=by have:=hs.bound;simpa using this
 apply call163
 refine (table_spec hw).use ?_
 rintro _ w ⟨rfl,hw⟩
 refine ⟨_,rfl,?_⟩
 refine new_rule hw fun b w hw=>?_
 have hw:=zeros_at (n:=256) (T:=211) (by kernel_rfl) hw
 have htl:(m32 tabL).length=256:=by simp [tabL_len]
 have h1:oneAll (m32 tabL)=true:=by unfold oneAll;simp [Value.oneCell']
 refine store_rule hw (v:=.agg (m32 tabL).toArray) (by show _=some ((m32 tabL).length);rw [htl];kernel_rfl) h1 (by show 0 + (m32 tabL).length≤_;rw [htl];simp) fun w hw=>?_
 have e:putL (m32 (List.replicate 256 0)) 0 (Value.agg (m32 tabL).toArray).cells.toList=m32 tabL:=by
  show putL _ 0 (m32 tabL)=_
  rw [putL_eq _ _ _ (by rw [htl];simp),htl]
  simp
 rw [e] at hw
 clear e
 have hst:sum ^^^ ones32<4294967296:=xor32 hsum (by unfold ones32;omega)
 rw [notU32 hsum]
 refine ⟨fun r t w=>∃ k n:Nat,t=k∧k≤xs.length∧r=n∧n<4294967296∧crcRun n (xs.drop k)=crcRun (sum ^^^ ones32) xs∧Sat R (pts b (.cells (m32 tabL).toArray 211 (0,0))::Hs) w,fun _ t _=>xs.length - t.toNat,⟨0,_,rfl,by omega,rfl,hst,rfl,hw⟩,?_⟩
 rintro _ _ _ w ⟨k,n,rfl,hk,rfl,hn,he,hw⟩
 refine Br.d (fun h=>?_) (fun h=>?_)
 ·have hkx:k<xs.length:=by omega
  have:=Ro.idxK (S:=fun w'=>w'=w) hs (eqS hw) (k:=k) hkx (F:=fun t=>t=xs[k]) rfl
  obtain ⟨h0,h1,this⟩:=this.out
  obtain ⟨a,ha,t,hat,rfl⟩:=this.out
  refine Rng.mk h0 h1 (NilP.mk ha ⟨_,hat,?_⟩)
  have hc:=hxs xs[k] (List.getElem_mem _)
  obtain ⟨c,hce⟩:=Int.eq_ofNat_of_zero_le hc.1
  have hc2:c<256:=by omega
  have e1:bitI .xor .u8 (IntKind.u8.wrap (n:Int)) xs[k]=(((n % 256) ^^^ c:Nat):Int):=by
   rw [wrapU8m,hce,show (n:Int) % 256=((n % 256:Nat):Int) from (Int.natCast_emod _ _).symm]
   exact xorU8 (by omega) hc2
  have hlt:(n % 256) ^^^ c<256:=Nat.xor_lt_two_pow (n:=8) (by omega) hc2
  rw [e1]
  refine Rng.mk (by omega) (by omega) ⟨(tabL[(n % 256) ^^^ c]'(by rw [tabL_len];exact hlt):Nat),?_,?_⟩
  ·have:=At.intsK (b:=b) (T:=211) (fr:=(0,0)) (kd:=.u32) (xs:=mi tabL) (S:=fun w'=>w'=w) (eqS hw) (i:=(n % 256) ^^^ c) (by simp [tabL_len];exact hlt)
   rw [Int.toNat_natCast]
   simpa using this
  ·have hct:cstepN 8 ((n % 256) ^^^ c)<4294967296:=cstepN_lt 8 (by omega)
   rw [tabL_get hlt,show shrI .u32 (n:Int) 8=((n / 256:Nat):Int) from shr_nat32 n 8 (by omega),xorU32 (by omega) hct,cstep_byte hc2,wrap64 (by omega) (by omega)]
   refine ⟨⟨k + 1,_,by omega,by omega,rfl,cstepN_lt 8 (xor32 hn (by omega)),?_,hw⟩,by dsimp only;omega⟩
   rw [←he,List.drop_eq_getElem_cons hkx]
   show _=crcRun (cstepN 8 (n ^^^ xs[k].toNat)) (xs.drop (k + 1))
   rw [hce];rfl
 ·have hk2:k=xs.length:=by omega
  subst hk2
  rw [notU32 hn]
  refine ⟨?_,hw.drop⟩
  have:n=crcRun (sum ^^^ ones32) xs:=by rw [←he,List.drop_length];rfl
  unfold crcAdd
  rw [this]
theorem sum_spec {s:Sl} {xs:List Int} (hxs:∀ x∈xs,0≤x∧x<256) (hs:Ro R s (b8 xs)) (hw:Sat R Hs w):
  Gets Tryz.prog 164 #[.slice s.a s.len s.cap] w fun v w'=>v=.int .u32 (crcAdd 0 xs:Nat)∧Sat R Hs w':=by
 apply call164
 refine (add_spec (sum:=0) (by omega) hxs hs hw).use ?_
 rintro _ w ⟨rfl,hw⟩
 exact ⟨_,rfl,rfl,hw⟩
end Go.Proofs.YtkfedbncmfnpnaaGreatDoor
/- Package record: words, Put. Condition: bounds on lengths. -/
namespace Go.Proofs.YtkfedbncmfnpnaaGreatDoor
set_option linter.unusedVariables false
set_option linter.unusedSimpArgs false
open Go Go.VC
variable {R:Cx} {Hs Rest:List HP} {w:World}
theorem word_spec {n:Nat} (hn:n<4294967296) (hw:Sat R Hs w):
  Gets Tryz.prog 161 #[.int .u32 n] w fun v w'=>∃ b,v=.slice (some ⟨b,0,none⟩) 4 4∧Sat R (pts b (.cells (b8 (word4 n)).toArray 5 (0,0))::Hs) w':=by
 apply call161
 have e:∀ k:Nat,k≤32→IntKind.u8.wrap (shrI .u32 (n:Int) (k:Int))=((n / 2 ^ k % 256:Nat):Int):=fun k hk=>by
  rw [shr_nat32 n k hk,wrapU8m];exact (Int.natCast_emod _ _).symm
 have e0:IntKind.u8.wrap (n:Int)=((n % 256:Nat):Int):=by rw [wrapU8m];exact (Int.natCast_emod _ _).symm
 have e1:=e 24 (by omega)
 have e2:=e 16 (by omega)
 have e3:=e 8 (by omega)
 rw [show ((24:Nat):Int)=24 from rfl] at e1
 rw [show ((16:Nat):Int)=16 from rfl] at e2
 rw [show ((8:Nat):Int)=8 from rfl] at e3
 unfold B161
 rw [e1,e2,e3,e0]
 refine new_rule hw fun b w hw=>⟨b,rfl,hw⟩
theorem ro_blk {b:Nat} {xs:List Int} {T:TypeId} (hl:xs.length≤9223372036854775807) (hc:R.m b=.none):Ro (R.add (Heap.one b (.cells (b8 xs).toArray T (0,0)))) ⟨some ⟨b,0,none⟩,xs.length,xs.length⟩ (b8 xs):=
 ⟨by simp,by simpa using hl,fun _=>⟨b,0,_,T,(0,0),rfl,Cx.lent hc,fun i v hv=>by rw [Nat.zero_add];simpa using hv⟩⟩
theorem shl8_or32 {n t:Int} (h0:0≤n) (h1:n<16777216) (t0:0≤t) (t1:t<256):bitI .or .u32 (shlI .u32 n 8) (IntKind.u32.wrap t)=n * 256 + t:=by
 have e:shlI .u32 n 8=n * 256:=by
  show IntKind.u32.wrap (n * 2 ^ 8)=_
  rw [wrapU32 (by omega) (by omega)];omega
 rw [e,wrapU32 t0 (by omega)]
 obtain ⟨a,rfl⟩:=Int.eq_ofNat_of_zero_le h0
 obtain ⟨b,rfl⟩:=Int.eq_ofNat_of_zero_le t0
 have:=orU32 (x:=a * 256) (y:=b) (by omega) (by omega)
 rw [or_byte a b (by omega)] at this
 rw [show ((a * 256:Nat):Int)=(a:Int) * 256 from Int.natCast_mul a 256] at this
 rw [this]
 exact (Int.natCast_add (a * 256) b).trans (by rw [Int.natCast_mul];rfl)
theorem number4_spec {s:Sl} {xs:List Int} (hl:xs.length≤4) (hxs:∀ x∈xs,0≤x∧x<256) (hs:Ro R s (b8 xs)) (hw:Sat R Hs w):
  Gets Tryz.prog 189 #[.slice s.a s.len s.cap] w fun v w'=>v=.int .u32 (valI 0 xs)∧Sat R Hs w':=by
 have hlen:s.len=xs.length:=by have:=hs.len;simpa using this
 apply call189
 refine ⟨fun n t w=>∃ k:Nat,t=k∧k≤xs.length∧n=valI 0 (xs.take k)∧Sat R Hs w,fun _ t _=>xs.length - t.toNat,⟨0,rfl,by omega,rfl,hw⟩,?_⟩
 rintro _ _ _ w ⟨k,rfl,hk,rfl,hw⟩
 refine Br.d (fun h=>?_) (fun h=>?_)
 ·have hkx:k<xs.length:=by omega
  have:=Ro.idxK (S:=fun w'=>w'=w) hs (eqS hw) (k:=k) hkx (F:=fun t=>t=xs[k]) rfl
  obtain ⟨h0,h1,this⟩:=this.out
  obtain ⟨a,ha,t,hat,rfl⟩:=this.out
  refine Rng.mk h0 h1 (NilP.mk ha ⟨_,hat,?_⟩)
  have hx:=hxs xs[k] (List.getElem_mem _)
  have hvb:∀ x∈xs.take k,0≤x∧x<256:=fun x hx=>hxs x (List.mem_of_mem_take hx)
  have hv0:=valI_nn (acc:=0) (Int.le_refl _) hvb
  have hv1:valI 0 (xs.take k)<16777216:=by
   refine Int.lt_of_lt_of_le (valI_lt (Int.le_refl _) hvb) ?_
   rw [List.length_take,Nat.min_eq_left (by omega),Int.zero_add,Int.one_mul]
   have h9:256 ^ k≤256 ^ 3:=Nat.pow_le_pow_right (by omega) (by omega)
   have:((256 ^ k:Nat):Int)≤((256 ^ 3:Nat):Int):=Int.ofNat_le.2 h9
   rw [Int.natCast_pow] at this
   exact Int.le_trans this (by decide)
  rw [shl8_or32 hv0 hv1 hx.1 hx.2,wrap64 (by omega) (by omega)]
  refine ⟨⟨k + 1,by omega,by omega,?_,hw⟩,by dsimp only;omega⟩
  rw [List.take_succ_eq_append_getElem hkx,valI_snoc]
 ·have hk2:k=xs.length:=by omega
  subst hk2
  exact ⟨by rw [List.take_length],hw⟩
theorem grow_spec {n:Nat} (hn:n≤1099511627776) (hw:Sat R Hs w):
  Gets Tryz.prog 195 #[.slice none 0 0,.int .i64 n] w fun v w'=>∃ t:Sl,v=.slice t.a t.len t.cap∧Sat R (Own t 5 []::Hs) w':=by
 refine GetsX.gets (call195 ⟨none,0,0⟩ n _ _ w ?_)
 refine ⟨fun w=>Sat R Hs w,?_,?_⟩
 ·exact Br.d (fun h=>absurd h (by omega)) (fun h=>hw)
 intro _ w hw
 have e:IntKind.i64.wrap ((n:Int) - IntKind.i64.wrap (((0:Nat):Int) - ((0:Nat):Int)))=n:=by
  rw [wrap64 (x:=((0:Nat):Int) - ((0:Nat):Int)) (by omega) (by omega),wrap64 (by omega) (by omega)];omega
 refine Br.mk (fun h=>?_) (fun h=>?_)
 ·have h:decide (IntKind.i64.wrap ((n:Int) - IntKind.i64.wrap (((0:Nat):Int) - ((0:Nat):Int)))>0)=true:=h
  rw [e] at h
  have h:=of_decide_eq_true h
  refine ⟨by simp,by simp,?_⟩
  show ∃ w',∃ t:Sl,(Builtin.append_ #[53,3 ] 53 #[.slice none 0 0,.int .i64 (IntKind.i64.wrap ((n:Int) - IntKind.i64.wrap (((0:Nat):Int) - ((0:Nat):Int))))]).run Tryz.prog w=_∧_
  rw [e]
  exact zeros_rule Tryz.underlying53 Tryz.underlying3 (by kernel_rfl) (n:=n) (bytes:=1) (by omega) (by omega) (by omega) hw fun t w hw=>⟨by simp,by simp,⟨t.a,0,t.cap⟩,rfl,hw⟩
 ·exact ⟨⟨none,0,0⟩,rfl,Own.nil hw⟩
abbrev joined (ps:List (Sl × List Int)):List Int:=(ps.map (·.2)).flatten
theorem joined_take {ps:List (Sl × List Int)} {k:Nat} (h:k<ps.length):joined (ps.take (k + 1))=joined (ps.take k)++ps[k].2:=by
 unfold joined
 rw [List.take_succ_eq_append_getElem h,List.map_append,List.flatten_append];congr 1;simp
theorem joined_le (ps:List (Sl × List Int)) (k:Nat):(joined (ps.take k)).length≤(joined ps).length:=by
 have:joined ps=joined (ps.take k)++joined (ps.drop k):=by
  unfold joined
  rw [←List.flatten_append,←List.map_append,List.take_append_drop]
 rw [this];simp
theorem concat_spec {m:Sl} {ps:List (Sl × List Int)} (hm:Ro R m ((ps.map (·.1)).map Sl.v)) (hps:∀ p∈ps,Ro R p.1 (b8 p.2)) (hl:(joined ps).length≤1099511627776) (hw:Sat R Hs w):
  Gets Tryz.prog 162 #[.slice m.a m.len m.cap] w fun v w'=>∃ t:Sl,v=.slice t.a t.len t.cap∧Sat R (Own t 5 (b8 (joined ps))::Hs) w':=by
 have hlen:m.len=ps.length:=by have:=hm.len;simpa using this
 have hbd:ps.length≤9223372036854775807:=by have:=hm.bound;simpa using this
 refine GetsX.gets (call162 m _ _ w ?_)
 refine ⟨fun n t w=>∃ k:Nat,t=k∧k≤ps.length∧n=((joined (ps.take k)).length:Nat)∧Sat R Hs w,fun _ t _=>ps.length - t.toNat,⟨0,rfl,by omega,rfl,hw⟩,?_⟩
 rintro _ _ _ w ⟨k,rfl,hk,rfl,hw⟩
 refine Br.d (fun h=>?_) (fun h=>?_)
 ·have hkx:k<ps.length:=by omega
  have:=Ro.idxS (S:=fun w'=>w'=w) hm (eqS hw) (k:=k) (by simpa using hkx) (F:=fun t=>t=ps[k].1) (by simp)
  obtain ⟨h0,h1,this⟩:=this.out
  obtain ⟨a,ha,t,hat,rfl⟩:=this.out
  refine Rng.mk h0 h1 (NilP.mk ha ⟨_,hat,?_⟩)
  have hp:=(hps ps[k] (List.getElem_mem _)).len
  rw [List.length_map] at hp
  have h1:=joined_le ps (k + 1)
  rw [joined_take hkx,List.length_append] at h1
  have e:IntKind.i64.wrap (((joined (ps.take k)).length:Int) + ((ps[k].1.len:Nat):Int))=((joined (ps.take (k + 1))).length:Nat):=by
   rw [joined_take hkx,List.length_append,hp,wrap64 (by omega) (by omega)];omega
  rw [e]
  refine Br.d (fun h=>absurd h (by omega)) (fun h=>?_)
  rw [wrap64 (by omega) (by omega)]
  exact ⟨⟨k + 1,by omega,by omega,rfl,hw⟩,by dsimp only;omega⟩
 ·have hk2:k=ps.length:=by omega
  subst hk2
  rw [List.take_length]
  refine (grow_spec hl hw).use ?_
  rintro _ w ⟨t,rfl,hw⟩
  refine .inl ⟨t,rfl,?_⟩
  refine ⟨fun ns t w=>∃ k:Nat,t=k∧k≤ps.length∧Sat R (Own ns 5 (b8 (joined (ps.take k)))::Hs) w,fun _ t _=>ps.length - t.toNat,⟨0,rfl,by omega,by simpa [joined] using hw⟩,?_⟩
  rintro _ ns _ w ⟨k,rfl,hk,hw⟩
  refine Br.d (fun h=>?_) (fun h=>?_)
  ·have hkx:k<ps.length:=by omega
   have:=Ro.idxS (S:=fun w'=>w'=w) hm (eqS hw) (k:=k) (by simpa using hkx) (F:=fun t=>t=ps[k].1) (by simp)
   obtain ⟨h0,h1,this⟩:=this.out
   obtain ⟨a,ha,t,hat,rfl⟩:=this.out
   refine Rng.mk h0 h1 (NilP.mk ha ⟨_,hat,?_⟩)
   have h1:=joined_le ps (k + 1)
   rw [joined_take hkx,List.length_append] at h1
   have hsrc:Src Tryz.prog 1 53 (.slice ps[k].1.a ps[k].1.len ps[k].1.cap) ps[k].2.length (b8 ps[k].2) w:=by
    have:=srcRo Tryz.underlying53 hw (hps ps[k] (List.getElem_mem _)) (one_b8 _)
    simpa using this
   refine append_rule elB8 (s:=ns) hw hsrc (one_b8 _) (by rw [List.length_map];omega) (by rw [List.length_map];omega) fun t w hw=>?_
   rw [wrap64 (by omega) (by omega)]
   refine ⟨⟨k + 1,by omega,by omega,?_⟩,by dsimp only;omega⟩
   rw [joined_take hkx]
   simpa [b8] using hw
  ·have hk2:k=ps.length:=by omega
   subst hk2
   rw [List.take_length] at hw
   exact ⟨ns,rfl,hw⟩
theorem rput_spec {s:Sl} {bs:List Int} (hbs:∀ x∈bs,0≤x∧x<256) (hs:Ro R s (b8 bs)) (hw:Sat R Hs w):
  Gets Tryz.prog 112 #[.slice s.a s.len s.cap] w fun v w'=>
   (bs.length>65536∧v=.tuple #[.slice none 0 0,.int .i64 3]∧Sat R Hs w')∨
   (bs.length≤65536∧∃ t:Sl,v=.tuple #[.slice t.a t.len t.cap,.int .i64 0]∧Sat R (Own t 5 (b8 (recB bs))::Hs) w'):=by
 have hlen:s.len=bs.length:=by have:=hs.len;simpa using this
 apply call112
 refine Br.d (fun h=>?_) (fun h=>?_)
 ·exact .inl ⟨by omega,rfl,hw⟩
 ·have hb:bs.length≤65536:=by omega
  have hb':s.len≤65536:=by omega
  rw [wrapU32 (by omega) (by omega)]
  refine (word_spec (n:=s.len) (by omega) hw).use ?_
  rintro _ w ⟨b1,rfl,hw⟩
  refine ⟨⟨some ⟨b1,0,none⟩,4,4⟩,rfl,?_⟩
  obtain ⟨hn1,hw⟩:=Sat.lend.1 hw
  have r1:=ro_blk (R:=R) (b:=b1) (xs:=word4 s.len) (T:=5) (by rw [word4_len];omega) hn1
  refine (sum_spec (word4_bd _) r1 hw).use ?_
  rintro _ w ⟨rfl,hw⟩
  refine ⟨_,rfl,?_⟩
  have hc1:crcAdd 0 (word4 s.len)<4294967296:=crcAdd_lt (by omega) (word4_bd _)
  have hq2:=crcAdd_app 0 (word4 s.len) bs
  generalize crcAdd 0 (word4 s.len)=q at hc1 hq2 ⊢
  refine (add_spec (sum:=q) hc1 hbs hs.add hw).use ?_
  rintro _ w ⟨rfl,hw⟩
  refine ⟨_,rfl,?_⟩
  rw [hq2]
  have hc2:crcAdd 0 (word4 s.len++bs)<4294967296:=crcAdd_lt (by omega) fun x hx=>(List.mem_append.1 hx).elim (word4_bd _ x) (hbs x)
  clear hq2 hc1
  refine (word_spec hc2 hw).use ?_
  rintro _ w ⟨b2,rfl,hw⟩
  refine ⟨⟨some ⟨b2,0,none⟩,4,4⟩,rfl,?_⟩
  obtain ⟨hn2,hw⟩:=Sat.lend.1 hw
  have r2:=ro_blk (b:=b2) (xs:=word4 (crcAdd 0 (word4 s.len++bs))) (T:=5) (by rw [word4_len];omega) hn2
  refine new_rule hw fun b3 w hw=>?_
  have hw:Sat _ (pts b3 (.cells ([(⟨some ⟨b1,0,none⟩,4,4⟩:Sl),⟨some ⟨b2,0,none⟩,4,4⟩,s].map Sl.v).toArray 53 (0,0))::Hs) w:=hw
  obtain ⟨hn3,hw⟩:=Sat.lend.1 hw
  refine (concat_spec (m:=⟨some ⟨b3,0,none⟩,3,3⟩) (ps:=[(⟨some ⟨b1,0,none⟩,4,4⟩,word4 s.len),(⟨some ⟨b2,0,none⟩,4,4⟩,word4 (crcAdd 0 (word4 s.len++bs))),(s,bs)]) ?_ ?_ ?_ hw).use ?_
  ·exact ⟨rfl,by simp,fun _=>⟨b3,0,_,53,(0,0),rfl,Cx.lent hn3,fun i v hv=>by rw [Nat.zero_add,List.getElem?_toArray];exact hv⟩⟩
  ·intro p hp
   simp only [List.mem_cons,List.not_mem_nil,or_false] at hp
   rcases hp with rfl|rfl|rfl
   ·exact r1.add.add
   ·exact r2.add
   ·exact hs.add.add.add
  ·simp [joined,word4_len];omega
  ·rintro _ w ⟨t,rfl,hw⟩
   refine ⟨t,rfl,.inr ⟨hb,t,rfl,?_⟩⟩
   have e:joined [((⟨some ⟨b1,0,none⟩,4,4⟩:Sl),word4 s.len),(⟨some ⟨b2,0,none⟩,4,4⟩,word4 (crcAdd 0 (word4 s.len++bs))),(s,bs)]=recB bs:=by simp [joined,recB,hlen]
   rw [e] at hw
   have hw:=(Sat.lend.2 ⟨hn3,hw⟩).drop
   have hw:=(Sat.lend.2 ⟨hn2,hw⟩).drop
   exact (Sat.lend.2 ⟨hn1,hw⟩).drop
end Go.Proofs.YtkfedbncmfnpnaaGreatDoor
/- Package field: numbers and bytes as bytes. Condition: bounds on lengths. -/
namespace Go.Proofs.YtkfedbncmfnpnaaGreatDoor
set_option linter.unusedVariables false
set_option linter.unusedSimpArgs false
open Go Go.VC
variable {R:Cx} {Hs Rest:List HP} {w:World}
theorem _root_.Go.VC.SlR.mono {h h':Heap} {s:Sl} {xs:List Value} (hs:∀ b o,h b=some o→h' b=some o) (a:SlR h s xs):SlR h' s xs:=
 ⟨a.len,a.cap,fun hx=>let ⟨b,off,l,T,fr,ha,hb,hl⟩:=a.mem hx;⟨b,off,l,T,fr,ha,hs _ _ hb,hl⟩⟩
abbrev amissP:List PanicEntry:=[⟨.iface 239 (.agg #[]),false,false⟩]
theorem must_c {b:Bool} {Q:Ending→World→Prop} (h1:b=true→Q (.returned (.tuple #[])) w) (h2:b=false→Q (.panicked amissP) w):Calls Tryz.prog 193 #[.bool b] w Q:=by
 have h:GetsX Tryz.prog 193 #[.bool b] w (fun ch w'=>b=false∧ch=amissP∧w'=w) (fun v w'=>b=true∧v=.tuple #[]∧w'=w):=by
  apply call193
  refine Br.nb (fun h=>?_) (fun h=>?_)
  ·exact ⟨h,rfl,rfl⟩
  ·exact ⟨h,rfl,rfl⟩
 refine h.use ?_ ?_
 ·rintro v w' ⟨hb,rfl,e⟩;rw [e];exact h1 hb
 ·rintro v w' ⟨hb,rfl,e⟩;rw [e];exact h2 hb
abbrev lp (l:Nat) (s:Sl):HP:=pts l (.cells [.slice s.a s.len s.cap].toArray 53 (0,0))
abbrev sdrop (s:Sl) (k:Nat):Sl:=⟨cutA s.a k s.cap 1,s.len - k,s.cap - k⟩
theorem take_spec {l:Nat} {s:Sl} {xs:List Value} {k:Nat} (hr:SlR R.m s xs) (hw:Sat R (lp l s::Hs) w):
  GetsX Tryz.prog 222 #[.pointer (some ⟨l,0,none⟩),.int .i64 k] w
   (fun ch w'=>xs.length<k∧ch=amissP∧Sat R (lp l s::Hs) w')
   (fun v w'=>k≤xs.length∧v=.slice s.a k s.cap∧Sat R (lp l (sdrop s k)::Hs) w'):=by
 have hlen:=hr.len
 have hcap:=hr.cap
 apply call222
 refine NilP.mk rfl ⟨s,At.own (eqS hw) (by exact ⟨rfl,trivial⟩),must_c (fun h=>.inl ⟨rfl,?_⟩) (fun h=>.inr ⟨_,rfl,?_⟩)⟩
 ·have h:=of_decide_eq_true h
  refine NilP.mk rfl ⟨s,At.own (eqS hw) (by exact ⟨rfl,trivial⟩),by omega,by omega,NilP.mk rfl ⟨s,At.own (eqS hw) (by exact ⟨rfl,trivial⟩),by omega,by omega,NilP.mk rfl ?_⟩⟩
  rw [Int.toNat_natCast]
  refine store_rule hw (by kernel_rfl) rfl (by simp [Value.cells]) fun w hw=>?_
  exact ⟨by omega,rfl,hw⟩
 ·have h:=of_decide_eq_false h
  exact ⟨by omega,rfl,hw⟩
theorem andn32:∀ c:Fin 32,bitI .andNot .u8 ((c.1:Nat):Int) 16=if 16≤((c.1:Nat):Int) then ((c.1:Nat):Int) - 16 else ((c.1:Nat):Int):=by decide +kernel
theorem andn {c:Int} (h0:0≤c) (h1:c<32):IntKind.i64.wrap (bitI .andNot .u8 c 16)=if 16≤c then c - 16 else c:=by
 obtain ⟨n,rfl⟩:=Int.eq_ofNat_of_zero_le h0
 have:=andn32 ⟨n,by omega⟩
 simp only at this
 rw [this]
 split<;>exact wrap64 (by omega) (by omega)
theorem shl8_or {n t:Int} (h0:0≤n) (h1:n<72057594037927936) (t0:0≤t) (t1:t<256):bitI .or .u64 (shlI .u64 n 8) (IntKind.u64.wrap t)=n * 256 + t:=by
 have e:shlI .u64 n 8=n * 256:=by
  show IntKind.u64.wrap (n * 2 ^ 8)=_
  rw [wrapU64 (by omega) (by omega)];omega
 rw [e,wrapU64 t0 (by omega)]
 obtain ⟨a,rfl⟩:=Int.eq_ofNat_of_zero_le h0
 obtain ⟨b,rfl⟩:=Int.eq_ofNat_of_zero_le t0
 have:=orU64 (x:=a * 256) (y:=b) (by omega) (by omega)
 rw [or_byte a b (by omega)] at this
 rw [show ((a * 256:Nat):Int)=(a:Int) * 256 from Int.natCast_mul a 256] at this
 rw [this]
 exact (Int.natCast_add (a * 256) b).trans (by rw [Int.natCast_mul];rfl)
abbrev widN (c:Int):Nat:=(if 16≤c then c - 16 else c).toNat
theorem fsize_spec {h:Heap} {l:Nat} {s:Sl} {bs:List Int} (hb:∀ x∈bs,0≤x∧x<256) (hsub:∀ b o,h b=some o→R.m b=some o) (hr0:SlR h s (b8 bs)) (hw:Sat R (lp l s::Hs) w):
  GetsX Tryz.prog 192 #[.pointer (some ⟨l,0,none⟩)] w
   (fun ch w'=>parse bs=none∧ch=amissP∧∃ s',Sat R (lp l s'::Hs) w')
   (fun v w'=>∃ n neg k s',parse bs=some (n,neg,k)∧v=.tuple #[.int .u64 n,.bool neg]∧SlR h s' (b8 (bs.drop k))∧Sat R (lp l s'::Hs) w'):=by
 have hr:SlR R.m s (b8 bs):=hr0.mono hsub
 apply call192
 refine (take_spec (k:=1) hr hw).use ?_ ?_
 rotate_left
 ·rintro _ w ⟨h,rfl,hw⟩
  refine .inr ⟨_,rfl,?_,rfl,s,hw⟩
  cases bs with
  |nil=>rfl
  |cons=>simp at h
 rintro _ w ⟨hlen,rfl,hw⟩
 cases bs with
 |nil=>simp at hlen
 |cons c rest=>
 have hc:=hb c List.mem_cons_self
 have hbr:∀ x∈rest,0≤x∧x<256:=fun x hx=>hb x (List.mem_cons_of_mem _ hx)
 refine .inl ⟨⟨s.a,1,s.cap⟩,rfl,?_⟩
 have hr1:SlR R.m ⟨s.a,1,s.cap⟩ (b8 [c]):=hr.take (k:=1) hlen
 have hrd:SlR R.m (sdrop s 1) (b8 rest):=hr.drop (k:=1) hlen
 have:=SlR.idxK (Hs:=lp l (sdrop s 1)::Hs) (S:=fun w'=>w'=w) hr1 (eqS hw) (k:=0) (by simp) (F:=fun t=>t=c) rfl
 obtain ⟨h0,h1,this⟩:=this.out
 obtain ⟨a,ha,t,hat,rfl⟩:=this.out
 refine Rng.mk h0 h1 (NilP.mk ha ⟨t,hat,?_⟩)
 have hsnone:∀ {p:Prop},¬ p→True:=fun _=>trivial
 refine ⟨fun w=>(t<32∧widN t≤8∧(widN t=0→t=0))∧Sat R (lp l (sdrop s 1)::Hs) w,?_,?_⟩
 ·have bad:(t<32∧widN t≤8∧widN t≤rest.length∧(widN t=0→t=0)∧(widN t≠0→rest.head?≠some 0)→False)→parse (t::rest)=none:=fun h=>by
   unfold parse;simp only;rw [if_neg h]
  refine Br.d (fun h=>?_) (fun h=>?_)
  ·rw [andn hc.1 h]
   refine Br.d (fun h2=>?_) (fun h2=>?_)
   ·refine Br.d (fun h3=>?_) (fun h3=>?_)
    ·exact must_c (fun _=>.inl ⟨rfl,⟨h,by unfold widN;omega,fun h4=>by unfold widN at h4;omega⟩,hw⟩) (fun h=>by cases h)
    ·refine must_c (fun h4=>.inl ⟨rfl,⟨h,by unfold widN;omega,fun h5=>?_⟩,hw⟩) (fun h4=>.inr ⟨_,rfl,bad ?_,rfl,_,hw⟩)
     ·simp only [ge_iff_le,Bool.not_eq_true',decide_eq_false_iff_not] at h4
      rw [if_neg h4] at h3;omega
     ·simp only [ge_iff_le,Bool.not_eq_false',decide_eq_true_eq] at h4
      rintro ⟨_,_,_,h5,_⟩
      rw [if_pos h4] at h3
      have:=h5 (by unfold widN;rw [if_pos h4];omega)
      omega
   ·exact must_c (fun h=>by cases h) (fun _=>.inr ⟨_,rfl,bad (by rintro ⟨_,h3,_⟩;unfold widN at h3;omega),rfl,_,hw⟩)
  ·exact must_c (fun h=>by cases h) (fun _=>.inr ⟨_,rfl,bad (by rintro ⟨h3,_⟩;exact h h3),rfl,_,hw⟩)
 clear hat ha h0 h1
 rintro _ w ⟨⟨h32,h8,hz⟩,hw⟩
 rw [andn hc.1 h32]
 have hwid:(if 16≤t then t - 16 else t)=((widN t:Nat):Int):=by
  unfold widN;rw [Int.toNat_of_nonneg];split<;>omega
 rw [hwid]
 generalize hW:widN t=W at *
 refine (take_spec (k:=W) hrd hw).use ?_ ?_
 rotate_left
 ·rintro _ w ⟨h,rfl,hw⟩
  refine .inr ⟨_,rfl,?_,rfl,_,hw⟩
  unfold parse;simp only;rw [if_neg]
  rintro ⟨_,_,h3,_⟩
  have:widN t≤rest.length:=h3
  simp at h;omega
 rintro _ w ⟨hl,rfl,hw⟩
 have hl:W≤rest.length:=by simpa using hl
 have hrt:SlR R.m ⟨(sdrop s 1).a,W,(sdrop s 1).cap⟩ (b8 (rest.take W)):=by have:=hrd.take (k:=W) (by simpa using hl);rwa [←List.map_take] at this
 have hlt:(rest.take W).length=W:=by simp;omega
 refine .inl ⟨⟨(sdrop s 1).a,W,(sdrop s 1).cap⟩,rfl,?_⟩
 refine ⟨fun n i w=>∃ k:Nat,i=k∧k≤W∧n=valI 0 (rest.take k)∧(k≠0→rest.head?≠some 0)∧Sat R (lp l (sdrop (sdrop s 1) W)::Hs) w,fun _ i _=>W - i.toNat,⟨0,rfl,Nat.zero_le _,rfl,fun h=>absurd rfl h,hw⟩,?_⟩
 rintro _ _ _ w ⟨k,rfl,hk,rfl,hh,hw⟩
 refine Br.d (fun h=>?_) (fun h=>?_)
 ·have hk2:k<W:=by have:((k:Nat):Int)<(W:Int):=h;omega
  have hkr:k<rest.length:=by omega
  have:=SlR.idxK (Hs:=lp l (sdrop (sdrop s 1) W)::Hs) (S:=fun w'=>w'=w) hrt (eqS hw) (k:=k) (by omega) (F:=fun t=>t=rest[k]) (by simp)
  obtain ⟨h0,h1,this⟩:=this.out
  obtain ⟨a,ha,x,hat,rfl⟩:=this.out
  refine Rng.mk h0 h1 (NilP.mk ha ⟨_,hat,?_⟩)
  have hx:=hbr rest[k] (List.getElem_mem _)
  have hvb:∀ x∈rest.take k,0≤x∧x<256:=fun x hx=>hbr x (List.mem_of_mem_take hx)
  have hv0:=valI_nn (acc:=0) (Int.le_refl _) hvb
  have hv1:valI 0 (rest.take k)<72057594037927936:=by
   refine Int.lt_of_lt_of_le (valI_lt (Int.le_refl _) hvb) ?_
   rw [List.length_take,Nat.min_eq_left (by omega),Int.zero_add,Int.one_mul]
   have h9:256 ^ k≤256 ^ 7:=Nat.pow_le_pow_right (by omega) (by omega)
   have:((256 ^ k:Nat):Int)≤((256 ^ 7:Nat):Int):=Int.ofNat_le.2 h9
   rw [Int.natCast_pow] at this
   exact Int.le_trans this (by decide)
  have hstep:∀ w,(rest.head?≠some 0)→Sat R (lp l (sdrop (sdrop s 1) W)::Hs) w→
    (∃ k':Nat,IntKind.i64.wrap ((k:Int) + 1)=k'∧k'≤W∧bitI .or .u64 (shlI .u64 (valI 0 (rest.take k)) 8) (IntKind.u64.wrap rest[k])=valI 0 (rest.take k')∧(k'≠0→rest.head?≠some 0)∧Sat R (lp l (sdrop (sdrop s 1) W)::Hs) w)∧W - (IntKind.i64.wrap ((k:Int) + 1)).toNat<W - (k:Int).toNat:=fun w h1 hw=>by
   rw [wrap64 (by omega) (by omega)]
   refine ⟨⟨k + 1,by omega,by omega,?_,fun _=>h1,hw⟩,by omega⟩
   rw [shl8_or hv0 hv1 hx.1 hx.2,List.take_succ_eq_append_getElem hkr,valI_snoc]
  refine Br.d (fun h3=>?_) (fun h3=>?_)
  ·exact must_c (fun _=>.inl ⟨rfl,hstep _ (hh (by omega)) hw⟩) (fun h=>by cases h)
  ·have hk0:k=0:=by omega
   subst hk0
   have hhead:rest.head? =some rest[0]:=by rw [List.head?_eq_getElem?,List.getElem?_eq_getElem hkr]
   refine must_c (fun h4=>.inl ⟨rfl,hstep _ ?_ hw⟩) (fun h4=>.inr ⟨_,rfl,?_,rfl,_,hw⟩)
   ·have h4:=of_decide_eq_true h4
    rw [hhead];intro h5;simp only [Option.some.injEq] at h5;omega
   ·have h4:=of_decide_eq_false h4
    unfold parse;simp only;rw [if_neg]
    rintro ⟨_,_,_,_,h5⟩
    have h6:widN t≠0:=by omega
    refine h5 h6 ?_
    rw [hhead];congr 1;omega
 ·have hkW:k=W:=by have:¬ ((k:Nat):Int)<(W:Int):=h;omega
  subst hkW
  refine ⟨valI 0 (rest.take k),decide (t ≥ 16),k + 1,sdrop (sdrop s 1) k,?_,rfl,?_,?_⟩
  ·unfold parse;simp only
   have e:(if 16≤t then t - 16 else t).toNat=k:=hW
   rw [e,if_pos ⟨h32,h8,hl,hz,hh⟩]
  ·have:=(hr0.drop (k:=1) hlen).drop (k:=k) (by simpa using hl)
   simpa using this
  ·exact hw
end Go.Proofs.YtkfedbncmfnpnaaGreatDoor
/- Package record: Scan. Condition: bounds on lengths. -/
namespace Go.Proofs.YtkfedbncmfnpnaaGreatDoor
set_option linter.unusedVariables false
set_option linter.unusedSimpArgs false
open Go Go.VC
variable {R:Cx} {Hs Rest:List HP} {w:World}
theorem _root_.Go.VC.Sat.restTru {A:HP} (h:Sat R (A::Hs) w):Sat R [A,VC.tru] w:=
 h.cons fun R' h=>by
  have key:∀ (Hs:List HP) (R':Cx),Sat R' Hs w→Sat R' [VC.tru] w:=fun Hs=>by
   induction Hs with
   |nil=>exact fun R' h=>h.tru
   |cons B Hs ih=>exact fun R' h=>Sat.absorb (h.cons fun R'' h=>ih R'' h)
  exact key _ _ h
def slLen (c:Nat) (w:World):Nat:=match (w.heap[c]? :Option Obj) with
 |some (Obj.cells l _ _)=>(match (l[0]? :Option Value) with|some (Value.slice _ n _)=>n|_=>0)
 |_=>0
theorem slLen_at {c:Nat} {t:Sl} {T:TypeId} (hw:Sat R (pts c (.cells [.slice t.a t.len t.cap].toArray T (0,0))::Hs) w):slLen c w=t.len:=by
 unfold slLen
 rw [hw.at]
 rfl
theorem records_spec {s:Sl} (hw:Sat R Hs w):Gets Tryz.prog 154 #[.slice s.a s.len s.cap] w fun v w'=>∃ c,v=.func (.func 188) #[] #[.pointer (some ⟨c,0,none⟩)]∧Sat R (lp c s::Hs) w':=by
 apply call154
 exact new_rule hw fun c w hw=>⟨c,rfl,hw⟩
theorem _root_.Go.VC.SlR.b8take {h:Heap} {s:Sl} {xs:List Int} (a:SlR h s (b8 xs)) {k:Nat} (hk:k≤xs.length):SlR h ⟨s.a,k,s.cap⟩ (b8 (xs.take k)):=by
 have:=a.take (k:=k) (by simpa using hk)
 simpa using this
theorem _root_.Go.VC.SlR.b8drop {h:Heap} {s:Sl} {xs:List Int} (a:SlR h s (b8 xs)) {k:Nat} (hk:k≤xs.length):SlR h (sdrop s k) (b8 (xs.drop k)):=by
 have:=a.drop (k:=k) (by simpa using hk)
 simpa using this
theorem iter_spec {L c nn:Nat} {s:Sl} {bs:List Int} (hbs:∀ x∈bs,0≤x∧x<256) (hlen:bs.length≤1099511627776) (hs:SlR R.m s (b8 bs)) (I:List (List Int)→List HP)
  (hY:∀ (pre:List (List Int)) (x:List Int) (W:World) (A:HP) (t:Sl),pre++[x]<+:scan bs→SlR R.m t (b8 x)→Sat R (A::I pre) W→
   YieldAt Fence.wide (nn - 1) Tryz.prog L #[.slice t.a t.len t.cap] W fun e W'=>e=.returned (.bool true)∧Sat R (A::I (pre++[x])) W')
  (hw:Sat R (lp c s::I []) w):
  CallsIn Fence.wide nn Tryz.prog 188 #[.func (.yield L) #[] #[],.pointer (some ⟨c,0,none⟩)] w fun e w'=>(∃ v,e=.returned v)∧Sat R (I (scan bs)) w':=by
 refine CallsIn.mono (cally188 L (some ⟨c,0,none⟩) (fun _ w'=>Sat R (I (scan bs)) w') w ?_) (fun e w' ⟨v,hv,h⟩=>⟨⟨v,hv⟩,h⟩)
 refine ⟨fun w=>∃ pre rest t,scan bs=pre++scan rest∧rest.length≤bs.length∧(∀ x∈rest,0≤x∧x<256)∧SlR R.m t (b8 rest)∧Sat R (lp c t::I pre) w,fun w=>slLen c w,⟨[],bs,s,rfl,Nat.le_refl _,hbs,hs,hw⟩,?_⟩
 clear hw
 rintro _ w0 ⟨pre,rest,t,hsc,hrl,hrb,hr,hw⟩
 have hmu:slLen c w0=t.len:=slLen_at hw
 have hl:t.len=rest.length:=by have:=hr.len;simpa using this
 have hcap:=hr.cap
 have stop:∀ {w},first rest=none→Sat R (lp c t::I pre) w→Sat R (I (scan bs)) w:=fun hf hw=>by
  rw [hsc,scan_none hf,List.append_nil];exact hw.drop
 refine NilP.mk rfl ⟨t,At.own (eqS hw) (by exact ⟨rfl,trivial⟩),?_⟩
 refine Br.mk (fun h=>?_) (fun h=>?_)
 rotate_left
 ·have h:=of_decide_eq_false h
  exact stop (by unfold first;rw [if_neg (by omega)]) hw
 have h8:8≤rest.length:=by have:=of_decide_eq_true h;omega
 have hfirst:first rest=if (valI 0 (rest.take 4)).toNat≤65536∧(valI 0 (rest.take 4)).toNat≤rest.length - 8∧crcAdd 0 (rest.take 4++(rest.drop 8).take (valI 0 (rest.take 4)).toNat)=(valI 0 ((rest.drop 4).take 4)).toNat then some ((rest.drop 8).take (valI 0 (rest.take 4)).toNat) else none:=by
  unfold first;rw [if_pos h8]
 have hb4:∀ x∈rest.take 4,0≤x∧x<256:=fun x hx=>hrb x (List.mem_of_mem_take hx)
 have hb8:∀ x∈(rest.drop 4).take 4,0≤x∧x<256:=fun x hx=>hrb x (List.mem_of_mem_drop (List.mem_of_mem_take hx))
 have hn0:=valI_nn (acc:=0) (Int.le_refl _) hb4
 have hn1:valI 0 (rest.take 4)<4294967296:=by
  refine Int.lt_of_lt_of_le (valI_lt (Int.le_refl _) hb4) ?_
  rw [List.length_take,Nat.min_eq_left (by omega)];decide
 have hm0:=valI_nn (acc:=0) (Int.le_refl _) hb8
 obtain ⟨n,hn⟩:=Int.eq_ofNat_of_zero_le hn0
 rw [hn] at hn1 hfirst
 rw [Int.toNat_natCast] at hfirst
 have r4:SlR R.m ⟨t.a,4,t.cap⟩ (b8 (rest.take 4)):=hr.b8take (by omega)
 have r48:SlR R.m ⟨(sdrop t 4).a,4,(sdrop t 4).cap⟩ (b8 ((rest.drop 4).take 4)):=(hr.b8drop (k:=4) (by omega)).b8take (by simp;omega)
 refine NilP.mk rfl ⟨t,At.own (eqS hw) (by exact ⟨rfl,trivial⟩),by omega,by omega,?_⟩
 refine (number4_spec (s:=⟨t.a,4,t.cap⟩) (xs:=rest.take 4) (by simp;omega) hb4 (r4.ro (by simp;omega)) hw).use ?_
 rintro _ w ⟨rfl,hw⟩
 rw [hn]
 refine ⟨_,rfl,fun w=>(n≤65536∧n≤rest.length - 8)∧Sat R (lp c t::I pre) w,?_,?_⟩
 ·refine Br.mk (fun h=>?_) (fun h=>?_)
  ·have h:=of_decide_eq_true h
   exact stop (by rw [hfirst,if_neg];rintro ⟨h1,_⟩;omega) hw
  ·have h:=of_decide_eq_false h
   refine NilP.mk rfl ⟨t,At.own (eqS hw) (by exact ⟨rfl,trivial⟩),?_⟩
   rw [wrap64 (by omega) (by omega),wrap64 (by omega) (by omega)]
   refine Br.mk (fun h2=>?_) (fun h2=>?_)
   ·have h2:=of_decide_eq_true h2
    exact stop (by rw [hfirst,if_neg];rintro ⟨_,h1,_⟩;omega) hw
   ·have h2:=of_decide_eq_false h2
    exact ⟨⟨by omega,by omega⟩,hw⟩
 clear hw
 rintro _ w ⟨⟨hn2,hn3⟩,hw⟩
 have e8:IntKind.i64.wrap (8 + IntKind.i64.wrap (n:Int))=((8 + n:Nat):Int):=by
  rw [wrap64 (x:=(n:Int)) (by omega) (by omega),wrap64 (by omega) (by omega)];omega
 have e9:(((8 + n:Nat):Int)).toNat - Int.toNat 8=n:=by omega
 have rb:SlR R.m ⟨(sdrop t 8).a,n,(sdrop t 8).cap⟩ (b8 ((rest.drop 8).take n)):=(hr.b8drop (k:=8) (by omega)).b8take (by simp;omega)
 have hbb:∀ x∈(rest.drop 8).take n,0≤x∧x<256:=fun x hx=>hrb x (List.mem_of_mem_drop (List.mem_of_mem_take hx))
 refine NilP.mk rfl ⟨t,At.own (eqS hw) (by exact ⟨rfl,trivial⟩),?_⟩
 rw [e8,e9]
 refine ⟨by omega,by omega,by omega,by omega,?_⟩
 refine drw_rule' (Sat R [lp c t,VC.tru]) hw (fun w hw=>hw.restTru) fun w hw=>?_
 refine NilP.mk rfl ⟨t,At.own selfS (by exact ⟨rfl,trivial⟩),by omega,by omega,NilP.mk rfl ⟨t,At.own selfS (by exact ⟨rfl,trivial⟩),by omega,by omega,by omega,by omega,?_⟩⟩
 refine (sum_spec (s:=⟨t.a,4,t.cap⟩) (xs:=rest.take 4) hb4 (r4.ro (by simp;omega)) hw).use ?_
 rintro _ w ⟨rfl,hw⟩
 refine ⟨_,rfl,hw.restTru,?_⟩
 have hc1:crcAdd 0 (rest.take 4)<4294967296:=crcAdd_lt (by omega) hb4
 have hq2:=crcAdd_app 0 (rest.take 4) ((rest.drop 8).take n)
 generalize crcAdd 0 (rest.take 4)=q at hc1 hq2 ⊢
 refine (add_spec (sum:=q) (s:=⟨(sdrop t 8).a,n,(sdrop t 8).cap⟩) hc1 hbb (rb.ro (by simp;omega)) hw).use ?_
 rintro _ w ⟨rfl,hw⟩
 refine ⟨_,rfl,hw.restTru,?_⟩
 rw [hq2]
 refine (number4_spec (s:=⟨(sdrop t 4).a,4,(sdrop t 4).cap⟩) (xs:=(rest.drop 4).take 4) (by simp;omega) hb8 (r48.ro (by simp;omega)) hw).use ?_
 rintro _ w ⟨rfl,hw⟩
 refine ⟨_,rfl,hw.restTru,?_⟩
 generalize hC:crcAdd 0 (rest.take 4++(rest.drop 8).take n)=C at hfirst ⊢
 refine Br.ne (fun h=>?_) (fun h=>?_)
 ·exact stop (by rw [hfirst,if_neg];rintro ⟨_,_,h1⟩;omega) hw
 have hsome:first rest=some ((rest.drop 8).take n):=by rw [hfirst,if_pos ⟨hn2,hn3,by omega⟩]
 have hxl:((rest.drop 8).take n).length=n:=by simp;omega
 have hss:=scan_some hsome
 rw [hxl] at hss
 refine (hY pre ((rest.drop 8).take n) w (lp c t) ⟨(sdrop t 8).a,n,(sdrop t 8).cap⟩ ⟨scan (rest.drop (8 + n)),by rw [hsc,hss];simp⟩ rb hw).imp ?_
 rintro fn ⟨tmps,assign,body,hrun,hround⟩
 refine ⟨tmps,assign,body,hrun,RoundIn.mono hround ?_⟩
 rintro e w ⟨rfl,hw⟩
 refine ⟨true,rfl,hw.restTru,?_⟩
 refine Br.f rfl ?_
 refine NilP.mk rfl ⟨t,At.own (eqS hw) (by exact ⟨rfl,trivial⟩),?_⟩
 refine ⟨by omega,by omega,?_⟩
 rw [Int.toNat_natCast]
 refine store_rule hw (by kernel_rfl) rfl (by simp [Value.cells]) fun w hw=>?_
 have hw:Sat R (lp c (sdrop t (8 + n))::I (pre++[(rest.drop 8).take n])) w:=hw
 refine ⟨⟨pre++[(rest.drop 8).take n],rest.drop (8 + n),sdrop t (8 + n),?_,by simp;omega,fun x hx=>hrb x (List.mem_of_mem_drop hx),hr.b8drop (by omega),hw⟩,?_⟩
 ·rw [hsc,hss];simp
 ·show slLen c w<slLen c w0
  rw [slLen_at hw,hmu]
  show t.len - (8 + n)<t.len
  omega
end Go.Proofs.YtkfedbncmfnpnaaGreatDoor
/- Package record: Scan, the whole. Condition: bounds on lengths. -/
namespace Go.Proofs.YtkfedbncmfnpnaaGreatDoor
set_option linter.unusedVariables false
set_option linter.unusedSimpArgs false
open Go Go.VC
variable {R:Cx} {Hs Rest:List HP} {w:World}
def BytesL (l:Sl) (xss:List (List Int)):HP:=
 exs fun ps:List (Sl × List Int)=>Star [pur (ps.map (·.2)=xss),Own l 53 (ps.map fun p=>Sl.v p.1),Star (ps.map fun p=>Own p.1 5 (b8 p.2))]
theorem Sat.bytesL {l:Sl} {xss:List (List Int)}:Sat R (BytesL l xss::Hs) w↔∃ ps:List (Sl × List Int),ps.map (·.2)=xss∧Sat R (Own l 53 (ps.map fun p=>Sl.v p.1)::Star (ps.map fun p=>Own p.1 5 (b8 p.2))::Hs) w:=by
 unfold BytesL
 rw [Sat.exs]
 exact ⟨fun ⟨ps,h⟩=>let h:=Sat.pur.1 (Sat.star.1 h);⟨ps,h.1,h.2⟩,fun ⟨ps,h,hs⟩=>⟨ps,Sat.star.2 (Sat.pur.2 ⟨h,hs⟩)⟩⟩
def OutAt (b:Nat) (xss:List (List Int)):HP:=exs fun l:Sl=>Star [pts b (.cells [.slice l.a l.len l.cap].toArray 139 (0,0)),BytesL l xss]
theorem Sat.outAt {b:Nat} {xss:List (List Int)}:Sat R (OutAt b xss::Hs) w↔∃ l:Sl,Sat R (pts b (.cells [.slice l.a l.len l.cap].toArray 139 (0,0))::BytesL l xss::Hs) w:=by
 unfold OutAt
 rw [Sat.exs]
 exact ⟨fun ⟨s,h⟩=>⟨s,Sat.star.1 h⟩,fun ⟨s,h⟩=>⟨s,Sat.star.2 h⟩⟩
theorem elBB:El Tryz.prog 139 139 53 24:=⟨Tryz.underlying139,⟨_,Tryz.underlying139⟩,by kernel_rfl⟩
theorem one_sl (ps:List (Sl × List Int)):oneAll (ps.map fun p=>Sl.v p.1)=true:=by unfold oneAll;simp [Value.oneCell',Sl.v]
theorem scanLen_app:∀ a b:List (List Int),scanLen (a++b)=scanLen a + scanLen b
 |[],b=>by simp [scanLen]
 |x::a,b=>by rw [List.cons_append,scanLen_cons,scanLen_cons,scanLen_app a b];omega
theorem len_scanLen:∀ a:List (List Int),8 * a.length≤scanLen a
 |[]=>by simp [scanLen]
 |x::a=>by rw [scanLen_cons,List.length_cons];have:=len_scanLen a;omega
theorem scanLen_le:∀ (n:Nat) (bs:List Int),bs.length≤n→scanLen (scan bs)≤bs.length:=fun n=>by
 induction n with
 |zero=>
  intro bs h
  cases hf:first bs with
  |none=>rw [scan_none hf];simp [scanLen]
  |some b=>have:=(first_len hf).1;omega
 |succ n ih=>
  intro bs h
  cases hf:first bs with
  |none=>rw [scan_none hf];simp [scanLen]
  |some b=>
   have hb:=(first_len hf).1
   rw [scan_some hf,scanLen_cons]
   have:=ih (bs.drop (8 + b.length)) (by simp;omega)
   rw [List.length_drop] at this
   omega
theorem scanLen_pre {pre bs} (h:pre<+:scan bs):scanLen pre≤bs.length:=by
 obtain ⟨r,hr⟩:=h
 have:=scanLen_le _ bs (Nat.le_refl _)
 rw [←hr,scanLen_app] at this
 omega
theorem body_spec {b4 b5:Nat} {s:Sl} {x:List Int} {pre:List (List Int)} {K:World→Prop} (hs:Ro R s (b8 x)) (hl:scanLen (pre++[x])≤1099511627776)
  (hw:Sat R (OutAt b4 pre::pts b5 (.cells [.int .i64 (scanLen pre:Nat)].toArray 3 (0,0))::Hs) w)
  (k:∀ w,Sat R (OutAt b4 (pre++[x])::pts b5 (.cells [.int .i64 (scanLen (pre++[x]):Nat)].toArray 3 (0,0))::Hs) w→K w):
  Bb108 (some ⟨b4,0,none⟩) (some ⟨b5,0,none⟩) s K w:=by
 have hsl:s.len=x.length:=by have:=hs.len;simpa using this
 have happ:=scanLen_app pre [x]
 rw [scanLen_cons] at happ
 have hsn:scanLen []=0:=rfl
 have hpl:=len_scanLen pre
 obtain ⟨l,hw⟩:=Sat.outAt.1 hw
 refine drw_rule' (Sat R [pts b4 (.cells [.slice l.a l.len l.cap].toArray 139 (0,0)),VC.tru]) hw (fun w hw=>hw.restTru) fun w hw=>?_
 refine NilP.mk rfl ⟨l,At.own selfS (by exact ⟨rfl,trivial⟩),?_⟩
 refine (clone_spec hs (by omega) hw).use ?_
 rintro _ w ⟨t,rfl,hw⟩
 refine ⟨t,rfl,hw.swap.restTru,?_⟩
 refine new_rule hw fun b13 w hw=>?_
 have hw:Sat R (pts b13 (.cells [Value.slice t.a t.len t.cap].toArray 53 (0,0))::Own t 5 (b8 x)::pts b4 (.cells [.slice l.a l.len l.cap].toArray 139 (0,0))::BytesL l pre::pts b5 (.cells [.int .i64 (scanLen pre:Nat)].toArray 3 (0,0))::Hs) w:=hw
 have hw2:Sat R (pts b4 (.cells [.slice l.a l.len l.cap].toArray 139 (0,0))::BytesL l pre::pts b5 (.cells [.int .i64 (scanLen pre:Nat)].toArray 3 (0,0))::pts b13 (.cells [Value.slice t.a t.len t.cap].toArray 53 (0,0))::Own t 5 (b8 x)::Hs) w:=hw.arr
 refine ⟨hw2.restTru,?_⟩
 have hw3:Sat R (BytesL l pre::pts b4 (.cells [.slice l.a l.len l.cap].toArray 139 (0,0))::pts b5 (.cells [.int .i64 (scanLen pre:Nat)].toArray 3 (0,0))::pts b13 (.cells [Value.slice t.a t.len t.cap].toArray 53 (0,0))::Own t 5 (b8 x)::Hs) w:=hw2.swap
 obtain ⟨ps,hps,hw4⟩:=Sat.bytesL.1 hw3
 have hpsl:ps.length=pre.length:=by rw [←hps];simp
 have hsrc:Src Tryz.prog 1 139 (.slice (some ⟨b13,0,none⟩) 1 1) 1 [Value.slice t.a t.len t.cap] w:=Src_one elBB.hk 1 hw rfl
 refine append_rule elBB (s:=l) hw4 hsrc (one_sl ps) (by rw [List.length_map];omega) (by rw [List.length_map];omega) fun l2 w hw=>?_
 have hw:Sat R (pts b4 (.cells [.slice l.a l.len l.cap].toArray 139 (0,0))::Own l2 53 ((ps.map fun p=>Sl.v p.1)++[Value.slice t.a t.len t.cap])::Star (ps.map fun p=>Own p.1 5 (b8 p.2))::pts b5 (.cells [.int .i64 (scanLen pre:Nat)].toArray 3 (0,0))::pts b13 (.cells [Value.slice t.a t.len t.cap].toArray 53 (0,0))::Own t 5 (b8 x)::Hs) w:=hw.arr
 refine store_rule hw (by kernel_rfl) rfl (by simp [Value.cells]) fun w hw=>?_
 have hw:=hw.re (pts b4 (.cells [.slice l2.a l2.len l2.cap].toArray 139 (0,0)))
 have hw:Sat R (pts b5 (.cells [.int .i64 (scanLen pre:Nat)].toArray 3 (0,0))::pts b4 (.cells [.slice l2.a l2.len l2.cap].toArray 139 (0,0))::Own l2 53 ((ps.map fun p=>Sl.v p.1)++[Value.slice t.a t.len t.cap])::Own t 5 (b8 x)::Star (ps.map fun p=>Own p.1 5 (b8 p.2))::pts b13 (.cells [Value.slice t.a t.len t.cap].toArray 53 (0,0))::Hs) w:=hw.arr
 refine NilP.mk rfl ⟨_,At.own (eqS hw) (by exact ⟨rfl,trivial⟩),?_⟩
 rw [hsl,wrap64 (x:=8 + (x.length:Int)) (by omega) (by omega),wrap64 (by omega) (by omega)]
 refine store_rule hw (by kernel_rfl) rfl (by simp [Value.cells]) fun w hw=>k w ?_
 have e:((scanLen pre:Nat):Int) + (8 + (x.length:Int))=((scanLen (pre++[x]):Nat):Int):=by rw [happ,hsn];omega
 rw [e] at hw
 have hw:Sat R (pts b5 (.cells [.int .i64 (scanLen (pre++[x]):Nat)].toArray 3 (0,0))::pts b4 (.cells [.slice l2.a l2.len l2.cap].toArray 139 (0,0))::Own l2 53 ((ps.map fun p=>Sl.v p.1)++[Value.slice t.a t.len t.cap])::Own t 5 (b8 x)::Star (ps.map fun p=>Own p.1 5 (b8 p.2))::pts b13 (.cells [Value.slice t.a t.len t.cap].toArray 53 (0,0))::Hs) w:=hw
 have hw:Sat R (pts b4 (.cells [.slice l2.a l2.len l2.cap].toArray 139 (0,0))::Own l2 53 ((ps.map fun p=>Sl.v p.1)++[Value.slice t.a t.len t.cap])::Own t 5 (b8 x)::Star (ps.map fun p=>Own p.1 5 (b8 p.2))::pts b13 (.cells [Value.slice t.a t.len t.cap].toArray 53 (0,0))::pts b5 (.cells [.int .i64 (scanLen (pre++[x]):Nat)].toArray 3 (0,0))::Hs) w:=hw.arr
 refine Sat.outAt.2 ⟨l2,hw.cons fun R' hw=>Sat.bytesL.2 ⟨ps++[(t,x)],by simp [hps],?_⟩⟩
 have e2:((ps++[(t,x)]).map fun p=>Sl.v p.1)=(ps.map fun p=>Sl.v p.1)++[Value.slice t.a t.len t.cap]:=by simp [Sl.v]
 rw [e2]
 refine hw.cons fun R' hw=>?_
 refine Sat.star.2 ?_
 rw [List.map_append,List.append_assoc]
 have h3:Sat R' (Star (ps.map fun p=>Own p.1 5 (b8 p.2))::Own t 5 (b8 x)::pts b13 (.cells [Value.slice t.a t.len t.cap].toArray 53 (0,0))::pts b5 (.cells [.int .i64 (scanLen (pre++[x]):Nat)].toArray 3 (0,0))::Hs) w:=hw.swap
 have h4:=Sat.star.1 h3
 have dropB:∀ (l:List HP) (R:Cx),Sat R (l++(Own t 5 (b8 x)::pts b13 (.cells [Value.slice t.a t.len t.cap].toArray 53 (0,0))::pts b5 (.cells [.int .i64 (scanLen (pre++[x]):Nat)].toArray 3 (0,0))::Hs)) w→Sat R (l++(Own t 5 (b8 x)::pts b5 (.cells [.int .i64 (scanLen (pre++[x]):Nat)].toArray 3 (0,0))::Hs)) w:=fun l=>by
  induction l with
  |nil=>exact fun R h=>h.cons fun _ h=>h.drop
  |cons A l ih=>exact fun R h=>h.cons fun _ h=>ih _ h
 exact dropB _ _ h4
end Go.Proofs.YtkfedbncmfnpnaaGreatDoor
/- Package record: Scan's contract. Condition: bounds on lengths. -/
namespace Go.Proofs.YtkfedbncmfnpnaaGreatDoor
set_option linter.unusedVariables false
set_option linter.unusedSimpArgs false
open Go Go.VC
variable {R:Cx} {Hs Rest:List HP} {w:World}
theorem env_at (a:Act) (i:Nat):a.env i=a.tmps.getD i undef:=rfl
theorem round_spec {b4 b5 L D fn m:Nat} {tmps:Array Value} {s:Sl} {x:List Int} {pre:List (List Int)} {W:World} (hsz:tmps.size=22) (h4:tmps.getD 4 undef=.pointer (some ⟨b4,0,none⟩)) (h5:tmps.getD 5 undef=.pointer (some ⟨b5,0,none⟩))
  (hs:Ro R s (b8 x)) (hl:scanLen (pre++[x])≤1099511627776)
  (hw:Sat R (pts L (lrec .ready fn tmps (lpPs Tryz.f108) (lpAssign Tryz.f108) (lpBody Tryz.f108) D)::OutAt b4 pre::pts b5 (.cells [.int .i64 (scanLen pre:Nat)].toArray 3 (0,0))::Hs) W):
  YieldAt Fence.wide m Tryz.prog L #[.slice s.a s.len s.cap] W fun e W'=>e=.returned (.bool true)∧
   Sat R (pts L (lrec .ready fn tmps (lpPs Tryz.f108) (lpAssign Tryz.f108) (lpBody Tryz.f108) D)::OutAt b4 (pre++[x])::pts b5 (.cells [.int .i64 (scanLen (pre++[x]):Nat)].toArray 3 (0,0))::Hs) W':=by
 have hps:=ps108
 refine round_rule hw (by rw [hps];rfl) ?_
 have hY:∀ l args w Q,(fun (_:Nat) (_:List Value) (_:World) (_:Ending→World→Prop)=>False) l args w Q→YieldAt (wf (some L)) (m - 1) Tryz.prog l args.toArray w Q:=fun _ _ _ _ h=>h.elim
 have hoka:=oka108
 have hokb:=okb108
 simp only [Bool.and_eq_true] at hoka hokb
 have htm:((lpPs Tryz.f108).zip #[Value.slice s.a s.len s.cap]).foldl (fun t (p,v)=>t.setIfInBounds p v) tmps=tmps.setIfInBounds 9 (.slice s.a s.len s.cap):=by
  rw [hps];simp
 rw [htm]
 generalize hA:({ tmps:=tmps.setIfInBounds 9 (.slice s.a s.len s.cap),defers:=[] }:Act)=A
 have hAs:A.tmps.size=22:=by rw [←hA];simp [hsz]
 have hAd:A.defers=[]:=by rw [←hA]
 have hA9:A.env 9=.slice s.a s.len s.cap:=by rw [←hA,env_at];simp [hsz]
 have hA4:A.env 4=.pointer (some ⟨b4,0,none⟩):=by rw [←h4,←hA,env_at];simp
 have hA5:A.env 5=.pointer (some ⟨b5,0,none⟩):=by rw [←h5,←hA,env_at];simp
 have h1:deny Tryz.prog cl (fun (_:Nat) (_:List Value) (_:World) (_:Ending→World→Prop)=>False) (lpAssign Tryz.f108) .leaf A.env (noC fun ρ w=>ρ 4=.pointer (some ⟨b4,0,none⟩)∧ρ 5=.pointer (some ⟨b5,0,none⟩)∧ρ 6=.slice s.a s.len s.cap∧w=W) W:=by
  rw [←env_set_same hA9,eqa108 ]
  exact ⟨hA4,hA5,rfl,rfl⟩
 refine Code.wpIn_mono ?_ (deny_sound (r:=some L) (nn:=m) (n:=22) cl_ok hY mixed _ _ (fun i=>memB i [6]) A.env hoka.1.1 hoka.1.2 hoka.2 A _ W (Kept.refl hAs hAd) h1)
 intro e a1 w1 hq
 cases e with
 |exit i=>exact hq.2.elim
 |ret=>exact hq.2.elim
 |goto t=>exact hq.elim
 |panic c=>exact hq.elim
 |outgrown=>exact hq.elim
 |normal=>
 obtain ⟨hk,e4,e5,e6,rfl⟩:=hq
 refine ⟨hw,fun W2 hw2=>?_⟩
 have hw3:Sat R (OutAt b4 pre::pts b5 (.cells [.int .i64 (scanLen pre:Nat)].toArray 3 (0,0))::pts L (lrec .busy fn tmps (lpPs Tryz.f108) (lpAssign Tryz.f108) (lpBody Tryz.f108) D)::Hs) W2:=hw2.arr
 have h2:deny Tryz.prog cl (fun (_:Nat) (_:List Value) (_:World) (_:Ending→World→Prop)=>False) (lpBody Tryz.f108) .leaf a1.env (noC fun _ w=>Sat R (OutAt b4 (pre++[x])::pts b5 (.cells [.int .i64 (scanLen (pre++[x]):Nat)].toArray 3 (0,0))::pts L (lrec .busy fn tmps (lpPs Tryz.f108) (lpAssign Tryz.f108) (lpBody Tryz.f108) D)::Hs) w) W2:=by
  have:a1.env=((a1.env.set 4 (.pointer (some ⟨b4,0,none⟩))).set 5 (.pointer (some ⟨b5,0,none⟩))).set 6 (.slice s.a s.len s.cap):=by
   rw [env_set_same e4,env_set_same e5,env_set_same e6]
  rw [this,eqb108 ]
  exact body_spec hs hl hw3 fun w hw=>hw
 refine Code.wpIn_mono ?_ (deny_sound (r:=some L) (nn:=m) (n:=22) cl_ok hY mixed _ _ (fun _=>true) a1.env hokb.1.1 hokb.1.2 hokb.2 a1 _ W2 (Kept.refl hk.size hk.defers) h2)
 intro e a2 w2 hq
 cases e with
 |exit i=>exact hq.2.elim
 |ret=>exact hq.2.elim
 |goto t=>exact hq.elim
 |panic c=>exact hq.elim
 |outgrown=>exact hq.elim
 |normal=>
 refine ⟨rfl,OutAt b4 (pre++[x])::pts b5 (.cells [.int .i64 (scanLen (pre++[x]):Nat)].toArray 3 (0,0))::Hs,hq.2.arr,fun W4 hw4=>⟨rfl,hw4⟩⟩
theorem scan_spec {s:Sl} {bs:List Int} (hbs:∀ x∈bs,0≤x∧x<256) (hlen:bs.length≤1099511627776) (hs:SlR R.m s (b8 bs)) (hw:Sat R Hs w):
  Gets Tryz.prog 108 #[.slice s.a s.len s.cap] w fun v w'=>∃ l:Sl,v=.tuple #[.slice l.a l.len l.cap,.int .i64 (scanLen (scan bs):Nat)]∧Sat R (BytesL l (scan bs)::Hs) w':=by
 apply call108
 refine new_rule hw fun b4 w hw=>new_rule hw fun b5 w hw=>?_
 have hw:Sat R (pts b5 (.cells [.int .i64 0].toArray 3 (0,0))::pts b4 (.cells [.slice none 0 0].toArray 139 (0,0))::Hs) w:=hw
 refine store_rule hw (by kernel_rfl) rfl (by simp [Value.cells]) fun w hw=>?_
 have hw:Sat R (pts b4 (.cells [.slice none 0 0].toArray 139 (0,0))::pts b5 (.cells [.int .i64 (scanLen []:Nat)].toArray 3 (0,0))::Hs) w:=hw.swap
 have hw:Sat R (OutAt b4 []::pts b5 (.cells [.int .i64 (scanLen []:Nat)].toArray 3 (0,0))::Hs) w:=
  Sat.outAt.2 ⟨⟨none,0,0⟩,hw.cons fun R' h=>Sat.bytesL.2 ⟨[],rfl,Own.nil (Sat.star.2 h)⟩⟩
 refine (records_spec (s:=s) hw).use ?_
 rintro _ w ⟨c,rfl,hw⟩
 refine ⟨_,rfl,RngV.mk (by kernel_rfl) hw ?_⟩
 rintro nn tmps fn D L W1 hsz ⟨h4,h5,_⟩ hw1
 have hw2:Sat R (lp c s::(fun pre=>pts L (lrec .ready fn tmps (lpPs Tryz.f108) (lpAssign Tryz.f108) (lpBody Tryz.f108) D)::OutAt b4 pre::pts b5 (.cells [.int .i64 (scanLen pre:Nat)].toArray 3 (0,0))::pts D (.deferred (some []))::Hs) []) W1:=hw1.arr
 refine CallsIn.mono (iter_spec (nn:=nn) (L:=L) hbs hlen hs (fun pre=>pts L (lrec .ready fn tmps (lpPs Tryz.f108) (lpAssign Tryz.f108) (lpBody Tryz.f108) D)::OutAt b4 pre::pts b5 (.cells [.int .i64 (scanLen pre:Nat)].toArray 3 (0,0))::pts D (.deferred (some []))::Hs) ?_ hw2) ?_
 ·intro pre x W A t hpre ht hw
  have hsl:=scanLen_pre hpre
  have hxl:=scanLen_app pre [x]
  rw [scanLen_cons] at hxl
  have hw':Sat R (pts L (lrec .ready fn tmps (lpPs Tryz.f108) (lpAssign Tryz.f108) (lpBody Tryz.f108) D)::OutAt b4 pre::pts b5 (.cells [.int .i64 (scanLen pre:Nat)].toArray 3 (0,0))::A::pts D (.deferred (some []))::Hs) W:=hw.arr
  obtain ⟨f',t',a',b',hrun,hround⟩:=round_spec (m:=nn - 1) hsz h4 h5 (ht.ro (by simp;omega)) (by omega) hw'
  exact ⟨f',t',a',b',hrun,RoundIn.mono hround fun e W' ⟨he,hw⟩=>⟨he,hw.arr⟩⟩
 ·rintro e W2 ⟨hv,hw⟩
  refine ⟨hv,OutAt b4 (scan bs)::pts b5 (.cells [.int .i64 (scanLen (scan bs):Nat)].toArray 3 (0,0))::Hs,hw.arr,fun W3 hw3=>?_⟩
  have hw3:Sat R (OutAt b4 (scan bs)::pts D (.deferred (some []))::pts b5 (.cells [.int .i64 (scanLen (scan bs):Nat)].toArray 3 (0,0))::Hs) W3:=hw3.swap
  obtain ⟨l,hw4⟩:=Sat.outAt.1 hw3
  refine drw_rule hw4 fun w hw=>?_
  refine ⟨l,At.own selfS (by exact ⟨rfl,trivial⟩),?_⟩
  refine ⟨_,At.own selfS (by exact ⟨rfl,trivial⟩),?_⟩
  refine ⟨R,pts b4 (.cells [.slice l.a l.len l.cap].toArray 139 (0,0))::BytesL l (scan bs)::pts b5 (.cells [.int .i64 (scanLen (scan bs):Nat)].toArray 3 (0,0))::Hs,hw.arr,fun w' hw'=>⟨l,rfl,?_⟩⟩
  exact hw'.drop.cons fun R' h=>h.drop
end Go.Proofs.YtkfedbncmfnpnaaGreatDoor
/- Package field: Number; reading in general. Condition: none. -/
namespace Go.Proofs.YtkfedbncmfnpnaaGreatDoor
set_option linter.unusedVariables false
set_option linter.unusedSimpArgs false
open Go Go.VC
variable {R:Cx} {Hs Rest:List HP} {w:World}
theorem shr_nat (n k:Nat) (hk:k≤64):shrI .u64 (n:Int) (k:Int)=((n / 2 ^ k:Nat):Int):=by
 have e:min ((k:Int).toNat) IntKind.u64.bits=k:=by rw [Int.toNat_natCast];exact Nat.min_eq_left hk
 unfold shrI
 rw [e,Int.fdiv_eq_ediv_of_nonneg _ (by exact Int.le_of_lt (Int.pow_pos (by decide)))]
 rw [show ((2:Int) ^ k)=((2 ^ k:Nat):Int) from (Int.natCast_pow 2 k).symm]
 exact (Int.natCast_ediv n (2 ^ k)).symm
theorem shr32 (n:Nat):shrI .u64 (n:Int) 32=((n / 4294967296:Nat):Int):=shr_nat n 32 (by omega)
theorem shr16 (n:Nat):shrI .u64 (n:Int) 16=((n / 65536:Nat):Int):=shr_nat n 16 (by omega)
theorem shr8 (n:Nat):shrI .u64 (n:Int) 8=((n / 256:Nat):Int):=shr_nat n 8 (by omega)
theorem len64_spec {n:Nat} (hn:n<18446744073709551616) (hw:Sat R Hs w):
  Gets Tryz.prog 165 #[.int .u64 n] w fun v w'=>v=.int .i64 (Lib.bitLen n:Nat)∧Sat R Hs w':=by
 apply call165
 refine ⟨fun x j w=>∃ m i:Nat,x=m∧j=i∧m<4294967296∧i≤32∧Lib.bitLen n=i + Lib.bitLen m∧Sat R Hs w,?_,?_⟩
 ·refine Br.d (fun h=>?_) (fun h=>?_)
  ·rw [shr32]
   exact ⟨n / 4294967296,32,rfl,rfl,by omega,by omega,Lib.bitLen_shift32 n (by omega) hn,hw⟩
  ·exact ⟨n,0,rfl,rfl,by omega,by omega,by omega,hw⟩
 rintro _ _ _ w ⟨m,i,rfl,rfl,hm,hi,he,hw⟩
 refine ⟨fun x j w=>∃ m i:Nat,x=m∧j=i∧m<65536∧i≤48∧Lib.bitLen n=i + Lib.bitLen m∧Sat R Hs w,?_,?_⟩
 ·refine Br.d (fun h=>?_) (fun h=>?_)
  ·rw [shr16,wrap64 (by omega) (by omega)]
   exact ⟨m / 65536,i + 16,rfl,by omega,by omega,by omega,by have:=Lib.bitLen_shift16 m (by omega) (by omega);omega,hw⟩
  ·exact ⟨m,i,rfl,rfl,by omega,by omega,he,hw⟩
 clear hm hi he hw
 rintro _ _ _ w ⟨m,i,rfl,rfl,hm,hi,he,hw⟩
 refine Br.d (fun h=>?_) (fun h=>?_)
 ·rw [shr8,wrapU8 (by omega) (by omega)]
  have h8:Lib.bitLen (m / 256)≤8:=Lib.bitLen_le8 ⟨m / 256,by omega⟩
  refine ⟨UInt8.ofNat (Lib.bitLen (m / 256)),by omega,?_,?_,hw⟩
  ·rw [Int.toNat_natCast]
   obtain ⟨q,hq⟩:∃ q:Fin 256,q.1=m / 256:=⟨⟨m / 256,by omega⟩,rfl⟩
   rw [←hq]
   clear hq h8 hw he hi hm h
   revert q
   decide +kernel
  ·have:(UInt8.ofNat (Lib.bitLen (m / 256))).toNat=Lib.bitLen (m / 256):=by simp;omega
   have h2:=Lib.bitLen_shift8 m (by omega) (by omega)
   rw [this,wrap64 (x:=((Lib.bitLen (m / 256):Nat):Int)) (by omega) (by omega),wrap64 (x:=(i:Int) + 8) (by omega) (by omega),wrap64 (by omega) (by omega)]
   congr 1;omega
 ·rw [wrapU8 (by omega) (by omega)]
  have h8:Lib.bitLen m≤8:=Lib.bitLen_le8 ⟨m,by omega⟩
  refine ⟨UInt8.ofNat (Lib.bitLen m),by omega,?_,?_,hw⟩
  ·rw [Int.toNat_natCast]
   obtain ⟨q,hq⟩:∃ q:Fin 256,q.1=m:=⟨⟨m,by omega⟩,rfl⟩
   rw [←hq]
   clear hq h8 hw he hi hm h
   revert q
   decide +kernel
  ·have:(UInt8.ofNat (Lib.bitLen m)).toNat=Lib.bitLen m:=by simp;omega
   rw [this,wrap64 (x:=((Lib.bitLen m:Nat):Int)) (by omega) (by omega),wrap64 (by omega) (by omega)]
   congr 1;omega
theorem number_spec {n:Nat} (hn:n<18446744073709551616) (hw:Sat R Hs w):
  Gets Tryz.prog 113 #[.int .u64 n] w fun v w'=>∃ t:Sl,v=.slice t.a t.len t.cap∧Sat R (Own t 5 (b8 (numB n))::Hs) w':=by
 apply call113
 refine (len64_spec hn hw).use ?_
 rintro _ w ⟨rfl,hw⟩
 refine ⟨_,rfl,?_⟩
 have hwid:=dig_width n hn
 have h8:=dig_len8 hn
 generalize hL:(dig n).length=L at *
 have e:IntKind.i64.wrap ((IntKind.i64.wrap (((Lib.bitLen n:Nat):Int) + 7)).tdiv 8)=(L:Int):=by
  rw [wrap64 (x:=((Lib.bitLen n:Nat):Int) + 7) (by omega) (by omega),Int.tdiv_eq_ediv_of_nonneg (by omega),wrap64 (by omega) (by omega)]
  omega
 rw [e,wrapU8 (by omega) (by omega)]
 refine new_rule hw fun b w hw=>?_
 have h0:Sat R (Own ⟨some ⟨b,0,none⟩,1,1⟩ 5 (b8 [(L:Int)])::Hs) w:=Own.of_pts (xs:=b8 [(L:Int)]) (rest:=[]) hw
 refine ⟨fun wd out w=>∃ k:Nat,wd=k∧k≤L∧Sat R (Own out 5 (b8 ((L:Int)::(dig n).take (L - k)))::Hs) w,fun wd _ _=>wd.toNat,⟨L,rfl,Nat.le_refl _,by simpa using h0⟩,?_⟩
 clear hw h0
 rintro _ _ out w ⟨k,rfl,hk,hw⟩
 refine Br.d (fun h=>?_) (fun h=>?_)
 ·have e1:IntKind.i64.wrap ((k:Int) - 1)=((k - 1:Nat):Int):=by rw [wrap64 (by omega) (by omega)];omega
  have e2:IntKind.i64.wrap (8 * ((k - 1:Nat):Int))=((8 * (k - 1):Nat):Int):=by rw [wrap64 (by omega) (by omega)];omega
  rw [e1,e2,shr_nat n _ (by omega)]
  refine Ge0.mk (by omega) ?_
  have hd:=dig_get (n:=n) (k:=k - 1) (by omega)
  have hlen:((L:Int)::(dig n).take (L - k)).length≤9:=by simp;omega
  refine push_rule elB8 hw (one_b8 _) rfl (by rw [List.length_map];omega) (by rw [List.length_map];omega) fun t w hw=>⟨⟨k - 1,rfl,by omega,?_⟩,by show ((k - 1:Nat):Int).toNat<(k:Int).toNat;omega⟩
  have e3:((L:Int)::(dig n).take (L - (k - 1)))=((L:Int)::(dig n).take (L - k))++[IntKind.u8.wrap ((n / 2 ^ (8 * (k - 1)):Nat):Int)]:=by
   have e4:L - (k - 1)=(L - k) + 1:=by omega
   rw [e4,List.take_succ_eq_append_getElem (by omega),List.cons_append]
   congr 3
   rw [wrapU8m,show (2:Nat) ^ (8 * (k - 1))=256 ^ (k - 1) from by rw [Nat.pow_mul],show ((n / 256 ^ (k - 1):Nat):Int) % 256=((n / 256 ^ (k - 1) % 256:Nat):Int) from (Int.natCast_emod _ _).symm,←hd]
   congr 1;omega
  rw [e3]
  simpa [b8] using hw
 ·have hk0:k=0:=by omega
  subst hk0
  refine ⟨out,rfl,?_⟩
  have:(dig n).take (L - 0)=dig n:=List.take_of_length_le (by omega)
  rw [this] at hw
  unfold numB
  rw [hL];exact hw
abbrev rdCells (s:Sl) (bad:Bool):Obj:=.cells [.slice s.a s.len s.cap,.bool bad].toArray 180 (0,0)
def RdAt (r:Nat) (rd:Rd):HP:=exs fun s:Sl=>Star [pts r (rdCells s rd.bad),Reads s (b8 rd.bs)]
theorem Sat.rd {r:Nat} {rd:Rd}:Sat R (RdAt r rd::Hs) w↔∃ s:Sl,Sat R (pts r (rdCells s rd.bad)::Reads s (b8 rd.bs)::Hs) w:=by
 unfold RdAt
 rw [Sat.exs]
 exact ⟨fun ⟨s,h⟩=>⟨s,Sat.star.1 h⟩,fun ⟨s,h⟩=>⟨s,Sat.star.2 h⟩⟩
abbrev brCell (r:Nat):Obj:=.cells [.pointer (some ⟨r,0,none⟩)].toArray 144 (0,0)
theorem leaveP {br r:Nat} {s:Sl} {bad:Bool} {Kr:World→Prop} (hw:Sat R (pts br (brCell r)::pts r (rdCells s bad)::Hs) w) (k:∀ w,Sat R (pts br (brCell r)::pts r (rdCells s true)::Hs) w→Kr w):
  LeaveF Tryz.prog 221 [.pointer (some ⟨br,0,none⟩)] (.panicking amissP) Kr w:=by
 unfold LeaveF
 refine CallsD.mono (callP221 (some ⟨br,0,none⟩) (.iface 239 (.agg #[])) Kr w ?_) ?_
 ·refine ⟨true,fun w' _=>by kernel_rfl,Br.t rfl ?_⟩
  refine NilP.mk rfl ⟨some ⟨r,0,none⟩,At.own (eqS hw) (by exact ⟨rfl,trivial⟩),NilP.mk rfl ?_⟩
  have hw:=hw.swap
  refine store_rule hw (by kernel_rfl) rfl (by simp [Value.cells]) fun w hw=>?_
  exact k w hw.swap
 ·rintro e v w' ⟨hy,rfl,hk⟩
  exact ⟨hy,rfl,hk⟩
theorem leaveR {br:Nat} {Kr:World→Prop} (k:Kr w):LeaveF Tryz.prog 221 [.pointer (some ⟨br,0,none⟩)] .returning Kr w:=by
 unfold LeaveF
 refine CallsD.mono (callR221 (some ⟨br,0,none⟩) Kr w ?_) ?_
 ·exact ⟨false,fun w' _=>by kernel_rfl,Br.f rfl k⟩
 ·rintro e v w' ⟨hy,rfl,hk⟩
  exact ⟨hy,rfl,hk⟩
theorem reading_spec {r:Nat} {rd:Rd} {one:Value} {α:Type} {f:α→List Int} {Hs1:α→List HP} {Hs2:List HP} {G:α→Prop} {N:Prop} (hw:Sat R (RdAt r rd::Hs) w)
  (hone:rd.bad=false→∀ (x:Heap) (l:Nat) (s:Sl) (A B:HP) (w:World),(∀ b o,x b=some o→(R.add x).m b=some o)→SlR x s (b8 rd.bs)→Sat (R.add x) (lp l s::A::B::Hs) w→
   CalW Tryz.prog cl one [.pointer (some ⟨l,0,none⟩)] w fun e w'=>
    (e=.returned (.tuple #[])∧∃ y s',G y∧SlR x s' (b8 (f y))∧Sat (R.add x) (lp l s'::A::B::Hs1 y) w')∨
    (e=.panicked amissP∧N∧∃ s',Sat (R.add x) (lp l s'::A::B::Hs2) w')):
  Gets Tryz.prog 190 #[.pointer (some ⟨r,0,none⟩),one] w fun v w'=>v=.tuple #[]∧
   ((rd.bad=true∧Sat R (RdAt r rd::Hs) w')∨(rd.bad=false∧∃ y,G y∧Sat R (RdAt r ⟨f y,false⟩::Hs1 y) w')∨(rd.bad=false∧N∧Sat R (RdAt r ⟨rd.bs,true⟩::Hs2) w')):=by
 obtain ⟨s,hw⟩:=Sat.rd.1 hw
 apply call190
 refine new_rule hw fun br w hw=>?_
 refine ⟨_,At.own (eqS hw) (by exact ⟨rfl,trivial⟩),NilP.mk rfl ?_⟩
 refine ⟨_,At.own (eqS hw) (by exact ⟨rfl,trivial⟩),must_c (fun h=>.inl ⟨rfl,?_⟩) (fun h=>.inr ⟨_,rfl,?_⟩)⟩
 ·have hbad:rd.bad=false:=by simpa using h
  refine ⟨_,At.own (eqS hw) (by exact ⟨rfl,trivial⟩),NilP.mk rfl ?_⟩
  refine ⟨_,At.own (eqS hw) (by exact ⟨rfl,trivial⟩),?_⟩
  refine new_rule hw fun l w hw=>?_
  have hw:Sat R (pts l (.cells [.slice none 0 0].toArray 53 (0,0))::pts br (brCell r)::pts r (rdCells s rd.bad)::Reads s (b8 rd.bs)::Hs) w:=hw
  refine store_rule hw (by kernel_rfl) rfl (by simp [Value.cells]) fun w hw=>?_
  have hw:Sat R (lp l s::pts br (brCell r)::pts r (rdCells s rd.bad)::Reads s (b8 rd.bs)::Hs) w:=hw
  have hw:Sat R (Reads s (b8 rd.bs)::lp l s::pts br (brCell r)::pts r (rdCells s rd.bad)::Hs) w:=hw.arr
  obtain ⟨x,hd,_,hx,hs⟩:=Reads.lend hw
  have hsub:∀ b o,x b=some o→(R.add x).m b=some o:=fun b o hb=>by
   have:=hd b (by rw [hb];simp)
   simp only [Cx.add,Heap.add,this,hb]
  refine CalW.mono (hone hbad x l s _ _ w hsub hs hx) ?_
  rintro e w' (⟨rfl,bs',s',hg,hs',hw⟩|⟨rfl,hn,s',hw⟩)
  ·refine .inl ⟨rfl,?_⟩
   have hw:Sat (R.add x) (pts br (brCell r)::pts r (rdCells s rd.bad)::lp l s'::Hs1 bs') w':=hw.arr
   refine ⟨_,At.own (eqS hw) (by exact ⟨rfl,trivial⟩),?_⟩
   refine ⟨_,At.own (eqS hw) (by exact ⟨rfl,trivial⟩),NilP.mk rfl ?_⟩
   have hw:Sat (R.add x) (pts r (rdCells s rd.bad)::lp l s'::pts br (brCell r)::Hs1 bs') w':=hw.arr
   refine store_rule hw (by kernel_rfl) rfl (by simp [Value.cells]) fun w hw=>?_
   refine leaveR ⟨rfl,.inr (.inl ⟨hbad,bs',hg,?_⟩)⟩
   have hw:Sat (R.add x) (pts r (rdCells s' rd.bad)::lp l s'::pts br (brCell r)::Hs1 bs') w:=hw
   rw [hbad] at hw
   have hw:Sat (R.add x) (pts r (rdCells s' false)::Hs1 bs') w:=hw.cons fun _ h=>h.drop.drop
   refine Sat.rd.2 ⟨s',?_⟩
   exact (Reads.back hd hs' hw).swap
  ·refine .inr ⟨_,rfl,?_⟩
   have hw:Sat (R.add x) (pts br (brCell r)::pts r (rdCells s rd.bad)::lp l s'::Hs2) w':=hw.arr
   refine leaveP hw fun w hw=>⟨rfl,.inr (.inr ⟨hbad,hn,?_⟩)⟩
   have hw:Sat (R.add x) (pts r (rdCells s true)::Hs2) w:=hw.drop.cons fun _ h=>h.drop
   refine Sat.rd.2 ⟨s,?_⟩
   exact (Reads.back hd hs hw).swap
 ·have hbad:rd.bad=true:=by simpa using h
  have hw:Sat R (pts br (brCell r)::pts r (rdCells s rd.bad)::Reads s (b8 rd.bs)::Hs) w:=hw
  refine leaveP hw fun w hw=>⟨rfl,.inl ⟨hbad,?_⟩⟩
  rw [←hbad] at hw
  exact Sat.rd.2 ⟨s,hw.drop⟩
end Go.Proofs.YtkfedbncmfnpnaaGreatDoor
/- Package field: a reader's New, Number, Whole. Condition: bounds on lengths. -/
namespace Go.Proofs.YtkfedbncmfnpnaaGreatDoor
set_option linter.unusedVariables false
set_option linter.unusedSimpArgs false
open Go Go.VC
variable {R:Cx} {Hs Rest:List HP} {w:World}
theorem CalW.mk {g:FuncId} {captured:Array Value} {args:List Value} {Q:Ending→World→Prop} (hc:cl g=true) (h:Calls Tryz.prog g (args++captured.toList).toArray w Q):CalW Tryz.prog cl (.func (.func g) #[] captured) args w Q:=by
 unfold CalW
 simp only [hc]
 exact h
theorem fnew_spec {s:Sl} {bs:List Int} (hs:Ro R s (b8 bs)) (hl:bs.length≤1099511627776) (hw:Sat R Hs w):
  Gets Tryz.prog 111 #[.slice s.a s.len s.cap] w fun v w'=>∃ r,v=.pointer (some ⟨r,0,none⟩)∧Sat R (RdAt r ⟨bs,false⟩::Hs) w':=by
 apply call111
 refine (clone_spec hs hl hw).use ?_
 rintro _ w ⟨t,rfl,hw⟩
 refine ⟨t,rfl,?_⟩
 have hw:=Own.reads hw
 refine new_rule hw fun r w hw=>⟨r,rfl,Sat.rd.2 ⟨t,hw⟩⟩
theorem whole_spec {r:Nat} {rd:Rd} (hw:Sat R (RdAt r rd::Hs) w):
  Gets Tryz.prog 157 #[.pointer (some ⟨r,0,none⟩)] w fun v w'=>v=.bool (rdWhole rd)∧Sat R (RdAt r rd::Hs) w':=by
 obtain ⟨s,hw⟩:=Sat.rd.1 hw
 have hsl:s.len=rd.bs.length:=by
  obtain ⟨x,_,_,_,hx⟩:=Reads.lend hw.swap
  have:=hx.len;simpa using this
 apply call157
 refine NilP.mk rfl ⟨rd.bad,At.own (eqS hw) (by exact ⟨rfl,trivial⟩),Br.nb (fun h=>?_) (fun h=>?_)⟩
 ·refine NilP.mk rfl ?_
  refine ⟨s,At.own (eqS hw) (by exact ⟨rfl,trivial⟩),?_,Sat.rd.2 ⟨s,hw⟩⟩
  unfold rdWhole
  rw [h,hsl]
  congr 1
  simp only [Bool.not_false,Bool.true_and]
  cases rd.bs with
  |nil=>rfl
  |cons=>simp;omega
 ·refine ⟨?_,Sat.rd.2 ⟨s,hw⟩⟩
  unfold rdWhole
  rw [h];rfl
theorem num1_spec {h:Heap} {l bm bo:Nat} {s:Sl} {bs:List Int} {most:Int} (hb:∀ x∈bs,0≤x∧x<256) (hsub:∀ b o,h b=some o→R.m b=some o) (hr:SlR h s (b8 bs))
  (hw:Sat R (lp l s::pts bo (.cells [.int .u64 0].toArray 148 (0,0))::pts bm (.cells [.int .u64 most].toArray 148 (0,0))::Hs) w):
  GetsX Tryz.prog 191 #[.pointer (some ⟨l,0,none⟩),.pointer (some ⟨bm,0,none⟩),.pointer (some ⟨bo,0,none⟩)] w
   (fun ch w'=>ch=amissP∧(∀ n k,parse bs=some (n,false,k)→¬ n≤most)∧∃ s',Sat R (lp l s'::pts bo (.cells [.int .u64 0].toArray 148 (0,0))::pts bm (.cells [.int .u64 most].toArray 148 (0,0))::Hs) w')
   (fun v w'=>v=.tuple #[]∧∃ n k s',parse bs=some (n,false,k)∧n≤most∧SlR h s' (b8 (bs.drop k))∧
    Sat R (lp l s'::pts bo (.cells [.int .u64 n].toArray 148 (0,0))::pts bm (.cells [.int .u64 most].toArray 148 (0,0))::Hs) w'):=by
 apply call191
 refine (fsize_spec hb hsub hr hw).use ?_ ?_
 rotate_left
 ·rintro _ w ⟨hp,rfl,s',hw⟩
  refine .inr ⟨_,rfl,rfl,?_,s',hw⟩
  intro n k h;rw [hp] at h;cases h
 rintro _ w ⟨n,neg,k,s',hp,rfl,hs',hw⟩
 refine .inl ⟨n,neg,rfl,Br.nb (fun h=>?_) (fun h=>?_)⟩
 ·subst h
  have hw2:Sat R (pts bm (.cells [.int .u64 most].toArray 148 (0,0))::lp l s'::pts bo (.cells [.int .u64 0].toArray 148 (0,0))::Hs) w:=hw.arr
  refine NilP.mk rfl ?_
  refine ⟨most,At.own (eqS hw) (by exact ⟨rfl,trivial⟩),must_c (fun h=>.inl ⟨rfl,?_⟩) (fun h=>.inr ⟨_,rfl,rfl,?_,s',hw⟩)⟩
  ·have h:=of_decide_eq_true h
   have hw:Sat R (pts bo (.cells [.int .u64 0].toArray 148 (0,0))::lp l s'::pts bm (.cells [.int .u64 most].toArray 148 (0,0))::Hs) w:=hw.swap
   refine store_rule hw (by kernel_rfl) rfl (by simp [Value.cells]) fun w hw=>?_
   exact ⟨rfl,n,k,s',hp,h,hs',hw.swap⟩
  ·have h:=of_decide_eq_false h
   intro n' k' hp'
   rw [hp] at hp'
   simp only [Option.some.injEq,Prod.mk.injEq,true_and] at hp'
   rw [←hp'.1];exact h
 ·subst h
  refine must_c (fun h=>by cases h) (fun _=>.inr ⟨_,rfl,rfl,?_,s',hw⟩)
  intro n' k' hp'
  rw [hp] at hp'
  simp at hp'
theorem rnum_spec {r:Nat} {rd:Rd} {most:Int} (hb:∀ x∈rd.bs,0≤x∧x<256) (hw:Sat R (RdAt r rd::Hs) w):
  Gets Tryz.prog 155 #[.pointer (some ⟨r,0,none⟩),.int .u64 most] w fun v w'=>v=.int .u64 (rdNum most rd).1∧Sat R (RdAt r (rdNum most rd).2::Hs) w':=by
 apply call155
 refine new_rule hw fun bm w hw=>new_rule hw fun bo w hw=>?_
 have hw:Sat R (pts bo (.cells [.int .u64 0].toArray 148 (0,0))::pts bm (.cells [.int .u64 most].toArray 148 (0,0))::RdAt r rd::Hs) w:=hw
 refine store_rule hw (by kernel_rfl) rfl (by simp [Value.cells]) fun w hw=>?_
 have hw:=hw.re (pts bo (.cells [.int .u64 0].toArray 148 (0,0)))
 have hw:Sat R (RdAt r rd::pts bo (.cells [.int .u64 0].toArray 148 (0,0))::pts bm (.cells [.int .u64 most].toArray 148 (0,0))::Hs) w:=hw.arr
 refine (reading_spec (α:=Int × Nat) (f:=fun y=>rd.bs.drop y.2) (G:=fun y=>parse rd.bs=some (y.1,false,y.2)∧y.1≤most) (N:=∀ n k,parse rd.bs=some (n,false,k)→¬ n≤most)
  (Hs1:=fun y=>pts bo (.cells [.int .u64 y.1].toArray 148 (0,0))::pts bm (.cells [.int .u64 most].toArray 148 (0,0))::Hs)
  (Hs2:=pts bo (.cells [.int .u64 0].toArray 148 (0,0))::pts bm (.cells [.int .u64 most].toArray 148 (0,0))::Hs) hw ?_).use ?_
 ·intro _ x l s A B w hsub hs hw
  refine CalW.mk (by kernel_rfl) ?_
  have hw2:Sat (R.add x) (lp l s::pts bo (.cells [.int .u64 0].toArray 148 (0,0))::pts bm (.cells [.int .u64 most].toArray 148 (0,0))::A::B::Hs) w:=hw.arr
  refine (num1_spec (h:=x) hb hsub hs hw2).use ?_ ?_
  ·rintro _ w ⟨rfl,n,k,s',hp,hn,hs',hw⟩
   exact .inl ⟨rfl,(n,k),s',⟨hp,hn⟩,hs',hw.arr⟩
  ·rintro _ w ⟨rfl,hn,s',hw⟩
   exact .inr ⟨rfl,hn,s',hw.arr⟩
 ·rintro _ w ⟨rfl,h⟩
  refine ⟨rfl,?_⟩
  rcases h with ⟨hbad,hw⟩|⟨hbad,⟨n,k⟩,⟨hp,hn⟩,hw⟩|⟨hbad,hno,hw⟩
  ·have hw:Sat R (pts bo (.cells [.int .u64 0].toArray 148 (0,0))::RdAt r rd::pts bm (.cells [.int .u64 most].toArray 148 (0,0))::Hs) w:=hw.swap
   refine ⟨0,At.own (eqS hw) (by exact ⟨rfl,trivial⟩),?_⟩
   unfold rdNum
   rw [if_pos hbad]
   exact ⟨rfl,hw.drop.cons fun _ h=>h.drop⟩
  ·have hw:Sat R (pts bo (.cells [.int .u64 n].toArray 148 (0,0))::RdAt r ⟨rd.bs.drop k,false⟩::pts bm (.cells [.int .u64 most].toArray 148 (0,0))::Hs) w:=hw.swap
   refine ⟨n,At.own (eqS hw) (by exact ⟨rfl,trivial⟩),?_⟩
   unfold rdNum
   rw [if_neg (by rw [hbad];simp),hp]
   simp only
   rw [if_pos (by simpa using hn)]
   exact ⟨rfl,hw.drop.cons fun _ h=>h.drop⟩
  ·have hw:Sat R (pts bo (.cells [.int .u64 0].toArray 148 (0,0))::RdAt r ⟨rd.bs,true⟩::pts bm (.cells [.int .u64 most].toArray 148 (0,0))::Hs) w:=hw.swap
   refine ⟨0,At.own (eqS hw) (by exact ⟨rfl,trivial⟩),?_⟩
   have e:rdNum most rd=(0,⟨rd.bs,true⟩):=by
    unfold rdNum
    rw [if_neg (by rw [hbad];simp)]
    cases hp:parse rd.bs with
    |none=>rfl
    |some p=>
     obtain ⟨n,neg,k⟩:=p
     simp only
     rw [if_neg]
     rintro ⟨rfl,h⟩
     exact hno n k hp h
   rw [e]
   exact ⟨rfl,hw.drop.cons fun _ h=>h.drop⟩
theorem rdNum_bd {most:Int} {rd:Rd} (hb:∀ x∈rd.bs,0≤x∧x<256):∀ x∈(rdNum most rd).2.bs,0≤x∧x<256:=by
 unfold rdNum
 split
 ·exact hb
 ·split
  ·split
   ·exact fun x hx=>hb x (List.mem_of_mem_drop hx)
   ·exact hb
  ·exact hb
theorem rdNum_val {most:Int} {rd:Rd} (hb:∀ x∈rd.bs,0≤x∧x<256) (hm:0≤most):0≤(rdNum most rd).1∧(rdNum most rd).1≤most:=by
 unfold rdNum
 split
 ·exact ⟨Int.le_refl _,hm⟩
 ·split
  ·rename_i n neg k hp
   split
   ·rename_i h;exact ⟨(parse_bd hb hp).1,h.2⟩
   ·exact ⟨Int.le_refl _,hm⟩
  ·exact ⟨Int.le_refl _,hm⟩
end Go.Proofs.YtkfedbncmfnpnaaGreatDoor
/- Package field: bytes with their length; a reader's Text. Condition: bounds on lengths. -/
namespace Go.Proofs.YtkfedbncmfnpnaaGreatDoor
set_option linter.unusedVariables false
set_option linter.unusedSimpArgs false
open Go Go.VC
variable {R:Cx} {Hs Rest:List HP} {w:World}
theorem ftext_spec {s:Sl} {bs:List Int} (hs:Ro R s (b8 bs)) (hl:bs.length≤1099511627776) (hw:Sat R Hs w):
  Gets Tryz.prog 114 #[.slice s.a s.len s.cap] w fun v w'=>∃ t:Sl,v=.slice t.a t.len t.cap∧Sat R (Own t 5 (b8 (textB bs))::Hs) w':=by
 have hlen:s.len=bs.length:=by have:=hs.len;simpa using this
 apply call114
 unfold B114
 rw [wrapU64 (by omega) (by omega),hlen]
 refine (number_spec (by omega) hw).use ?_
 rintro _ w ⟨t,rfl,hw⟩
 refine ⟨t,rfl,?_⟩
 rw [←hlen]
 have hn:=numB_len (n:=bs.length) (by omega)
 have hsrc:Src Tryz.prog 1 53 (.slice s.a s.len s.cap) bs.length (b8 bs) w:=by
  have:=srcRo Tryz.underlying53 hw hs (one_b8 _)
  simpa using this
 refine append_rule elB8 (s:=t) hw hsrc (one_b8 _) (by rw [List.length_map];omega) (by rw [List.length_map];omega) fun s2 w hw=>?_
 exact ⟨s2,rfl,by simpa [b8,textB] using hw⟩
theorem text1_spec {h:Heap} {l bm bo:Nat} {s:Sl} {bs:List Int} {most:Int} (hm:most<9223372036854775808) (hl:bs.length≤1099511627776) (hb:∀ x∈bs,0≤x∧x<256) (hsub:∀ b o,h b=some o→R.m b=some o) (hr:SlR h s (b8 bs))
  (hw:Sat R (lp l s::lp bo ⟨none,0,0⟩::pts bm (.cells [.int .i64 most].toArray 3 (0,0))::Hs) w):
  GetsX Tryz.prog 223 #[.pointer (some ⟨l,0,none⟩),.pointer (some ⟨bm,0,none⟩),.pointer (some ⟨bo,0,none⟩)] w
   (fun ch w'=>ch=amissP∧(∀ n k,parse bs=some (n,false,k)→¬ (0≤most∧n≤most∧n≤(bs.length:Int) - k))∧∃ s',Sat R (lp l s'::lp bo ⟨none,0,0⟩::pts bm (.cells [.int .i64 most].toArray 3 (0,0))::Hs) w')
   (fun v w'=>v=.tuple #[]∧∃ n k s' t,parse bs=some (n,false,k)∧(0≤most∧n≤most∧n≤(bs.length:Int) - k)∧SlR h s' (b8 (bs.drop (k + n.toNat)))∧
    Sat R (lp l s'::lp bo t::Own t 5 (b8 ((bs.drop k).take n.toNat))::pts bm (.cells [.int .i64 most].toArray 3 (0,0))::Hs) w'):=by
 apply call223
 refine (fsize_spec hb hsub hr hw).use ?_ ?_
 rotate_left
 ·rintro _ w ⟨hp,rfl,s',hw⟩
  refine .inr ⟨_,rfl,rfl,?_,s',hw⟩
  intro n k h;rw [hp] at h;cases h
 rintro _ w ⟨n,neg,k,s',hp,rfl,hs',hw⟩
 obtain ⟨n0,n1,k0,k1,k2⟩:=parse_bd hb hp
 have no:(∀ n' k',parse bs=some (n',false,k')→¬ (0≤most∧n'≤most∧n'≤(bs.length:Int) - k'))→∀ {A:Prop} {e:Ending},(e=.panicked amissP)→(e=.returned (.tuple #[])∧A)∨∃ ch,e=.panicked ch∧ch=amissP∧(∀ n k,parse bs=some (n,false,k)→¬ (0≤most∧n≤most∧n≤(bs.length:Int) - k))∧∃ s',Sat R (lp l s'::lp bo ⟨none,0,0⟩::pts bm (.cells [.int .i64 most].toArray 3 (0,0))::Hs) w:=fun h A e he=>
  .inr ⟨_,he,rfl,h,s',hw⟩
 have same:∀ n' k',parse bs=some (n',false,k')→neg=false∧n'=n∧k'=k:=fun n' k' h=>by
  rw [hp] at h
  simp only [Option.some.injEq,Prod.mk.injEq] at h
  exact ⟨h.2.1,h.1.symm,h.2.2.symm⟩
 refine .inl ⟨n,neg,rfl,Br.nb (fun h=>?_) (fun h=>?_)⟩
 rotate_left
 ·refine must_c (fun h=>by cases h) (fun _=>no (fun n' k' h'=>?_) rfl)
  rw [(same n' k' h').1] at h;cases h
 subst h
 have hw2:Sat R (pts bm (.cells [.int .i64 most].toArray 3 (0,0))::lp l s'::lp bo ⟨none,0,0⟩::Hs) w:=hw.arr
 refine NilP.mk rfl ⟨most,At.own (eqS hw2) (by exact ⟨rfl,trivial⟩),Br.d (fun h1=>?_) (fun h1=>?_)⟩
 rotate_left
 ·refine must_c (fun h=>by cases h) (fun _=>no (fun n' k' h' h2=>by omega) rfl)
 refine NilP.mk rfl ⟨most,At.own (eqS hw2) (by exact ⟨rfl,trivial⟩),?_⟩
 rw [wrapU64 (by omega) (by omega)]
 refine Br.d (fun h2=>?_) (fun h2=>?_)
 rotate_left
 ·refine must_c (fun h=>by cases h) (fun _=>no (fun n' k' h' h3=>by have:=(same n' k' h').2.1;omega) rfl)
 have hsl:s'.len=bs.length - k:=by have:=hs'.len;simpa using this
 refine NilP.mk rfl ⟨s',At.own (eqS hw) (by exact ⟨rfl,trivial⟩),?_⟩
 rw [wrapU64 (by omega) (by omega),hsl]
 refine must_c (fun h3=>.inl ⟨rfl,?_⟩) (fun h3=>?_)
 rotate_left
 ·have h3:=of_decide_eq_false h3
  refine no (fun n' k' h' h4=>?_) rfl
  have:=same n' k' h'
  omega
 have h3:=of_decide_eq_true h3
 rw [wrap64 (by omega) (by omega)]
 obtain ⟨m,rfl⟩:=Int.eq_ofNat_of_zero_le n0
 have hm':SlR R.m s' (b8 (bs.drop k)):=hs'.mono hsub
 refine (take_spec (k:=m) hm' hw).use ?_ ?_
 rotate_left
 ·rintro _ w ⟨h4,_⟩
  simp at h4;omega
 rintro _ w ⟨_,rfl,hw⟩
 refine .inl ⟨⟨s'.a,m,s'.cap⟩,rfl,?_⟩
 have ht:SlR R.m ⟨s'.a,m,s'.cap⟩ (b8 ((bs.drop k).take m)):=by
  have:=hm'.take (k:=m) (by simp;omega)
  rwa [←List.map_take] at this
 refine (clone_spec (s:=⟨s'.a,m,s'.cap⟩) (ht.ro (by simp;omega)) (by simp;omega) hw).use ?_
 rintro _ w ⟨t,rfl,hw⟩
 refine .inl ⟨t,rfl,?_⟩
 have hw:Sat R (lp bo ⟨none,0,0⟩::Own t 5 (b8 ((bs.drop k).take m))::lp l (sdrop s' m)::pts bm (.cells [.int .i64 most].toArray 3 (0,0))::Hs) w:=hw.arr
 refine store_rule hw (by kernel_rfl) rfl (by simp [Value.cells]) fun w hw=>?_
 have hw:=hw.re (lp bo t)
 refine ⟨rfl,m,k,sdrop s' m,t,hp,⟨by omega,h2,by omega⟩,?_,?_⟩
 ·have:=hs'.drop (k:=m) (by simp;omega)
  rw [←List.map_drop,List.drop_drop] at this
  exact this
 ·rw [Int.toNat_natCast];exact hw.arr
theorem rtext_spec {r:Nat} {rd:Rd} {most:Int} (hm:most<9223372036854775808) (hl:rd.bs.length≤1099511627776) (hb:∀ x∈rd.bs,0≤x∧x<256) (hw:Sat R (RdAt r rd::Hs) w):
  Gets Tryz.prog 194 #[.pointer (some ⟨r,0,none⟩),.int .i64 most] w fun v w'=>∃ t:Sl,v=.slice t.a t.len t.cap∧Sat R (Own t 5 (b8 (rdText most rd).1)::RdAt r (rdText most rd).2::Hs) w':=by
 apply call194
 refine new_rule hw fun bm w hw=>new_rule hw fun bo w hw=>?_
 have hw:Sat R (RdAt r rd::lp bo ⟨none,0,0⟩::pts bm (.cells [.int .i64 most].toArray 3 (0,0))::Hs) w:=by
  have hw:Sat R (lp bo ⟨none,0,0⟩::pts bm (.cells [.int .i64 most].toArray 3 (0,0))::RdAt r rd::Hs) w:=hw
  exact hw.arr
 refine (reading_spec (α:=(Int × Nat) × Sl) (f:=fun y=>rd.bs.drop (y.1.2 + y.1.1.toNat)) (G:=fun y=>parse rd.bs=some (y.1.1,false,y.1.2)∧(0≤most∧y.1.1≤most∧y.1.1≤(rd.bs.length:Int) - y.1.2)) (N:=∀ n k,parse rd.bs=some (n,false,k)→¬ (0≤most∧n≤most∧n≤(rd.bs.length:Int) - k))
  (Hs1:=fun y=>lp bo y.2::Own y.2 5 (b8 ((rd.bs.drop y.1.2).take y.1.1.toNat))::pts bm (.cells [.int .i64 most].toArray 3 (0,0))::Hs)
  (Hs2:=lp bo ⟨none,0,0⟩::pts bm (.cells [.int .i64 most].toArray 3 (0,0))::Hs) hw ?_).use ?_
 ·intro _ x l s A B w hsub hs hw
  refine CalW.mk (by kernel_rfl) ?_
  have hw2:Sat (R.add x) (lp l s::lp bo ⟨none,0,0⟩::pts bm (.cells [.int .i64 most].toArray 3 (0,0))::A::B::Hs) w:=hw.arr
  refine (text1_spec (h:=x) hm hl hb hsub hs hw2).use ?_ ?_
  ·rintro _ w ⟨rfl,n,k,s',t,hp,hn,hs',hw⟩
   exact .inl ⟨rfl,((n,k),t),s',⟨hp,hn⟩,hs',hw.arr⟩
  ·rintro _ w ⟨rfl,hn,s',hw⟩
   exact .inr ⟨rfl,hn,s',hw.arr⟩
 ·rintro _ w ⟨rfl,h⟩
  refine ⟨rfl,?_⟩
  rcases h with ⟨hbad,hw⟩|⟨hbad,⟨⟨n,k⟩,t⟩,⟨hp,hn⟩,hw⟩|⟨hbad,hno,hw⟩
  ·have hw:Sat R (lp bo ⟨none,0,0⟩::RdAt r rd::pts bm (.cells [.int .i64 most].toArray 3 (0,0))::Hs) w:=hw.swap
   refine ⟨⟨none,0,0⟩,At.own (eqS hw) (by exact ⟨rfl,trivial⟩),?_⟩
   unfold rdText
   rw [if_pos hbad]
   exact ⟨_,rfl,Own.nil (hw.drop.cons fun _ h=>h.drop)⟩
  ·have hw:Sat R (lp bo t::Own t 5 (b8 ((rd.bs.drop k).take n.toNat))::RdAt r ⟨rd.bs.drop (k + n.toNat),false⟩::pts bm (.cells [.int .i64 most].toArray 3 (0,0))::Hs) w:=hw.arr
   refine ⟨t,At.own (eqS hw) (by exact ⟨rfl,trivial⟩),?_⟩
   unfold rdText
   rw [if_neg (by rw [hbad];simp),hp]
   simp only
   rw [if_pos ⟨trivial,hn⟩]
   exact ⟨_,rfl,hw.drop.cons fun _ h=>h.cons fun _ h=>h.drop⟩
  ·have hw:Sat R (lp bo ⟨none,0,0⟩::RdAt r ⟨rd.bs,true⟩::pts bm (.cells [.int .i64 most].toArray 3 (0,0))::Hs) w:=hw.swap
   refine ⟨⟨none,0,0⟩,At.own (eqS hw) (by exact ⟨rfl,trivial⟩),?_⟩
   have e:rdText most rd=([],⟨rd.bs,true⟩):=by
    unfold rdText
    rw [if_neg (by rw [hbad];simp)]
    cases hp:parse rd.bs with
    |none=>rfl
    |some p=>
     obtain ⟨n,neg,k⟩:=p
     simp only
     rw [if_neg]
     rintro ⟨rfl,h⟩
     exact hno n k hp h
   rw [e]
   exact ⟨_,rfl,Own.nil (hw.drop.cons fun _ h=>h.drop)⟩
theorem rdNum_len {most:Int} {rd:Rd}:(rdNum most rd).2.bs.length≤rd.bs.length:=by
 unfold rdNum
 split
 ·simp
 ·split
  ·split
   ·simp
   ·simp
  ·simp
end Go.Proofs.YtkfedbncmfnpnaaGreatDoor


/- Floats, plain, part 4: how any two stand to each other, by one integer each. No program. No condition. -/
namespace Go.VC
set_option linter.unusedVariables false
set_option linter.unusedSimpArgs false
open Ieee
def bigF:Int:=2 ^ 2200
def valD:Datum→Option Int
 | .nan ..=>none
 | .infinity s=>some (if s then -bigF else bigF)
 | .number s m i=>some (signed s m (i + 1074).toNat)
def kvF (x:Nat):Int:=match valD (double.read x) with|none=>-bigF - 1|some v=>v
end Go.VC
/- Who waits, plainly: their order, putting in, taking out, the first that fits. No condition. -/
namespace Go.VC
set_option linter.unusedVariables false
set_option linter.unusedSimpArgs false
structure Wt where
 id:Int
 cls:Int
 many:Int
 time:Int
 sc:Nat
deriving DecidableEq
def Wt.Ok (w:Wt):Prop:=(1≤w.id∧w.id≤28629151)∧(0≤w.cls∧w.cls≤7)∧(1≤w.many∧w.many≤600)∧(0≤w.time∧w.time≤1099511627776)
instance (w:Wt):Decidable w.Ok:=by unfold Wt.Ok;infer_instance
def Wt.ahead (a b:Wt):Bool:=if kvF a.sc=kvF b.sc then (if a.time=b.time then decide (a.id<b.id) else decide (a.time<b.time)) else decide (kvF b.sc<kvF a.sc)
theorem ahead_iff {a b:Wt}:a.ahead b=true↔kvF b.sc<kvF a.sc∨kvF a.sc=kvF b.sc∧(a.time<b.time∨a.time=b.time∧a.id<b.id):=by
 unfold Wt.ahead
 split
 ·split
  ·simp;omega
  ·simp;omega
 ·simp;omega
theorem ahead_trans {a b c:Wt} (h1:a.ahead b=true) (h2:b.ahead c=true):a.ahead c=true:=by
 rw [ahead_iff] at *;omega
theorem ahead_tot {a b:Wt} (h:a.id≠b.id) (h1:a.ahead b=false):b.ahead a=true:=by
 rw [ahead_iff]
 have:¬ a.ahead b=true:=by rw [h1];simp
 rw [ahead_iff] at this
 omega
def QSt (q:List Wt):Prop:=q.Pairwise fun a b=>a.ahead b=true
def QIds (q:List Wt):Prop:=q.Pairwise fun a b=>a.id≠b.id
structure QOk (q:List Wt):Prop where
 st:QSt q
 ids:QIds q
 ok:∀ w∈q,w.Ok
 fl:∀ w∈q,w.sc<18446744073709551616
 len:q.length≤200
theorem QOk.nil:QOk []:=⟨List.Pairwise.nil,List.Pairwise.nil,fun _ h=>(by cases h),fun _ h=>(by cases h),by simp⟩
def insQ (w:Wt) (q:List Wt):List Wt:=q.takeWhile (fun a=>a.ahead w)++w::q.dropWhile (fun a=>a.ahead w)
theorem insQ_cons (w a:Wt) (q:List Wt):insQ w (a::q)=if a.ahead w then a::insQ w q else w::a::q:=by
 unfold insQ
 rw [List.takeWhile_cons,List.dropWhile_cons]
 split<;>rfl
theorem insQ_mem {w x:Wt}:∀ {q:List Wt},x∈insQ w q↔x=w∨x∈q
 |[]=>by simp [insQ]
 |a::q=>by
  rw [insQ_cons]
  split
  ·rw [List.mem_cons,insQ_mem,List.mem_cons]
   constructor
   ·rintro (h|h|h)<;>simp [h]
   ·rintro (h|h|h)<;>simp [h]
  ·rw [List.mem_cons]
theorem insQ_len {w:Wt}:∀ {q:List Wt},(insQ w q).length=q.length + 1
 |[]=>rfl
 |a::q=>by
  rw [insQ_cons]
  split
  ·rw [List.length_cons,insQ_len,List.length_cons]
  ·rfl
theorem insQ_st {w:Wt}:∀ {q:List Wt},QSt q→(∀ x∈q,x.id≠w.id)→QSt (insQ w q)
 |[],_,_=>List.Pairwise.cons (fun _ h=>(by cases h)) List.Pairwise.nil
 |a::q,h,hid=>by
  have h1:=List.pairwise_cons.1 h
  rw [insQ_cons]
  split
  ·rename_i ha
   refine List.Pairwise.cons (fun x hx=>?_) (insQ_st h1.2 fun x hx=>hid x (by simp [hx]))
   rcases insQ_mem.1 hx with rfl|hx
   ·exact ha
   ·exact h1.1 x hx
  ·rename_i ha
   have hwa:w.ahead a=true:=ahead_tot (hid a (by simp)) (by simpa using ha)
   refine List.Pairwise.cons (fun x hx=>?_) h
   rcases List.mem_cons.1 hx with rfl|hx
   ·exact hwa
   ·exact ahead_trans hwa (h1.1 x hx)
theorem insQ_ids {w:Wt}:∀ {q:List Wt},QIds q→(∀ x∈q,x.id≠w.id)→QIds (insQ w q)
 |[],_,_=>List.Pairwise.cons (fun _ h=>(by cases h)) List.Pairwise.nil
 |a::q,h,hid=>by
  have h1:=List.pairwise_cons.1 h
  rw [insQ_cons]
  split
  ·refine List.Pairwise.cons (fun x hx=>?_) (insQ_ids h1.2 fun x hx=>hid x (by simp [hx]))
   rcases insQ_mem.1 hx with rfl|hx
   ·exact hid a (by simp)
   ·exact h1.1 x hx
  ·refine List.Pairwise.cons (fun x hx=>?_) h
   exact fun e=>hid x hx e.symm
def hasQ (id:Int) (q:List Wt):Bool:=q.any fun w=>decide (w.id=id)
def qadd (q:List Wt) (w:Wt):List Wt × Int:=
 if ¬ w.Ok then (q,1) else if hasQ w.id q then (q,7) else if 200≤q.length then (q,3) else (insQ w q,0)
def delQ (id:Int):List Wt→List Wt
 |[]=>[]
 |w::q=>if w.id=id then q else w::delQ id q
def qrem (q:List Wt) (id:Int):List Wt × Int:=if hasQ id q then (delQ id q,0) else (q,2)
theorem hasQ_no {id:Int} {q:List Wt}:hasQ id q=false↔∀ w∈q,w.id≠id:=by
 unfold hasQ
 simp
theorem delQ_sub {id:Int}:∀ {q:List Wt},(delQ id q).Sublist q
 |[]=>List.Sublist.refl _
 |w::q=>by
  show (if w.id=id then q else w::delQ id q).Sublist _
  split
  ·exact List.sublist_cons_self _ _
  ·exact delQ_sub.cons_cons _
theorem QOk.del {q:List Wt} (h:QOk q) (id:Int):QOk (delQ id q):=
 ⟨h.st.sublist delQ_sub,h.ids.sublist delQ_sub,fun w hw=>h.ok w (delQ_sub.subset hw),fun w hw=>h.fl w (delQ_sub.subset hw),Nat.le_trans delQ_sub.length_le h.len⟩
theorem QOk.rem {q:List Wt} (h:QOk q) (id:Int):QOk (qrem q id).1:=by
 unfold qrem
 split
 ·exact h.del id
 ·exact h
theorem QOk.ins {q:List Wt} (h:QOk q) {w:Wt} (hw:w.Ok) (hf:w.sc<18446744073709551616) (hn:hasQ w.id q=false) (hl:q.length<200):QOk (insQ w q):=by
 have hn':=hasQ_no.1 hn
 refine ⟨insQ_st h.st hn',insQ_ids h.ids hn',fun x hx=>?_,fun x hx=>?_,by rw [insQ_len];omega⟩
 ·rcases insQ_mem.1 hx with rfl|hx
  ·exact hw
  ·exact h.ok x hx
 ·rcases insQ_mem.1 hx with rfl|hx
  ·exact hf
  ·exact h.fl x hx
theorem QOk.add {q:List Wt} (h:QOk q) {w:Wt} (hf:w.sc<18446744073709551616):QOk (qadd q w).1:=by
 unfold qadd
 split
 ·exact h
 ·rename_i h1
  split
  ·exact h
  ·rename_i h2
   split
   ·exact h
   ·rename_i h3
    exact h.ins (by simpa using h1) hf (by simpa using h2) (by omega)
end Go.VC

/- Lists by keys. No condition. -/
namespace Go.VC
set_option linter.unusedVariables false
set_option linter.unusedSimpArgs false
section
variable {α:Type} {k:α→Int}
def KRise (k:α→Int) (l:List α):Prop:=l.Pairwise fun a b=>k a<k b
theorem KRise.ne {l:List α} (h:KRise k l):l.Pairwise fun a b=>k a≠k b:=h.imp fun hab e=>by omega
end
end Go.VC
/- Numbers and texts that were read: their bytes. No condition. -/
namespace Go.VC
set_option linter.unusedVariables false
set_option linter.unusedSimpArgs false
theorem dig_valI:∀ (k:Nat) (d:List Int),d.length=k→(∀ x∈d,0≤x∧x<256)→d.head?≠some 0→dig (valI 0 d).toNat=d
 |0,d,hl,_,_=>by
  rw [List.length_eq_zero_iff.1 hl]
  exact dig_zero
 |k + 1,d,hl,hb,hh=>by
  have hne:d≠[]:=by rintro rfl;simp at hl
  obtain ⟨d',b,rfl⟩:∃ d' b,d=d'++[b]:=⟨d.dropLast,d.getLast hne,(List.dropLast_concat_getLast hne).symm⟩
  have hb':∀ x∈d',0≤x∧x<256:=fun x hx=>hb x (by simp [hx])
  have hb0:=hb b (by simp)
  have hv:=valI_nn (acc:=0) (Int.le_refl _) hb'
  rw [valI_snoc]
  have hz:(valI 0 d' * 256 + b).toNat≠0:=by
   cases d' with
   |nil=>
    have:b≠0:=by simpa using hh
    rw [valI_nil];omega
   |cons x l=>
    have hx0:x≠0:=by simpa using hh
    have hxb:=hb' x (by simp)
    intro h0
    have hv0:valI 0 (x::l)=0:=by omega
    rw [valI_cons] at hv0
    have mono:∀ (l:List Int) (a:Int),0<a→(∀ y∈l,0≤y∧y<256)→0<valI a l:=by
     intro l
     induction l with
     |nil=>intro a ha _;exact ha
     |cons y l ih=>
      intro a ha hy
      rw [valI_cons]
      have:=hy y (by simp)
      exact ih _ (by omega) fun z hz=>hy z (by simp [hz])
    have:=mono l (0 * 256 + x) (by omega) fun y hy=>hb' y (by simp [hy])
    omega
  rw [dig_pos hz]
  have e1:(valI 0 d' * 256 + b).toNat / 256=(valI 0 d').toNat:=by omega
  have e2:(((valI 0 d' * 256 + b).toNat % 256:Nat):Int)=b:=by omega
  rw [e1,e2]
  simp at hl
  rw [dig_valI k d' hl hb' ?_]
  cases d' with
  |nil=>simp
  |cons x l=>simpa using hh
theorem parse_out {l:List Int} {n:Int} {k:Nat} (hb:∀ x∈l,0≤x∧x<256) (h:parse l=some (n,false,k)):l=numB n.toNat++l.drop k:=by
 unfold parse at h
 split at h
 ·cases h
 ·rename_i c rest
  simp only at h
  by_cases hc16:16≤c
  ·rw [if_pos hc16] at h
   generalize (c - 16).toNat=v at h
   split at h
   ·simp only [Option.some.injEq,Prod.mk.injEq] at h
    obtain ⟨_,hneg,_⟩:=h
    simp [hc16] at hneg
   ·cases h
  rw [if_neg hc16] at h
  generalize hw:c.toNat=w at h
  split at h
  ·rename_i hc
   simp only [Option.some.injEq,Prod.mk.injEq] at h
   obtain ⟨hn,_,hk⟩:=h
   obtain ⟨_,h8,hr,hz,hnz⟩:=hc
   have hc0:=hb c (by simp)
   subst hn
   subst hk
   have e:dig (valI 0 (rest.take w)).toNat=rest.take w:=by
    refine dig_valI _ _ rfl (fun x hx=>hb x (List.mem_cons_of_mem _ (List.mem_of_mem_take hx))) ?_
    cases rest with
    |nil=>simp
    |cons x r=>
     by_cases h0:w=0
     ·rw [h0];simp
     ·have:=hnz h0
      obtain ⟨v,rfl⟩:∃ v,w=v + 1:=⟨w - 1,by omega⟩
      rw [List.take_succ_cons]
      simpa using this
   unfold numB
   rw [e,List.length_take,Nat.min_eq_left hr]
   show c::rest=(((w:Nat):Int)::List.take w rest)++List.drop w rest
   rw [List.cons_append,List.take_append_drop,←hw,Int.toNat_of_nonneg hc0.1]
  ·cases h
theorem rdNum_out {most:Int} {r:Rd} (hb:∀ x∈r.bs,0≤x∧x<256) (h:(rdNum most r).2.bad=false):r.bad=false∧r.bs=numB (rdNum most r).1.toNat++(rdNum most r).2.bs:=by
 unfold rdNum at *
 split at h
 ·rename_i hr;rw [hr] at h;cases h
 ·rename_i hr
  refine ⟨by simpa using hr,?_⟩
  rw [if_neg hr]
  split at h
  ·rename_i n neg k hp
   split at h
   ·rename_i hc
    rw [if_pos hc]
    rw [hc.1] at hp
    exact parse_out hb hp
   ·cases h
  ·cases h
end Go.VC
/- A log on a disk: its records, plain. No program. No condition. -/
namespace Go.VC
set_option linter.unusedVariables false
set_option linter.unusedSimpArgs false
def recsB (l:List (List Int)):List Int:=(l.map recB).flatten
def BodyOk (b:List Int):Prop:=b.length≤65536∧∀ x∈b,0≤x∧x<256
theorem recsB_nil:recsB []=[]:=rfl
theorem recsB_cons (b:List Int) (l:List (List Int)):recsB (b::l)=recB b++recsB l:=rfl
theorem recsB_app (a b:List (List Int)):recsB (a++b)=recsB a++recsB b:=by unfold recsB;simp
theorem recsB_one (b:List Int):recsB [b]=recB b:=by simp [recsB]
theorem recsB_len:∀ l:List (List Int),(recsB l).length=scanLen l
 |[]=>rfl
 |b::l=>by rw [recsB_cons,List.length_append,recB_len,recsB_len l,scanLen_cons]
theorem scanLen_app2 (a b:List (List Int)):scanLen (a++b)=scanLen a + scanLen b:=by
 rw [←recsB_len,←recsB_len,←recsB_len,recsB_app,List.length_append]
theorem recsB_bd {l:List (List Int)} (h:∀ b∈l,BodyOk b):∀ x∈recsB l,0≤x∧x<256:=fun x hx=>by
 unfold recsB at hx
 rw [List.mem_flatten] at hx
 obtain ⟨r,hr,hx⟩:=hx
 obtain ⟨b,hb,rfl⟩:=List.mem_map.1 hr
 exact recB_bd (h b hb).2 x hx
theorem scan_app:∀ {l:List (List Int)} {t:List Int},(∀ b∈l,BodyOk b)→first t=none→scan (recsB l++t)=l
 |[],t,_,ht=>by rw [recsB_nil,List.nil_append,scan_none ht]
 |b::l,t,h,ht=>by
  have hb:=h b (List.mem_cons_self ..)
  have hf:=first_rec (rest:=recsB l++t) hb.1 hb.2
  rw [recsB_cons,List.append_assoc,scan_some hf]
  have:(recB b++(recsB l++t)).drop (8 + b.length)=recsB l++t:=by rw [←recB_len,List.drop_left]
  rw [this,scan_app (fun x hx=>h x (List.mem_cons_of_mem _ hx)) ht]
theorem first_nil:first []=none:=by unfold first;simp
theorem scan_recs {l:List (List Int)} (h:∀ b∈l,BodyOk b):scan (recsB l)=l:=by
 have:=scan_app h first_nil
 rwa [List.append_nil] at this
theorem first_cut {b:List Int} (hb:b.length≤65536) {m:Nat} (hm:m<(recB b).length):first ((recB b).take m)=none:=by
 have hl:=recB_len b
 unfold first
 split
 case isFalse=>rfl
 rename_i h8
 have hm8:8≤m:=by rw [List.length_take] at h8;omega
 have e4:((recB b).take m).take 4=word4 b.length:=by
  rw [List.take_take,show min 4 m=4 by omega]
  unfold recB
  rw [List.append_assoc]
  exact List.take_left' (word4_len _)
 have hv:(valI 0 (((recB b).take m).take 4)).toNat=b.length:=by rw [e4,word4_val (by omega)];omega
 simp only [hv]
 rw [if_neg]
 rw [List.length_take]
 omega
theorem take_recs:∀ (l:List (List Int)) (k:Nat),∃ (j:Nat) (t:List Int),j≤l.length∧(recsB l).take k=recsB (l.take j)++t∧(t=[]∨∃ b m,l[j]? =some b∧t=(recB b).take m∧m<(recB b).length)∧
  ∀ i,i≤l.length→scanLen (l.take i)≤k→i≤j
 |[],k=>⟨0,[],Nat.le_refl _,by simp [recsB],.inl rfl,fun i hi _=>hi⟩
 |b::l,k=>by
  by_cases hk:(recB b).length≤k
  ·obtain ⟨j,t,hj,ht,hc,hi⟩:=take_recs l (k - (recB b).length)
   refine ⟨j + 1,t,by simp;omega,?_,?_,fun i hi' hs=>?_⟩
   ·rw [recsB_cons,List.take_append,List.take_of_length_le hk,ht,List.take_succ_cons,recsB_cons,List.append_assoc]
   ·rcases hc with rfl|⟨c,m,h1,h2,h3⟩
    ·exact .inl rfl
    ·exact .inr ⟨c,m,by simpa using h1,h2,h3⟩
   ·cases i with
    |zero=>omega
    |succ i=>
     have:=hi i (by simp at hi';omega) (by rw [List.take_succ_cons,scanLen_cons] at hs;have:=recB_len b;omega)
     omega
  ·refine ⟨0,(recB b).take k,by simp,?_,.inr ⟨b,k,rfl,rfl,by omega⟩,fun i hi' hs=>?_⟩
   ·rw [recsB_cons,List.take_append,show k - (recB b).length=0 by omega];simp [recsB]
   ·cases i with
    |zero=>omega
    |succ i=>rw [List.take_succ_cons,scanLen_cons] at hs;have:=recB_len b;omega
structure Ey where
 ix:Int
 tm:Int
 kd:Int
 dt:List Int
structure Lg where
 base:Int
 l:List Ey
def Lg.last (g:Lg):Int:=g.base + g.l.length
def addR (g:Lg) (r:Rd):Option Lg:=
 let i:=rdNum 1099511627777 r
 let t:=rdNum 1099511627776 i.2
 let k:=rdNum 7 t.2
 let d:=rdText 4096 k.2
 if rdWhole d.2=true∧i.1≤1099511627776∧i.1=g.last + 1 then some ⟨g.base,g.l++[⟨i.1,t.1,k.1,d.1⟩]⟩ else none
def cutTo (g:Lg) (i:Int):Lg:=if i≤g.base then ⟨i - 1,[]⟩ else if i≤g.last then ⟨g.base,g.l.take (i - 1 - g.base).toNat⟩ else g
def cutR (g:Lg) (r:Rd):Option Lg:=
 let i:=rdNum 1099511627777 r
 if rdWhole i.2=true∧1≤i.1 then some (cutTo g i.1) else none
def resetR (_:Lg) (r:Rd):Option Lg:=
 let i:=rdNum 1099511627777 r
 if rdWhole i.2=true∧1≤i.1 then some ⟨i.1 - 1,[]⟩ else none
def changeR1 (g:Lg) (r:Rd):Option Lg:=
 let k:=rdNum 3 r
 if k.1=1 then addR g k.2 else if k.1=2 then cutR g k.2 else if k.1=3 then resetR g k.2 else none
def changeL (g:Lg) (b:List Int):Option Lg:=changeR1 g ⟨b,false⟩
def headL (b:List Int) (num:Int):Int:=
 let k:=rdNum 0 ⟨b,false⟩
 let n:=rdNum 99999999 k.2
 let x:=rdNum 1099511627777 n.2
 if rdWhole x.2=true∧n.1=num then x.1 else 0
structure Ey.Ok (x:Ey):Prop where
 i0:1≤x.ix
 i1:x.ix≤1099511627776
 t0:0≤x.tm
 t1:x.tm≤1099511627776
 k0:0≤x.kd
 k1:x.kd≤7
 d1:x.dt.length≤4096
def entB (x:Ey):List Int:=numB 1++(numB x.ix.toNat++(numB x.tm.toNat++(numB x.kd.toNat++textB x.dt)))
def cutB (i:Int):List Int:=numB 2++numB i.toNat
def resB (i:Int):List Int:=numB 3++numB i.toNat
def hdB (n:Nat) (next:Int):List Int:=numB 0++(numB n++numB next.toNat)
theorem rdN {n:Nat} {most:Int} (h:n<18446744073709551616) (hm:(n:Int)≤most) (rest:List Int):rdNum most ⟨numB n++rest,false⟩=((n:Int),⟨rest,false⟩):=by
 unfold rdNum
 rw [if_neg (by simp)]
 dsimp only
 rw [parse_num h]
 dsimp only
 rw [if_pos ⟨rfl,hm⟩,List.drop_left]
theorem rdN' {n:Nat} {most:Int} (h:n<18446744073709551616) (hm:(n:Int)≤most):rdNum most ⟨numB n,false⟩=((n:Int),⟨[],false⟩):=by
 have:=rdN h hm []
 rwa [List.append_nil] at this
theorem rdT {d:List Int} {most:Int} (hl:d.length<1000000) (hm:(d.length:Int)≤most):rdText most ⟨textB d,false⟩=(d,⟨[],false⟩):=by
 unfold rdText textB
 rw [if_neg (by simp)]
 dsimp only
 rw [parse_num (by omega)]
 dsimp only
 have hn:=numB_len (n:=d.length) (by omega)
 rw [if_pos ⟨rfl,by omega,hm,by simp only [List.length_append];omega⟩,List.drop_left,Int.toNat_natCast,List.take_length,←List.drop_drop,List.drop_left,List.drop_length]
theorem change_ent {g:Lg} {x:Ey} (h:x.Ok):changeL g (entB x)=if x.ix=g.last + 1 then some ⟨g.base,g.l++[x]⟩ else none:=by
 obtain ⟨i0,i1,t0,t1,k0,k1,d1⟩:=h
 unfold changeL changeR1 entB
 simp only
 rw [rdN (n:=1) (by omega) (by omega)]
 dsimp only
 rw [if_pos (show ((1:Nat):Int)=1 from rfl)]
 unfold addR
 simp only
 rw [rdN (n:=x.ix.toNat) (by omega) (by omega)]
 simp only
 rw [rdN (n:=x.tm.toNat) (by omega) (by omega)]
 simp only
 rw [rdN (n:=x.kd.toNat) (by omega) (by omega)]
 simp only
 rw [rdT (by omega) (by omega)]
 simp only [Int.toNat_of_nonneg (show 0≤x.ix by omega),Int.toNat_of_nonneg t0,Int.toNat_of_nonneg k0]
 have hw:rdWhole ⟨[],false⟩=true:=rfl
 by_cases hx:x.ix=g.last + 1
 ·rw [if_pos ⟨hw,i1,hx⟩,if_pos hx]
 ·rw [if_neg (fun h=>hx h.2.2),if_neg hx]
theorem change_cut {g:Lg} {i:Int} (h0:1≤i) (h1:i≤1099511627777):changeL g (cutB i)=some (cutTo g i):=by
 unfold changeL changeR1 cutB
 simp only
 rw [rdN (n:=2) (by omega) (by omega)]
 simp only
 rw [if_neg (by decide),if_pos (by decide)]
 unfold cutR
 simp only
 rw [rdN' (n:=i.toNat) (by omega) (by omega)]
 simp only [Int.toNat_of_nonneg (show 0≤i by omega)]
 rw [if_pos ⟨rfl,h0⟩]
theorem change_res {g:Lg} {i:Int} (h0:1≤i) (h1:i≤1099511627777):changeL g (resB i)=some ⟨i - 1,[]⟩:=by
 unfold changeL changeR1 resB
 simp only
 rw [rdN (n:=3) (by omega) (by omega)]
 simp only
 rw [if_neg (by decide),if_neg (by decide),if_pos (by decide)]
 unfold resetR
 simp only
 rw [rdN' (n:=i.toNat) (by omega) (by omega)]
 simp only [Int.toNat_of_nonneg (show 0≤i by omega)]
 rw [if_pos ⟨rfl,h0⟩]
theorem head_hd {n:Nat} {next:Int} (hn:n≤99999999) (h0:0≤next) (h1:next≤1099511627777):headL (hdB n next) n=next:=by
 unfold headL hdB
 simp only
 rw [rdN (n:=0) (by omega) (by omega)]
 simp only
 rw [rdN (n:=n) (by omega) (by omega)]
 simp only
 rw [rdN' (n:=next.toNat) (by omega) (by omega)]
 simp only [Int.toNat_of_nonneg h0]
 rw [if_pos ⟨rfl,trivial⟩]
theorem numB_len_le {n k:Nat} (h:n<256 ^ k):(numB n).length≤k + 1:=by
 unfold numB
 have:=dig_len_le k n h
 simp;omega
theorem entB_len {x:Ey} (h:x.Ok):(entB x).length≤21 + x.dt.length:=by
 obtain ⟨i0,i1,t0,t1,k0,k1,d1⟩:=h
 have a:=numB_len_le (n:=1) (k:=1) (by decide)
 have b:=numB_len_le (n:=x.ix.toNat) (k:=6) (by omega)
 have c:=numB_len_le (n:=x.tm.toNat) (k:=6) (by omega)
 have d:=numB_len_le (n:=x.kd.toNat) (k:=1) (by omega)
 have e:=numB_len_le (n:=x.dt.length) (k:=2) (by omega)
 unfold entB textB
 simp only [List.length_append]
 omega
theorem cutB_len {i:Int} (h1:i≤1099511627777):(cutB i).length≤9:=by
 have a:=numB_len_le (n:=2) (k:=1) (by decide)
 have b:=numB_len_le (n:=i.toNat) (k:=6) (by omega)
 unfold cutB
 simp only [List.length_append]
 omega
theorem resB_len {i:Int} (h1:i≤1099511627777):(resB i).length≤9:=by
 have a:=numB_len_le (n:=3) (k:=1) (by decide)
 have b:=numB_len_le (n:=i.toNat) (k:=6) (by omega)
 unfold resB
 simp only [List.length_append]
 omega
theorem hdB_len {n:Nat} {next:Int} (hn:n≤99999999) (h1:next≤1099511627777):(hdB n next).length≤13:=by
 have a:=numB_len_le (n:=0) (k:=0) (by decide)
 have b:=numB_len_le (n:=n) (k:=4) (by omega)
 have c:=numB_len_le (n:=next.toNat) (k:=6) (by omega)
 unfold hdB
 simp only [List.length_append]
 omega
theorem mem_app4 {a b:List Int} (ha:∀ x∈a,0≤x∧x<256) (hb:∀ x∈b,0≤x∧x<256):∀ x∈a++b,0≤x∧x<256:=fun x hx=>(List.mem_append.1 hx).elim (ha x) (hb x)
theorem entB_ok {x:Ey} (h:x.Ok) (hd:∀ y∈x.dt,0≤y∧y<256):BodyOk (entB x):=by
 have hl:=entB_len h
 obtain ⟨i0,i1,t0,t1,k0,k1,d1⟩:=h
 refine ⟨by omega,?_⟩
 unfold entB textB
 exact mem_app4 (numB_bd (by omega)) (mem_app4 (numB_bd (by omega)) (mem_app4 (numB_bd (by omega)) (mem_app4 (numB_bd (by omega)) (mem_app4 (numB_bd (by omega)) hd))))
theorem cutB_ok {i:Int} (h1:i≤1099511627777):BodyOk (cutB i):=by
 have:=cutB_len h1
 refine ⟨by omega,?_⟩
 unfold cutB
 exact mem_app4 (numB_bd (by omega)) (numB_bd (by omega))
theorem resB_ok {i:Int} (h1:i≤1099511627777):BodyOk (resB i):=by
 have:=resB_len h1
 refine ⟨by omega,?_⟩
 unfold resB
 exact mem_app4 (numB_bd (by omega)) (numB_bd (by omega))
theorem hdB_ok {n:Nat} {next:Int} (hn:n≤99999999) (h1:next≤1099511627777):BodyOk (hdB n next):=by
 have:=hdB_len hn h1
 refine ⟨by omega,?_⟩
 unfold hdB
 exact mem_app4 (numB_bd (by omega)) (mem_app4 (numB_bd (by omega)) (numB_bd (by omega)))
theorem Lg.base_le (g:Lg):g.base≤g.last:=by unfold Lg.last;omega
theorem cutTo_last (g:Lg) (i:Int):(cutTo g i).last=if i≤g.last then i - 1 else g.last:=by
 have hb:=g.base_le
 unfold cutTo
 by_cases h1:i≤g.base
 ·rw [if_pos h1,if_pos (by omega)];simp [Lg.last]
 ·rw [if_neg h1]
  by_cases h2:i≤g.last
  ·rw [if_pos h2,if_pos h2]
   unfold Lg.last at h2 ⊢
   simp only [List.length_take]
   omega
  ·rw [if_neg h2,if_neg h2]
theorem change_last {g g' g2:Lg} {b:List Int} (h:changeL g b=some g') (hl:g2.last=g.last):∃ g2',changeL g2 b=some g2'∧g2'.last=g'.last:=by
 unfold changeL changeR1 at h ⊢
 simp only at h ⊢
 split at h
 ·rename_i hk
  rw [if_pos hk]
  unfold addR at h ⊢
  simp only at h ⊢
  split at h
  ·rename_i hc
   rw [if_pos (by rw [hl];exact hc)]
   cases h
   refine ⟨_,rfl,?_⟩
   unfold Lg.last at hl ⊢
   simp only [List.length_append,List.length_cons,List.length_nil]
   omega
  ·cases h
 ·rename_i hk
  rw [if_neg hk]
  split at h
  ·rename_i hk
   rw [if_pos hk]
   unfold cutR at h ⊢
   simp only at h ⊢
   split at h
   ·rename_i hc
    rw [if_pos hc]
    cases h
    exact ⟨_,rfl,by rw [cutTo_last,cutTo_last,hl]⟩
   ·cases h
  ·rename_i hk
   rw [if_neg hk]
   split at h
   ·rename_i hk
    rw [if_pos hk]
    unfold resetR at h ⊢
    simp only at h ⊢
    split at h
    ·rename_i hc
     rw [if_pos hc]
     cases h
     exact ⟨_,rfl,rfl⟩
    ·cases h
   ·cases h
def runs:Lg→List (List Int)→Option Lg
 |g,[]=>some g
 |g,x::xs=>match changeL g x with
  |none=>none
  |some g'=>runs g' xs
theorem runs_app {g:Lg}:∀ {a b:List (List Int)},runs g (a++b)=(runs g a).bind fun g'=>runs g' b:=fun {a}=>by
 induction a generalizing g with
 |nil=>intro b;rfl
 |cons x a ih=>
  intro b
  simp only [List.cons_append,runs]
  cases changeL g x with
  |none=>rfl
  |some g'=>exact ih
theorem runs_last {b:List (List Int)}:∀ {g g' g2:Lg},runs g b=some g'→g2.last=g.last→∃ g2',runs g2 b=some g2'∧g2'.last=g'.last:=by
 induction b with
 |nil=>intro g g' g2 h hl;cases h;exact ⟨g2,rfl,hl⟩
 |cons x b ih=>
  intro g g' g2 h hl
  unfold runs at h ⊢
  split at h
  ·cases h
  ·rename_i g1 h1
   obtain ⟨g3,h3,hl3⟩:=change_last h1 hl
   rw [h3]
   exact ih h hl3
end Go.VC
