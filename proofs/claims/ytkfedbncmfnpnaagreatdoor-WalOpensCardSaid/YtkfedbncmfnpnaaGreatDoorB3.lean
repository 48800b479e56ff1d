/- The disk: its memory, its small operations. Condition: none. -/
import Derived.Test.YtkfedbncmfnpnaaGreatDoorB2
import Derived.Shelf.SlIter.Nil
import Derived.Shelf.SortM.Plain
import Derived.Shelf.SortM.SortNone
import Derived.Ground.GgzProg
import Derived.Ground.SlgmProg
import Derived.Test.YtkfedbncmfnpnaaGreatDoorProg
import Derived.Sort.Walk0
import Derived.KernelRfl
import Derived.Lib.BitFns
import Derived.Test.YtkfedbncmfnpnaaGreatDoorB1
namespace Go.Proofs.YtkfedbncmfnpnaaGreatDoor
set_option linter.unusedVariables false
set_option linter.unusedSimpArgs false
open Go Go.VC
variable {R:Cx} {Hs Rest:List HP} {w:World}
def FileAt (p:Nat) (f:Fl):HP:=exs fun s:Sl=>Star [pts p (.cells [.slice s.a s.len s.cap,.int .i64 f.sure].toArray 106 (0,0)),Own s 5 (b8 f.b)]
abbrev DE:=ByteArray × Nat × Fl
def er (E:List DE):Fs:=E.map fun e=>(e.1,e.2.2)
def ptrs (E:List DE):List (ByteArray × Value):=E.map fun e=>(e.1,.pointer (some ⟨e.2.1,0,none⟩))
def FilesAt (E:List DE):HP:=Star (E.map fun e=>FileAt e.2.1 e.2.2)
abbrev dCells (st:DS) (m:Nat):Obj:=.cells [.int .i64 st.room,.int .i64 (total st.fs),.map (some m),.int .i64 st.fail,.int .i64 st.arm,.bool st.off].toArray 78 (0,0)
def DiskAt (d:Nat) (st:DS):HP:=exs fun x:Nat × List DE=>Star [pur (er x.2=st.fs),pts d (dCells st x.1),MapAt x.1 (ptrs x.2),FilesAt x.2]
theorem Sat.disk {d:Nat} {st:DS}:Sat R (DiskAt d st::Hs) w↔∃ m E,er E=st.fs∧Sat R (pts d (dCells st m)::MapAt m (ptrs E)::FilesAt E::Hs) w:=by
 unfold DiskAt
 rw [Sat.exs]
 constructor
 ·rintro ⟨⟨m,E⟩,h⟩
  have:=Sat.star.1 h
  exact ⟨m,E,Sat.pur.1 this⟩
 ·rintro ⟨m,E,h1,h2⟩
  exact ⟨⟨m,E⟩,Sat.star.2 (Sat.pur.2 ⟨h1,h2⟩)⟩
theorem Sat.file {p:Nat} {f:Fl}:Sat R (FileAt p f::Hs) w↔∃ s:Sl,Sat R (pts p (.cells [.slice s.a s.len s.cap,.int .i64 f.sure].toArray 106 (0,0))::Own s 5 (b8 f.b)::Hs) w:=by
 unfold FileAt
 rw [Sat.exs]
 exact ⟨fun ⟨s,h⟩=>⟨s,Sat.star.1 h⟩,fun ⟨s,h⟩=>⟨s,Sat.star.2 h⟩⟩
theorem Sat.split {a b:List DE} {e:DE}:Sat R (FilesAt (a++e::b)::Hs) w↔Sat R (FileAt e.2.1 e.2.2::FilesAt (a++b)::Hs) w:=by
 have p:((a++e::b).map fun e:DE=>FileAt e.2.1 e.2.2).Perm (FileAt e.2.1 e.2.2::(a++b).map fun e:DE=>FileAt e.2.1 e.2.2):=by
  rw [List.map_append,List.map_cons,List.map_append];exact List.perm_middle
 unfold FilesAt
 constructor
 ·intro h
  have h1:=(Sat.star.1 h).perm (p.append_right Hs)
  exact h1.cons fun _ h=>Sat.star.2 h
 ·intro h
  have h1:Sat R ((FileAt e.2.1 e.2.2::(a++b).map fun e:DE=>FileAt e.2.1 e.2.2)++Hs) w:=h.cons fun _ h=>Sat.star.1 h
  exact Sat.star.2 (h1.perm (p.symm.append_right Hs))
def newErr (room:Int):Int:=if room<1∨room>16777216 then 1 else 0
theorem new_spec (room:Int) (hw:Sat R Hs w):Gets Tryz.prog 17 #[.int .i64 room] w fun v w'=>
  (newErr room=1∧v=.tuple #[.pointer none,.int .i64 1]∧Sat R Hs w')∨
  (newErr room=0∧1≤room∧room≤16777216∧∃ d,v=.tuple #[.pointer (some ⟨d,0,none⟩),.int .i64 0]∧Sat R (DiskAt d ⟨room,[],-1,-1,false⟩::Hs) w'):=by
 apply call17
 refine Br.mk (fun h=>?_) (fun h=>Br.mk (fun h2=>?_) (fun h2=>?_))<;>simp only [decide_eq_true_eq,decide_eq_false_iff_not] at h
 ·exact .inl ⟨if_pos (.inl h),rfl,hw⟩
 ·simp only [decide_eq_true_eq] at h2
  exact .inl ⟨if_pos (.inr h2),rfl,hw⟩
 ·simp only [decide_eq_false_iff_not] at h2
  refine new_rule hw fun m w hw=>new_rule hw fun d w hw=>.inr ⟨if_neg (by omega),by omega,by omega,d,rfl,?_⟩
  refine Sat.disk.2 ⟨m,[],rfl,hw.cons fun _ h=>(MapAt.new rfl h).cons fun _ h=>?_⟩
  exact Sat.star.2 h
def metN (n:Int):Int × Bool:=if n==-1 then (n,false) else (n - 1,n - 1==-1)
theorem met_spec {b i:Nat} {l:List Value} {T:TypeId} {n:Int} (hw:Sat R (pts b (.cells l.toArray T (0,0))::Hs) w) (hi:l[i]? =some (.int .i64 n)) (h0: -1≤n) (h1:n<9223372036854775808):
  Gets Tryz.prog 122 #[.pointer (some ⟨b,i,none⟩)] w fun r w'=>r=.bool (metN n).2∧Sat R (pts b (.cells (l.set i (.int .i64 (metN n).1)).toArray T (0,0))::Hs) w':=by
 have hlt:i<l.length:=(List.getElem?_eq_some_iff.1 hi).1
 have hat:∀ {w} {l:List Value} {v:Value},Sat R (pts b (.cells l.toArray T (0,0))::Hs) w→l[i]? =some v→At (fun w'=>w'=w) ⟨b,i,none⟩ [v]:=fun {w l v} hw hi=>by
  refine At.own (eqS hw) ?_
  obtain ⟨h,rfl⟩:=List.getElem?_eq_some_iff.1 hi
  rw [List.drop_eq_getElem_cons h];exact ⟨rfl,trivial⟩
 apply call122
 refine NilP.mk rfl ⟨n,hat hw hi,Br.mk (fun h=>?_) (fun h=>?_)⟩
 ·refine ⟨by simp [metN,h],?_⟩
  have:l.set i (.int .i64 (metN n).1)=l:=by
   obtain ⟨h',e⟩:=List.getElem?_eq_some_iff.1 hi
   unfold metN;rw [if_pos h,←e,List.set_getElem_self]
  rw [this];exact hw
 ·simp only [beq_eq_false_iff_ne,ne_eq] at h
  refine NilP.mk rfl ⟨n,hat hw hi,NilP.mk rfl ?_⟩
  rw [wrap64 (by omega) (by omega)]
  refine store_rule hw (by kernel_rfl) rfl (by simp [Value.cells];omega) fun w' hw=>?_
  have e:putL l i (Value.int .i64 (n - 1)).cells.toList=l.set i (.int .i64 (n - 1)):=by simp [putL,Value.cells]
  rw [e] at hw
  refine NilP.mk rfl ⟨n - 1,hat hw (by simp [hlt]),?_⟩
  unfold metN
  rw [if_neg (by simpa using h)]
  exact ⟨rfl,hw⟩
theorem later_spec {b i:Nat} {l:List Value} {T:TypeId} {n0:Int} (n:Int) (hw:Sat R (pts b (.cells l.toArray T (0,0))::Hs) w) (hi:l[i]? =some (.int .i64 n0)):
  Gets Tryz.prog 39 #[.pointer (some ⟨b,i,none⟩),.int .i64 n] w fun r w'=>r=.int .i64 (if n<0 then 1 else 0)∧Sat R (pts b (.cells (l.set i (.int .i64 (if n<0 then n0 else n))).toArray T (0,0))::Hs) w':=by
 have hlt:i<l.length:=(List.getElem?_eq_some_iff.1 hi).1
 apply call39
 refine Br.mk (fun h=>?_) (fun h=>?_)<;>simp only [decide_eq_true_eq,decide_eq_false_iff_not] at h
 ·rw [if_pos h,if_pos h]
  refine ⟨rfl,?_⟩
  obtain ⟨h',e⟩:=List.getElem?_eq_some_iff.1 hi
  rw [←e,List.set_getElem_self];exact hw
 ·rw [if_neg h,if_neg h]
  refine NilP.mk rfl ?_
  refine store_rule hw (by kernel_rfl) rfl (by simp [Value.cells];omega) fun w' hw=>⟨rfl,?_⟩
  have e:putL l i (Value.int .i64 n).cells.toList=l.set i (.int .i64 n):=by simp [putL,Value.cells]
  rw [e] at hw;exact hw
theorem fail_spec {d:Nat} {st:DS} (n:Int) (hw:Sat R (DiskAt d st::Hs) w):
  Gets Tryz.prog 11 #[.pointer (some ⟨d,0,none⟩),.int .i64 n] w fun r w'=>r=.int .i64 (if n<0 then 1 else 0)∧Sat R (DiskAt d { st with fail:=if n<0 then st.fail else n }::Hs) w':=by
 obtain ⟨m,E,hE,hw⟩:=Sat.disk.1 hw
 apply call11
 refine NilP.mk rfl ?_
 refine (later_spec n hw (i:=3) rfl).use ?_
 rintro _ w ⟨rfl,hw⟩
 exact ⟨_,rfl,rfl,Sat.disk.2 ⟨m,E,hE,hw⟩⟩
theorem off_spec {d:Nat} {st:DS} (hw:Sat R (DiskAt d st::Hs) w):
  Gets Tryz.prog 40 #[.pointer (some ⟨d,0,none⟩)] w fun r w'=>r=.bool st.off∧Sat R (DiskAt d st::Hs) w':=by
 have hw0:=hw
 obtain ⟨m,E,hE,hw⟩:=Sat.disk.1 hw
 apply call40
 exact NilP.mk rfl ⟨_,At.own (eqS hw) (by exact ⟨rfl,trivial⟩),rfl,hw0⟩
def chg (st:DS) (ok:Bool):DS × Int:=
 if !ok then (st,1)
 else if st.off then (st,5)
 else if (metN st.arm).2 then ({ st with arm:=(metN st.arm).1,off:=true },5)
 else ({ st with arm:=(metN st.arm).1,fail:=(metN st.fail).1 },if (metN st.fail).2 then 4 else 0)
structure Counts (st:DS):Prop where
 a0: -1≤st.arm
 a1:st.arm<9223372036854775808
 f0: -1≤st.fail
 f1:st.fail<9223372036854775808
theorem change_spec {d:Nat} {st:DS} {s:Sl} {names:List ByteArray} {make:Value} {Q:Int→World→Prop} (hw:Sat R (DiskAt d st::Hs) w) (c:Counts st) (hs:Ro R s (names.map Value.string)) (hn:names.length≤1000)
  (hmake:(chg st (names.all nameOk)).2=0→∀ w,Sat R (DiskAt d (chg st (names.all nameOk)).1::Hs) w→CalW Tryz.prog cl make [] w (fun e w'=>∃ n:Int,e=.returned (.int .i64 n)∧Q n w'))
  (herr:∀ e,(chg st (names.all nameOk)).2=e→e≠0→∀ w,Sat R (DiskAt d (chg st (names.all nameOk)).1::Hs) w→Q e w):
  Gets Tryz.prog 77 #[.pointer (some ⟨d,0,none⟩),make,.slice s.a s.len s.cap] w fun r w'=>∃ n:Int,r=.int .i64 n∧Q n w':=by
 apply call77
 refine (named_spec hw hs hn).use ?_
 rintro _ w ⟨rfl,hw⟩
 refine ⟨_,rfl,Br.mk (fun h=>?_) (fun h=>?_)⟩
 ·simp only [Bool.not_eq_true'] at h
  have e:chg st (names.all nameOk)=(st,1):=by simp [chg,h]
  rw [e] at herr
  exact ⟨1,rfl,herr 1 rfl (by decide) w hw⟩
 simp only [Bool.not_eq_false'] at h
 rw [h] at hmake herr
 obtain ⟨m,E,hE,hw⟩:=Sat.disk.1 hw
 refine NilP.mk rfl ⟨st.off,At.own (eqS hw) (by exact ⟨rfl,trivial⟩),Br.mk (fun ho=>?_) (fun ho=>NilP.mk rfl ?_)⟩
 ·have e:chg st true=(st,5):=by simp [chg,ho]
  rw [e] at herr
  exact ⟨5,rfl,herr 5 rfl (by decide) w (Sat.disk.2 ⟨m,E,hE,hw⟩)⟩
 refine (met_spec hw (i:=4) (n:=st.arm) rfl c.a0 c.a1).use ?_
 rintro _ w ⟨rfl,hw⟩
 refine ⟨_,rfl,Br.mk (fun ha=>NilP.mk rfl ?_) (fun ha=>NilP.mk rfl ?_)⟩
 ·have e:chg st true=({ st with arm:=(metN st.arm).1,off:=true },5):=by simp [chg,ho,ha]
  rw [e] at herr
  refine store_rule hw (by kernel_rfl) rfl (by simp [Value.cells]) fun w hw=>?_
  exact ⟨5,rfl,herr 5 rfl (by decide) w (Sat.disk.2 ⟨m,E,hE,hw⟩)⟩
 refine (met_spec hw (i:=3) (n:=st.fail) rfl c.f0 c.f1).use ?_
 rintro _ w ⟨rfl,hw⟩
 have hw:Sat R (DiskAt d { st with arm:=(metN st.arm).1,fail:=(metN st.fail).1 }::Hs) w:=Sat.disk.2 ⟨m,E,hE,hw⟩
 have e:chg st true=({ st with arm:=(metN st.arm).1,fail:=(metN st.fail).1 },if (metN st.fail).2 then 4 else 0):=by simp [chg,ho,ha]
 rw [e] at herr hmake
 refine ⟨_,rfl,Br.mk (fun hf=>?_) (fun hf=>?_)⟩
 ·exact ⟨4,rfl,herr 4 (by simp [hf]) (by decide) w hw⟩
 ·refine (hmake (by simp [hf]) w hw).mono ?_
  rintro _ w ⟨n,rfl,hq⟩
  exact ⟨n,rfl,n,rfl,hq⟩
end Go.Proofs.YtkfedbncmfnpnaaGreatDoor
/- The disk: Append. Condition: none. -/
namespace Go.Proofs.YtkfedbncmfnpnaaGreatDoor
set_option linter.unusedVariables false
set_option linter.unusedSimpArgs false
open Go Go.VC
variable {R:Cx} {Hs Rest:List HP} {w:World}
def updM {β:Type} (k:ByteArray) (g:β→β):List (ByteArray × β)→List (ByteArray × β)
 |[]=>[]
 |e::es=>if k==e.1 then (e.1,g e.2)::es else e::updM k g es
theorem ba_rfl (k:ByteArray):(k==k)=true:=(MapKept.bytes_beq k k).2 rfl
theorem ba_ne {a b:ByteArray} (h:a≠b):(a==b)=false:=by
 cases hc:(a==b)
 ·rfl
 ·exact absurd ((MapKept.bytes_beq a b).1 hc) h
theorem updM_app {β:Type} {k:ByteArray} {g:β→β} {v:β}:∀ {a b:List (ByteArray × β)},getM k a=none→updM k g (a++(k,v)::b)=a++(k,g v)::b
 |[],b,_=>by simp [updM,ba_rfl]
 |e::a,b,h=>by
  rw [getM] at h
  split at h
  ·cases h
  ·rename_i hne
   rw [List.cons_append,updM,if_neg hne,updM_app h];rfl
theorem er_app (a b:List DE):er (a++b)=er a++er b:=by simp [er]
theorem er_cons (e:DE) (b:List DE):er (e::b)=(e.1,e.2.2)::er b:=rfl
theorem er_get (k:ByteArray) (E:List DE):getM k (er E)=(getM k E).map (·.2):=getM_map (fun x:Nat × Fl=>x.2) k E
theorem ptrs_get (k:ByteArray) (E:List DE):getM k (ptrs E)=(getM k E).map fun x=>.pointer (some ⟨x.1,0,none⟩):=getM_map (fun x:Nat × Fl=>Value.pointer (some ⟨x.1,0,none⟩)) k E
theorem ptrs_app (a b:List DE):ptrs (a++b)=ptrs a++ptrs b:=by simp [ptrs]
theorem total_nil:total []=0:=rfl
theorem total_cons (e:ByteArray × Fl) (l:Fs):total (e::l)=e.2.b.length + total l:=rfl
theorem total_app (a b:Fs):total (a++b)=total a + total b:=by
 induction a with
 |nil=>simp [total_nil]
 |cons e a ih=>rw [List.cons_append,total_cons,total_cons,ih];omega
theorem total_nn (l:Fs):0≤total l:=by
 induction l with
 |nil=>exact Int.le_refl 0
 |cons e l ih=>rw [total_cons];omega
theorem total_one {k:ByteArray} {f:Fl} (a b:Fs):total (a++(k,f)::b)=total (a++b) + f.b.length:=by
 rw [total_app,total_cons,total_app];simp only;omega
def ensure (k:ByteArray) (fs:Fs):Fs:=if (getM k fs).isSome then fs else fs++[(k,⟨[],0⟩)]
def putB (k:ByteArray) (xs:List Int) (fs:Fs):Fs:=updM k (fun f=>{ f with b:=f.b++xs }) (ensure k fs)
def Uni (fs:Fs):Prop:=(fs.map (·.1)).Nodup
def SureOk (fs:Fs):Prop:=∀ e∈fs,e.2.sure≤e.2.b.length
structure Inv (st:DS):Prop extends Counts st where
 r0:1≤st.room
 r1:st.room≤16777216
 full:total st.fs≤st.room
 uni:Uni st.fs
 names:∀ k∈st.fs.map (·.1),nameOk k=true
 sure:SureOk st.fs
theorem notin_of_getM {β:Type} {k:ByteArray}:∀ {l:List (ByteArray × β)},getM k l=none→k ∉ l.map (·.1)
 |[],_,h=>by cases h
 |e::l,h,hm=>by
  rw [getM] at h
  split at h
  ·cases h
  ·rename_i hne
   rw [List.map_cons,List.mem_cons] at hm
   rcases hm with rfl|hm
   ·exact hne (ba_rfl _)
   ·exact notin_of_getM h hm
theorem getM_of_notin {β:Type} {k:ByteArray}:∀ {l:List (ByteArray × β)},k ∉ l.map (·.1)→getM k l=none
 |[],_=>rfl
 |e::l,h=>by
  rw [List.map_cons,List.mem_cons,not_or] at h
  rw [getM,if_neg (by rw [ba_ne h.1];simp),getM_of_notin h.2]
theorem updM_keys {β:Type} (k:ByteArray) (g:β→β):∀ l:List (ByteArray × β),(updM k g l).map (·.1)=l.map (·.1)
 |[]=>rfl
 |e::l=>by
  rw [updM]
  split
  ·rename_i h;have:=(MapKept.bytes_beq _ _).1 h;simp
  ·rw [List.map_cons,List.map_cons,updM_keys k g l]
theorem uni_upd {k:ByteArray} {g:Fl→Fl} {fs:Fs} (h:Uni fs):Uni (updM k g fs):=by unfold Uni;rw [updM_keys];exact h
theorem sure_upd {k:ByteArray} {g:Fl→Fl} (hg:∀ f:Fl,f.sure≤f.b.length→(g f).sure≤(g f).b.length):∀ {fs:Fs},SureOk fs→SureOk (updM k g fs)
 |[],h=>h
 |e::fs,h=>by
  have h0:=h e List.mem_cons_self
  have h1:SureOk fs:=fun x hx=>h x (List.mem_cons_of_mem _ hx)
  rw [updM]
  intro x hx
  split at hx
  ·rcases List.mem_cons.1 hx with rfl|hx
   ·exact hg _ h0
   ·exact h1 x hx
  ·rcases List.mem_cons.1 hx with rfl|hx
   ·exact h0
   ·exact sure_upd hg h1 x hx
def appendG (st:DS) (k:ByteArray) (xs:List Int):DS × Int:=
 if total st.fs + xs.length>st.room then (st,3) else ({ st with fs:=putB k xs st.fs },0)
theorem ensure_total (k:ByteArray) (fs:Fs):total (ensure k fs)=total fs:=by
 unfold ensure
 split
 ·rfl
 ·rw [total_app];simp [total_cons,total_nil]
theorem uni_app {fs:Fs} (h:Uni fs) {k:ByteArray} {f:Fl} (hk:getM k fs=none):Uni (fs++[(k,f)]):=by
 unfold Uni at *
 rw [List.map_append,List.nodup_append]
 refine ⟨h,by simp,fun x hx y hy=>?_⟩
 simp at hy
 subst hy
 intro he
 subst he
 exact notin_of_getM hk hx
theorem sure_app {fs:Fs} (h:SureOk fs) {k:ByteArray} {f:Fl} (hf:f.sure≤f.b.length):SureOk (fs++[(k,f)]):=by
 intro x hx
 rcases List.mem_append.1 hx with hx|hx
 ·exact h x hx
 ·simp at hx;subst hx;exact hf
theorem uni_ensure {fs:Fs} (h:Uni fs) (k:ByteArray):Uni (ensure k fs):=by
 unfold ensure;split
 ·exact h
 ·rename_i hk;exact uni_app h (by simpa using hk)
theorem sure_ensure {fs:Fs} (h:SureOk fs) (k:ByteArray):SureOk (ensure k fs):=by
 unfold ensure;split
 ·exact h
 ·exact sure_app h (Nat.le_refl _)
abbrev box (b:Nat) (v:Value) (T:TypeId):HP:=pts b (.cells [v].toArray T (0,0))
abbrev mapT:MapT Tryz.prog 76 ByteArray 9 104 (.pointer none):=⟨Tryz.underlying76,Tryz.underlying9,Tryz.zeroValue104⟩
abbrev DO (d m:Nat) (E:List DE) (st:DS) (Hs:List HP):List HP:=pts d (dCells st m)::MapAt m (ptrs E)::FilesAt E::Hs
theorem DO.look {d m:Nat} {E:List DE} {st:DS} (hw:Sat R (DO d m E st Hs) w) (k:ByteArray) (c:Bool):
  (Instr.lookup 76 (.map (some m)) (.string k) c).run Tryz.prog w=.ok (if c then .tuple #[.pointer ((getM k E).map fun x=>⟨x.1,0,none⟩),.bool (getM k E).isSome] else .pointer ((getM k E).map fun x=>⟨x.1,0,none⟩)) w:=by
 have h:=MapAt.look mapT (hw.swap.cons fun _ h=>h) k c
 rw [ptrs_get] at h
 have e:((getM k E).map fun x=>Value.pointer (some ⟨x.1,0,none⟩)).getD (.pointer none)=.pointer ((getM k E).map fun x=>⟨x.1,0,none⟩):=by cases getM k E<;>rfl
 have e2:((getM k E).map fun x=>Value.pointer (some ⟨x.1,0,none⟩)).isSome=(getM k E).isSome:=by cases getM k E<;>rfl
 rw [e,e2] at h
 exact h
theorem append1_spec {d bd bb bn:Nat} {st:DS} {k:ByteArray} {x:Sl} {xs:List Int} (i:Inv st) (hx:Ro R x (b8 xs)) (hl:xs.length≤1099511627776)
  (hw:Sat R (DiskAt d st::box bd (.pointer (some ⟨d,0,none⟩)) 25::box bb (.slice x.a x.len x.cap) 53::box bn (.string k) 9::Hs) w):
  Gets Tryz.prog 78 #[.pointer (some ⟨bd,0,none⟩),.pointer (some ⟨bb,0,none⟩),.pointer (some ⟨bn,0,none⟩)] w fun r w'=>r=.int .i64 (appendG st k xs).2∧
   Sat R (DiskAt d (appendG st k xs).1::box bd (.pointer (some ⟨d,0,none⟩)) 25::box bb (.slice x.a x.len x.cap) 53::box bn (.string k) 9::Hs) w':=by
 have hxl:x.len=xs.length:=by have:=hx.len;simpa using this
 have hnn:=total_nn st.fs
 have r0:=i.r0;have r1:=i.r1;have hfull:=i.full
 apply call78
 obtain ⟨m,E,hE,hw⟩:=Sat.disk.1 hw
 refine drw_rule hw fun w hw=>?_
 refine NilP.mk rfl ⟨some ⟨d,0,none⟩,At.own selfS (by exact ⟨rfl,trivial⟩),NilP.mk rfl ⟨total st.fs,At.own selfS (by exact ⟨rfl,trivial⟩),NilP.mk rfl ⟨x,At.own selfS (by exact ⟨rfl,trivial⟩),NilP.mk rfl ⟨some ⟨d,0,none⟩,At.own selfS (by exact ⟨rfl,trivial⟩),NilP.mk rfl ⟨st.room,by rw [add_off];exact At.own selfS (by exact ⟨rfl,trivial⟩),?_⟩⟩⟩⟩⟩
 rw [wrap64 (by omega) (by omega)]
 refine Br.mk (fun h=>?_) (fun h=>?_)<;>simp only [decide_eq_true_eq,decide_eq_false_iff_not] at h
 ·have e:appendG st k xs=(st,3):=if_pos (by omega)
  rw [e];exact ⟨rfl,Sat.disk.2 ⟨m,E,hE,hw⟩⟩
 have e:appendG st k xs=({ st with fs:=putB k xs st.fs },0):=if_neg (by omega)
 rw [e]
 refine drw_rule hw fun w hw=>?_
 refine NilP.mk rfl ⟨some ⟨d,0,none⟩,At.own selfS (by exact ⟨rfl,trivial⟩),NilP.mk rfl ⟨some m,At.own selfS (by exact ⟨rfl,trivial⟩),NilP.mk rfl ⟨k,At.own selfS (by exact ⟨rfl,trivial⟩),_,_,fun w' hw'=>DO.look hw' k true,?_⟩⟩⟩
 refine ⟨fun p w=>∃ q a b f,p=some ⟨q,0,none⟩∧getM k a=none∧er (a++(k,q,f)::b)=ensure k st.fs∧
  Sat R (DO d m (a++(k,q,f)::b) st (box bd (.pointer (some ⟨d,0,none⟩)) 25::box bb (.slice x.a x.len x.cap) 53::box bn (.string k) 9::Hs)) w,?_,?_⟩
 ·refine Br.mk (fun hk=>?_) (fun hk=>?_)
  ·simp only [Bool.not_eq_true',Option.isSome_eq_false_iff,Option.isNone_iff_eq_none] at hk
   have hk2:getM k st.fs=none:=by rw [←hE,er_get,hk];rfl
   refine new_rule hw fun q w hw=>drw_rule hw fun w hw=>?_
   refine NilP.mk rfl ⟨some ⟨d,0,none⟩,At.own selfS (by exact ⟨rfl,trivial⟩),NilP.mk rfl ⟨some m,At.own selfS (by exact ⟨rfl,trivial⟩),NilP.mk rfl ⟨k,At.own selfS (by exact ⟨rfl,trivial⟩),?_⟩⟩⟩
   have hw2:=hw.take (MapAt m (ptrs E))
   refine MapAt.put mapT hw2 k (.pointer (some ⟨q,0,none⟩)) fun w hw=>⟨q,E,[],⟨[],0⟩,rfl,hk,?_,?_⟩
   ·rw [er_app,hE];simp [ensure,hk2,er]
   ·have ep:putM k (.pointer (some ⟨q,0,none⟩)) (ptrs E)=ptrs (E++[(k,q,⟨[],0⟩)]):=by
     unfold putM;rw [ptrs_get,hk];simp [ptrs]
    rw [ep] at hw
    have hw:=hw.take (pts d (dCells st m))
    refine hw.cons fun _ h=>h.cons fun _ h=>?_
    refine Sat.split.2 (Sat.file.2 ⟨⟨none,0,0⟩,?_⟩)
    rw [List.append_nil]
    exact h.cons fun _ h=>Own.nil h
  ·simp only [Bool.not_eq_false'] at hk
   obtain ⟨⟨q,f⟩,hf⟩:=Option.isSome_iff_exists.1 hk
   obtain ⟨a,b,rfl,ha⟩:=getM_split hf
   rw [hf]
   refine ⟨q,a,b,f,rfl,ha,?_,hw⟩
   rw [hE];unfold ensure
   rw [if_pos];rw [←hE,er_get,hf];rfl
 rintro z _ w ⟨q,a,b,f,rfl,ha,hE2,hw⟩
 have ht2:total (er (a++(k,q,f)::b))=total st.fs:=by rw [hE2,ensure_total]
 rw [er_app,er_cons,total_one] at ht2
 have hnn2:=total_nn (er a++er b)
 simp only at ht2
 -- the file is opened
 have hw:Sat R (FilesAt (a++(k,q,f)::b)::pts d (dCells st m)::MapAt m (ptrs (a++(k,q,f)::b))::box bd (.pointer (some ⟨d,0,none⟩)) 25::box bb (.slice x.a x.len x.cap) 53::box bn (.string k) 9::Hs) w:=(hw.cons fun _ h=>h.swap).swap
 obtain ⟨s,hw⟩:=Sat.file.1 (Sat.split.1 hw)
 refine drw_rule hw fun w hw=>?_
 refine NilP.mk rfl ⟨s,by rw [add_off];exact At.own selfS (by exact ⟨rfl,trivial⟩),NilP.mk rfl ⟨x,At.own selfS (by exact ⟨rfl,trivial⟩),?_⟩⟩
 have el:El Tryz.prog 53 53 5 1:=⟨Tryz.underlying53,⟨_,Tryz.underlying53⟩,by kernel_rfl⟩
 have hwo:=hw.swap
 have hsrc:Src Tryz.prog 1 53 (.slice x.a x.len x.cap) xs.length (b8 xs) w:=by
  have:=srcRo Tryz.underlying53 hwo hx (by unfold oneAll;simp [Value.oneCell'])
  simpa using this
 refine append_rule (K:=fun t w'=>NilP (some ⟨q,0,none⟩) fun a_t44=>∃ w_9:World,((Instr.storeAt 53 (.pointer ((some (Addr.add a_t44 0)))) (.slice t.a t.len t.cap)).run Tryz.prog w'=.ok () w_9)∧_) el hwo hsrc (by unfold oneAll;simp [Value.oneCell']) (by simp;omega) (by simp;omega) fun t w hw=>NilP.mk rfl ?_
 rw [add_off]
 refine store_rule hw (by kernel_rfl) rfl (by simp [Value.cells]) fun w hw=>?_
 have hw:Sat R (pts q (.cells [.slice t.a t.len t.cap,.int .i64 f.sure].toArray 106 (0,0))::Own t 5 (b8 (f.b++xs))::FilesAt (a++b)::pts d (dCells st m)::MapAt m (ptrs (a++(k,q,f)::b))::box bd (.pointer (some ⟨d,0,none⟩)) 25::box bb (.slice x.a x.len x.cap) 53::box bn (.string k) 9::Hs) w:=by
  rw [show b8 (f.b++xs)=b8 f.b++b8 xs by simp];exact hw
 have hw:Sat R (FilesAt (a++(k,q,{ f with b:=f.b++xs })::b)::pts d (dCells st m)::MapAt m (ptrs (a++(k,q,f)::b))::box bd (.pointer (some ⟨d,0,none⟩)) 25::box bb (.slice x.a x.len x.cap) 53::box bn (.string k) 9::Hs) w:=
  Sat.split.2 (Sat.file.2 ⟨t,hw⟩)
 refine drw_rule hw fun w hw=>?_
 refine NilP.mk rfl ⟨some ⟨d,0,none⟩,At.own selfS (by exact ⟨rfl,trivial⟩),NilP.mk rfl ⟨total st.fs,At.own selfS (by exact ⟨rfl,trivial⟩),NilP.mk rfl ⟨x,At.own selfS (by exact ⟨rfl,trivial⟩),NilP.mk rfl ?_⟩⟩⟩
 rw [wrap64 (by omega) (by omega)]
 refine store_rule hw (by kernel_rfl) rfl (by simp [Value.cells]) fun w hw=>⟨rfl,?_⟩
 refine Sat.disk.2 ⟨m,a++(k,q,{ f with b:=f.b++xs })::b,?_,?_⟩
 ·simp only [putB]
  rw [←hE2,er_app,er_cons,er_app,er_cons,updM_app]
  rw [er_get,ha];rfl
 ·have ep:ptrs (a++(k,q,{ f with b:=f.b++xs })::b)=ptrs (a++(k,q,f)::b):=by simp [ptrs]
  have et:total (putB k xs st.fs)=total st.fs + x.len:=by
   unfold putB
   rw [←hE2,er_app,er_cons,updM_app (by rw [er_get,ha];rfl),total_one,←ht2,hxl]
   simp;omega
  rw [ep]
  have hw:=hw.cons fun _ h=>h.swap
  unfold dCells
  simp only [et]
  exact hw
end Go.Proofs.YtkfedbncmfnpnaaGreatDoor
/- The disk: Append, whole; what is true of a disk stays so; DiskFails. Condition: none. -/
namespace Go.Proofs.YtkfedbncmfnpnaaGreatDoor
set_option linter.unusedVariables false
set_option linter.unusedSimpArgs false
open Go Go.VC
variable {R:Cx} {Hs Rest:List HP} {w:World}
theorem metN_bd {n:Int} (h0: -1≤n) (h1:n<9223372036854775808): -1≤(metN n).1∧(metN n).1<9223372036854775808:=by
 unfold metN
 split
 ·exact ⟨h0,h1⟩
 ·rename_i h;simp at h;exact ⟨by simp only;omega,by simp only;omega⟩
theorem chg_counts {st:DS} (c:Counts st) (ok:Bool):Counts (chg st ok).1:=by
 have ha:=metN_bd c.a0 c.a1
 have hf:=metN_bd c.f0 c.f1
 unfold chg
 split
 ·exact c
 split
 ·exact c
 split
 ·exact ⟨ha.1,ha.2,c.f0,c.f1⟩
 ·exact ⟨ha.1,ha.2,hf.1,hf.2⟩
theorem chg_fs (st:DS) (ok:Bool):(chg st ok).1.fs=st.fs∧(chg st ok).1.room=st.room:=by
 unfold chg
 split
 ·exact ⟨rfl,rfl⟩
 split
 ·exact ⟨rfl,rfl⟩
 split<;>exact ⟨rfl,rfl⟩
theorem chg_inv {st:DS} (i:Inv st) (ok:Bool):Inv (chg st ok).1:=by
 obtain ⟨h1,h2⟩:=chg_fs st ok
 exact { toCounts:=chg_counts i.toCounts ok,r0:=by rw [h2];exact i.r0,r1:=by rw [h2];exact i.r1,full:=by rw [h1,h2];exact i.full,uni:=by rw [h1];exact i.uni,names:=by rw [h1];exact i.names,sure:=by rw [h1];exact i.sure }
def doing (st:DS) (ok:Bool) (g:DS→DS × Int):DS × Int:=if (chg st ok).2=0 then g (chg st ok).1 else chg st ok
def appendD (st:DS) (k:ByteArray) (xs:List Int):DS × Int:=doing st (nameOk k) fun st=>appendG st k xs
theorem all_one (k:ByteArray):[k].all nameOk=nameOk k:=by simp
theorem ro_one {b:Nat} {k:ByteArray} {T:TypeId} (hc:R.m b=.none):Ro (R.add (Heap.one b (.cells [.string k].toArray T (0,0)))) ⟨some ⟨b,0,none⟩,1,1⟩ ([k].map Value.string):=
 ⟨rfl,by simp,fun _=>⟨b,0,_,T,(0,0),rfl,Cx.lent hc,fun i v h=>by simpa using h⟩⟩
theorem ro_two {b:Nat} {k k2:ByteArray} {T:TypeId} (hc:R.m b=.none):Ro (R.add (Heap.one b (.cells [.string k,.string k2].toArray T (0,0)))) ⟨some ⟨b,0,none⟩,2,2⟩ ([k,k2].map Value.string):=
 ⟨rfl,by simp,fun _=>⟨b,0,_,T,(0,0),rfl,Cx.lent hc,fun i v h=>by simpa using h⟩⟩
theorem append_spec {d:Nat} {st:DS} {k:ByteArray} {x:Sl} {xs:List Int} (i:Inv st) (hx:Ro R x (b8 xs)) (hl:xs.length≤1099511627776) (hw:Sat R (DiskAt d st::Hs) w):
  Gets Tryz.prog 35 #[.pointer (some ⟨d,0,none⟩),.string k,.slice x.a x.len x.cap] w fun r w'=>r=.int .i64 (appendD st k xs).2∧Sat R (DiskAt d (appendD st k xs).1::Hs) w':=by
 apply call35
 refine new_rule hw fun bd w hw=>new_rule hw fun bn w hw=>new_rule hw fun bb w hw=>?_
 have hw:Sat R (box bb (.slice x.a x.len x.cap) 53::box bn (.string k) 9::box bd (.pointer (some ⟨d,0,none⟩)) 25::DiskAt d st::Hs) w:=hw
 refine ⟨some ⟨d,0,none⟩,At.own (eqS hw) (by exact ⟨rfl,trivial⟩),k,At.own (eqS hw) (by exact ⟨rfl,trivial⟩),new_rule hw fun bt w hw=>?_⟩
 obtain ⟨hc,hw⟩:=Sat.lend.1 hw
 have hw:=hw.take (DiskAt d st)
 refine (change_spec (Q:=fun n w=>n=(appendD st k xs).2∧Sat R (DiskAt d (appendD st k xs).1::Hs) w) hw i.toCounts (ro_one hc) (by simp) ?_ ?_).use ?_
 ·rw [all_one]
  intro h0 w hw
  have e:appendD st k xs=appendG (chg st (nameOk k)).1 k xs:=if_pos h0
  rw [e]
  have hw:Sat (R.add (Heap.one bt (.cells [.string k].toArray 9 (0,0)))) (DiskAt d (chg st (nameOk k)).1::box bd (.pointer (some ⟨d,0,none⟩)) 25::box bb (.slice x.a x.len x.cap) 53::box bn (.string k) 9::Hs) w:=
   hw.cons fun _ h=>(h.take (box bd (.pointer (some ⟨d,0,none⟩)) 25))
  refine (append1_spec (chg_inv i _) hx.add hl hw).use ?_
  rintro _ w ⟨rfl,hw⟩
  refine ⟨_,rfl,rfl,?_⟩
  exact (Sat.lend.2 ⟨hc,hw⟩).drop.cons fun _ h=>h.drop.drop.drop
 ·rw [all_one]
  intro e h0 hne w hw
  have e2:appendD st k xs=chg st (nameOk k):=if_neg (by rw [h0];exact hne)
  rw [e2]
  exact ⟨h0.symm,(Sat.lend.2 ⟨hc,hw⟩).drop.cons fun _ h=>h.drop.drop.drop⟩
 ·rintro _ w ⟨n,rfl,rfl,hw⟩
  exact ⟨_,rfl,rfl,hw⟩
theorem putB_total (k:ByteArray) (xs:List Int) (fs:Fs):total (putB k xs fs)=total fs + xs.length:=by
 have hsome:(getM k (ensure k fs)).isSome=true:=by
  unfold ensure
  split
  ·assumption
  ·rename_i h
   have:getM k fs=none:=by simpa using h
   rw [getM_app this (ba_rfl k)];rfl
 obtain ⟨f,hf⟩:=Option.isSome_iff_exists.1 hsome
 obtain ⟨a,b,e,ha⟩:=getM_split hf
 have h1:=ensure_total k fs
 unfold putB
 rw [e] at h1 ⊢
 rw [total_one] at h1
 rw [updM_app ha,total_one,←h1]
 simp;omega
theorem chg_ok {st:DS} {ok:Bool} (h:(chg st ok).2=0):ok=true:=by
 cases ok
 ·unfold chg at h;simp at h
 ·rfl
theorem names_ensure {k:ByteArray} {fs:Fs} (hk:nameOk k=true) (h:∀ x∈fs.map (·.1),nameOk x=true):∀ x∈(ensure k fs).map (·.1),nameOk x=true:=by
 unfold ensure
 by_cases hc:(getM k fs).isSome=true
 ·rw [if_pos hc];exact h
 ·rw [if_neg hc]
  intro x hx
  rw [List.map_append,List.mem_append] at hx
  rcases hx with hx|hx
  ·exact h x hx
  ·simp at hx;subst hx;exact hk
theorem appendG_inv {st:DS} (i:Inv st) {k:ByteArray} (hk:nameOk k=true) (xs:List Int):Inv (appendG st k xs).1:=by
 unfold appendG
 split
 ·exact i
 ·exact { toCounts:=⟨i.a0,i.a1,i.f0,i.f1⟩,r0:=i.r0,r1:=i.r1,full:=by simp only [putB_total];omega,uni:=uni_upd (uni_ensure i.uni k),names:=by simp only [putB,updM_keys];exact names_ensure hk i.names,sure:=sure_upd (fun f h=>by simp;omega) (sure_ensure i.sure k) }
theorem appendD_inv {st:DS} (i:Inv st) (k:ByteArray) (xs:List Int):Inv (appendD st k xs).1:=by
 unfold appendD doing
 split
 ·rename_i h;exact appendG_inv (chg_inv i _) (chg_ok h) xs
 ·exact chg_inv i _
theorem inv_new {room:Int} (h0:1≤room) (h1:room≤16777216):Inv ⟨room,[],-1,-1,false⟩:=
 { a0:=by simp,a1:=by simp,f0:=by simp,f1:=by simp,r0:=h0,r1:=h1,full:=by show total []≤room;rw [total_nil];omega,uni:=List.nodup_nil,names:=fun _ h=>(by cases h),sure:=fun _ h=>by cases h }
theorem new_ok {room:Int} (h0:1≤room) (h1:room≤16777216) (hw:Sat R Hs w):Gets Tryz.prog 17 #[.int .i64 room] w fun v w'=>
  ∃ d,v=.tuple #[.pointer (some ⟨d,0,none⟩),.int .i64 0]∧Sat R (DiskAt d ⟨room,[],-1,-1,false⟩::Hs) w':=
 Calls.mono (new_spec room hw) fun e w' ⟨v,he,h⟩=>by
  rcases h with ⟨hn,_⟩|⟨_,_,_,d,hv,hw⟩
  ·unfold newErr at hn;rw [if_neg (by omega)] at hn;cases hn
  ·exact ⟨v,he,d,hv,hw⟩
structure FailsAt (n:Int) (i:Nat) (st:DS):Prop where
 inv:Inv st
 room:st.room=10000
 size:total st.fs≤1 + i
 arm:st.arm=-1
 off:st.off=false
 fail:st.fail=if (i:Int)≤n then n - i else -1
end Go.Proofs.YtkfedbncmfnpnaaGreatDoor
/- The disk: Sync, Unlink, Rename, Read. Condition: none. -/
namespace Go.Proofs.YtkfedbncmfnpnaaGreatDoor
set_option linter.unusedVariables false
set_option linter.unusedSimpArgs false
open Go Go.VC
variable {R:Cx} {Hs Rest:List HP} {w:World}
instance TakeP.app {b:Nat} {X Hs:List HP} {o:Obj} {Rest:List HP} [t:TakeP b Hs o Rest]:TakeP b (X++Hs) o (X++Rest):=
 ⟨(t.perm.append_left X).trans List.perm_middle⟩
abbrev bx (bm bn bd d:Nat) (v:Value) (k:ByteArray) (Hs:List HP):List HP:=
 box bm v 123::box bn (.string k) 9::box bd (.pointer (some ⟨d,0,none⟩)) 25::Hs
theorem with_spec {d:Nat} {k:ByteArray} {v:Value} (hv:v.cells=#[v]) (hw:Sat R Hs w):
  Gets Tryz.prog 83 #[.pointer (some ⟨d,0,none⟩),.string k,v] w fun r w'=>∃ bm bn bd,r=.func (.func 123) #[] #[.pointer (some ⟨bd,0,none⟩),.pointer (some ⟨bn,0,none⟩),.pointer (some ⟨bm,0,none⟩)]∧Sat R (bx bm bn bd d v k Hs) w':=by
 apply call83
 refine new_rule hw fun bd w hw=>new_rule hw fun bn w hw=>?_
 rw [hv]
 exact new_rule hw fun bm w hw=>⟨bm,bn,bd,rfl,hw⟩
theorem with1_spec {d bm bn bd:Nat} {st:DS} {k:ByteArray} {v:Value} {Q:Int→World→Prop} (hw:Sat R (DiskAt d st::bx bm bn bd d v k Hs) w)
  (hm:∀ m a q f b w,getM k a=none→er (a++(k,q,f)::b)=st.fs→Sat R (DO d m (a++(k,q,f)::b) st (bx bm bn bd d v k Hs)) w→
   CalW Tryz.prog cl v [.pointer (some ⟨q,0,none⟩)] w (fun e w'=>e=.returned (.tuple #[])∧Q 0 w'))
  (hn:getM k st.fs=none→∀ w,Sat R (DiskAt d st::bx bm bn bd d v k Hs) w→Q 2 w):
  Gets Tryz.prog 123 #[.pointer (some ⟨bd,0,none⟩),.pointer (some ⟨bn,0,none⟩),.pointer (some ⟨bm,0,none⟩)] w fun r w'=>∃ n:Int,r=.int .i64 n∧Q n w':=by
 apply call123
 obtain ⟨m,E,hE,hw⟩:=Sat.disk.1 hw
 refine drw_rule hw fun w hw=>?_
 refine NilP.mk rfl ⟨some ⟨d,0,none⟩,At.own selfS (by exact ⟨rfl,trivial⟩),NilP.mk rfl ⟨some m,At.own selfS (by exact ⟨rfl,trivial⟩),NilP.mk rfl ⟨k,At.own selfS (by exact ⟨rfl,trivial⟩),_,_,fun w' hw'=>DO.look hw' k true,?_⟩⟩⟩
 refine Br.mk (fun hk=>?_) (fun hk=>?_)
 ·simp only [Bool.not_eq_true',Option.isSome_eq_false_iff,Option.isNone_iff_eq_none] at hk
  exact ⟨2,rfl,hn (by rw [←hE,er_get,hk];rfl) w (Sat.disk.2 ⟨m,E,hE,hw⟩)⟩
 ·simp only [Bool.not_eq_false'] at hk
  obtain ⟨⟨q,f⟩,hf⟩:=Option.isSome_iff_exists.1 hk
  obtain ⟨a,b,rfl,ha⟩:=getM_split hf
  rw [hf]
  refine NilP.mk rfl ⟨v,At.own (eqS hw) (by exact ⟨rfl,trivial⟩),(hm m a q f b w ha hE hw).mono ?_⟩
  rintro _ w ⟨rfl,hq⟩
  exact ⟨rfl,0,rfl,hq⟩
theorem one_spec {d:Nat} {st:DS} {k:ByteArray} {v:Value} (g:DS→DS × Int) (i:Inv st) (hv:v.cells=#[v]) (hw:Sat R (DiskAt d st::Hs) w)
  (hm:∀ (R:Cx) (X:List HP) st m a q f b w,Inv st→getM k a=none→er (a++(k,q,f)::b)=st.fs→Sat R (DO d m (a++(k,q,f)::b) st (X++Hs)) w→
   CalW Tryz.prog cl v [.pointer (some ⟨q,0,none⟩)] w (fun e w'=>e=.returned (.tuple #[])∧(g st).2=0∧Sat R (DiskAt d (g st).1::(X++Hs)) w'))
  (hn:∀ st,getM k st.fs=none→g st=(st,2)):
  Gets Tryz.prog 83 #[.pointer (some ⟨d,0,none⟩),.string k,v] w fun c w=>∃ Hs',Sat R (DiskAt d st::Hs') w∧(∀ R w,Sat R Hs' w→Sat R Hs w)∧
   ∀ (R':Cx) (s:Sl) (ks:List ByteArray) w,Sat R' (DiskAt d st::Hs') w→Ro R' s (ks.map Value.string)→ks.length≤1000→
    Gets Tryz.prog 77 #[.pointer (some ⟨d,0,none⟩),c,.slice s.a s.len s.cap] w fun r w'=>r=.int .i64 (doing st (ks.all nameOk) g).2∧Sat R' (DiskAt d (doing st (ks.all nameOk) g).1::Hs') w':=by
 refine (with_spec hv hw).mono ?_
 rintro _ w ⟨bm,bn,bd,rfl,hw⟩
 refine ⟨bx bm bn bd d v k Hs,hw.take (DiskAt d st),fun R w h=>h.drop.drop.drop,fun R' s ks w hw hs hks=>?_⟩
 refine (change_spec (Q:=fun n w=>n=(doing st (ks.all nameOk) g).2∧Sat R' (DiskAt d (doing st (ks.all nameOk) g).1::bx bm bn bd d v k Hs) w) hw i.toCounts hs hks ?_ ?_).mono ?_
 ·intro h0 w hw
  have e:doing st (ks.all nameOk) g=g (chg st (ks.all nameOk)).1:=if_pos h0
  rw [e]
  show Calls Tryz.prog _ _ w _
  refine (with1_spec (Q:=fun n w=>n=(g (chg st (ks.all nameOk)).1).2∧Sat R' (DiskAt d (g (chg st (ks.all nameOk)).1).1::bx bm bn bd d v k Hs) w) hw ?_ ?_).use ?_
  ·intro m a q f b w ha hE hw
   refine (hm R' [box bm v 123,box bn (.string k) 9,box bd (.pointer (some ⟨d,0,none⟩)) 25 ] _ m a q f b w (chg_inv i _) ha hE hw).mono ?_
   rintro _ w ⟨rfl,h1,h2⟩
   exact ⟨rfl,h1.symm,h2⟩
  ·intro hnone w hw
   rw [hn _ hnone];exact ⟨rfl,hw⟩
  ·rintro _ w ⟨n,rfl,hq⟩;exact ⟨n,rfl,hq⟩
 ·intro e h0 hne w hw
  have e2:doing st (ks.all nameOk) g=chg st (ks.all nameOk):=if_neg (by rw [h0];exact hne)
  rw [e2];exact ⟨h0.symm,hw⟩
 ·rintro _ w ⟨n,rfl,rfl,hw⟩;exact ⟨rfl,hw⟩
end Go.Proofs.YtkfedbncmfnpnaaGreatDoor
/- The disk: Sync, Unlink, Rename. Condition: none. -/
namespace Go.Proofs.YtkfedbncmfnpnaaGreatDoor
set_option linter.unusedVariables false
set_option linter.unusedSimpArgs false
open Go Go.VC
variable {R:Cx} {Hs Rest:List HP} {w:World}
theorem updM_total {k:ByteArray} {g:Fl→Fl} (hg:∀ f,(g f).b.length=f.b.length):∀ fs:Fs,total (updM k g fs)=total fs
 |[]=>rfl
 |e::fs=>by
  rw [updM]
  split
  ·rw [total_cons,total_cons,hg]
  ·rw [total_cons,total_cons,updM_total hg fs]
theorem delM_total (k:ByteArray):∀ fs:Fs,total (delM k fs)≤total fs
 |[]=>Int.le_refl _
 |e::fs=>by
  rw [delM]
  split
  ·rw [total_cons];omega
  ·rw [total_cons,total_cons];have:=delM_total k fs;omega
def syncG (k:ByteArray) (st:DS):DS × Int:=if (getM k st.fs).isSome then ({ st with fs:=updM k (fun f=>{ f with sure:=f.b.length }) st.fs },0) else (st,2)
def syncD (st:DS) (k:ByteArray):DS × Int:=doing st (nameOk k) (syncG k)
theorem sync1_spec {d m q:Nat} {st:DS} {a b:List DE} {k:ByteArray} {f:Fl} (ha:getM k a=none) (hE:er (a++(k,q,f)::b)=st.fs) (hw:Sat R (DO d m (a++(k,q,f)::b) st Hs) w):
  Gets Tryz.prog 84 #[.pointer (some ⟨q,0,none⟩)] w fun r w'=>r=.tuple #[]∧(syncG k st).2=0∧Sat R (DiskAt d (syncG k st).1::Hs) w':=by
 have hk:getM k st.fs=some f:=by rw [←hE,er_app,er_cons,getM_app (by rw [er_get,ha];rfl) (ba_rfl k)]
 have e:syncG k st=({ st with fs:=updM k (fun f=>{ f with sure:=f.b.length }) st.fs },0):=if_pos (by rw [hk];rfl)
 rw [e]
 have hw:Sat R (FilesAt (a++(k,q,f)::b)::pts d (dCells st m)::MapAt m (ptrs (a++(k,q,f)::b))::Hs) w:=(hw.cons fun _ h=>h.swap).swap
 obtain ⟨s,hw⟩:=Sat.file.1 (Sat.split.1 hw)
 apply call84
 have hlen:s.len=f.b.length:=by have:=Own.len hw.swap;rwa [List.length_map] at this
 refine NilP.mk rfl ⟨s,by rw [add_off];exact At.own (eqS hw) (by exact ⟨rfl,trivial⟩),NilP.mk rfl ?_⟩
 refine store_rule hw (by kernel_rfl) rfl (by simp [Value.cells]) fun w hw=>⟨rfl,rfl,?_⟩
 have hw:Sat R (pts q (.cells [.slice s.a s.len s.cap,.int .i64 (f.b.length:Nat)].toArray 106 (0,0))::Own s 5 (b8 f.b)::FilesAt (a++b)::pts d (dCells st m)::MapAt m (ptrs (a++(k,q,f)::b))::Hs) w:=by
  rw [←hlen];exact hw
 have hw:Sat R (FilesAt (a++(k,q,{ f with sure:=f.b.length })::b)::pts d (dCells st m)::MapAt m (ptrs (a++(k,q,f)::b))::Hs) w:=Sat.split.2 (Sat.file.2 ⟨s,hw⟩)
 refine Sat.disk.2 ⟨m,a++(k,q,{ f with sure:=f.b.length })::b,?_,?_⟩
 ·rw [←hE,er_app,er_cons,er_app,er_cons,updM_app]
  rw [er_get,ha];rfl
 ·have ep:ptrs (a++(k,q,{ f with sure:=f.b.length })::b)=ptrs (a++(k,q,f)::b):=by simp [ptrs]
  rw [ep]
  unfold dCells
  simp only [updM_total (g:=fun f=>{ f with sure:=f.b.length }) (fun _=>rfl)]
  exact hw.swap.cons fun _ h=>h.swap
theorem sync_spec {d:Nat} {st:DS} {k:ByteArray} (i:Inv st) (hw:Sat R (DiskAt d st::Hs) w):
  Gets Tryz.prog 37 #[.pointer (some ⟨d,0,none⟩),.string k] w fun r w'=>r=.int .i64 (syncD st k).2∧Sat R (DiskAt d (syncD st k).1::Hs) w':=by
 apply call37
 refine (one_spec (v:=.func (.func 84) #[] #[]) (syncG k) i rfl hw ?_ ?_).use ?_
 ·intro R X st m a q f b w _ ha hE hw
  show Calls Tryz.prog _ _ w _
  refine (sync1_spec ha hE hw).use ?_
  rintro _ w ⟨rfl,h⟩;exact ⟨rfl,h⟩
 ·intro st h;unfold syncG;rw [h];rfl
 ·rintro c w ⟨Hs',hw,back,k2⟩
  refine ⟨c,rfl,new_rule hw fun bt w hw=>?_⟩
  obtain ⟨hc,hw⟩:=Sat.lend.1 hw
  refine (k2 _ _ [k] w hw (ro_one hc) (by simp)).use ?_
  rw [all_one]
  rintro _ w ⟨rfl,hw⟩
  exact ⟨_,rfl,rfl,(Sat.lend.2 ⟨hc,hw⟩).drop.cons fun _ h=>back _ _ h⟩
theorem sync_inv {st:DS} (i:Inv st) (k:ByteArray):Inv (syncD st k).1:=by
 have hg:∀ {st},Inv st→Inv (syncG k st).1:=fun {st} i=>by
  unfold syncG
  split
  ·exact { toCounts:=⟨i.a0,i.a1,i.f0,i.f1⟩,r0:=i.r0,r1:=i.r1,full:=by simp only;rw [updM_total (g:=fun f=>{ f with sure:=f.b.length }) (fun _=>rfl)];exact i.full,uni:=uni_upd i.uni,names:=by simp only [updM_keys];exact i.names,sure:=sure_upd (fun f _=>Nat.le_refl _) i.sure }
  ·exact i
 unfold syncD doing
 split
 ·exact hg (chg_inv i _)
 ·exact chg_inv i _
theorem gone_spec {d:Nat} {st:DS} (i:Inv st) (k:ByteArray) (hw:Sat R (DiskAt d st::Hs) w):
  Gets Tryz.prog 142 #[.pointer (some ⟨d,0,none⟩),.string k] w fun r w'=>r=.tuple #[]∧Sat R (DiskAt d { st with fs:=delM k st.fs }::Hs) w':=by
 obtain ⟨m,E,hE,hw⟩:=Sat.disk.1 hw
 have hnn:=total_nn st.fs
 have r1:=i.r1;have hfull:=i.full
 apply call142
 refine NilP.mk rfl ⟨some m,At.own (eqS hw) (by exact ⟨rfl,trivial⟩),_,_,fun w' hw'=>DO.look (eqS hw _ hw') k true,?_⟩
 refine Br.mk (fun hk=>?_) (fun hk=>?_)
 ·obtain ⟨⟨q,f⟩,hf⟩:=Option.isSome_iff_exists.1 hk
  obtain ⟨a,b,rfl,ha⟩:=getM_split hf
  rw [hf]
  have ht:total st.fs=total (er a++er b) + f.b.length:=by rw [←hE,er_app,er_cons,total_one]
  have hnn2:=total_nn (er a++er b)
  have hw:Sat R (FilesAt (a++(k,q,f)::b)::pts d (dCells st m)::MapAt m (ptrs (a++(k,q,f)::b))::Hs) w:=(hw.cons fun _ h=>h.swap).swap
  obtain ⟨s,hw⟩:=Sat.file.1 (Sat.split.1 hw)
  have hlen:s.len=f.b.length:=by have:=Own.len hw.swap;rwa [List.length_map] at this
  refine drw_rule hw fun w hw=>?_
  refine NilP.mk rfl ⟨total st.fs,At.own selfS (by exact ⟨rfl,trivial⟩),NilP.mk rfl ⟨s,by rw [add_off];exact At.own selfS (by exact ⟨rfl,trivial⟩),NilP.mk rfl ?_⟩⟩
  rw [wrap64 (by omega) (by omega)]
  refine store_rule hw (by kernel_rfl) rfl (by simp [Value.cells]) fun w hw=>NilP.mk rfl ⟨some m,At.own (eqS hw) (by exact ⟨rfl,trivial⟩),?_⟩
  refine MapAt.del mapT (hw.take (MapAt m (ptrs (a++(k,q,f)::b)))) k fun w hw=>⟨rfl,?_⟩
  have ep:delM k (ptrs (a++(k,q,f)::b))=ptrs (a++b):=by
   rw [ptrs_app,show ptrs ((k,q,f)::b)=(k,Value.pointer (some ⟨q,0,none⟩))::ptrs b from rfl,delM_app (by rw [ptrs_get,ha];rfl) (ba_rfl k),←ptrs_app]
  have ef:delM k st.fs=er (a++b):=by rw [←hE,er_app,er_cons,delM_app (by rw [er_get,ha];rfl) (ba_rfl k),←er_app]
  rw [ep] at hw
  refine Sat.disk.2 ⟨m,a++b,ef.symm,?_⟩
  unfold dCells
  simp only [ef,er_app]
  have e3:total st.fs - (s.len:Int)=total (er a++er b):=by omega
  rw [e3] at hw
  exact hw.swap.cons fun _ h=>h.cons fun _ h=>h.drop.drop
 ·simp only [Option.isSome_eq_false_iff,Option.isNone_iff_eq_none] at hk
  have e:delM k st.fs=st.fs:=by
   have hk2:getM k st.fs=none:=by rw [←hE,er_get,hk];rfl
   have:∀ l:Fs,getM k l=none→delM k l=l:=fun l=>by
    induction l with
    |nil=>intro _;rfl
    |cons e l ih=>
     intro h
     rw [getM] at h
     split at h
     ·cases h
     ·rename_i hne;rw [delM,if_neg hne,ih h]
   exact this _ hk2
  refine ⟨rfl,?_⟩
  rw [e];exact Sat.disk.2 ⟨m,E,hE,hw⟩
end Go.Proofs.YtkfedbncmfnpnaaGreatDoor
/- The disk: Unlink, Rename. Condition: none. -/
namespace Go.Proofs.YtkfedbncmfnpnaaGreatDoor
set_option linter.unusedVariables false
set_option linter.unusedSimpArgs false
open Go Go.VC
variable {R:Cx} {Hs Rest:List HP} {w:World}
theorem delM_sub {β:Type} (k:ByteArray):∀ l:List (ByteArray × β),(delM k l).Sublist l
 |[]=>List.Sublist.refl _
 |x::l=>by
  rw [delM];split
  ·exact List.sublist_cons_self _ _
  ·exact (delM_sub k l).cons_cons _
theorem uni_del {fs:Fs} (h:Uni fs) (k:ByteArray):Uni (delM k fs):=((delM_sub k fs).map _).nodup h
theorem sure_del {fs:Fs} (h:SureOk fs) (k:ByteArray):SureOk (delM k fs):=fun e he=>h e ((delM_sub k fs).subset he)
def unlinkG (k:ByteArray) (st:DS):DS × Int:=if (getM k st.fs).isSome then ({ st with fs:=delM k st.fs },0) else (st,2)
def unlinkD (st:DS) (k:ByteArray):DS × Int:=doing st (nameOk k) (unlinkG k)
theorem del_inv {st:DS} (i:Inv st) (k:ByteArray):Inv { st with fs:=delM k st.fs }:=
 { toCounts:=⟨i.a0,i.a1,i.f0,i.f1⟩,r0:=i.r0,r1:=i.r1,full:=by have:=delM_total k st.fs;have:=i.full;simp only;omega,uni:=uni_del i.uni k,names:=fun x hx=>i.names x (((delM_sub k st.fs).map _).subset hx),sure:=sure_del i.sure k }
theorem unlink_inv {st:DS} (i:Inv st) (k:ByteArray):Inv (unlinkD st k).1:=by
 unfold unlinkD doing
 split
 ·unfold unlinkG
  split
  ·exact del_inv (chg_inv i _) k
  ·exact chg_inv i _
 ·exact chg_inv i _
theorem DO.shut {d m:Nat} {E:List DE} {st:DS} (hE:er E=st.fs) (hw:Sat R (DO d m E st Hs) w):Sat R (DiskAt d st::Hs) w:=Sat.disk.2 ⟨m,E,hE,hw⟩
theorem unlink1_spec {d m q bd bn:Nat} {st:DS} {a b:List DE} {k:ByteArray} {f:Fl} (i:Inv st) (ha:getM k a=none) (hE:er (a++(k,q,f)::b)=st.fs) (hw:Sat R (DO d m (a++(k,q,f)::b) st Hs) w)
  {Rest1 Rest2:List HP} {T1 T2:TypeId} [t1:TakeP bd Hs (.cells [.pointer (some ⟨d,0,none⟩)].toArray T1 (0,0)) Rest1] [t2:TakeP bn Hs (.cells [.string k].toArray T2 (0,0)) Rest2]:
  Gets Tryz.prog 141 #[.pointer (some ⟨q,0,none⟩),.pointer (some ⟨bd,0,none⟩),.pointer (some ⟨bn,0,none⟩)] w fun r w'=>r=.tuple #[]∧(unlinkG k st).2=0∧Sat R (DiskAt d (unlinkG k st).1::Hs) w':=by
 have hk:getM k st.fs=some f:=by rw [←hE,er_app,er_cons,getM_app (by rw [er_get,ha];rfl) (ba_rfl k)]
 have e:unlinkG k st=({ st with fs:=delM k st.fs },0):=if_pos (by rw [hk];rfl)
 rw [e]
 have hw:=DO.shut hE hw
 apply call141
 refine NilP.mk rfl ⟨some ⟨d,0,none⟩,At.own (eqS hw) (by exact ⟨rfl,trivial⟩),NilP.mk rfl ⟨k,At.own (eqS hw) (by exact ⟨rfl,trivial⟩),?_⟩⟩
 refine (gone_spec i k hw).use ?_
 rintro _ w ⟨rfl,hw⟩
 exact ⟨rfl,rfl,rfl,hw⟩
theorem Sat.toTru:∀ {As:List HP} {R:Cx} {w:World},Sat R (As++Hs) w→Sat R (As++[VC.tru]) w
 |[],R,w,h=>by
  have:∀ {Hs:List HP} {R:Cx},Sat R (VC.tru::Hs) w→Sat R [VC.tru] w:=fun {Hs}=>by
   induction Hs with
   |nil=>exact fun h=>h
   |cons H Hs ih=>exact fun h=>ih h.swap.absorb
  exact this h.tru
 |A::As,R,w,h=>h.cons fun _ h=>Sat.toTru (As:=As) h
theorem unlink_spec {d:Nat} {st:DS} {k:ByteArray} (i:Inv st) (hw:Sat R (DiskAt d st::Hs) w):
  Gets Tryz.prog 104 #[.pointer (some ⟨d,0,none⟩),.string k] w fun r w'=>r=.int .i64 (unlinkD st k).2∧Sat R (DiskAt d (unlinkD st k).1::Hs) w':=by
 apply call104
 refine new_rule hw fun bd w hw=>new_rule hw fun bn w hw=>?_
 have hw:Sat R (DiskAt d st::box bd (.pointer (some ⟨d,0,none⟩)) 25::box bn (.string k) 9::Hs) w:=
  (hw.take (DiskAt d st)).cons fun _ h=>h.swap
 have toS:∀ {w},Sat R (box bd (.pointer (some ⟨d,0,none⟩)) 25::box bn (.string k) 9::Hs) w→Sat R (box bd (.pointer (some ⟨d,0,none⟩)) 25::box bn (.string k) 9::VC.tru::[]) w:=fun h=>
  Sat.toTru (As:=[_,_]) h
 have hm:∀ (R:Cx) (X:List HP) st m a q f b w,Inv st→getM k a=none→er (a++(k,q,f)::b)=st.fs→Sat R (DO d m (a++(k,q,f)::b) st (X++(box bd (.pointer (some ⟨d,0,none⟩)) 25::box bn (.string k) 9::Hs))) w→
   CalW Tryz.prog cl (.func (.func 141) #[] #[.pointer (some ⟨bd,0,none⟩),.pointer (some ⟨bn,0,none⟩)]) [.pointer (some ⟨q,0,none⟩)] w (fun e w'=>e=.returned (.tuple #[])∧(unlinkG k st).2=0∧Sat R (DiskAt d (unlinkG k st).1::(X++(box bd (.pointer (some ⟨d,0,none⟩)) 25::box bn (.string k) 9::Hs))) w'):=by
  intro R X st m a q f b w i ha hE hw
  show Calls Tryz.prog _ _ w _
  refine (unlink1_spec i ha hE hw).use ?_
  rintro _ w ⟨rfl,h⟩;exact ⟨rfl,h⟩
 have hn:∀ st,getM k st.fs=none→unlinkG k st=(st,2):=by intro st h;unfold unlinkG;rw [h];rfl
 refine drw_rule' (fun w=>Sat R (box bd (.pointer (some ⟨d,0,none⟩)) 25::box bn (.string k) 9::tru::[]) w) hw (fun w h=>toS h.drop) fun w hw=>?_
 refine ⟨_,At.own selfS (by exact ⟨rfl,trivial⟩),_,At.own selfS (by exact ⟨rfl,trivial⟩),_,At.own selfS (by exact ⟨rfl,trivial⟩),_,At.own selfS (by exact ⟨rfl,trivial⟩),?_,?_⟩
 ·refine (one_spec (unlinkG k) i rfl hw hm hn).use ?_
  rintro c w ⟨Hs',hw,back,k2⟩
  refine ⟨c,rfl,toS (back _ _ hw.drop),new_rule hw fun bt w hw=>?_⟩
  obtain ⟨hc,hwl⟩:=Sat.lend.1 hw
  refine ⟨toS (back _ _ hw.drop.drop),(k2 _ _ [k] w hwl (ro_one hc) (by simp)).use ?_⟩
  rw [all_one]
  rintro _ w ⟨rfl,hw⟩
  have hw:=(Sat.lend.2 ⟨hc,hw⟩).drop
  exact ⟨_,rfl,toS (back _ _ hw.drop),rfl,hw.cons fun _ h=>(back _ _ h).drop.drop⟩
 ·refine new_rule hw fun bt w hw=>?_
  obtain ⟨hc,hwl⟩:=Sat.lend.1 hw
  refine ⟨toS hw.drop.drop,?_⟩
  refine (one_spec (unlinkG k) i rfl hwl hm hn).use ?_
  rintro c w ⟨Hs',hw,back,k2⟩
  refine ⟨c,rfl,toS (back _ _ (Sat.lend.2 ⟨hc,hw⟩).drop.drop),(k2 _ _ [k] w hw (ro_one hc) (by simp)).use ?_⟩
  rw [all_one]
  rintro _ w ⟨rfl,hw⟩
  have hw:=(Sat.lend.2 ⟨hc,hw⟩).drop
  exact ⟨_,rfl,toS (back _ _ hw.drop),rfl,hw.cons fun _ h=>(back _ _ h).drop.drop⟩
end Go.Proofs.YtkfedbncmfnpnaaGreatDoor
/- The disk: Rename. Condition: none. -/
namespace Go.Proofs.YtkfedbncmfnpnaaGreatDoor
set_option linter.unusedVariables false
set_option linter.unusedSimpArgs false
open Go Go.VC
variable {R:Cx} {Hs Rest:List HP} {w:World}
theorem delM_map {β γ:Type} (g:β→γ) (k:ByteArray):∀ l:List (ByteArray × β),(delM k l).map (fun e=>(e.1,g e.2))=delM k (l.map fun e=>(e.1,g e.2))
 |[]=>rfl
 |e::l=>by
  rw [delM,List.map_cons,delM]
  split
  ·rfl
  ·rw [List.map_cons,delM_map g k l]
theorem delM_none {β:Type} {k:ByteArray}:∀ {l:List (ByteArray × β)},getM k l=none→delM k l=l
 |[],_=>rfl
 |e::l,h=>by
  rw [getM] at h
  split at h
  ·cases h
  ·rename_i hne;rw [delM,if_neg hne,delM_none h]
theorem getM_del_ne {β:Type} {k k2:ByteArray} (hne:k≠k2):∀ {l:List (ByteArray × β)},getM k (delM k2 l)=getM k l
 |[]=>rfl
 |e::l=>by
  rw [delM]
  split
  ·rename_i h
   have:=(MapKept.bytes_beq _ _).1 h
   rw [getM,←this,if_neg (by rw [ba_ne hne];simp)]
  ·rw [getM,getM,getM_del_ne hne]
theorem er_del (k:ByteArray) (E:List DE):er (delM k E)=delM k (er E):=delM_map (fun x:Nat × Fl=>x.2) k E
theorem ptrs_del (k:ByteArray) (E:List DE):ptrs (delM k E)=delM k (ptrs E):=delM_map (fun x:Nat × Fl=>Value.pointer (some ⟨x.1,0,none⟩)) k E
theorem gone_open {d m:Nat} {E:List DE} {st:DS} (i:Inv st) (k:ByteArray) (hE:er E=st.fs) (hw:Sat R (DO d m E st Hs) w):
  Gets Tryz.prog 142 #[.pointer (some ⟨d,0,none⟩),.string k] w fun r w'=>r=.tuple #[]∧Sat R (DO d m (delM k E) { st with fs:=delM k st.fs } Hs) w':=by
 have hnn:=total_nn st.fs
 have r1:=i.r1;have hfull:=i.full
 apply call142
 refine NilP.mk rfl ⟨some m,At.own (eqS hw) (by exact ⟨rfl,trivial⟩),_,_,fun w' hw'=>DO.look (eqS hw _ hw') k true,?_⟩
 refine Br.mk (fun hk=>?_) (fun hk=>?_)
 ·obtain ⟨⟨q,f⟩,hf⟩:=Option.isSome_iff_exists.1 hk
  obtain ⟨a,b,rfl,ha⟩:=getM_split hf
  rw [hf]
  have ht:total st.fs=total (er a++er b) + f.b.length:=by rw [←hE,er_app,er_cons,total_one]
  have hnn2:=total_nn (er a++er b)
  have hw:Sat R (FilesAt (a++(k,q,f)::b)::pts d (dCells st m)::MapAt m (ptrs (a++(k,q,f)::b))::Hs) w:=(hw.cons fun _ h=>h.swap).swap
  obtain ⟨s,hw⟩:=Sat.file.1 (Sat.split.1 hw)
  have hlen:s.len=f.b.length:=by have:=Own.len hw.swap;rwa [List.length_map] at this
  refine drw_rule hw fun w hw=>?_
  refine NilP.mk rfl ⟨total st.fs,At.own selfS (by exact ⟨rfl,trivial⟩),NilP.mk rfl ⟨s,by rw [add_off];exact At.own selfS (by exact ⟨rfl,trivial⟩),NilP.mk rfl ?_⟩⟩
  rw [wrap64 (by omega) (by omega)]
  refine store_rule hw (by kernel_rfl) rfl (by simp [Value.cells]) fun w hw=>NilP.mk rfl ⟨some m,At.own (eqS hw) (by exact ⟨rfl,trivial⟩),?_⟩
  refine MapAt.del mapT (hw.take (MapAt m (ptrs (a++(k,q,f)::b)))) k fun w hw=>⟨rfl,?_⟩
  have ep:delM k (ptrs (a++(k,q,f)::b))=ptrs (a++b):=by
   rw [ptrs_app,show ptrs ((k,q,f)::b)=(k,Value.pointer (some ⟨q,0,none⟩))::ptrs b from rfl,delM_app (by rw [ptrs_get,ha];rfl) (ba_rfl k),←ptrs_app]
  have eE:delM k (a++(k,q,f)::b)=a++b:=delM_app ha (ba_rfl k)
  have ef:delM k st.fs=er (a++b):=by rw [←hE,←er_del,eE]
  rw [ep] at hw
  rw [eE]
  unfold DO dCells
  simp only [ef,er_app]
  have e3:total st.fs - (s.len:Int)=total (er a++er b):=by omega
  rw [e3] at hw
  exact hw.swap.cons fun _ h=>h.cons fun _ h=>h.drop.drop
 ·simp only [Option.isSome_eq_false_iff,Option.isNone_iff_eq_none] at hk
  rw [delM_none hk,delM_none (by rw [←hE,er_get,hk];rfl)]
  exact ⟨rfl,hw⟩
def renameG (k to:ByteArray) (st:DS):DS × Int:=
 match getM k st.fs with
 |some f=>if k=to then (st,0) else ({ st with fs:=delM k (delM to st.fs)++[(to,f)] },0)
 |none=>(st,2)
def renameD (st:DS) (k to:ByteArray):DS × Int:=doing st (nameOk k && nameOk to) (renameG k to)
theorem getM_del_self {β:Type} (k:ByteArray):∀ {l:List (ByteArray × β)},(l.map (·.1)).Nodup→getM k (delM k l)=none
 |[],_=>rfl
 |e::l,h=>by
  rw [List.map_cons,List.nodup_cons] at h
  rw [delM]
  split
  ·rename_i hk
   have e1:=(MapKept.bytes_beq _ _).1 hk
   exact getM_of_notin (by rw [e1];exact h.1)
  ·rename_i hk
   rw [getM,if_neg hk,getM_del_self k h.2]
theorem total_get {k:ByteArray} {f:Fl}:∀ {fs:Fs},getM k fs=some f→total fs=total (delM k fs) + f.b.length
 |fs,h=>by
  obtain ⟨a,b,rfl,ha⟩:=getM_split h
  rw [delM_app ha (ba_rfl k),total_one]
theorem rename1_spec {d m q bd bn bt:Nat} {st:DS} {a b:List DE} {k to:ByteArray} {f:Fl} (i:Inv st) (ha:getM k a=none) (hE:er (a++(k,q,f)::b)=st.fs) (hw:Sat R (DO d m (a++(k,q,f)::b) st Hs) w)
  {Rest1 Rest2 Rest3:List HP} {T1 T2 T3:TypeId} [t1:TakeP bd Hs (.cells [.pointer (some ⟨d,0,none⟩)].toArray T1 (0,0)) Rest1] [t2:TakeP bn Hs (.cells [.string k].toArray T2 (0,0)) Rest2] [t3:TakeP bt Hs (.cells [.string to].toArray T3 (0,0)) Rest3]:
  Gets Tryz.prog 172 #[.pointer (some ⟨q,0,none⟩),.pointer (some ⟨bn,0,none⟩),.pointer (some ⟨bt,0,none⟩),.pointer (some ⟨bd,0,none⟩)] w fun r w'=>r=.tuple #[]∧(renameG k to st).2=0∧Sat R (DiskAt d (renameG k to st).1::Hs) w':=by
 have hk0:getM k (a++(k,q,f)::b)=some (q,f):=getM_app ha (ba_rfl k)
 have hk:getM k st.fs=some f:=by rw [←hE,er_get,hk0];rfl
 apply call172
 refine NilP.mk rfl ⟨k,At.own (eqS hw) (by exact ⟨rfl,trivial⟩),NilP.mk rfl ⟨to,At.own (eqS hw) (by exact ⟨rfl,trivial⟩),?_⟩⟩
 have hto:(k.toList==to.toList)=decide (k=to):=by
  rw [ByteArray.toList_eq,ByteArray.toList_eq]
  by_cases h:k=to
  ·simp [h]
  ·have:k.data≠to.data:=fun h2=>h (by cases k;cases to;simp_all)
   simp [h,this]
 rw [hto]
 refine Br.mk (fun h=>?_) (fun h=>?_)<;>simp only [decide_eq_true_eq,decide_eq_false_iff_not] at h
 ·have e:renameG k to st=(st,0):=by unfold renameG;rw [hk];exact if_pos h
  rw [e]
  exact ⟨rfl,rfl,DO.shut hE hw⟩
 have e:renameG k to st=({ st with fs:=delM k (delM to st.fs)++[(to,f)] },0):=by unfold renameG;rw [hk];exact if_neg h
 rw [e]
 refine NilP.mk rfl ⟨_,At.own (eqS hw) (by exact ⟨rfl,trivial⟩),NilP.mk rfl ⟨_,At.own (eqS hw) (by exact ⟨rfl,trivial⟩),?_⟩⟩
 refine (gone_open i to hE hw).use ?_
 rintro _ w ⟨rfl,hw⟩
 refine ⟨rfl,?_⟩
 generalize hEe:delM to (a++(k,q,f)::b)=E1 at hw
 have hk1:getM k E1=some (q,f):=by rw [←hEe,getM_del_ne h,hk0]
 have hE1:er E1=delM to st.fs:=by rw [←hEe,er_del,hE]
 have hu1:(E1.map (·.1)).Nodup:=by
  rw [←hEe]
  have hu:((a++(k,q,f)::b).map (·.1)).Nodup:=by
   have:(a++(k,q,f)::b).map (·.1)=st.fs.map (·.1):=by rw [←hE];simp [er,Function.comp_def]
   rw [this];exact i.uni
  exact ((delM_sub to _).map _).nodup hu
 have htonone:getM to E1=none:=by
  rw [←hEe]
  refine getM_del_self to ?_
  have:(a++(k,q,f)::b).map (·.1)=st.fs.map (·.1):=by rw [←hE];simp [er,Function.comp_def]
  rw [this];exact i.uni
 obtain ⟨a1,b1,rfl,ha1⟩:=getM_split hk1
 have hdel:delM k (a1++(k,q,f)::b1)=a1++b1:=delM_app ha1 (ba_rfl k)
 refine drw_rule' (fun w=>Sat R (pts d (dCells { st with fs:=delM to st.fs } m)::FilesAt (a1++(k,q,f)::b1)::Hs) w) hw (fun w h=>h.swap.drop) fun w hw=>?_
 refine NilP.mk rfl ⟨some ⟨d,0,none⟩,At.own selfS (by exact ⟨rfl,trivial⟩),NilP.mk rfl ⟨some m,At.own selfS (by exact ⟨rfl,trivial⟩),NilP.mk rfl ⟨k,At.own selfS (by exact ⟨rfl,trivial⟩),?_⟩⟩⟩
 have ep:delM k (ptrs (a1++(k,q,f)::b1))=ptrs (a1++b1):=by rw [←ptrs_del,hdel]
 refine MapAt.del mapT (hw.take (MapAt m (ptrs (a1++(k,q,f)::b1)))) k fun w hw=>?_
 rw [ep] at hw
 refine ⟨hw.drop,drw_rule hw fun w hw=>?_⟩
 refine NilP.mk rfl ⟨some ⟨d,0,none⟩,At.own selfS (by exact ⟨rfl,trivial⟩),NilP.mk rfl ⟨some m,At.own selfS (by exact ⟨rfl,trivial⟩),NilP.mk rfl ⟨to,At.own selfS (by exact ⟨rfl,trivial⟩),?_⟩⟩⟩
 refine MapAt.put mapT hw to (.pointer (some ⟨q,0,none⟩)) fun w hw=>⟨rfl,rfl,?_⟩
 have hno:getM to (a1++b1)=none:=by rw [←hdel,getM_del_ne (fun h2=>h h2.symm)];exact htonone
 have ep2:putM to (.pointer (some ⟨q,0,none⟩)) (ptrs (a1++b1))=ptrs (a1++b1++[(to,q,f)]):=by
  unfold putM;rw [ptrs_get,hno];simp [ptrs]
 rw [ep2] at hw
 have ef:delM k (delM to st.fs)++[(to,f)]=er (a1++b1++[(to,q,f)]):=by
  rw [er_app,←hdel,er_del,hE1];rfl
 have ht:total (delM k (delM to st.fs)++[(to,f)])=total (delM to st.fs):=by
  have hg:getM k (delM to st.fs)=some f:=by rw [←hE1,er_get,hk1];rfl
  rw [total_get hg,total_app];simp [total_cons,total_nil]
 refine Sat.disk.2 ⟨m,a1++b1++[(to,q,f)],ef.symm,?_⟩
 unfold dCells
 simp only [ht]
 refine hw.swap.cons fun _ h=>h.cons fun _ h=>?_
 have h2:=Sat.split.1 h
 have h3:Sat _ (FilesAt ((a1++b1)++(to,q,f)::[])::Hs) w:=Sat.split.2 (by simpa using h2)
 simpa using h3
theorem renameG_inv {st:DS} {k to:ByteArray} (i:Inv st) (hto:nameOk to=true):Inv (renameG k to st).1:=by
 unfold renameG
 split
 ·rename_i f hf
  split
  ·exact i
  ·rename_i hne
   have hg:getM k (delM to st.fs)=some f:=by rw [getM_del_ne hne];exact hf
   have hno:getM to (delM k (delM to st.fs))=none:=by rw [getM_del_ne (fun h2=>hne h2.symm)];exact getM_del_self to i.uni
   have hfm:f.sure≤f.b.length:=by
    obtain ⟨a,b,e,_⟩:=getM_split hf
    exact i.sure (k,f) (by rw [e];simp)
   refine { toCounts:=⟨i.a0,i.a1,i.f0,i.f1⟩,r0:=i.r0,r1:=i.r1,full:=?_,uni:=uni_app (uni_del (uni_del i.uni to) k) hno,names:=?_,sure:=sure_app (sure_del (sure_del i.sure to) k) hfm }
   all_goals (have:=total_get hg)
   all_goals (have h2:=delM_total to st.fs)
   all_goals (have:=i.full)
   ·simp only [total_app,total_cons,total_nil]
    omega
   ·intro x hx
    simp only [List.map_append,List.mem_append] at hx
    rcases hx with hx|hx
    ·exact i.names x ((((delM_sub k _).trans (delM_sub to st.fs)).map _).subset hx)
    ·simp at hx;subst hx;exact hto
 ·exact i
theorem rename_inv {st:DS} (i:Inv st) (k to:ByteArray):Inv (renameD st k to).1:=by
 unfold renameD doing
 split
 ·rename_i h;have h2:=chg_ok h;simp only [Bool.and_eq_true] at h2;exact renameG_inv (chg_inv i _) h2.2
 ·exact chg_inv i _
theorem rename_spec {d:Nat} {st:DS} {k to:ByteArray} (i:Inv st) (hw:Sat R (DiskAt d st::Hs) w):
  Gets Tryz.prog 130 #[.pointer (some ⟨d,0,none⟩),.string k,.string to] w fun r w'=>r=.int .i64 (renameD st k to).2∧Sat R (DiskAt d (renameD st k to).1::Hs) w':=by
 apply call130
 refine new_rule hw fun bd w hw=>new_rule hw fun bn w hw=>new_rule hw fun bto w hw=>?_
 have hw:Sat R (DiskAt d st::box bd (.pointer (some ⟨d,0,none⟩)) 25::box bn (.string k) 9::box bto (.string to) 9::Hs) w:=
  (hw.take (DiskAt d st)).cons fun _ h=>(h.take (box bd (.pointer (some ⟨d,0,none⟩)) 25)).cons fun _ h=>h.swap
 have toS:∀ {w},Sat R (box bd (.pointer (some ⟨d,0,none⟩)) 25::box bn (.string k) 9::box bto (.string to) 9::Hs) w→Sat R (box bd (.pointer (some ⟨d,0,none⟩)) 25::box bn (.string k) 9::box bto (.string to) 9::VC.tru::[]) w:=fun h=>
  Sat.toTru (As:=[_,_,_]) h
 have hm:∀ (R:Cx) (X:List HP) st m a q f b w,Inv st→getM k a=none→er (a++(k,q,f)::b)=st.fs→Sat R (DO d m (a++(k,q,f)::b) st (X++(box bd (.pointer (some ⟨d,0,none⟩)) 25::box bn (.string k) 9::box bto (.string to) 9::Hs))) w→
   CalW Tryz.prog cl (.func (.func 172) #[] #[.pointer (some ⟨bn,0,none⟩),.pointer (some ⟨bto,0,none⟩),.pointer (some ⟨bd,0,none⟩)]) [.pointer (some ⟨q,0,none⟩)] w (fun e w'=>e=.returned (.tuple #[])∧(renameG k to st).2=0∧Sat R (DiskAt d (renameG k to st).1::(X++(box bd (.pointer (some ⟨d,0,none⟩)) 25::box bn (.string k) 9::box bto (.string to) 9::Hs))) w'):=by
  intro R X st m a q f b w i ha hE hw
  show Calls Tryz.prog _ _ w _
  refine (rename1_spec i ha hE hw).use ?_
  rintro _ w ⟨rfl,h⟩;exact ⟨rfl,h⟩
 have hn:∀ st,getM k st.fs=none→renameG k to st=(st,2):=by intro st h;unfold renameG;rw [h]
 have all2:[k,to].all nameOk=(nameOk k && nameOk to):=by simp
 refine drw_rule' (fun w=>Sat R (box bd (.pointer (some ⟨d,0,none⟩)) 25::box bn (.string k) 9::box bto (.string to) 9::tru::[]) w) hw (fun w h=>toS h.drop) fun w hw=>?_
 refine ⟨_,At.own selfS (by exact ⟨rfl,trivial⟩),_,At.own selfS (by exact ⟨rfl,trivial⟩),_,At.own selfS (by exact ⟨rfl,trivial⟩),_,At.own selfS (by exact ⟨rfl,trivial⟩),_,At.own selfS (by exact ⟨rfl,trivial⟩),?_,?_⟩
 ·refine (one_spec (renameG k to) i rfl hw hm hn).use ?_
  rintro c w ⟨Hs',hw,back,k2⟩
  refine ⟨c,rfl,toS (back _ _ hw.drop),new_rule hw fun bt w hw=>?_⟩
  obtain ⟨hc,hwl⟩:=Sat.lend.1 hw
  refine ⟨toS (back _ _ hw.drop.drop),(k2 _ _ [k,to] w hwl (ro_two hc) (by simp)).use ?_⟩
  rw [all2]
  rintro _ w ⟨rfl,hw⟩
  have hw:=(Sat.lend.2 ⟨hc,hw⟩).drop
  exact ⟨_,rfl,toS (back _ _ hw.drop),rfl,hw.cons fun _ h=>(back _ _ h).drop.drop.drop⟩
 ·refine new_rule hw fun bt w hw=>?_
  obtain ⟨hc,hwl⟩:=Sat.lend.1 hw
  refine ⟨toS hw.drop.drop,?_⟩
  refine (one_spec (renameG k to) i rfl hwl hm hn).use ?_
  rintro c w ⟨Hs',hw,back,k2⟩
  refine ⟨c,rfl,toS (back _ _ (Sat.lend.2 ⟨hc,hw⟩).drop.drop),(k2 _ _ [k,to] w hw (ro_two hc) (by simp)).use ?_⟩
  rw [all2]
  rintro _ w ⟨rfl,hw⟩
  have hw:=(Sat.lend.2 ⟨hc,hw⟩).drop
  exact ⟨_,rfl,toS (back _ _ hw.drop),rfl,hw.cons fun _ h=>(back _ _ h).drop.drop.drop⟩
end Go.Proofs.YtkfedbncmfnpnaaGreatDoor
/-
  DERIVED: THE SHELF's CONTRACTS AT THIS DUMP, IN PLAIN WORDS (tools/lay-plain.mjs out of 'TryIter.lean', which tools/lay-shelf.mjs wrote): THE SAME DECLARATIONS UNDER THE SAME NAMES: 'import', 'namespace', 'open', 'def', 'theorem' AND NOTHING ELSE: no command of the shelf's: FOR A HAND-IN. Each laying: the table of numbers ('.._ren') and one theorem, a field a fact of the dump's own or the kernel's comparison; each contract: ONE APPLICATION.
-/
namespace Go.Proofs
set_option linter.unusedVariables false
set_option linter.unusedSimpArgs false
open Go.Shelf
def Tryz.keys76_ren:Go.Shelf.Ren:=⟨fun|7=>76|10=>121|n=>n,fun|23=>76|26=>9|3=>104|28=>115|0=>0|27=>114|33=>129|4=>4|n=>n,fun|n=>n⟩
theorem Tryz.keys76:Go.Proofs.SlLaysZ.n7 Tryz.prog Tryz.keys76_ren:={
  mixed:=by kernel_rfl
  f7:=⟨Tryz.f76.name,by decide,Tryz.func76.trans (congrArg some (by kernel_rfl))⟩
  f10:=⟨Tryz.f121.name,by decide,Tryz.func121.trans (congrArg some (by kernel_rfl))⟩
  t0:=Tryz.underlying0
  a0:=Tryz.isAgg0
  z0:=Tryz.sizeOf0
  v0:=Tryz.zeroValue0
  t4:=Tryz.underlying4
  a4:=Tryz.isAgg4
  z4:=Tryz.sizeOf4
  v4:=Tryz.zeroValue4
  t23:=Tryz.underlying76
  a23:=Tryz.isAgg76
  z23:=Tryz.sizeOf76
  v23:=Tryz.zeroValue76
  t26:=Tryz.underlying9
  a26:=Tryz.isAgg9
  z26:=Tryz.sizeOf9
  v26:=Tryz.zeroValue9
  t27:=Tryz.underlying114
  a27:=Tryz.isAgg114
  z27:=Tryz.sizeOf114
  v27:=Tryz.zeroValue114
  t28:=Tryz.underlying115
  a28:=Tryz.isAgg115
  z28:=Tryz.sizeOf115
  v28:=Tryz.zeroValue115
  t33:=Tryz.underlying129
  a33:=Tryz.isAgg129
  z33:=Tryz.sizeOf129
  v33:=Tryz.zeroValue129 }
def Tryz.sorted75_ren:Go.Shelf.Ren:=⟨fun|6=>75|8=>119|9=>120|11=>168|13=>170|12=>169|23=>206|24=>165|14=>197|15=>198|16=>199|17=>200|18=>201|19=>202|20=>203|21=>204|22=>205|25=>227|26=>228|27=>229|28=>230|29=>231|30=>232|31=>241|n=>n,fun|26=>9|28=>115|24=>66|0=>0|3=>3|37=>159|48=>182|50=>148|4=>4|40=>215|39=>214|45=>219|5=>5|9=>9|51=>243|55=>75|57=>261|58=>262|33=>129|n=>n,fun|n=>n⟩
theorem Tryz.sorted75:Go.Proofs.SlLaysZ.n6 Tryz.prog Tryz.sorted75_ren:={
  mixed:=by kernel_rfl
  f6:=⟨Tryz.f75.name,by decide,Tryz.func75.trans (congrArg some (by kernel_rfl))⟩
  f8:=⟨Tryz.f119.name,by decide,Tryz.func119.trans (congrArg some (by kernel_rfl))⟩
  f11:=⟨Tryz.f168.name,by decide,Tryz.func168.trans (congrArg some (by kernel_rfl))⟩
  t0:=Tryz.underlying0
  a0:=Tryz.isAgg0
  z0:=Tryz.sizeOf0
  v0:=Tryz.zeroValue0
  t24:=Tryz.underlying66
  a24:=Tryz.isAgg66
  z24:=Tryz.sizeOf66
  v24:=Tryz.zeroValue66
  t26:=Tryz.underlying9
  a26:=Tryz.isAgg9
  z26:=Tryz.sizeOf9
  v26:=Tryz.zeroValue9
  t28:=Tryz.underlying115
  a28:=Tryz.isAgg115
  z28:=Tryz.sizeOf115
  v28:=Tryz.zeroValue115
  i26:=by kernel_rfl }
def Tryz.sort120_ren:Go.Shelf.Ren:=⟨fun|6=>120|8=>170|9=>169|19=>206|20=>165|21=>197|22=>198|23=>199|24=>200|25=>201|26=>202|27=>203|28=>204|29=>205|36=>227|31=>228|32=>229|37=>230|38=>231|39=>232|41=>241|n=>n,fun|27=>66|29=>9|3=>3|32=>159|26=>66|0=>0|44=>182|46=>148|4=>4|36=>215|35=>214|41=>219|5=>5|9=>9|53=>243|57=>75|63=>261|64=>262|n=>n,fun|n=>n⟩
theorem Tryz.sort120:Go.Proofs.SlLaysM.n6 Tryz.prog Tryz.sort120_ren:={
  mixed:=by kernel_rfl
  f6:=⟨Tryz.f120.name,by decide,Tryz.func120.trans (congrArg some (by kernel_rfl))⟩
  f8:=Tryz.func170.trans (congrArg some (by kernel_rfl))
  f9:=⟨Tryz.f169.name,by decide,Tryz.func169.trans (congrArg some (by kernel_rfl))⟩
  f19:=Tryz.func206.trans (congrArg some (by kernel_rfl))
  f20:=Tryz.func165.trans (congrArg some (by kernel_rfl))
  f21:=⟨Tryz.f197.name,by decide,Tryz.func197.trans (congrArg some (by kernel_rfl))⟩
  f22:=⟨Tryz.f198.name,by decide,Tryz.func198.trans (congrArg some (by kernel_rfl))⟩
  f23:=⟨Tryz.f199.name,by decide,Tryz.func199.trans (congrArg some (by kernel_rfl))⟩
  f24:=⟨Tryz.f200.name,by decide,Tryz.func200.trans (congrArg some (by kernel_rfl))⟩
  f25:=⟨Tryz.f201.name,by decide,Tryz.func201.trans (congrArg some (by kernel_rfl))⟩
  f26:=⟨Tryz.f202.name,by decide,Tryz.func202.trans (congrArg some (by kernel_rfl))⟩
  f27:=⟨Tryz.f203.name,by decide,Tryz.func203.trans (congrArg some (by kernel_rfl))⟩
  f28:=⟨Tryz.f204.name,by decide,Tryz.func204.trans (congrArg some (by kernel_rfl))⟩
  f29:=⟨Tryz.f205.name,by decide,Tryz.func205.trans (congrArg some (by kernel_rfl))⟩
  f31:=Tryz.func228.trans (congrArg some (by kernel_rfl))
  f32:=Tryz.func229.trans (congrArg some (by kernel_rfl))
  f36:=⟨Tryz.f227.name,by decide,Tryz.func227.trans (congrArg some (by kernel_rfl))⟩
  f37:=⟨Tryz.f230.name,by decide,Tryz.func230.trans (congrArg some (by kernel_rfl))⟩
  f38:=⟨Tryz.f231.name,by decide,Tryz.func231.trans (congrArg some (by kernel_rfl))⟩
  f39:=⟨Tryz.f232.name,by decide,Tryz.func232.trans (congrArg some (by kernel_rfl))⟩
  f41:=⟨Tryz.f241.name,by decide,Tryz.func241.trans (congrArg some (by kernel_rfl))⟩
  t0:=Tryz.underlying0
  a0:=Tryz.isAgg0
  z0:=Tryz.sizeOf0
  v0:=Tryz.zeroValue0
  t3:=Tryz.underlying3
  a3:=Tryz.isAgg3
  z3:=Tryz.sizeOf3
  v3:=Tryz.zeroValue3
  t4:=Tryz.underlying4
  a4:=Tryz.isAgg4
  z4:=Tryz.sizeOf4
  v4:=Tryz.zeroValue4
  t5:=Tryz.underlying5
  a5:=Tryz.isAgg5
  z5:=Tryz.sizeOf5
  v5:=Tryz.zeroValue5
  t9:=Tryz.underlying9
  a9:=Tryz.isAgg9
  z9:=Tryz.sizeOf9
  v9:=Tryz.zeroValue9
  t26:=Tryz.underlying66
  a26:=Tryz.isAgg66
  z26:=Tryz.sizeOf66
  v26:=Tryz.zeroValue66
  t27:=Tryz.underlying66
  a27:=Tryz.isAgg66
  z27:=Tryz.sizeOf66
  v27:=Tryz.zeroValue66
  t29:=Tryz.underlying9
  a29:=Tryz.isAgg9
  z29:=Tryz.sizeOf9
  v29:=Tryz.zeroValue9
  t32:=Tryz.underlying159
  a32:=Tryz.isAgg159
  z32:=Tryz.sizeOf159
  v32:=Tryz.zeroValue159
  t35:=Tryz.underlying214
  a35:=Tryz.isAgg214
  z35:=Tryz.sizeOf214
  v35:=Tryz.zeroValue214
  t36:=Tryz.underlying215
  a36:=Tryz.isAgg215
  z36:=Tryz.sizeOf215
  v36:=Tryz.zeroValue215
  t41:=Tryz.underlying219
  a41:=Tryz.isAgg219
  z41:=Tryz.sizeOf219
  v41:=Tryz.zeroValue219
  t44:=Tryz.underlying182
  a44:=Tryz.isAgg182
  z44:=Tryz.sizeOf182
  v44:=Tryz.zeroValue182
  t46:=Tryz.underlying148
  a46:=Tryz.isAgg148
  z46:=Tryz.sizeOf148
  v46:=Tryz.zeroValue148
  t53:=Tryz.underlying243
  a53:=Tryz.isAgg243
  z53:=Tryz.sizeOf243
  v53:=Tryz.zeroValue243
  t57:=Tryz.underlying75
  a57:=Tryz.isAgg75
  z57:=Tryz.sizeOf75
  v57:=Tryz.zeroValue75
  t63:=Tryz.underlying261
  a63:=Tryz.isAgg261
  z63:=Tryz.sizeOf261
  v63:=Tryz.zeroValue261
  t64:=Tryz.underlying262
  a64:=Tryz.isAgg262
  z64:=Tryz.sizeOf262
  v64:=Tryz.zeroValue262 }
open Go.RowKit Go.Maps Go.Sort Go.Shelf in
theorem Tryz.sorts75 (m:Nat):AnyZ.SortsIn Tryz.prog Tryz.sorted75_ren Fence.wide m:=
  ⟨fun blk off cap ss W hH hblk hsz=>callsIn_wide.2 (AnyM.slices_Sort_string Tryz.sort120 blk off cap ss W hH hblk hsz),
   fun p cap W=>callsIn_wide.2 (AnyM.slices_Sort_string_none Tryz.sort120 p cap W)⟩
open Go.RowKit Go.Maps Go.Sort Go.Shelf in
theorem Tryz.maps_Keys_76 (mb:Option Nat) (W:World):CallsIn Fence.wide 5 Tryz.prog 76 #[.map mb] W fun e w'=>e=.returned (.func (.func 121) #[] #[.pointer (some ⟨W.heap.size,0,none⟩)])∧w'=W.alloc (.cells #[.map mb] 76):=
  AnyZ.keys_in Tryz.keys76 Fence.wide 5 trivial rfl mb W
open Go.RowKit Go.Maps Go.Sort Go.Shelf in
theorem Tryz.slices_Sorted_keys_75_76 {H:Type} (b nn:Nat) (D0:DataW H) (R:Value→Option (DataW H × List MemPlace)) (w:World) (hown:w.ownsMap Tryz.prog 9 R b nn D0) (hmax:Maps.size D0≤maxLen) (hbytes:Maps.size D0 * 16≤140737488355328):
    CallsIn Fence.wide 5 Tryz.prog 75 #[.func (.func 121) #[] #[.pointer (some ⟨w.heap.size,0,none⟩)]] (w.alloc (.cells #[.map (some b)] 76)) fun e w'=>∃ (v:Value) (ss:List (List UInt8)),e=.returned v∧ss.Perm (strKeys D0)∧
      w'.ownsRow (w.alloc (.cells #[.map (some b)] 76)).heap.size 9 1 v ss.length ((ss.mergeSort (fun x y=>decide (x≤y))).map encStr)∧(v=.slice none 0 0↔ss=[])∧Below (w.alloc (.cells #[.map (some b)] 76)).heap.size (w.alloc (.cells #[.map (some b)] 76)) w':=by
  have hbl:=hown.lt
  have hseq:SeqGives Fence.wide 2 Tryz.prog 121 #[.pointer (some ⟨w.heap.size,0,none⟩)] encStr (fun ss=>ss.Perm (strKeys D0)) (Maps.size D0) (w.alloc (.cells #[.map (some b)] 76)):=
    AnyZ.keys_gives (ρ:=Tryz.keys76_ren) { Tryz.keys76 with } Fence.wide _ trivial rfl (by omega) w.heap.size b nn D0 _ (by simp) (by simp) (by
      obtain ⟨es,clock,hb,Ft,hs,hD⟩:=hown
      exact ⟨es,clock,(Below.heap_alloc _ _ b hbl).trans hb,Ft,hs,hD⟩)
  exact AnyZ.sorted_in Tryz.sorted75 Fence.wide 5 trivial trivial trivial trivial rfl (by omega) (Tryz.sorts75 _) (enters_of Tryz.func120 (by kernel_rfl) rfl) 121 #[.pointer (some ⟨w.heap.size,0,none⟩)] trivial (enters_of Tryz.func121 (by kernel_rfl) rfl) _ _ hmax hbytes _ hseq
end Go.Proofs
/- The disk: Names. Condition: a bound on how many files there are. -/
namespace Go.Proofs.YtkfedbncmfnpnaaGreatDoor
set_option linter.unusedVariables false
set_option linter.unusedSimpArgs false
open Go Go.VC
variable {R:Cx} {Hs Rest:List HP} {w:World}
def namesOf (fs:Fs):List ByteArray:=((fs.map fun e=>e.1.data.toList).mergeSort (fun x y=>decide (x≤y))).map fun l=>⟨l.toArray⟩
theorem names_mapT {m c:Nat} {l:List (En ByteArray)} {E:List DE} (hs:strip l=ptrs E) (hst:StampsOk l c) (hu:(E.map (·.1)).Nodup) (hn:∀ k∈E.map (·.1),k.size≤64) (hlen:E.length≤1000000)
  (hm:w.heap[m]? =some (.map (l.map mkE).toArray c)):
  ∃ D0:DataW Unit,w.ownsMap Tryz.prog 9 (fun _=>some (.nil,[])) m 1000000 D0∧Maps.size D0≤1000000∧∀ ss:List (List UInt8),ss.Perm (strKeys D0)→ss.Perm (E.map fun e=>e.1.data.toList):=by
 have hkeys:l.map (·.1)=E.map (·.1):=by
  have h1:(strip l).map (·.1)=l.map (·.1):=by simp [strip,Function.comp_def]
  have h2:(ptrs E).map (·.1)=E.map (·.1):=by simp [ptrs,Function.comp_def]
  rw [←h1,hs,h2]
 have hlen2:l.length=E.length:=by have:=congrArg List.length hkeys;simpa using this
 have hkey:∀ e∈l,keyOf Tryz.prog 9 (mkE e).key=some (.string e.1.data.toList):=fun e he=>by
  have hm:e.1∈E.map (·.1):=by rw [←hkeys];exact List.mem_map_of_mem he
  have hsz:=hn _ hm
  simp only [keyOf,Tryz.underlying9,mkE,mapKey,KeyK.enc]
  rw [if_pos (by unfold maxLen;omega)]
 have hrd:∀ e∈l,WideElems.rd Tryz.prog 9 (fun _=>some ((.nil:DataW Unit),[])) (mkE e)=some (.string e.1.data.toList,.nil):=fun e he=>by
  unfold WideElems.rd
  rw [hkey e he];rfl
 have hrg:((l.map mkE).map (WideElems.rg Tryz.prog 9 (fun _=>some ((.nil:DataW Unit),[]))))=l.map fun e=>(.string e.1.data.toList,.nil):=by
  rw [List.map_map]
  apply List.map_congr_left
  intro e he
  simp only [Function.comp,WideElems.rg,hrd e he,Option.getD_some]
 refine ⟨_,⟨(l.map mkE).toArray,c,hm,⟨by simp [maxLen];omega,?_,?_⟩,by simp;omega,rfl⟩,?_,?_⟩
 ·refine ⟨fun x hx=>?_,?_,?_⟩
  ·simp only [List.mem_map] at hx
   obtain ⟨e,he,rfl⟩:=hx
   exact hst.1 e he
  ·have:=hst.2;simpa [mkE,Function.comp_def] using this
  ·have h2:(l.map (·.1)).Nodup:=by rw [hkeys];exact hu
   have e1:((l.map mkE).toArray.toList.map (·.key))=(l.map (·.1)).map Value.string:=by simp [mkE,Function.comp_def,KeyK.enc]
   rw [e1]
   exact List.Pairwise.map _ (fun a b hab h=>hab (by injection h)) h2
 ·intro x hx
  simp only [List.mem_map] at hx
  obtain ⟨e,he,rfl⟩:=hx
  exact ⟨_,hrd e he⟩
 ·simp only [Maps.size,hrg]
  rw [(WideShapes.sorted_perm _).length_eq];simp;omega
 ·intro ss hss
  refine hss.trans ?_
  simp only [strKeys,hrg]
  refine ((WideShapes.sorted_perm _).map _).trans ?_
  have:(l.map fun e=>((Lit.string e.1.data.toList,DataW.nil):Lit × DataW Unit)).map (fun p=>Go.strOf p.1)=E.map fun e=>e.1.data.toList:=by
   rw [List.map_map]
   show l.map (fun e=>e.1.data.toList)=_
   have:=congrArg (List.map fun k:ByteArray=>k.data.toList) hkeys
   simpa [Function.comp_def] using this
  rw [this]
theorem nameOk_size {k:ByteArray} (h:nameOk k=true):k.size≤64:=by
 unfold nameOk at h;simp at h;exact h.1.2
theorem er_keys (E:List DE):(er E).map (·.1)=E.map (·.1):=by simp [er,Function.comp_def]
theorem names_spec {d:Nat} {st:DS} (i:Inv st) (hc:st.fs.length≤1000000) (hw:Sat R (DiskAt d st::Hs) w):
  Gets Tryz.prog 33 #[.pointer (some ⟨d,0,none⟩)] w fun r w'=>∃ s:Sl,r=.slice s.a s.len s.cap∧Sat R (Own s 9 ((namesOf st.fs).map Value.string)::DiskAt d st::Hs) w':=by
 obtain ⟨m,E,hE,hw⟩:=Sat.disk.1 hw
 apply call33
 refine NilP.mk rfl ⟨some m,At.own (eqS hw) (by exact ⟨rfl,trivial⟩),?_⟩
 have hw2:=hw.take (MapAt m (ptrs E))
 obtain ⟨l,c,hs,hst,hp⟩:=MapAt.iff.1 hw2
 have hu:(E.map (·.1)).Nodup:=by rw [←er_keys,hE];exact i.uni
 have hlen:E.length≤1000000:=by have:=congrArg List.length hE;simp [er] at this;omega
 obtain ⟨D0,hown,hsz,hperm⟩:=names_mapT hs hst hu (fun k hk=>nameOk_size (i.names k (by rw [←hE,er_keys];exact hk))) hlen hp.at
 refine (callsIn_wide.1 (Tryz.maps_Keys_76 (some m) w)).mono ?_
 rintro _ _ ⟨rfl,rfl⟩
 refine ⟨_,rfl,?_⟩
 refine (callsIn_wide.1 (Tryz.slices_Sorted_keys_75_76 m _ D0 _ w hown (by unfold maxLen;omega) (by omega))).mono ?_
 rintro _ w' ⟨v,ss,rfl,hS,hrow,hnil,hb⟩
 have hw1:Sat R (DO d m E st Hs) (w.alloc (.cells #[.map (some m)] 76)):=(Sat.alloc _ hw).drop
 obtain ⟨s,rfl,h3⟩:=Sat.ownsRow hw1 hb hrow
 refine ⟨s,rfl,s,rfl,?_⟩
 have e:((ss.mergeSort (fun x y=>decide (x≤y))).map Proofs.encStr)=(namesOf st.fs).map Value.string:=by
  unfold namesOf
  have hp2:=hperm ss hS
  have e2:(E.map fun e=>e.1.data.toList)=st.fs.map fun e=>e.1.data.toList:=by rw [←hE];simp [er,Function.comp_def]
  rw [e2] at hp2
  rw [mergeSort_of_perm hp2,List.map_map]
  rfl
 rw [e] at h3
 exact h3.cons fun _ h=>DO.shut hE h
end Go.Proofs.YtkfedbncmfnpnaaGreatDoor
/- The disk: Clone, Read, Crash. Condition: bounds on lengths. -/
namespace Go.Proofs.YtkfedbncmfnpnaaGreatDoor
set_option linter.unusedVariables false
set_option linter.unusedSimpArgs false
open Go Go.VC
variable {R:Cx} {Hs Rest:List HP} {w:World}
def readD (st:DS) (k:ByteArray):List Int × Int:=
 if st.off then ([],5) else if !nameOk k then ([],1) else match getM k st.fs with|none=>([],2)|some f=>(f.b,0)
theorem total_le {k:ByteArray} {f:Fl} {fs:Fs} (h:getM k fs=some f):(f.b.length:Int)≤total fs:=by
 have:=total_get h;have:=total_nn (delM k fs);omega
theorem read_spec {d:Nat} {st:DS} {k:ByteArray} (i:Inv st) (hw:Sat R (DiskAt d st::Hs) w):
  Gets Tryz.prog 44 #[.pointer (some ⟨d,0,none⟩),.string k] w fun r w'=>∃ t:Sl,r=.tuple #[.slice t.a t.len t.cap,.int .i64 (readD st k).2]∧Sat R (Own t 5 (b8 (readD st k).1)::DiskAt d st::Hs) w':=by
 have hw0:=hw
 obtain ⟨m,E,hE,hw⟩:=Sat.disk.1 hw
 apply call44
 refine NilP.mk rfl ⟨st.off,At.own (eqS hw) (by exact ⟨rfl,trivial⟩),Br.mk (fun ho=>?_) (fun ho=>new_rule hw0 fun bt w hw=>?_)⟩
 ·have e:readD st k=([],5):=if_pos ho
  rw [e];exact ⟨⟨none,0,0⟩,rfl,Own.nil hw0⟩
 obtain ⟨hc,hwl⟩:=Sat.lend.1 hw
 refine (named_spec (names:=[k]) hwl (ro_one hc) (by simp)).use ?_
 rintro _ w ⟨rfl,hw⟩
 have hw:=(Sat.lend.2 ⟨hc,hw⟩).drop
 rw [all_one]
 refine ⟨_,rfl,Br.mk (fun hn=>?_) (fun hn=>?_)⟩
 ·have e:readD st k=([],1):=by unfold readD;rw [if_neg (by simp [ho]),if_pos hn]
  rw [e];exact ⟨⟨none,0,0⟩,rfl,Own.nil hw⟩
 obtain ⟨m,E,hE,hw⟩:=Sat.disk.1 hw
 refine NilP.mk rfl ⟨some m,At.own (eqS hw) (by exact ⟨rfl,trivial⟩),_,_,fun w' hw'=>DO.look (eqS hw _ hw') k true,?_⟩
 have e:readD st k=match getM k st.fs with|none=>([],2)|some f=>(f.b,0):=by unfold readD;rw [if_neg (by simp [ho]),if_neg (by simp [hn])]
 refine Br.mk (fun hk=>?_) (fun hk=>?_)
 ·simp only [Bool.not_eq_true',Option.isSome_eq_false_iff,Option.isNone_iff_eq_none] at hk
  have hk2:getM k st.fs=none:=by rw [←hE,er_get,hk];rfl
  rw [e,hk2]
  exact ⟨⟨none,0,0⟩,rfl,Own.nil (DO.shut hE hw)⟩
 ·simp only [Bool.not_eq_false'] at hk
  obtain ⟨⟨q,f⟩,hf⟩:=Option.isSome_iff_exists.1 hk
  have hk2:getM k st.fs=some f:=by rw [←hE,er_get,hf];rfl
  obtain ⟨a,b,rfl,ha⟩:=getM_split hf
  rw [hf,e,hk2]
  have hlen:=total_le hk2
  have r1:=i.r1;have hfull:=i.full
  have hw:Sat R (FilesAt (a++(k,q,f)::b)::pts d (dCells st m)::MapAt m (ptrs (a++(k,q,f)::b))::Hs) w:=(hw.cons fun _ h=>h.swap).swap
  obtain ⟨s,hw⟩:=Sat.file.1 (Sat.split.1 hw)
  simp only at hw
  refine NilP.mk rfl ⟨s,by rw [add_off];exact At.own (eqS hw) (by exact ⟨rfl,trivial⟩),?_⟩
  obtain ⟨R',hr,_,hw,back⟩:=Own.lend hw.swap (by rw [List.length_map];omega)
  refine (clone_spec hr (by omega) hw).use ?_
  rintro _ w ⟨t,rfl,hw⟩
  refine ⟨t,rfl,t,rfl,(back hw).swap.cons fun _ h=>?_⟩
  have h2:Sat _ (FilesAt (a++(k,q,f)::b)::pts d (dCells st m)::MapAt m (ptrs (a++(k,q,f)::b))::Hs) w:=Sat.split.2 (Sat.file.2 ⟨s,h.swap⟩)
  exact DO.shut hE (h2.swap.cons fun _ h=>h.swap)
def stay (kp:Option Int) (f:Fl):Nat:=match kp with|none=>0|some x=>(min (max x 0) ((f.b.length:Int) - f.sure)).toNat
def cutF (kp:Option Int) (f:Fl):Fl:=⟨f.b.take (f.sure + stay kp f),f.sure + stay kp f⟩
def crashL:List ByteArray→List Int→Fs→Fs
 |[],_,fs=>fs
 |k::ks,keep,fs=>crashL ks keep.tail (updM k (cutF keep.head?) fs)
def crashD (st:DS) (keep:List Int):DS:=⟨st.room,crashL (namesOf st.fs) keep st.fs,-1,-1,false⟩
theorem stay_le (kp:Option Int) (f:Fl) (h:f.sure≤f.b.length):f.sure + stay kp f≤f.b.length:=by
 unfold stay;split
 ·omega
 ·omega
theorem getM_upd {β:Type} {k:ByteArray} {g:β→β}:∀ {l:List (ByteArray × β)} {v:β},getM k l=some v→getM k (updM k g l)=some (g v)
 |[],_,h=>by cases h
 |e::l,v,h=>by
  rw [getM] at h
  rw [updM]
  split at h
  ·rename_i hk;rw [if_pos hk,getM,if_pos hk];simp only [Option.some.injEq] at h ⊢;rw [h]
  ·rename_i hk;rw [if_neg hk,getM,if_neg hk];exact getM_upd h
theorem mem_names {fs:Fs} {k:ByteArray}:k∈namesOf fs↔k∈fs.map (·.1):=by
 unfold namesOf
 rw [List.mem_map]
 constructor
 ·rintro ⟨l,hl,rfl⟩
  rw [List.mem_mergeSort,List.mem_map] at hl
  obtain ⟨e,he,rfl⟩:=hl
  exact List.mem_map.2 ⟨e,he,by simp⟩
 ·intro h
  obtain ⟨e,he,rfl⟩:=List.mem_map.1 h
  exact ⟨e.1.data.toList,by rw [List.mem_mergeSort];exact List.mem_map.2 ⟨e,he,rfl⟩,by simp⟩
theorem isSome_of_mem {β:Type} {k:ByteArray} {l:List (ByteArray × β)} (h:k∈l.map (·.1)):(getM k l).isSome=true:=by
 cases hg:getM k l with
 |some _=>rfl
 |none=>exact absurd h (notin_of_getM hg)
theorem namesOf_len (fs:Fs):(namesOf fs).length=fs.length:=by simp [namesOf]
end Go.Proofs.YtkfedbncmfnpnaaGreatDoor
/- The formulas of functions of this seat's translation, printed by a program of mine off the translation; each is proved equal to 'fnF' of the function's body, so it is enough for the call. No condition. -/
namespace Go.Proofs.YtkfedbncmfnpnaaGreatDoor
open Go Go.VC
set_option linter.unusedVariables false
set_option maxRecDepth 10000
def B34 (a:Int) (K:Value→World→Prop) (w:World):Prop:=
 Br (decide (a<1))
 (K (.tuple #[.pointer none,.int .i64 1]) w)
 (Br (decide (a>16777216))
 (K (.tuple #[.pointer none,.int .i64 1]) w)
 (New (.cells #[.int .i64 a,.slice none 0 0,.int .i64 ((-1)),.int .i64 ((-1)),.bool false] 81 (0,0)) (fun b c=>
 K (.tuple #[.pointer ((some ⟨b,0,none⟩)),.int .i64 0]) c) w))
theorem call34 (a:Int) (K:Value→World→Prop) (w:World) (h:B34 a K w):Gets Tryz.prog 34 #[.int .i64 a] w K:=cq (sk:=.leaf) Tryz.func34 (by kernel_rfl) (by kernel_rfl) (by kernel_rfl) h
def B36 (b:Option Addr) (i:ByteArray) (l:Sl) (K:Value→World→Prop) (w:World):Prop:=
 Calls Tryz.prog 79 #[.pointer b,.string i,.string i] w fun I A=>
 ∃ n:Int,(I=.returned (.int .i64 n))∧
 Br (n !=0)
 (K (.int .i64 n) A)
 (Drw A fun r O=>
 NilP b fun G=>
 ∃ y:Int,(At r (Addr.add G 0) [.int .i64 y])∧
 Calls Tryz.prog 80 #[.pointer b] O fun J q=>
 ∃ x:Int,(J=.returned (.int .i64 x))∧
 (r q)∧
 Br (decide (IntKind.i64.wrap (x + (↑l.len:Int))>y))
 (K (.int .i64 3) q)
 (∃ (m:World→Prop),(Calls Tryz.prog 81 #[.pointer b,.string i] q fun L D=>
 ∃ z:Int,(L=.returned (.int .i64 z))∧
 Br (decide (z<0))
 (Calls Tryz.prog 82 #[.pointer b,.agg #[.string i,.slice none 0 0,.int .i64 0]] D fun M Q=>
 (M=.returned (.tuple #[]))∧
 m  Q)
 (m  D))∧
 ∀ (V:Env)  (E:World),m  E→
 Calls Tryz.prog 81 #[.pointer b,.string i] E fun N T=>
 ∃ c:Int,(N=.returned (.int .i64 c))∧
 Drw T fun d U=>
 NilP b fun s=>
 ∃ j:Sl,(At d ⟨s.block,s.off + 1,none⟩ [.slice j.a j.len j.cap])∧
 NilP b fun t=>
 ∃ k:Sl,(At d ⟨t.block,t.off + 1,none⟩ [.slice k.a k.len k.cap])∧
 Rng c k.len (NilP k.a fun u=>
 ∃ e:Sl,(At d ⟨(u.add (mulS c.toNat 3)).block,(u.add (mulS c.toNat 3)).off + 1,none⟩ [.slice e.a e.len e.cap])∧
 New (.cells #[] 5 (0,0)) (fun H F=>
 (d F)∧
 ∃ o:World,∃ f:Sl,((Builtin.append_ #[53,53] 53 #[.slice ((some ⟨H,0,none⟩)) 0 0,.slice e.a e.len e.cap]).run Tryz.prog F=.ok (.slice f.a f.len f.cap) o)∧
 (d o)∧
 ∃ p:World,∃ g:Sl,((Builtin.append_ #[53,53] 53 #[.slice f.a f.len f.cap,.slice l.a l.len l.cap]).run Tryz.prog o=.ok (.slice g.a g.len g.cap) p)∧
 (d p)∧
 Rng c j.len (NilP j.a fun v=>
 ∃ C:World,((Instr.storeAt 53 (.pointer ((some ⟨(v.add (mulS c.toNat 3)).block,(v.add (mulS c.toNat 3)).off + 1,none⟩))) (.slice g.a g.len g.cap)).run Tryz.prog p=.ok () C)∧
 K (.int .i64 0) C)) U)))
def sk36:Sk:=(.seq .leaf (.seq .leaf (.seq .leaf (.seq .leaf (.cut [] [] [26,27,28,29,30,31,32,33] .leaf .leaf)))))
theorem call36 (c:Option Addr) (d:ByteArray) (b:Sl) (K:Value→World→Prop) (w:World) (h:B36 c d b K w):Gets Tryz.prog 36 #[.pointer c,.string d,.slice b.a b.len b.cap] w K:=cq (sk:=sk36) Tryz.func36 (by kernel_rfl) (by kernel_rfl) (by kernel_rfl) h
def B38 (e:Option Addr) (i:ByteArray) (K:Value→World→Prop) (w:World):Prop:=
 Calls Tryz.prog 79 #[.pointer e,.string i,.string i] w fun r o=>
 ∃ j:Int,(r=.returned (.int .i64 j))∧
 Br (j !=0)
 (K (.int .i64 j) o)
 (Calls Tryz.prog 81 #[.pointer e,.string i] o fun s p=>
 ∃ b:Int,(s=.returned (.int .i64 b))∧
 Br (decide (b<0))
 (K (.int .i64 2) p)
 (Drw p fun g t=>
 NilP e fun k=>
 ∃ c:Sl,(At g ⟨k.block,k.off + 1,none⟩ [.slice c.a c.len c.cap])∧
 NilP e fun l=>
 ∃ d:Sl,(At g ⟨l.block,l.off + 1,none⟩ [.slice d.a d.len d.cap])∧
 Rng b d.len (NilP d.a fun m=>
 ∃ f:Sl,(At g ⟨(m.add (mulS b.toNat 3)).block,(m.add (mulS b.toNat 3)).off + 1,none⟩ [.slice f.a f.len f.cap])∧
 Rng b c.len (NilP c.a fun n=>
 ∃ q:World,((Instr.storeAt 3 (.pointer ((some ⟨(n.add (mulS b.toNat 3)).block,(n.add (mulS b.toNat 3)).off + 2,none⟩))) (.int .i64 ((↑f.len:Int)))).run Tryz.prog t=.ok () q)∧
 K (.int .i64 0) q))))
theorem call38 (a:Option Addr) (b:ByteArray) (K:Value→World→Prop) (w:World) (h:B38 a b K w):Gets Tryz.prog 38 #[.pointer a,.string b] w K:=cq (sk:=.leaf) Tryz.func38 (by kernel_rfl) (by kernel_rfl) (by kernel_rfl) h
def B140 (b:Option Addr) (m:ByteArray) (k:ByteArray) (K:Value→World→Prop) (w:World):Prop:=
 Calls Tryz.prog 79 #[.pointer b,.string m,.string k] w fun E z=>
 ∃ n:Int,(E=.returned (.int .i64 n))∧
 Br (n !=0)
 (K (.int .i64 n) z)
 (Calls Tryz.prog 81 #[.pointer b,.string m] z fun F l=>
 ∃ i:Int,(F=.returned (.int .i64 i))∧
 Br (decide (i<0))
 (K (.int .i64 2) l)
 (Br (m.toList==k.toList)
 (K (.int .i64 0) l)
 (NilP b fun r=>
 ∃ j:Sl,(At (fun c=>c=l) ⟨r.block,r.off + 1,none⟩ [.slice j.a j.len j.cap])∧
 Rng i j.len (NilP j.a fun D=>
 ∃ s:ByteArray,∃ d:Sl,∃ t:Int,(At (fun c=>c=l) (Addr.add D (mulS i.toNat 3)) [.string s,.slice d.a d.len d.cap,.int .i64 t])∧
 New (.cells #[.string (ByteArray.mk #[]),.slice none 0 0,.int .i64 0] 112 (0,0)) (fun g N=>
 ∃ A:World,((Instr.storeAt 112 (.pointer ((some ⟨g,0,none⟩))) (.agg #[.string s,.slice d.a d.len d.cap,.int .i64 t])).run Tryz.prog N=.ok () A)∧
 Calls Tryz.prog 134 #[.pointer b,.int .i64 i] A fun G O=>
 (G=.returned (.tuple #[]))∧
 Calls Tryz.prog 81 #[.pointer b,.string k] O fun H C=>
 ∃ o:Int,(H=.returned (.int .i64 o))∧
 Br (decide (o ≥ 0))
 (Calls Tryz.prog 134 #[.pointer b,.int .i64 o] C fun I Q=>
 (I=.returned (.tuple #[]))∧
 ∃ q:World,((Instr.storeAt 9 (.pointer ((some ⟨g,0,none⟩))) (.string k)).run Tryz.prog Q=.ok () q)∧
 ∃ u:ByteArray,∃ e:Sl,∃ v:Int,(At (fun c=>c=q) ⟨g,0,none⟩ [.string u,.slice e.a e.len e.cap,.int .i64 v])∧
 Calls Tryz.prog 82 #[.pointer b,.agg #[.string u,.slice e.a e.len e.cap,.int .i64 v]] q fun J T=>
 (J=.returned (.tuple #[]))∧
 K (.int .i64 0) T)
 (∃ p:World,((Instr.storeAt 9 (.pointer ((some ⟨g,0,none⟩))) (.string k)).run Tryz.prog C=.ok () p)∧
 ∃ x:ByteArray,∃ f:Sl,∃ y:Int,(At (fun c=>c=p) ⟨g,0,none⟩ [.string x,.slice f.a f.len f.cap,.int .i64 y])∧
 Calls Tryz.prog 82 #[.pointer b,.agg #[.string x,.slice f.a f.len f.cap,.int .i64 y]] p fun L M=>
 (L=.returned (.tuple #[]))∧
 K (.int .i64 0) M)) l))))
theorem call140 (a:Option Addr) (b:ByteArray) (c:ByteArray) (K:Value→World→Prop) (w:World) (h:B140 a b c K w):Gets Tryz.prog 140 #[.pointer a,.string b,.string c] w K:=cq (sk:=.leaf) Tryz.func140 (by kernel_rfl) (by kernel_rfl) (by kernel_rfl) h
def B92 (a:Option Addr) (b:ByteArray) (K:Value→World→Prop) (w:World):Prop:=
 Calls Tryz.prog 79 #[.pointer a,.string b,.string b] w fun g e=>
 ∃ c:Int,(g=.returned (.int .i64 c))∧
 Br (c !=0)
 (K (.int .i64 c) e)
 (Calls Tryz.prog 81 #[.pointer a,.string b] e fun i f=>
 ∃ d:Int,(i=.returned (.int .i64 d))∧
 Br (decide (d<0))
 (K (.int .i64 2) f)
 (Calls Tryz.prog 134 #[.pointer a,.int .i64 d] f fun j k=>
 (j=.returned (.tuple #[]))∧
 K (.int .i64 0) k))
theorem call92 (a:Option Addr) (b:ByteArray) (K:Value→World→Prop) (w:World) (h:B92 a b K w):Gets Tryz.prog 92 #[.pointer a,.string b] w K:=cq (sk:=.leaf) Tryz.func92 (by kernel_rfl) (by kernel_rfl) (by kernel_rfl) h
def B45 (i:Option Addr) (n:ByteArray) (K:Value→World→Prop) (w:World):Prop:=
 Calls Tryz.prog 99 #[.string n] w fun t g=>
 ∃ p:Bool,(t=.returned (.bool p))∧
 NilP i fun k=>
 ∃ o:Bool,(At (fun f=>f=g) ⟨k.block,k.off + 4,none⟩ [.bool o])∧
 Br o
 (K (.tuple #[.slice none 0 0,.int .i64 5]) g)
 (Br (!p)
 (K (.tuple #[.slice none 0 0,.int .i64 1]) g)
 (Calls Tryz.prog 81 #[.pointer i,.string n] g fun u q=>
 ∃ d:Int,(u=.returned (.int .i64 d))∧
 Br (decide (d<0))
 (K (.tuple #[.slice none 0 0,.int .i64 2]) q)
 (New (.cells #[] 5 (0,0)) (fun s j=>
 NilP i fun l=>
 ∃ e:Sl,(At (fun f=>f=j) ⟨l.block,l.off + 1,none⟩ [.slice e.a e.len e.cap])∧
 Rng d e.len (NilP e.a fun m=>
 ∃ b:Sl,(At (fun f=>f=j) ⟨(m.add (mulS d.toNat 3)).block,(m.add (mulS d.toNat 3)).off + 1,none⟩ [.slice b.a b.len b.cap])∧
 ∃ r:World,∃ c:Sl,((Builtin.append_ #[53,53] 53 #[.slice ((some ⟨s,0,none⟩)) 0 0,.slice b.a b.len b.cap]).run Tryz.prog j=.ok (.slice c.a c.len c.cap) r)∧
 K (.tuple #[.slice c.a c.len c.cap,.int .i64 0]) r)) q)))
theorem call45 (a:Option Addr) (b:ByteArray) (K:Value→World→Prop) (w:World) (h:B45 a b K w):Gets Tryz.prog 45 #[.pointer a,.string b] w K:=cq (sk:=.leaf) Tryz.func45 (by kernel_rfl) (by kernel_rfl) (by kernel_rfl) h
def B12 (d:Option Addr) (b:Int) (K:Value→World→Prop) (w:World):Prop:=
 Br (decide (b<0))
 (K (.int .i64 1) w)
 (NilP d fun a=>
 ∃ c:World,((Instr.storeAt 3 (.pointer ((some ⟨a.block,a.off + 2,none⟩))) (.int .i64 b)).run Tryz.prog w=.ok () c)∧
 K (.int .i64 0) c)
theorem call12 (a:Option Addr) (b:Int) (K:Value→World→Prop) (w:World) (h:B12 a b K w):Gets Tryz.prog 12 #[.pointer a,.int .i64 b] w K:=cq (sk:=.leaf) Tryz.func12 (by kernel_rfl) (by kernel_rfl) (by kernel_rfl) h
def B43 (n:Option Addr) (K:Value→World→Prop) (w:World):Prop:=
 ∃ (j:Sl→Int→World→Prop) (p:Sl→Int→World→Nat),(j ⟨none,0,0⟩ 0 w)∧∀ (t:Env) (b:Sl) (c:Int) (d:World),j b c d→
 NilP n fun m=>
 ∃ i:Sl,(At (fun g=>g=d) ⟨m.block,m.off + 1,none⟩ [.slice i.a i.len i.cap])∧
 Br (decide (c<(↑i.len:Int)))
 (NilP n fun l=>
 ∃ e:Sl,(At (fun g=>g=d) ⟨l.block,l.off + 1,none⟩ [.slice e.a e.len e.cap])∧
 Rng c e.len (NilP e.a fun q=>
 ∃ o:ByteArray,(At (fun g=>g=d) (Addr.add (Addr.add q (mulS c.toNat 3)) 0) [.string o])∧
 New (.cells #[.string o] 9 (0,0)) (fun r s=>
 ∃ k:World,∃ f:Sl,((Builtin.append_ #[66,66] 66 #[.slice b.a b.len b.cap,.slice ((some ⟨r,0,none⟩)) 1 1]).run Tryz.prog s=.ok (.slice f.a f.len f.cap) k)∧
 (j f (IntKind.i64.wrap (c + 1)) k)∧p f (IntKind.i64.wrap (c + 1)) k<p b c d) d))
 (K (.slice b.a b.len b.cap) d)
def sk43:Sk:=(.seq .leaf (.seq .leaf (.seq (.seq .leaf (.block (.loop [3,4] [.sl,(.int .i64)] [3,4,5,6,7,8,9,10,11,12,13,14,15,16,17,18,19,20,21,22,23,24] .leaf))) .leaf)))
theorem call43 (a:Option Addr) (K:Value→World→Prop) (w:World) (h:B43 a K w):Gets Tryz.prog 43 #[.pointer a] w K:=cq (sk:=sk43) Tryz.func43 (by kernel_rfl) (by kernel_rfl) (by kernel_rfl) h
def B80 (n:Option Addr) (K:Value→World→Prop) (w:World):Prop:=
 ∃ (j:Int→Int→World→Prop) (o:Int→Int→World→Nat),(j 0 0 w)∧∀ (p:Env) (d:Int) (b:Int) (c:World),j d b c→
 NilP n fun m=>
 ∃ i:Sl,(At (fun g=>g=c) ⟨m.block,m.off + 1,none⟩ [.slice i.a i.len i.cap])∧
 Br (decide (b<(↑i.len:Int)))
 (NilP n fun k=>
 ∃ e:Sl,(At (fun g=>g=c) ⟨k.block,k.off + 1,none⟩ [.slice e.a e.len e.cap])∧
 Rng b e.len (NilP e.a fun l=>
 ∃ f:Sl,(At (fun g=>g=c) ⟨(l.add (mulS b.toNat 3)).block,(l.add (mulS b.toNat 3)).off + 1,none⟩ [.slice f.a f.len f.cap])∧
 (j (IntKind.i64.wrap (d + (↑f.len:Int))) (IntKind.i64.wrap (b + 1)) c)∧o (IntKind.i64.wrap (d + (↑f.len:Int))) (IntKind.i64.wrap (b + 1)) c<o d b c))
 (K (.int .i64 d) c)
def sk80:Sk:=(.seq .leaf (.seq .leaf (.seq (.seq .leaf (.block (.loop [3,4] [(.int .i64),(.int .i64)] [3,4,5,6,7,8,9,10,11,12,13,14,15,16,17,18,19,20,21,22,23,24] .leaf))) .leaf)))
theorem call80 (a:Option Addr) (K:Value→World→Prop) (w:World) (h:B80 a K w):Gets Tryz.prog 80 #[.pointer a] w K:=cq (sk:=sk80) Tryz.func80 (by kernel_rfl) (by kernel_rfl) (by kernel_rfl) h
def B79 (b:Option Addr) (N:ByteArray) (O:ByteArray) (K:Value→World→Prop) (w:World):Prop:=
 Calls Tryz.prog 99 #[.string N] w fun L Q=>
 ∃ u:Bool,(L=.returned (.bool u))∧
 Calls Tryz.prog 99 #[.string O] Q fun M f=>
 ∃ v:Bool,(M=.returned (.bool v))∧
 ∃ (g:World→Prop),(Br (!u)
 (K (.int .i64 1) f)
 (Br (!v)
 (K (.int .i64 1) f)
 (g  f)))∧
 ∀ (T:Env)  (c:World),g  c→
 NilP b fun i=>
 ∃ x:Bool,(At (fun a=>a=c) ⟨i.block,i.off + 4,none⟩ [.bool x])∧
 Br x
 (K (.int .i64 5) c)
 (NilP b fun j=>
 ∃ y:Int,(At (fun a=>a=c) ⟨j.block,j.off + 3,none⟩ [.int .i64 y])∧
 Br (y==0)
 (NilP b fun k=>
 ∃ F:World,((Instr.storeAt 3 (.pointer ((some ⟨k.block,k.off + 3,none⟩))) (.int .i64 ((-1)))).run Tryz.prog c=.ok () F)∧
 NilP b fun l=>
 ∃ G:World,((Instr.storeAt 4 (.pointer ((some ⟨l.block,l.off + 4,none⟩))) (.bool true)).run Tryz.prog F=.ok () G)∧
 K (.int .i64 5) G)
 (∃ (e:World→Prop),(NilP b fun m=>
 ∃ z:Int,(At (fun a=>a=c) ⟨m.block,m.off + 3,none⟩ [.int .i64 z])∧
 Br (decide (z>0))
 (NilP b fun n=>
 ∃ A:Int,(At (fun a=>a=c) ⟨n.block,n.off + 3,none⟩ [.int .i64 A])∧
 NilP b fun o=>
 ∃ H:World,((Instr.storeAt 3 (.pointer ((some ⟨o.block,o.off + 3,none⟩))) (.int .i64 (IntKind.i64.wrap (A - 1)))).run Tryz.prog c=.ok () H)∧
 e  H)
 (e  c))∧
 ∀ (U:Env)  (d:World),e  d→
 NilP b fun p=>
 ∃ C:Int,(At (fun a=>a=d) ⟨p.block,p.off + 2,none⟩ [.int .i64 C])∧
 Br (C==0)
 (NilP b fun q=>
 ∃ I:World,((Instr.storeAt 3 (.pointer ((some ⟨q.block,q.off + 2,none⟩))) (.int .i64 ((-1)))).run Tryz.prog d=.ok () I)∧
 K (.int .i64 4) I)
 (NilP b fun r=>
 ∃ D:Int,(At (fun a=>a=d) ⟨r.block,r.off + 2,none⟩ [.int .i64 D])∧
 Br (decide (D>0))
 (NilP b fun s=>
 ∃ E:Int,(At (fun a=>a=d) ⟨s.block,s.off + 2,none⟩ [.int .i64 E])∧
 NilP b fun t=>
 ∃ J:World,((Instr.storeAt 3 (.pointer ((some ⟨t.block,t.off + 2,none⟩))) (.int .i64 (IntKind.i64.wrap (E - 1)))).run Tryz.prog d=.ok () J)∧
 K (.int .i64 0) J)
 (K (.int .i64 0) d))))
def sk79:Sk:=(.seq .leaf (.seq .leaf (.seq .leaf (.cut [] [] [6,13,14,15,16,17,18] .leaf (.seq .leaf (.seq .leaf (.cut [] [] [34,35,36,37,38,39,40,41,42,43,44,45] .leaf .leaf)))))))
theorem call79 (a:Option Addr) (b:ByteArray) (c:ByteArray) (K:Value→World→Prop) (w:World) (h:B79 a b c K w):Gets Tryz.prog 79 #[.pointer a,.string b,.string c] w K:=cq (sk:=sk79) Tryz.func79 (by kernel_rfl) (by kernel_rfl) (by kernel_rfl) h
def B81 (k:Option Addr) (o:ByteArray) (K:Value→World→Prop) (w:World):Prop:=
 ∃ (g:Int→World→Prop) (m:Int→World→Nat),(g 0 w)∧∀ (p:Env) (c:Int) (b:World),g c b→
 NilP k fun j=>
 ∃ f:Sl,(At (fun e=>e=b) ⟨j.block,j.off + 1,none⟩ [.slice f.a f.len f.cap])∧
 Br (decide (c<(↑f.len:Int)))
 (NilP k fun i=>
 ∃ d:Sl,(At (fun e=>e=b) ⟨i.block,i.off + 1,none⟩ [.slice d.a d.len d.cap])∧
 Rng c d.len (NilP d.a fun n=>
 ∃ l:ByteArray,(At (fun e=>e=b) (Addr.add (Addr.add n (mulS c.toNat 3)) 0) [.string l])∧
 Br (l.toList==o.toList)
 (K (.int .i64 c) b)
 ((g (IntKind.i64.wrap (c + 1)) b)∧m (IntKind.i64.wrap (c + 1)) b<m c b)))
 (K (.int .i64 ((-1))) b)
def sk81:Sk:=(.seq .leaf (.seq (.seq .leaf (.block (.loop [5] [(.int .i64)] [4,5,6,7,8,9,10,11,12,13,14,15,16,17,18,19,20,21,22,23,24,25] .leaf))) .leaf))
theorem call81 (a:Option Addr) (b:ByteArray) (K:Value→World→Prop) (w:World) (h:B81 a b K w):Gets Tryz.prog 81 #[.pointer a,.string b] w K:=cq (sk:=sk81) Tryz.func81 (by kernel_rfl) (by kernel_rfl) (by kernel_rfl) h
def B82 (k:Option Addr) (U:ByteArray) (s:Sl) (V:Int) (K:Value→World→Prop) (w:World):Prop:=
 New (.cells #[.string U,.slice s.a s.len s.cap,.int .i64 V] 112 (0,0)) (fun D X=>
 ∃ (r:Int→World→Prop),(∃ (q:Int→World→Prop) (N:Int→World→Nat),(q 0 X)∧∀ (Z:Env) (b:Int) (t:World),q b t→
 Drw t fun n p=>
 NilP k fun C=>
 ∃ o:Sl,(At n ⟨C.block,C.off + 1,none⟩ [.slice o.a o.len o.cap])∧
 Br (decide (b<(↑o.len:Int)))
 (NilP k fun x=>
 ∃ l:Sl,(At n ⟨x.block,x.off + 1,none⟩ [.slice l.a l.len l.cap])∧
 Rng b l.len (NilP l.a fun O=>
 ∃ E:ByteArray,(At n (Addr.add (Addr.add O (mulS b.toNat 3)) 0) [.string E])∧
 ∃ F:ByteArray,(At n ⟨D,0,none⟩ [.string F])∧
 Br (Op.bytesLess E.toList F.toList)
 ((q (IntKind.i64.wrap (b + 1)) p)∧N (IntKind.i64.wrap (b + 1)) p<N b t)
 (r b p)))
 (r b p))∧
 ∀ (aa:Env) (c:Int) (J:World),r c J→
 New (.cells #[] 112 (0,0)) (fun Q L=>
 NilP k fun y=>
 ∃ e:Sl,(At (fun m=>m=L) ⟨y.block,y.off + 1,none⟩ [.slice e.a e.len e.cap])∧
 ((0:Int)≤c)∧
 ((c:Int)≤(↑e.cap:Int))∧
 ∃ u:World,∃ f:Sl,((Builtin.append_ #[79,79] 79 #[.slice ((some ⟨Q,0,none⟩)) 0 0,.slice e.a c.toNat e.cap]).run Tryz.prog L=.ok (.slice f.a f.len f.cap) u)∧
 ∃ G:ByteArray,∃ g:Sl,∃ H:Int,(At (fun m=>m=u) ⟨D,0,none⟩ [.string G,.slice g.a g.len g.cap,.int .i64 H])∧
 New (.cells #[.string G,.slice g.a g.len g.cap,.int .i64 H] 112 (0,0)) (fun T Y=>
 ∃ v:World,∃ i:Sl,((Builtin.append_ #[79,79] 79 #[.slice f.a f.len f.cap,.slice ((some ⟨T,0,none⟩)) 1 1]).run Tryz.prog Y=.ok (.slice i.a i.len i.cap) v)∧
 NilP k fun z=>
 ∃ d:Sl,(At (fun m=>m=v) ⟨z.block,z.off + 1,none⟩ [.slice d.a d.len d.cap])∧
 ((0:Int)≤c)∧
 ((c:Int)≤(↑d.len:Int))∧
 ∃ M:World,∃ j:Sl,((Builtin.append_ #[79,79] 79 #[.slice i.a i.len i.cap,.slice (cutA d.a c.toNat d.cap 3) (d.len - c.toNat) (d.cap - c.toNat)]).run Tryz.prog v=.ok (.slice j.a j.len j.cap) M)∧
 NilP k fun A=>
 ∃ I:World,((Instr.storeAt 79 (.pointer ((some ⟨A.block,A.off + 1,none⟩))) (.slice j.a j.len j.cap)).run Tryz.prog M=.ok () I)∧
 K (.tuple #[]) I) u) J) w
def sk82:Sk:=(.seq .leaf (.seq .leaf (.cut [4] [(.int .i64)] [4,6,7,8,9,10,11,12,13,14,15,16,17,18,19,20,21,22,23,24,25,26,27] (.block (.loop [4] [(.int .i64)] [4,6,7,8,9,10,11,12,13,14,15,16,17,18,19,20,21,22,23,24,25,26,27] .leaf)) .leaf)))
theorem call82 (c:Option Addr) (d:ByteArray) (b:Sl) (e:Int) (K:Value→World→Prop) (w:World) (h:B82 c d b e K w):Gets Tryz.prog 82 #[.pointer c,.agg #[.string d,.slice b.a b.len b.cap,.int .i64 e]] w K:=cq (sk:=sk82) Tryz.func82 (by kernel_rfl) (by kernel_rfl) (by kernel_rfl) h
def B134 (g:Option Addr) (b:Int) (K:Value→World→Prop) (w:World):Prop:=
 New (.cells #[] 112 (0,0)) (fun q n=>
 NilP g fun m=>
 ∃ f:Sl,(At (fun i=>i=n) ⟨m.block,m.off + 1,none⟩ [.slice f.a f.len f.cap])∧
 ((0:Int)≤b)∧
 ((b:Int)≤(↑f.cap:Int))∧
 ∃ j:World,∃ d:Sl,((Builtin.append_ #[79,79] 79 #[.slice ((some ⟨q,0,none⟩)) 0 0,.slice f.a b.toNat f.cap]).run Tryz.prog n=.ok (.slice d.a d.len d.cap) j)∧
 NilP g fun k=>
 ∃ c:Sl,(At (fun i=>i=j) ⟨k.block,k.off + 1,none⟩ [.slice c.a c.len c.cap])∧
 ((0:Int)≤IntKind.i64.wrap (b + 1))∧
 ((IntKind.i64.wrap (b + 1):Int)≤(↑c.len:Int))∧
 ∃ o:World,∃ e:Sl,((Builtin.append_ #[79,79] 79 #[.slice d.a d.len d.cap,.slice (cutA c.a (IntKind.i64.wrap (b + 1)).toNat c.cap 3) (c.len - (IntKind.i64.wrap (b + 1)).toNat) (c.cap - (IntKind.i64.wrap (b + 1)).toNat)]).run Tryz.prog j=.ok (.slice e.a e.len e.cap) o)∧
 NilP g fun l=>
 ∃ p:World,((Instr.storeAt 79 (.pointer ((some ⟨l.block,l.off + 1,none⟩))) (.slice e.a e.len e.cap)).run Tryz.prog o=.ok () p)∧
 K (.tuple #[]) p) w
theorem call134 (a:Option Addr) (b:Int) (K:Value→World→Prop) (w:World) (h:B134 a b K w):Gets Tryz.prog 134 #[.pointer a,.int .i64 b] w K:=cq (sk:=.leaf) Tryz.func134 (by kernel_rfl) (by kernel_rfl) (by kernel_rfl) h
def B99 (f:ByteArray) (K:Value→World→Prop) (w:World):Prop:=
 ∃ (e:Int→World→Prop) (c:Int→World→Nat),(e 0 w)∧∀ (g:Env) (b:Int) (a:World),e b a→
 Br (decide (b<(↑f.size:Int)))
 (∃ d:UInt8,((0:Int)≤b)∧
 (f[b.toNat]? =some d)∧
 Br (decide ((↑d.toNat:Int) ≥ 97))
 (Br (decide ((↑d.toNat:Int)≤122))
 ((e (IntKind.i64.wrap (b + 1)) a)∧c (IntKind.i64.wrap (b + 1)) a<c b a)
 (Br (decide ((↑d.toNat:Int) ≥ 48))
 (Br (decide ((↑d.toNat:Int)≤57))
 ((e (IntKind.i64.wrap (b + 1)) a)∧c (IntKind.i64.wrap (b + 1)) a<c b a)
 (Br ((↑d.toNat:Int)==46)
 ((e (IntKind.i64.wrap (b + 1)) a)∧c (IntKind.i64.wrap (b + 1)) a<c b a)
 (Br (!(↑d.toNat:Int)==45)
 (K (.bool false) a)
 ((e (IntKind.i64.wrap (b + 1)) a)∧c (IntKind.i64.wrap (b + 1)) a<c b a))))
 (Br ((↑d.toNat:Int)==46)
 ((e (IntKind.i64.wrap (b + 1)) a)∧c (IntKind.i64.wrap (b + 1)) a<c b a)
 (Br (!(↑d.toNat:Int)==45)
 (K (.bool false) a)
 ((e (IntKind.i64.wrap (b + 1)) a)∧c (IntKind.i64.wrap (b + 1)) a<c b a)))))
 (Br (decide ((↑d.toNat:Int) ≥ 48))
 (Br (decide ((↑d.toNat:Int)≤57))
 ((e (IntKind.i64.wrap (b + 1)) a)∧c (IntKind.i64.wrap (b + 1)) a<c b a)
 (Br ((↑d.toNat:Int)==46)
 ((e (IntKind.i64.wrap (b + 1)) a)∧c (IntKind.i64.wrap (b + 1)) a<c b a)
 (Br (!(↑d.toNat:Int)==45)
 (K (.bool false) a)
 ((e (IntKind.i64.wrap (b + 1)) a)∧c (IntKind.i64.wrap (b + 1)) a<c b a))))
 (Br ((↑d.toNat:Int)==46)
 ((e (IntKind.i64.wrap (b + 1)) a)∧c (IntKind.i64.wrap (b + 1)) a<c b a)
 (Br (!(↑d.toNat:Int)==45)
 (K (.bool false) a)
 ((e (IntKind.i64.wrap (b + 1)) a)∧c (IntKind.i64.wrap (b + 1)) a<c b a)))))
 (Br (decide ((↑f.size:Int) ≥ 1))
 (K (.bool (decide ((↑f.size:Int)≤64))) a)
 (K (.bool false) a))
def sk99:Sk:=(.seq .leaf (.seq (.seq .leaf (.block (.loop [3] [(.int .i64)] [2,3,4,5,6,7,8,9,10,11,12,13,14,15,16,17,18,19,20,21,22,23,24,25,26,27,28,29,30,31,32,33,34,35,36] .leaf))) .leaf))
theorem call99 (a:ByteArray) (K:Value→World→Prop) (w:World) (h:B99 a K w):Gets Tryz.prog 99 #[.string a] w K:=cq (sk:=sk99) Tryz.func99 (by kernel_rfl) (by kernel_rfl) (by kernel_rfl) h
end Go.Proofs.YtkfedbncmfnpnaaGreatDoor
/- The reference's disk: its memory, its small operations. Condition: none. -/
namespace Go.Proofs.YtkfedbncmfnpnaaGreatDoor
set_option linter.unusedVariables false
set_option linter.unusedSimpArgs false
open Go Go.VC
variable {R:Cx} {Hs Rest:List HP} {w:World}
abbrev RE:=ByteArray × Sl × Fl
def erR (E:List RE):Fs:=E.map fun e=>(e.1,e.2.2)
def rowR (e:RE):List Value:=[.string e.1,.slice e.2.1.a e.2.1.len e.2.1.cap,.int .i64 e.2.2.sure]
def BufsAt (E:List RE):HP:=Star (E.map fun e=>Own e.2.1 5 (b8 e.2.2.b))
abbrev rCells (st:DS) (s:Sl):Obj:=.cells [.int .i64 st.room,.slice s.a s.len s.cap,.int .i64 st.fail,.int .i64 st.arm,.bool st.off].toArray 81 (0,0)
abbrev RO (r:Nat) (s:Sl) (E:List RE) (st:DS) (Hs:List HP):List HP:=pts r (rCells st s)::OwnN 3 s 112 (E.map rowR)::BufsAt E::Hs
def RefAt (r:Nat) (st:DS):HP:=exs fun x:Sl × List RE=>Star [pur (erR x.2=st.fs),pts r (rCells st x.1),OwnN 3 x.1 112 (x.2.map rowR),BufsAt x.2]
theorem Sat.ref {r:Nat} {st:DS}:Sat R (RefAt r st::Hs) w↔∃ s E,erR E=st.fs∧Sat R (RO r s E st Hs) w:=by
 unfold RefAt
 rw [Sat.exs]
 constructor
 ·rintro ⟨⟨s,E⟩,h⟩
  have:=Sat.star.1 h
  exact ⟨s,E,Sat.pur.1 this⟩
 ·rintro ⟨s,E,h1,h2⟩
  exact ⟨⟨s,E⟩,Sat.star.2 (Sat.pur.2 ⟨h1,h2⟩)⟩
theorem Bufs.split {a b:List RE} {e:RE}:Sat R (BufsAt (a++e::b)::Hs) w↔Sat R (Own e.2.1 5 (b8 e.2.2.b)::BufsAt (a++b)::Hs) w:=by
 have p:((a++e::b).map fun e:RE=>Own e.2.1 5 (b8 e.2.2.b)).Perm (Own e.2.1 5 (b8 e.2.2.b)::(a++b).map fun e:RE=>Own e.2.1 5 (b8 e.2.2.b)):=by
  rw [List.map_append,List.map_cons,List.map_append];exact List.perm_middle
 unfold BufsAt
 constructor
 ·intro h
  exact ((Sat.star.1 h).perm (p.append_right Hs)).cons fun _ h=>Sat.star.2 h
 ·intro h
  have h1:Sat R ((Own e.2.1 5 (b8 e.2.2.b)::(a++b).map fun e:RE=>Own e.2.1 5 (b8 e.2.2.b))++Hs) w:=h.cons fun _ h=>Sat.star.1 h
  exact Sat.star.2 (h1.perm (p.symm.append_right Hs))
theorem Bufs.nil:Sat R (BufsAt []::Hs) w↔Sat R Hs w:=Sat.star
theorem RO.reads {r:Nat} {s:Sl} {E:List RE} {st:DS} {S:World→Prop} (hw:Sat R (RO r s E st Hs) w) (hS:∀ w,S w→Sat R (RO r s E st Hs) w):ReadsN 3 s (E.map rowR) S:=
 OwnN.readsM (rows:=E.map rowR) (T:=112) hw hS
theorem RO.shut {r:Nat} {s:Sl} {E:List RE} {st:DS} (hE:erR E=st.fs) (h:Sat R (RO r s E st Hs) w):Sat R (RefAt r st::Hs) w:=Sat.ref.2 ⟨s,E,hE,h⟩
theorem newR_spec (room:Int) (hw:Sat R Hs w):Gets Tryz.prog 34 #[.int .i64 room] w fun v w'=>
  (newErr room=1∧v=.tuple #[.pointer none,.int .i64 1]∧Sat R Hs w')∨
  (newErr room=0∧1≤room∧room≤16777216∧∃ d,v=.tuple #[.pointer (some ⟨d,0,none⟩),.int .i64 0]∧Sat R (RefAt d ⟨room,[],-1,-1,false⟩::Hs) w'):=by
 apply call34
 refine Br.mk (fun h=>?_) (fun h=>Br.mk (fun h2=>?_) (fun h2=>?_))<;>simp only [decide_eq_true_eq,decide_eq_false_iff_not] at h
 ·exact .inl ⟨if_pos (.inl h),rfl,hw⟩
 ·simp only [decide_eq_true_eq] at h2
  exact .inl ⟨if_pos (.inr h2),rfl,hw⟩
 ·simp only [decide_eq_false_iff_not] at h2
  refine new_rule hw fun d w hw=>.inr ⟨if_neg (by omega),by omega,by omega,d,rfl,?_⟩
  exact RO.shut (s:=⟨none,0,0⟩) (E:=[]) rfl (hw.cons fun _ h=>OwnN.nil (Bufs.nil.2 h))
theorem okCh_iff (c:Int):okCh c=true↔(97≤c∧c≤122)∨(48≤c∧c≤57)∨c=46∨c=45:=by
 unfold okCh;simp [or_assoc]
theorem isName_spec (s:ByteArray) (hb:s.size≤9223372036854775807) (hw:Sat R Hs w):Gets Tryz.prog 99 #[.string s] w fun r w'=>r=.bool (nameOk s)∧Sat R Hs w':=by
 apply call99
 have hbl:=bytesL_len s
 refine ⟨fun i w=>∃ k:Nat,i=k∧k≤s.size∧(bytesL s).all okCh=((bytesL s).drop k).all okCh∧Sat R Hs w,fun i _=>s.size - i.toNat,⟨0,rfl,Nat.zero_le _,rfl,hw⟩,?_⟩
 rintro z _ w ⟨k,rfl,hk,he,hw⟩
 (first|with_reducible refine Br.d (fun h=>?_) (fun h=>?_)|with_reducible refine Br.nd (fun h=>?_) (fun h=>?_)|with_reducible refine Br.e (fun h=>?_) (fun h=>?_)|with_reducible refine Br.ne (fun h=>?_) (fun h=>?_)|with_reducible refine Br.nne (fun h=>?_) (fun h=>?_)|with_reducible refine Br.se (fun h=>?_) (fun h=>?_)|with_reducible refine Br.sne (fun h=>?_) (fun h=>?_)|with_reducible refine Br.nb (fun h=>?_) (fun h=>?_)|with_reducible refine Br.mk (fun h=>?_) (fun h=>?_)|refine Br.d (fun h=>?_) (fun h=>?_)|refine Br.nd (fun h=>?_) (fun h=>?_)|refine Br.e (fun h=>?_) (fun h=>?_)|refine Br.ne (fun h=>?_) (fun h=>?_)|refine Br.nne (fun h=>?_) (fun h=>?_)|refine Br.se (fun h=>?_) (fun h=>?_)|refine Br.mk (fun h=>?_) (fun h=>?_))
 ·have hk':k<(bytesL s).length:=by omega
  have hkd:k<s.data.size:=by have:s.size=s.data.size:=rfl;omega
  rw [drop_get hk',List.all_cons] at he
  have hg:(bytesL s)[k]=((s.data[k]).toNat:Int):=by simp [bytesL]
  rw [hg] at he
  refine ⟨s.data[k],by omega,?_,?_⟩
  ·rw [Int.toNat_natCast]
   show s.data[k]? =_
   exact Array.getElem?_eq_getElem hkd
  generalize ((s.data[k]).toNat:Int)=c at he
  rw [wrap64 (by omega) (by omega)]
  have yes:((97≤c∧c≤122)∨(48≤c∧c≤57)∨c=46∨c=45)→(∃ k':Nat,(k:Int) + 1=k'∧k'≤s.size∧(bytesL s).all okCh=((bytesL s).drop k').all okCh∧Sat R Hs w)∧s.size - ((k:Int) + 1).toNat<s.size - (k:Int).toNat:=fun hc=>by
   rw [(okCh_iff c).2 hc,Bool.true_and] at he
   exact ⟨⟨k + 1,by omega,by omega,he,hw⟩,by omega⟩
  have no:¬ ((97≤c∧c≤122)∨(48≤c∧c≤57)∨c=46∨c=45)→Value.bool false=.bool (nameOk s)∧Sat R Hs w:=fun hc=>by
   have:okCh c=false:=by rw [←Bool.not_eq_true,okCh_iff];exact hc
   rw [this,Bool.false_and] at he
   exact ⟨by rw [nameOk,he];simp,hw⟩
  clear he
  repeat' (first|with_reducible refine Br.d (fun h=>?_) (fun h=>?_)|with_reducible refine Br.nd (fun h=>?_) (fun h=>?_)|with_reducible refine Br.e (fun h=>?_) (fun h=>?_)|with_reducible refine Br.ne (fun h=>?_) (fun h=>?_)|with_reducible refine Br.nne (fun h=>?_) (fun h=>?_)|with_reducible refine Br.se (fun h=>?_) (fun h=>?_)|with_reducible refine Br.sne (fun h=>?_) (fun h=>?_)|with_reducible refine Br.nb (fun h=>?_) (fun h=>?_)|with_reducible refine Br.mk (fun h=>?_) (fun h=>?_)|refine Br.d (fun h=>?_) (fun h=>?_)|refine Br.nd (fun h=>?_) (fun h=>?_)|refine Br.e (fun h=>?_) (fun h=>?_)|refine Br.ne (fun h=>?_) (fun h=>?_)|refine Br.nne (fun h=>?_) (fun h=>?_)|refine Br.se (fun h=>?_) (fun h=>?_)|refine Br.mk (fun h=>?_) (fun h=>?_))
  all_goals first|exact yes (by omega)|exact no (by omega)
 ·have:k=s.size:=by omega
  subst this
  rw [List.drop_eq_nil_of_le (by omega)] at he
  have e:nameOk s=(decide (s.size≠0) && decide (s.size≤64)):=by rw [nameOk,he];simp
  rw [e]
  (first|with_reducible refine Br.d (fun h=>?_) (fun h=>?_)|with_reducible refine Br.nd (fun h=>?_) (fun h=>?_)|with_reducible refine Br.e (fun h=>?_) (fun h=>?_)|with_reducible refine Br.ne (fun h=>?_) (fun h=>?_)|with_reducible refine Br.nne (fun h=>?_) (fun h=>?_)|with_reducible refine Br.se (fun h=>?_) (fun h=>?_)|with_reducible refine Br.sne (fun h=>?_) (fun h=>?_)|with_reducible refine Br.nb (fun h=>?_) (fun h=>?_)|with_reducible refine Br.mk (fun h=>?_) (fun h=>?_)|refine Br.d (fun h=>?_) (fun h=>?_)|refine Br.nd (fun h=>?_) (fun h=>?_)|refine Br.e (fun h=>?_) (fun h=>?_)|refine Br.ne (fun h=>?_) (fun h=>?_)|refine Br.nne (fun h=>?_) (fun h=>?_)|refine Br.se (fun h=>?_) (fun h=>?_)|refine Br.mk (fun h=>?_) (fun h=>?_))
  ·refine ⟨?_,hw⟩
   rw [decide_eq_true (p:=s.size≠0) (by omega),Bool.true_and,decide_eq_decide.2 (show ((s.size:Int)≤64)↔s.size≤64 by omega)]
  ·refine ⟨?_,hw⟩
   rw [decide_eq_false (p:=s.size≠0) (by omega)];rfl
def posM {β:Type} (k:ByteArray):List (ByteArray × β)→Option Nat
 |[]=>none
 |e::l=>if k==e.1 then some 0 else (posM k l).map (· + 1)
def placeD (k:ByteArray) (fs:Fs):Int:=match posM k fs with|some i=>i|none=>-1
theorem posM_app {β:Type} {k:ByteArray} {v:β}:∀ {a b:List (ByteArray × β)},getM k a=none→posM k (a++(k,v)::b)=some a.length
 |[],b,_=>by simp [posM,ba_rfl]
 |e::a,b,h=>by
  rw [getM] at h
  split at h
  ·cases h
  ·rename_i hne
   rw [List.cons_append,posM,if_neg hne,posM_app h];rfl
theorem posM_none {β:Type} {k:ByteArray}:∀ {l:List (ByteArray × β)},getM k l=none→posM k l=none
 |[],_=>rfl
 |e::l,h=>by
  rw [getM] at h
  split at h
  ·cases h
  ·rename_i hne;rw [posM,if_neg hne,posM_none h];rfl
theorem placeD_app {k:ByteArray} {f:Fl} {a b:Fs} (h:getM k a=none):placeD k (a++(k,f)::b)=a.length:=by unfold placeD;rw [posM_app h]
theorem placeD_none {k:ByteArray} {fs:Fs} (h:getM k fs=none):placeD k fs=-1:=by unfold placeD;rw [posM_none h]
theorem erR_len (E:List RE):(erR E).length=E.length:=by simp [erR]
theorem erR_app (a b:List RE):erR (a++b)=erR a++erR b:=by simp [erR]
theorem erR_cons (e:RE) (b:List RE):erR (e::b)=(e.1,e.2.2)::erR b:=rfl
theorem place_spec {r:Nat} {s:Sl} {E:List RE} {st:DS} (k:ByteArray) (hE:erR E=st.fs) (hl:E.length≤1000000) (hw:Sat R (RO r s E st Hs) w):
  Gets Tryz.prog 81 #[.pointer (some ⟨r,0,none⟩),.string k] w fun v w'=>v=.int .i64 (placeD k st.fs)∧Sat R (RO r s E st Hs) w':=by
 apply call81
 have hsl:s.len=E.length:=by have:=OwnN.len (hw.take (OwnN 3 s 112 (E.map rowR)));rwa [List.length_map] at this
 refine ⟨fun i w=>∃ j:Nat,i=j∧j≤E.length∧getM k (st.fs.take j)=none∧Sat R (RO r s E st Hs) w,fun i _=>E.length - i.toNat,⟨0,rfl,Nat.zero_le _,rfl,hw⟩,?_⟩
 rintro z _ w ⟨j,rfl,hj,hn,hw⟩
 repeat (first|refine NilP.mk rfl ?_|refine ⟨_,At.own selfS (by exact ⟨rfl,trivial⟩),?_⟩|refine ⟨_,At.own (eqS hw) (by exact ⟨rfl,trivial⟩),?_⟩|refine ⟨_,(by rw [add_off];exact At.own selfS (by exact ⟨rfl,trivial⟩)),?_⟩|refine ⟨_,(by rw [add_off];exact At.own (eqS hw) (by exact ⟨rfl,trivial⟩)),?_⟩)
 (first|with_reducible refine Br.d (fun h=>?_) (fun h=>?_)|with_reducible refine Br.nd (fun h=>?_) (fun h=>?_)|with_reducible refine Br.e (fun h=>?_) (fun h=>?_)|with_reducible refine Br.ne (fun h=>?_) (fun h=>?_)|with_reducible refine Br.nne (fun h=>?_) (fun h=>?_)|with_reducible refine Br.se (fun h=>?_) (fun h=>?_)|with_reducible refine Br.sne (fun h=>?_) (fun h=>?_)|with_reducible refine Br.nb (fun h=>?_) (fun h=>?_)|with_reducible refine Br.mk (fun h=>?_) (fun h=>?_)|refine Br.d (fun h=>?_) (fun h=>?_)|refine Br.nd (fun h=>?_) (fun h=>?_)|refine Br.e (fun h=>?_) (fun h=>?_)|refine Br.ne (fun h=>?_) (fun h=>?_)|refine Br.nne (fun h=>?_) (fun h=>?_)|refine Br.se (fun h=>?_) (fun h=>?_)|refine Br.mk (fun h=>?_) (fun h=>?_))
 ·have hj':j<E.length:=by omega
  repeat (first|refine NilP.mk rfl ?_|refine ⟨_,At.own selfS (by exact ⟨rfl,trivial⟩),?_⟩|refine ⟨_,At.own (eqS hw) (by exact ⟨rfl,trivial⟩),?_⟩|refine ⟨_,(by rw [add_off];exact At.own selfS (by exact ⟨rfl,trivial⟩)),?_⟩|refine ⟨_,(by rw [add_off];exact At.own (eqS hw) (by exact ⟨rfl,trivial⟩)),?_⟩)
  refine (RO.reads hw (eqS hw)).rngM hj' fun a ha el=>⟨_,el.zz (by exact ⟨rfl,trivial⟩),?_⟩
  have hge:st.fs[j]'(by rw [←hE,erR_len];exact hj')=(E[j].1,E[j].2.2):=by simp [←hE,erR]
  have hsplit:st.fs=st.fs.take j++(E[j].1,E[j].2.2)::st.fs.drop (j + 1):=by
   rw [←hge,←List.drop_eq_getElem_cons,List.take_append_drop]
  have hlen:(st.fs.take j).length=j:=by rw [List.length_take,←hE,erR_len];omega
  (first|with_reducible refine Br.d (fun h=>?_) (fun h=>?_)|with_reducible refine Br.nd (fun h=>?_) (fun h=>?_)|with_reducible refine Br.e (fun h=>?_) (fun h=>?_)|with_reducible refine Br.ne (fun h=>?_) (fun h=>?_)|with_reducible refine Br.nne (fun h=>?_) (fun h=>?_)|with_reducible refine Br.se (fun h=>?_) (fun h=>?_)|with_reducible refine Br.sne (fun h=>?_) (fun h=>?_)|with_reducible refine Br.nb (fun h=>?_) (fun h=>?_)|with_reducible refine Br.mk (fun h=>?_) (fun h=>?_)|refine Br.d (fun h=>?_) (fun h=>?_)|refine Br.nd (fun h=>?_) (fun h=>?_)|refine Br.e (fun h=>?_) (fun h=>?_)|refine Br.ne (fun h=>?_) (fun h=>?_)|refine Br.nne (fun h=>?_) (fun h=>?_)|refine Br.se (fun h=>?_) (fun h=>?_)|refine Br.mk (fun h=>?_) (fun h=>?_))
  ·subst h
   refine ⟨?_,hw⟩
   rw [hsplit,placeD_app hn,hlen]
  ·rw [wrap64 (by omega) (by omega)]
   refine ⟨⟨j + 1,by omega,by omega,?_,hw⟩,by dsimp only;omega⟩
   have:st.fs.take (j + 1)=st.fs.take j++[(E[j].1,E[j].2.2)]:=by
    rw [←hge,List.take_succ_eq_append_getElem]
   rw [this]
   refine getM_of_notin ?_
   rw [List.map_append,List.mem_append,not_or]
   exact ⟨notin_of_getM hn,by simp;exact fun h2=>h h2.symm⟩
 ·refine ⟨?_,hw⟩
  rw [List.take_of_length_le (by rw [←hE,erR_len];omega)] at hn
  rw [placeD_none hn]
end Go.Proofs.YtkfedbncmfnpnaaGreatDoor
/- The reference's disk: change, put, out. Condition: bounds on lengths. -/
namespace Go.Proofs.YtkfedbncmfnpnaaGreatDoor
set_option linter.unusedVariables false
set_option linter.unusedSimpArgs false
open Go Go.VC
variable {R:Cx} {Hs Rest:List HP} {w:World}
theorem metN_zero:metN 0=(-1,true):=rfl
theorem metN_pos {n:Int} (h:0<n):metN n=(n - 1,false):=by
 unfold metN
 rw [if_neg (by simp;omega)]
 simp;omega
theorem metN_no:metN (-1)=(-1,false):=rfl
theorem changeR_spec {r:Nat} {st:DS} {k k2:ByteArray} (c:Counts st) (hk:k.size≤9223372036854775807) (hk2:k2.size≤9223372036854775807) (hw:Sat R (RefAt r st::Hs) w):
  Gets Tryz.prog 79 #[.pointer (some ⟨r,0,none⟩),.string k,.string k2] w fun v w'=>v=.int .i64 (chg st (nameOk k && nameOk k2)).2∧Sat R (RefAt r (chg st (nameOk k && nameOk k2)).1::Hs) w':=by
 apply call79
 refine (isName_spec k hk hw).use ?_
 rintro _ w ⟨rfl,hw⟩
 refine ⟨_,rfl,(isName_spec k2 hk2 hw).use ?_⟩
 rintro _ w ⟨rfl,hw⟩
 refine ⟨_,rfl,fun w=>(nameOk k && nameOk k2)=true∧Sat R (RefAt r st::Hs) w,?_,?_⟩
 ·have no:(nameOk k && nameOk k2)=false→Value.int .i64 1=.int .i64 (chg st (nameOk k && nameOk k2)).2∧Sat R (RefAt r (chg st (nameOk k && nameOk k2)).1::Hs) w:=fun h=>by rw [h];exact ⟨rfl,hw⟩
  (first|with_reducible refine Br.d (fun h=>?_) (fun h=>?_)|with_reducible refine Br.nd (fun h=>?_) (fun h=>?_)|with_reducible refine Br.e (fun h=>?_) (fun h=>?_)|with_reducible refine Br.ne (fun h=>?_) (fun h=>?_)|with_reducible refine Br.nne (fun h=>?_) (fun h=>?_)|with_reducible refine Br.se (fun h=>?_) (fun h=>?_)|with_reducible refine Br.sne (fun h=>?_) (fun h=>?_)|with_reducible refine Br.nb (fun h=>?_) (fun h=>?_)|with_reducible refine Br.mk (fun h=>?_) (fun h=>?_)|refine Br.d (fun h=>?_) (fun h=>?_)|refine Br.nd (fun h=>?_) (fun h=>?_)|refine Br.e (fun h=>?_) (fun h=>?_)|refine Br.ne (fun h=>?_) (fun h=>?_)|refine Br.nne (fun h=>?_) (fun h=>?_)|refine Br.se (fun h=>?_) (fun h=>?_)|refine Br.mk (fun h=>?_) (fun h=>?_))
  ·exact no (by rw [h];rfl)
  ·(first|with_reducible refine Br.d (fun h=>?_) (fun h=>?_)|with_reducible refine Br.nd (fun h=>?_) (fun h=>?_)|with_reducible refine Br.e (fun h=>?_) (fun h=>?_)|with_reducible refine Br.ne (fun h=>?_) (fun h=>?_)|with_reducible refine Br.nne (fun h=>?_) (fun h=>?_)|with_reducible refine Br.se (fun h=>?_) (fun h=>?_)|with_reducible refine Br.sne (fun h=>?_) (fun h=>?_)|with_reducible refine Br.nb (fun h=>?_) (fun h=>?_)|with_reducible refine Br.mk (fun h=>?_) (fun h=>?_)|refine Br.d (fun h=>?_) (fun h=>?_)|refine Br.nd (fun h=>?_) (fun h=>?_)|refine Br.e (fun h=>?_) (fun h=>?_)|refine Br.ne (fun h=>?_) (fun h=>?_)|refine Br.nne (fun h=>?_) (fun h=>?_)|refine Br.se (fun h=>?_) (fun h=>?_)|refine Br.mk (fun h=>?_) (fun h=>?_))
   ·rename_i h2;exact no (by rw [h,h2];rfl)
   ·rename_i h2;exact ⟨by rw [h,h2];rfl,hw⟩
 rintro z w ⟨hok,hw⟩
 rw [hok]
 obtain ⟨s,E,hE,hw⟩:=Sat.ref.1 hw
 have a0:=c.a0;have a1:=c.a1;have f0:=c.f0;have f1:=c.f1
 repeat (first|refine NilP.mk rfl ?_|refine ⟨_,At.own selfS (by exact ⟨rfl,trivial⟩),?_⟩|refine ⟨_,At.own (eqS hw) (by exact ⟨rfl,trivial⟩),?_⟩|refine ⟨_,(by rw [add_off];exact At.own selfS (by exact ⟨rfl,trivial⟩)),?_⟩|refine ⟨_,(by rw [add_off];exact At.own (eqS hw) (by exact ⟨rfl,trivial⟩)),?_⟩)
 (first|with_reducible refine Br.d (fun h=>?_) (fun h=>?_)|with_reducible refine Br.nd (fun h=>?_) (fun h=>?_)|with_reducible refine Br.e (fun h=>?_) (fun h=>?_)|with_reducible refine Br.ne (fun h=>?_) (fun h=>?_)|with_reducible refine Br.nne (fun h=>?_) (fun h=>?_)|with_reducible refine Br.se (fun h=>?_) (fun h=>?_)|with_reducible refine Br.sne (fun h=>?_) (fun h=>?_)|with_reducible refine Br.nb (fun h=>?_) (fun h=>?_)|with_reducible refine Br.mk (fun h=>?_) (fun h=>?_)|refine Br.d (fun h=>?_) (fun h=>?_)|refine Br.nd (fun h=>?_) (fun h=>?_)|refine Br.e (fun h=>?_) (fun h=>?_)|refine Br.ne (fun h=>?_) (fun h=>?_)|refine Br.nne (fun h=>?_) (fun h=>?_)|refine Br.se (fun h=>?_) (fun h=>?_)|refine Br.mk (fun h=>?_) (fun h=>?_))
 ·have e:chg st true=(st,5):=by simp [chg,h]
  rw [e];exact ⟨rfl,RO.shut hE hw⟩
 have hoff:=h
 repeat (first|refine NilP.mk rfl ?_|refine ⟨_,At.own selfS (by exact ⟨rfl,trivial⟩),?_⟩|refine ⟨_,At.own (eqS hw) (by exact ⟨rfl,trivial⟩),?_⟩|refine ⟨_,(by rw [add_off];exact At.own selfS (by exact ⟨rfl,trivial⟩)),?_⟩|refine ⟨_,(by rw [add_off];exact At.own (eqS hw) (by exact ⟨rfl,trivial⟩)),?_⟩)
 (first|with_reducible refine Br.d (fun h=>?_) (fun h=>?_)|with_reducible refine Br.nd (fun h=>?_) (fun h=>?_)|with_reducible refine Br.e (fun h=>?_) (fun h=>?_)|with_reducible refine Br.ne (fun h=>?_) (fun h=>?_)|with_reducible refine Br.nne (fun h=>?_) (fun h=>?_)|with_reducible refine Br.se (fun h=>?_) (fun h=>?_)|with_reducible refine Br.sne (fun h=>?_) (fun h=>?_)|with_reducible refine Br.nb (fun h=>?_) (fun h=>?_)|with_reducible refine Br.mk (fun h=>?_) (fun h=>?_)|refine Br.d (fun h=>?_) (fun h=>?_)|refine Br.nd (fun h=>?_) (fun h=>?_)|refine Br.e (fun h=>?_) (fun h=>?_)|refine Br.ne (fun h=>?_) (fun h=>?_)|refine Br.nne (fun h=>?_) (fun h=>?_)|refine Br.se (fun h=>?_) (fun h=>?_)|refine Br.mk (fun h=>?_) (fun h=>?_))
 ·repeat (first|refine NilP.mk rfl ?_|refine ⟨_,At.own selfS (by exact ⟨rfl,trivial⟩),?_⟩|refine ⟨_,At.own (eqS hw) (by exact ⟨rfl,trivial⟩),?_⟩|refine ⟨_,(by rw [add_off];exact At.own selfS (by exact ⟨rfl,trivial⟩)),?_⟩|refine ⟨_,(by rw [add_off];exact At.own (eqS hw) (by exact ⟨rfl,trivial⟩)),?_⟩)
  refine store_rule hw (by kernel_rfl) rfl (by simp [Value.cells,putL_len]) fun w hw=>?_
  repeat (first|refine NilP.mk rfl ?_|refine ⟨_,At.own selfS (by exact ⟨rfl,trivial⟩),?_⟩|refine ⟨_,At.own (eqS hw) (by exact ⟨rfl,trivial⟩),?_⟩|refine ⟨_,(by rw [add_off];exact At.own selfS (by exact ⟨rfl,trivial⟩)),?_⟩|refine ⟨_,(by rw [add_off];exact At.own (eqS hw) (by exact ⟨rfl,trivial⟩)),?_⟩)
  refine store_rule hw (by kernel_rfl) rfl (by simp [Value.cells,putL_len]) fun w hw=>?_
  have e:chg st true=({ st with arm:=-1,off:=true },5):=by simp [chg,hoff,h,metN_zero]
  rw [e];exact ⟨rfl,RO.shut hE hw⟩
 have harm:¬ st.arm=0:=h
 have hm2:(metN st.arm).2=false:=by
  by_cases hp:0<st.arm
  ·rw [metN_pos hp]
  ·rw [show st.arm=-1 by omega];rfl
 refine ⟨fun w=>Sat R (RO r s E { st with arm:=(metN st.arm).1 } Hs) w,?_,?_⟩
 ·repeat (first|refine NilP.mk rfl ?_|refine ⟨_,At.own selfS (by exact ⟨rfl,trivial⟩),?_⟩|refine ⟨_,At.own (eqS hw) (by exact ⟨rfl,trivial⟩),?_⟩|refine ⟨_,(by rw [add_off];exact At.own selfS (by exact ⟨rfl,trivial⟩)),?_⟩|refine ⟨_,(by rw [add_off];exact At.own (eqS hw) (by exact ⟨rfl,trivial⟩)),?_⟩)
  (first|with_reducible refine Br.d (fun h=>?_) (fun h=>?_)|with_reducible refine Br.nd (fun h=>?_) (fun h=>?_)|with_reducible refine Br.e (fun h=>?_) (fun h=>?_)|with_reducible refine Br.ne (fun h=>?_) (fun h=>?_)|with_reducible refine Br.nne (fun h=>?_) (fun h=>?_)|with_reducible refine Br.se (fun h=>?_) (fun h=>?_)|with_reducible refine Br.sne (fun h=>?_) (fun h=>?_)|with_reducible refine Br.nb (fun h=>?_) (fun h=>?_)|with_reducible refine Br.mk (fun h=>?_) (fun h=>?_)|refine Br.d (fun h=>?_) (fun h=>?_)|refine Br.nd (fun h=>?_) (fun h=>?_)|refine Br.e (fun h=>?_) (fun h=>?_)|refine Br.ne (fun h=>?_) (fun h=>?_)|refine Br.nne (fun h=>?_) (fun h=>?_)|refine Br.se (fun h=>?_) (fun h=>?_)|refine Br.mk (fun h=>?_) (fun h=>?_))
  ·have h:0<st.arm:=h
   repeat (first|refine NilP.mk rfl ?_|refine ⟨_,At.own selfS (by exact ⟨rfl,trivial⟩),?_⟩|refine ⟨_,At.own (eqS hw) (by exact ⟨rfl,trivial⟩),?_⟩|refine ⟨_,(by rw [add_off];exact At.own selfS (by exact ⟨rfl,trivial⟩)),?_⟩|refine ⟨_,(by rw [add_off];exact At.own (eqS hw) (by exact ⟨rfl,trivial⟩)),?_⟩)
   rw [wrap64 (by omega) (by omega)]
   refine store_rule hw (by kernel_rfl) rfl (by simp [Value.cells,putL_len]) fun w hw=>?_
   rw [metN_pos h];exact hw
  ·have h:¬ 0<st.arm:=h
   have:st.arm=-1:=by omega
   rw [this]
   have e:({ st with arm:=(metN (-1)).1 }:DS)=st:=by rw [show (metN (-1)).1=-1 from rfl,←this]
   rw [e];exact hw
 intro z w hw
 repeat (first|refine NilP.mk rfl ?_|refine ⟨_,At.own selfS (by exact ⟨rfl,trivial⟩),?_⟩|refine ⟨_,At.own (eqS hw) (by exact ⟨rfl,trivial⟩),?_⟩|refine ⟨_,(by rw [add_off];exact At.own selfS (by exact ⟨rfl,trivial⟩)),?_⟩|refine ⟨_,(by rw [add_off];exact At.own (eqS hw) (by exact ⟨rfl,trivial⟩)),?_⟩)
 (first|with_reducible refine Br.d (fun h=>?_) (fun h=>?_)|with_reducible refine Br.nd (fun h=>?_) (fun h=>?_)|with_reducible refine Br.e (fun h=>?_) (fun h=>?_)|with_reducible refine Br.ne (fun h=>?_) (fun h=>?_)|with_reducible refine Br.nne (fun h=>?_) (fun h=>?_)|with_reducible refine Br.se (fun h=>?_) (fun h=>?_)|with_reducible refine Br.sne (fun h=>?_) (fun h=>?_)|with_reducible refine Br.nb (fun h=>?_) (fun h=>?_)|with_reducible refine Br.mk (fun h=>?_) (fun h=>?_)|refine Br.d (fun h=>?_) (fun h=>?_)|refine Br.nd (fun h=>?_) (fun h=>?_)|refine Br.e (fun h=>?_) (fun h=>?_)|refine Br.ne (fun h=>?_) (fun h=>?_)|refine Br.nne (fun h=>?_) (fun h=>?_)|refine Br.se (fun h=>?_) (fun h=>?_)|refine Br.mk (fun h=>?_) (fun h=>?_))
 ·repeat (first|refine NilP.mk rfl ?_|refine ⟨_,At.own selfS (by exact ⟨rfl,trivial⟩),?_⟩|refine ⟨_,At.own (eqS hw) (by exact ⟨rfl,trivial⟩),?_⟩|refine ⟨_,(by rw [add_off];exact At.own selfS (by exact ⟨rfl,trivial⟩)),?_⟩|refine ⟨_,(by rw [add_off];exact At.own (eqS hw) (by exact ⟨rfl,trivial⟩)),?_⟩)
  refine store_rule hw (by kernel_rfl) rfl (by simp [Value.cells,putL_len]) fun w hw=>?_
  have h:st.fail=0:=h
  have e:chg st true=({ st with arm:=(metN st.arm).1,fail:=-1 },4):=by simp [chg,hoff,hm2,h,metN_zero]
  rw [e];exact ⟨rfl,RO.shut hE hw⟩
 have hfail:¬ st.fail=0:=h
 repeat (first|refine NilP.mk rfl ?_|refine ⟨_,At.own selfS (by exact ⟨rfl,trivial⟩),?_⟩|refine ⟨_,At.own (eqS hw) (by exact ⟨rfl,trivial⟩),?_⟩|refine ⟨_,(by rw [add_off];exact At.own selfS (by exact ⟨rfl,trivial⟩)),?_⟩|refine ⟨_,(by rw [add_off];exact At.own (eqS hw) (by exact ⟨rfl,trivial⟩)),?_⟩)
 (first|with_reducible refine Br.d (fun h=>?_) (fun h=>?_)|with_reducible refine Br.nd (fun h=>?_) (fun h=>?_)|with_reducible refine Br.e (fun h=>?_) (fun h=>?_)|with_reducible refine Br.ne (fun h=>?_) (fun h=>?_)|with_reducible refine Br.nne (fun h=>?_) (fun h=>?_)|with_reducible refine Br.se (fun h=>?_) (fun h=>?_)|with_reducible refine Br.sne (fun h=>?_) (fun h=>?_)|with_reducible refine Br.nb (fun h=>?_) (fun h=>?_)|with_reducible refine Br.mk (fun h=>?_) (fun h=>?_)|refine Br.d (fun h=>?_) (fun h=>?_)|refine Br.nd (fun h=>?_) (fun h=>?_)|refine Br.e (fun h=>?_) (fun h=>?_)|refine Br.ne (fun h=>?_) (fun h=>?_)|refine Br.nne (fun h=>?_) (fun h=>?_)|refine Br.se (fun h=>?_) (fun h=>?_)|refine Br.mk (fun h=>?_) (fun h=>?_))
 ·have h:0<st.fail:=h
  repeat (first|refine NilP.mk rfl ?_|refine ⟨_,At.own selfS (by exact ⟨rfl,trivial⟩),?_⟩|refine ⟨_,At.own (eqS hw) (by exact ⟨rfl,trivial⟩),?_⟩|refine ⟨_,(by rw [add_off];exact At.own selfS (by exact ⟨rfl,trivial⟩)),?_⟩|refine ⟨_,(by rw [add_off];exact At.own (eqS hw) (by exact ⟨rfl,trivial⟩)),?_⟩)
  rw [wrap64 (x:=st.fail - 1) (by omega) (by omega)]
  refine store_rule hw (by kernel_rfl) rfl (by simp [Value.cells,putL_len]) fun w hw=>?_
  have e:chg st true=({ st with arm:=(metN st.arm).1,fail:=st.fail - 1 },0):=by simp [chg,hoff,hm2,metN_pos h]
  rw [e];exact ⟨rfl,RO.shut hE hw⟩
 ·have h:¬ 0<st.fail:=h
  have hf:st.fail=-1:=by omega
  have e:chg st true=({ st with arm:=(metN st.arm).1,fail:=st.fail },0):=by simp [chg,hoff,hm2,hf,metN_no]
  rw [e];exact ⟨rfl,RO.shut hE hw⟩
def ltB (a b:ByteArray):Bool:=Op.bytesLess a.toList b.toList
def atM {β:Type} (k:ByteArray):List (ByteArray × β)→Nat
 |[]=>0
 |e::l=>if ltB e.1 k then atM k l + 1 else 0
def insM {β:Type} (x:ByteArray × β) (l:List (ByteArray × β)):List (ByteArray × β):=l.take (atM x.1 l)++x::l.drop (atM x.1 l)
theorem atM_le {β:Type} (k:ByteArray):∀ l:List (ByteArray × β),atM k l≤l.length
 |[]=>Nat.le_refl _
 |e::l=>by rw [atM];split;have:=atM_le k l;simp;omega;simp
theorem insM_perm {β:Type} (x:ByteArray × β) (l:List (ByteArray × β)):(insM x l).Perm (x::l):=by
 unfold insM
 refine List.perm_middle.trans ?_
 rw [List.take_append_drop]
theorem one_rowR (e:RE):oneAll (rowR e)=true:=rfl
theorem one_rows (E:List RE):oneAll (E.map rowR).flatten=true:=by
 unfold oneAll
 rw [List.all_eq_true]
 intro v hv
 obtain ⟨x,hx,hv⟩:=List.mem_flatten.1 hv
 obtain ⟨e,_,rfl⟩:=List.mem_map.1 hx
 exact List.all_eq_true.1 (one_rowR e) v hv
theorem elF:ElN Tryz.prog 79 79 112 3 48:=⟨Tryz.underlying79,⟨_,Tryz.underlying79⟩,by kernel_rfl⟩
theorem putR_spec {r:Nat} {s sb:Sl} {E:List RE} {st:DS} {k:ByteArray} {f:Fl} (hE:erR E=st.fs) (hl:E.length≤1000000) (hw:Sat R (RO r s E st (Own sb 5 (b8 f.b)::Hs)) w):
  Gets Tryz.prog 82 #[.pointer (some ⟨r,0,none⟩),.agg #[.string k,.slice sb.a sb.len sb.cap,.int .i64 f.sure]] w fun v w'=>v=.tuple #[]∧Sat R (RefAt r { st with fs:=insM (k,f) st.fs }::Hs) w':=by
 apply call82
 have hsl:s.len=E.length:=by have:=OwnN.len (hw.take (OwnN 3 s 112 (E.map rowR)));rwa [List.length_map] at this
 have hcap:s.len≤s.cap:=OwnN.cap (by decide) (hw.take (OwnN 3 s 112 (E.map rowR)))
 have hfl:st.fs.length=E.length:=by rw [←hE,erR_len]
 have hat:=atM_le k st.fs
 refine new_rule hw fun bf w hw=>?_
 let G:List HP:=pts bf (.cells [.string k,.slice sb.a sb.len sb.cap,.int .i64 f.sure].toArray 112 (0,0))::RO r s E st (Own sb 5 (b8 f.b)::Hs)
 have hw:Sat R G w:=hw
 refine ⟨fun at_ w=>at_=(atM k st.fs:Nat)∧Sat R G w,?_,?_⟩
 ·refine ⟨fun i w=>∃ j:Nat,i=j∧j≤E.length∧atM k st.fs=j + atM k (st.fs.drop j)∧Sat R G w,fun i _=>E.length - i.toNat,⟨0,rfl,Nat.zero_le _,by simp,hw⟩,?_⟩
  rintro z _ w ⟨j,rfl,hj,hn,hw⟩
  refine drw_rule hw fun w hw=>?_
  repeat (first|refine NilP.mk rfl ?_|refine ⟨_,At.own selfS (by exact ⟨rfl,trivial⟩),?_⟩|refine ⟨_,At.own (eqS hw) (by exact ⟨rfl,trivial⟩),?_⟩|refine ⟨_,(by rw [add_off];exact At.own selfS (by exact ⟨rfl,trivial⟩)),?_⟩|refine ⟨_,(by rw [add_off];exact At.own (eqS hw) (by exact ⟨rfl,trivial⟩)),?_⟩)
  (first|with_reducible refine Br.d (fun h=>?_) (fun h=>?_)|with_reducible refine Br.nd (fun h=>?_) (fun h=>?_)|with_reducible refine Br.e (fun h=>?_) (fun h=>?_)|with_reducible refine Br.ne (fun h=>?_) (fun h=>?_)|with_reducible refine Br.nne (fun h=>?_) (fun h=>?_)|with_reducible refine Br.se (fun h=>?_) (fun h=>?_)|with_reducible refine Br.sne (fun h=>?_) (fun h=>?_)|with_reducible refine Br.nb (fun h=>?_) (fun h=>?_)|with_reducible refine Br.mk (fun h=>?_) (fun h=>?_)|refine Br.d (fun h=>?_) (fun h=>?_)|refine Br.nd (fun h=>?_) (fun h=>?_)|refine Br.e (fun h=>?_) (fun h=>?_)|refine Br.ne (fun h=>?_) (fun h=>?_)|refine Br.nne (fun h=>?_) (fun h=>?_)|refine Br.se (fun h=>?_) (fun h=>?_)|refine Br.mk (fun h=>?_) (fun h=>?_))
  ·have hj':j<E.length:=by omega
   repeat (first|refine NilP.mk rfl ?_|refine ⟨_,At.own selfS (by exact ⟨rfl,trivial⟩),?_⟩|refine ⟨_,At.own (eqS hw) (by exact ⟨rfl,trivial⟩),?_⟩|refine ⟨_,(by rw [add_off];exact At.own selfS (by exact ⟨rfl,trivial⟩)),?_⟩|refine ⟨_,(by rw [add_off];exact At.own (eqS hw) (by exact ⟨rfl,trivial⟩)),?_⟩)
   have hr:ReadsN 3 s (E.map rowR) (Sat R G):=OwnN.readsM (rows:=E.map rowR) (T:=112) hw selfS
   refine hr.rngM hj' fun a ha el=>⟨_,el.zz (by exact ⟨rfl,trivial⟩),⟨_,At.own selfS (by exact ⟨rfl,trivial⟩),?_⟩⟩
   have hge:st.fs[j]'(by omega)=(E[j].1,E[j].2.2):=by simp [←hE,erR]
   rw [drop_get (by omega),hge,atM] at hn
   refine Br.mk (fun h=>?_) (fun h=>?_)
   ·rw [if_pos (show ltB _ k=true from h)] at hn
    rw [wrap64 (by omega) (by omega)]
    exact ⟨⟨j + 1,by omega,by omega,by omega,hw⟩,by dsimp only;omega⟩
   ·rw [if_neg (by rw [show ltB _ k=false from h];simp)] at hn
    exact ⟨by omega,hw⟩
  ·have:j=E.length:=by omega
   subst this
   rw [List.drop_eq_nil_of_le (by omega)] at hn
   exact ⟨by rw [hn];simp [atM],hw⟩
 rintro z _ w ⟨rfl,hw⟩
 generalize hAt:atM k st.fs=at_ at hat
 refine new_rule hw fun b1 w hw=>?_
 have hw:Sat R (OwnN 3 s 112 (E.map rowR)::pts b1 (.cells #[] 112 (0,0))::pts bf (.cells [.string k,.slice sb.a sb.len sb.cap,.int .i64 f.sure].toArray 112 (0,0))::pts r (rCells st s)::BufsAt E::Own sb 5 (b8 f.b)::Hs) w:=hw.take (OwnN 3 s 112 (E.map rowR))
 obtain ⟨R',hro,⟨xR,hxR⟩,hw,back⟩:=OwnN.lend hw
 repeat (first|refine NilP.mk rfl ?_|refine ⟨_,At.own selfS (by exact ⟨rfl,trivial⟩),?_⟩|refine ⟨_,At.own (eqS hw) (by exact ⟨rfl,trivial⟩),?_⟩|refine ⟨_,(by rw [add_off];exact At.own selfS (by exact ⟨rfl,trivial⟩)),?_⟩|refine ⟨_,(by rw [add_off];exact At.own (eqS hw) (by exact ⟨rfl,trivial⟩)),?_⟩)
 refine ⟨by omega,by omega,?_⟩
 have hr1:RoN 3 R' ⟨s.a,at_,s.cap⟩ ((E.map rowR).take at_):=hro.take (by rw [List.length_map];omega) s.cap
 have h1:∀ l:List RE,Wid 3 (l.map rowR):=fun l x hx=>by obtain ⟨e,_,rfl⟩:=List.mem_map.1 hx;rfl
 rw [←List.map_take] at hr1
 refine appendN0_rule elF hw (srcRoN elF.hk hw hr1 (one_rows _)) (h1 _) (by simp;omega) (by simp;omega) fun s2 w hw=>?_
 repeat (first|refine NilP.mk rfl ?_|refine ⟨_,At.own selfS (by exact ⟨rfl,trivial⟩),?_⟩|refine ⟨_,At.own (eqS hw) (by exact ⟨rfl,trivial⟩),?_⟩|refine ⟨_,(by rw [add_off];exact At.own selfS (by exact ⟨rfl,trivial⟩)),?_⟩|refine ⟨_,(by rw [add_off];exact At.own (eqS hw) (by exact ⟨rfl,trivial⟩)),?_⟩)
 refine ⟨k,sb,f.sure,At.own (eqS hw) (by exact ⟨rfl,rfl,rfl,trivial⟩),?_⟩
 refine pushN_rule elF hw rfl rfl (by simp;omega) (by simp;omega) fun s3 w hw=>?_
 repeat (first|refine NilP.mk rfl ?_|refine ⟨_,At.own selfS (by exact ⟨rfl,trivial⟩),?_⟩|refine ⟨_,At.own (eqS hw) (by exact ⟨rfl,trivial⟩),?_⟩|refine ⟨_,(by rw [add_off];exact At.own selfS (by exact ⟨rfl,trivial⟩)),?_⟩|refine ⟨_,(by rw [add_off];exact At.own (eqS hw) (by exact ⟨rfl,trivial⟩)),?_⟩)
 refine ⟨by omega,by omega,?_⟩
 have hr2:RoN 3 R' ⟨cutA s.a at_ s.cap 3,s.len - at_,s.cap - at_⟩ (((E.map rowR).take s.len).drop at_):=hro.sub (by omega) (by rw [List.length_map];omega) (fun h=>by omega)
 rw [←List.map_take,←List.map_drop,List.take_of_length_le (by omega)] at hr2
 refine appendN_rule elF hw (srcRoN elF.hk hw hr2 (one_rows _)) (h1 _) (by simp;omega) (by simp;omega) fun s4 w hw=>?_
 have hw:=hw.take (pts r (rCells st s))
 repeat (first|refine NilP.mk rfl ?_|refine ⟨_,At.own selfS (by exact ⟨rfl,trivial⟩),?_⟩|refine ⟨_,At.own (eqS hw) (by exact ⟨rfl,trivial⟩),?_⟩|refine ⟨_,(by rw [add_off];exact At.own selfS (by exact ⟨rfl,trivial⟩)),?_⟩|refine ⟨_,(by rw [add_off];exact At.own (eqS hw) (by exact ⟨rfl,trivial⟩)),?_⟩)
 refine store_rule hw (by kernel_rfl) rfl (by simp [Value.cells,putL_len]) fun w hw=>?_
 refine ⟨rfl,?_⟩
 have hw:=back hw
 have hw:=hw.drop
 have eR:(E.take at_).map rowR++[[.string k,.slice sb.a sb.len sb.cap,.int .i64 f.sure]]++(E.drop at_).map rowR=(E.take at_++(k,sb,f)::E.drop at_).map rowR:=by simp [rowR]
 have hw:Sat R (pts r (rCells { st with fs:=insM (k,f) st.fs } s4)::OwnN 3 s4 112 ((E.take at_++(k,sb,f)::E.drop at_).map rowR)::pts bf (.cells [.string k,.slice sb.a sb.len sb.cap,.int .i64 f.sure].toArray 112 (0,0))::BufsAt E::Own sb 5 (b8 f.b)::Hs) w:=by
  rw [←eR];exact hw
 refine RO.shut (s:=s4) (E:=E.take at_++(k,sb,f)::E.drop at_) ?_ ?_
 ·rw [erR_app,erR_cons]
  show _=st.fs.take (atM k st.fs)++(k,f)::st.fs.drop (atM k st.fs)
  rw [hAt,←hE]
  simp [erR,List.map_take,List.map_drop]
 ·refine hw.cons fun _ h=>h.cons fun _ h=>?_
  have h:=h.drop.swap
  rw [show BufsAt E=BufsAt (E.take at_++E.drop at_) by rw [List.take_append_drop]] at h
  exact Bufs.split.2 h
theorem outR_spec {r:Nat} {s:Sl} {a b:List RE} {e:RE} {st:DS} (hE:erR (a++e::b)=st.fs) (hl:(a++e::b).length≤1000000) (hw:Sat R (RO r s (a++e::b) st Hs) w):
  Gets Tryz.prog 134 #[.pointer (some ⟨r,0,none⟩),.int .i64 (a.length:Nat)] w fun v w'=>v=.tuple #[]∧Sat R (Own e.2.1 5 (b8 e.2.2.b)::RefAt r { st with fs:=erR (a++b) }::Hs) w':=by
 apply call134
 have hsl:s.len=(a++e::b).length:=by have:=OwnN.len (hw.take (OwnN 3 s 112 ((a++e::b).map rowR)));rwa [List.length_map] at this
 have hcap:s.len≤s.cap:=OwnN.cap (by decide) (hw.take (OwnN 3 s 112 ((a++e::b).map rowR)))
 have hll:(a++e::b).length=a.length + b.length + 1:=by simp;omega
 rw [hll] at hl hsl
 refine new_rule hw fun b1 w hw=>?_
 have hw:=hw.take (OwnN 3 s 112 ((a++e::b).map rowR))
 obtain ⟨R',hro,⟨xR,hxR⟩,hw,back⟩:=OwnN.lend hw
 repeat (first|refine NilP.mk rfl ?_|refine ⟨_,At.own selfS (by exact ⟨rfl,trivial⟩),?_⟩|refine ⟨_,At.own (eqS hw) (by exact ⟨rfl,trivial⟩),?_⟩|refine ⟨_,(by rw [add_off];exact At.own selfS (by exact ⟨rfl,trivial⟩)),?_⟩|refine ⟨_,(by rw [add_off];exact At.own (eqS hw) (by exact ⟨rfl,trivial⟩)),?_⟩)
 refine ⟨by omega,by omega,?_⟩
 have h1:∀ l:List RE,Wid 3 (l.map rowR):=fun l x hx=>by obtain ⟨e,_,rfl⟩:=List.mem_map.1 hx;rfl
 have hr1:RoN 3 R' ⟨s.a,a.length,s.cap⟩ (((a++e::b).map rowR).take a.length):=hro.take (by rw [List.length_map,hll];omega) s.cap
 rw [←List.map_take,List.take_left' rfl] at hr1
 refine appendN0_rule elF hw (srcRoN elF.hk hw hr1 (one_rows _)) (h1 _) (by simp;omega) (by simp;omega) fun s2 w hw=>?_
 repeat (first|refine NilP.mk rfl ?_|refine ⟨_,At.own selfS (by exact ⟨rfl,trivial⟩),?_⟩|refine ⟨_,At.own (eqS hw) (by exact ⟨rfl,trivial⟩),?_⟩|refine ⟨_,(by rw [add_off];exact At.own selfS (by exact ⟨rfl,trivial⟩)),?_⟩|refine ⟨_,(by rw [add_off];exact At.own (eqS hw) (by exact ⟨rfl,trivial⟩)),?_⟩)
 rw [wrap64 (by omega) (by omega)]
 refine ⟨by omega,by omega,?_⟩
 have hr2:RoN 3 R' ⟨cutA s.a (a.length + 1) s.cap 3,s.len - (a.length + 1),s.cap - (a.length + 1)⟩ ((((a++e::b).map rowR).take s.len).drop (a.length + 1)):=hro.sub (by omega) (by rw [List.length_map,hll];omega) (fun h=>by omega)
 rw [←List.map_take,←List.map_drop,List.take_of_length_le (by rw [hll];omega)] at hr2
 have ed:(a++e::b).drop (a.length + 1)=b:=by rw [←List.drop_drop,List.drop_left' rfl];rfl
 rw [ed] at hr2
 refine appendN_rule elF hw (srcRoN elF.hk hw hr2 (one_rows _)) (h1 _) (by simp;omega) (by simp;omega) fun s4 w hw=>?_
 have hw:=hw.take (pts r (rCells st s))
 repeat (first|refine NilP.mk rfl ?_|refine ⟨_,At.own selfS (by exact ⟨rfl,trivial⟩),?_⟩|refine ⟨_,At.own (eqS hw) (by exact ⟨rfl,trivial⟩),?_⟩|refine ⟨_,(by rw [add_off];exact At.own selfS (by exact ⟨rfl,trivial⟩)),?_⟩|refine ⟨_,(by rw [add_off];exact At.own (eqS hw) (by exact ⟨rfl,trivial⟩)),?_⟩)
 refine store_rule hw (by kernel_rfl) rfl (by simp [Value.cells,putL_len]) fun w hw=>?_
 refine ⟨rfl,?_⟩
 have hw:=(back hw).drop
 rw [←List.map_append] at hw
 have hw:Sat R (pts r (rCells { st with fs:=erR (a++b) } s4)::OwnN 3 s4 112 ((a++b).map rowR)::BufsAt (a++e::b)::Hs) w:=hw
 have hw:=Bufs.split.1 (hw.take (BufsAt (a++e::b)))
 exact hw.cons fun _ h=>RO.shut (s:=s4) (E:=a++b) rfl ((h.take (pts r (rCells { st with fs:=erR (a++b) } s4))).cons fun _ h=>h.swap)
end Go.Proofs.YtkfedbncmfnpnaaGreatDoor
/- The reference's disk: its operations. Condition: bounds on lengths. -/
namespace Go.Proofs.YtkfedbncmfnpnaaGreatDoor
set_option linter.unusedVariables false
set_option linter.unusedSimpArgs false
open Go Go.VC
variable {R:Cx} {Hs Rest:List HP} {w:World}
theorem sizeR_spec {r:Nat} {s:Sl} {E:List RE} {st:DS} (hE:erR E=st.fs) (hl:E.length≤1000000) (ht:total st.fs≤16777216) (hw:Sat R (RO r s E st Hs) w):
  Gets Tryz.prog 80 #[.pointer (some ⟨r,0,none⟩)] w fun v w'=>v=.int .i64 (total st.fs)∧Sat R (RO r s E st Hs) w':=by
 apply call80
 have hsl:s.len=E.length:=by have:=OwnN.len (hw.take (OwnN 3 s 112 (E.map rowR)));rwa [List.length_map] at this
 refine ⟨fun n i w=>∃ j:Nat,i=j∧j≤E.length∧n + total (st.fs.drop j)=total st.fs∧0≤n∧Sat R (RO r s E st Hs) w,fun n i _=>E.length - i.toNat,⟨0,rfl,Nat.zero_le _,by simp,Int.le_refl 0,hw⟩,?_⟩
 rintro z n _ w ⟨j,rfl,hj,hn,h0,hw⟩
 repeat (first|refine NilP.mk rfl ?_|refine ⟨_,At.own selfS (by exact ⟨rfl,trivial⟩),?_⟩|refine ⟨_,At.own (eqS hw) (by exact ⟨rfl,trivial⟩),?_⟩|refine ⟨_,(by rw [add_off];exact At.own selfS (by exact ⟨rfl,trivial⟩)),?_⟩|refine ⟨_,(by rw [add_off];exact At.own (eqS hw) (by exact ⟨rfl,trivial⟩)),?_⟩)
 (first|with_reducible refine Br.d (fun h=>?_) (fun h=>?_)|with_reducible refine Br.nd (fun h=>?_) (fun h=>?_)|with_reducible refine Br.e (fun h=>?_) (fun h=>?_)|with_reducible refine Br.ne (fun h=>?_) (fun h=>?_)|with_reducible refine Br.nne (fun h=>?_) (fun h=>?_)|with_reducible refine Br.se (fun h=>?_) (fun h=>?_)|with_reducible refine Br.sne (fun h=>?_) (fun h=>?_)|with_reducible refine Br.nb (fun h=>?_) (fun h=>?_)|with_reducible refine Br.mk (fun h=>?_) (fun h=>?_)|refine Br.d (fun h=>?_) (fun h=>?_)|refine Br.nd (fun h=>?_) (fun h=>?_)|refine Br.e (fun h=>?_) (fun h=>?_)|refine Br.ne (fun h=>?_) (fun h=>?_)|refine Br.nne (fun h=>?_) (fun h=>?_)|refine Br.se (fun h=>?_) (fun h=>?_)|refine Br.mk (fun h=>?_) (fun h=>?_))
 ·have hj':j<E.length:=by omega
  repeat (first|refine NilP.mk rfl ?_|refine ⟨_,At.own selfS (by exact ⟨rfl,trivial⟩),?_⟩|refine ⟨_,At.own (eqS hw) (by exact ⟨rfl,trivial⟩),?_⟩|refine ⟨_,(by rw [add_off];exact At.own selfS (by exact ⟨rfl,trivial⟩)),?_⟩|refine ⟨_,(by rw [add_off];exact At.own (eqS hw) (by exact ⟨rfl,trivial⟩)),?_⟩)
  refine (RO.reads hw (eqS hw)).rngM hj' fun a ha el=>⟨_,el.f 1 (by exact ⟨rfl,trivial⟩),?_⟩
  have hfl:st.fs.length=E.length:=by rw [←hE,erR_len]
  have hge:st.fs[j]'(by omega)=(E[j].1,E[j].2.2):=by simp [←hE,erR]
  rw [drop_get (by omega),hge,total_cons] at hn
  have hlen:E[j].2.1.len=E[j].2.2.b.length:=by
   have h1:=hw.take (BufsAt E)
   have hsplit:E=E.take j++E[j]::E.drop (j + 1):=by rw [←List.drop_eq_getElem_cons,List.take_append_drop]
   rw [hsplit] at h1
   have:=Own.len (Bufs.split.1 h1)
   simpa using this
  have hnn:=total_nn (st.fs.drop (j + 1))
  simp only at hn
  rw [hlen,wrap64 (by omega) (by omega),wrap64 (by omega) (by omega)]
  exact ⟨⟨j + 1,by omega,by omega,by omega,by omega,hw⟩,by dsimp only;omega⟩
 ·have:j=E.length:=by omega
  subst this
  rw [List.drop_eq_nil_of_le (by rw [←hE,erR_len];omega),total_nil] at hn
  exact ⟨by rw [show n=total st.fs by omega],hw⟩
theorem oneAll_str (xs:List ByteArray):oneAll (xs.map Value.string)=true:=by
 unfold oneAll
 rw [List.all_eq_true]
 intro v hv
 obtain ⟨x,_,rfl⟩:=List.mem_map.1 hv
 rfl
theorem namesR_spec {r:Nat} {s:Sl} {E:List RE} {st:DS} (hE:erR E=st.fs) (hl:E.length≤1000000) (hw:Sat R (RO r s E st Hs) w):
  Gets Tryz.prog 43 #[.pointer (some ⟨r,0,none⟩)] w fun v w'=>∃ t:Sl,v=.slice t.a t.len t.cap∧Sat R (Own t 9 ((st.fs.map (·.1)).map Value.string)::RO r s E st Hs) w':=by
 apply call43
 have hsl:s.len=E.length:=by have:=OwnN.len (hw.take (OwnN 3 s 112 (E.map rowR)));rwa [List.length_map] at this
 have hfl:st.fs.length=E.length:=by rw [←hE,erR_len]
 refine ⟨fun t i w=>∃ j:Nat,i=j∧j≤E.length∧Sat R (Own t 9 (((st.fs.take j).map (·.1)).map Value.string)::RO r s E st Hs) w,fun t i _=>E.length - i.toNat,⟨0,rfl,Nat.zero_le _,by simpa using Own.nil hw⟩,?_⟩
 rintro z t _ w ⟨j,rfl,hj,hw⟩
 repeat (first|refine NilP.mk rfl ?_|refine ⟨_,At.own selfS (by exact ⟨rfl,trivial⟩),?_⟩|refine ⟨_,At.own (eqS hw) (by exact ⟨rfl,trivial⟩),?_⟩|refine ⟨_,(by rw [add_off];exact At.own selfS (by exact ⟨rfl,trivial⟩)),?_⟩|refine ⟨_,(by rw [add_off];exact At.own (eqS hw) (by exact ⟨rfl,trivial⟩)),?_⟩)
 (first|with_reducible refine Br.d (fun h=>?_) (fun h=>?_)|with_reducible refine Br.nd (fun h=>?_) (fun h=>?_)|with_reducible refine Br.e (fun h=>?_) (fun h=>?_)|with_reducible refine Br.ne (fun h=>?_) (fun h=>?_)|with_reducible refine Br.nne (fun h=>?_) (fun h=>?_)|with_reducible refine Br.se (fun h=>?_) (fun h=>?_)|with_reducible refine Br.sne (fun h=>?_) (fun h=>?_)|with_reducible refine Br.nb (fun h=>?_) (fun h=>?_)|with_reducible refine Br.mk (fun h=>?_) (fun h=>?_)|refine Br.d (fun h=>?_) (fun h=>?_)|refine Br.nd (fun h=>?_) (fun h=>?_)|refine Br.e (fun h=>?_) (fun h=>?_)|refine Br.ne (fun h=>?_) (fun h=>?_)|refine Br.nne (fun h=>?_) (fun h=>?_)|refine Br.se (fun h=>?_) (fun h=>?_)|refine Br.mk (fun h=>?_) (fun h=>?_))
 ·have hj':j<E.length:=by omega
  repeat (first|refine NilP.mk rfl ?_|refine ⟨_,At.own selfS (by exact ⟨rfl,trivial⟩),?_⟩|refine ⟨_,At.own (eqS hw) (by exact ⟨rfl,trivial⟩),?_⟩|refine ⟨_,(by rw [add_off];exact At.own selfS (by exact ⟨rfl,trivial⟩)),?_⟩|refine ⟨_,(by rw [add_off];exact At.own (eqS hw) (by exact ⟨rfl,trivial⟩)),?_⟩)
  have hr:ReadsN 3 s (E.map rowR) (fun w'=>w'=w):=OwnN.readsM (rows:=E.map rowR) (T:=112) hw (eqS hw)
  refine hr.rngM hj' fun a ha el=>⟨_,el.zz (by exact ⟨rfl,trivial⟩),?_⟩
  have hge:st.fs[j]'(by omega)=(E[j].1,E[j].2.2):=by simp [←hE,erR]
  have hlt:((st.fs.take j).map (·.1)).length=j:=by simp;omega
  refine push_rule (⟨Tryz.underlying66,⟨_,Tryz.underlying66⟩,by kernel_rfl⟩:El Tryz.prog 66 66 9 16) hw (oneAll_str _) rfl (by rw [List.length_map,hlt];omega) (by rw [List.length_map,hlt];omega) fun t w hw=>?_
  rw [wrap64 (by omega) (by omega)]
  refine ⟨⟨j + 1,by omega,by omega,?_⟩,by dsimp only;omega⟩
  have e:((st.fs.take (j + 1)).map (·.1)).map Value.string=((st.fs.take j).map (·.1)).map Value.string++[.string E[j].1]:=by
   rw [List.take_succ_eq_append_getElem (by omega),hge];simp
  rw [e];exact hw
 ·have:j=E.length:=by omega
  subst this
  rw [List.take_of_length_le (by omega)] at hw
  exact ⟨t,rfl,hw⟩
theorem find_ref {E:List RE} {fs:Fs} {k:ByteArray} {f:Fl} (hE:erR E=fs) (hf:getM k fs=some f):∃ a sb b,E=a++(k,sb,f)::b∧getM k (erR a)=none∧fs=erR a++(k,f)::erR b∧placeD k fs=(a.length:Nat):=by
 have hg:getM k E=none→False:=fun h=>by
  have:getM k (erR E)=none:=by
   refine getM_of_notin ?_
   have:=notin_of_getM h
   simpa [erR,Function.comp_def] using this
  rw [hE,hf] at this;cases this
 cases hc:getM k E with
 |none=>exact (hg hc).elim
 |some x=>
  obtain ⟨a,b,rfl,ha⟩:=getM_split hc
  have ha2:getM k (erR a)=none:=by
   refine getM_of_notin ?_
   have:=notin_of_getM ha
   simpa [erR,Function.comp_def] using this
  have hfs:fs=erR a++(k,x.2)::erR b:=by rw [←hE,erR_app,erR_cons]
  rw [hfs,getM_app ha2 (ba_rfl k)] at hf
  cases hf
  exact ⟨a,x.1,b,rfl,ha2,hfs,by rw [hfs,placeD_app ha2,erR_len]⟩
theorem getElem_mid {α:Type} {a b:List α} {e:α} (h:a.length<(a++e::b).length):(a++e::b)[a.length]=e:=by simp
theorem set_mid {α:Type} {a b:List α} {e e':α}:(a++e::b).set a.length e'=a++e'::b:=by simp
def ensureR (k:ByteArray) (fs:Fs):Fs:=if (getM k fs).isSome then fs else insM (k,⟨[],0⟩) fs
def putBR (k:ByteArray) (xs:List Int) (fs:Fs):Fs:=updM k (fun f=>{ f with b:=f.b++xs }) (ensureR k fs)
def appendGR (st:DS) (k:ByteArray) (xs:List Int):DS × Int:=if total st.fs + xs.length>st.room then (st,3) else ({ st with fs:=putBR k xs st.fs },0)
def appendR (st:DS) (k:ByteArray) (xs:List Int):DS × Int:=doing st (nameOk k) fun st=>appendGR st k xs
theorem ensureR_some (k:ByteArray) (fs:Fs):(getM k (ensureR k fs)).isSome=true:=by
 unfold ensureR
 by_cases h:(getM k fs).isSome=true
 ·rw [if_pos h];exact h
 ·rw [if_neg h]
  refine isSome_of_mem ?_
  exact ((insM_perm (k,(⟨[],0⟩:Fl)) fs).map (·.1)).mem_iff.2 (List.mem_map_of_mem (f:=Prod.fst) List.mem_cons_self)
theorem total_perm {a b:Fs} (h:a.Perm b):total a=total b:=by
 induction h with
 |nil=>rfl
 |cons x _ ih=>rw [total_cons,total_cons,ih]
 |swap x y l=>rw [total_cons,total_cons,total_cons,total_cons];omega
 |trans _ _ h1 h2=>rw [h1,h2]
theorem ensureR_total (k:ByteArray) (fs:Fs):total (ensureR k fs)=total fs:=by
 unfold ensureR
 split
 ·rfl
 ·rw [total_perm (insM_perm _ fs),total_cons];simp
theorem ensureR_len (k:ByteArray) (fs:Fs):(ensureR k fs).length≤fs.length + 1:=by
 unfold ensureR
 split
 ·omega
 ·rw [(insM_perm (k,(⟨[],0⟩:Fl)) fs).length_eq];simp
theorem appendR_spec {r:Nat} {st:DS} {k:ByteArray} {x:Sl} {xs:List Int} (i:Inv st) (hn:st.fs.length≤100000) (hk:k.size≤9223372036854775807) (hx:Ro R x (b8 xs)) (hxl:xs.length≤1099511627776) (hw:Sat R (RefAt r st::Hs) w):
  Gets Tryz.prog 36 #[.pointer (some ⟨r,0,none⟩),.string k,.slice x.a x.len x.cap] w fun v w'=>v=.int .i64 (appendR st k xs).2∧Sat R (RefAt r (appendR st k xs).1::Hs) w':=by
 have hxlen:x.len=xs.length:=by have:=hx.len;simpa using this
 apply call36
 refine (changeR_spec i.toCounts hk hk hw).use ?_
 rw [Bool.and_self]
 rintro _ w ⟨rfl,hw⟩
 refine ⟨_,rfl,?_⟩
 (first|with_reducible refine Br.d (fun h=>?_) (fun h=>?_)|with_reducible refine Br.nd (fun h=>?_) (fun h=>?_)|with_reducible refine Br.e (fun h=>?_) (fun h=>?_)|with_reducible refine Br.ne (fun h=>?_) (fun h=>?_)|with_reducible refine Br.nne (fun h=>?_) (fun h=>?_)|with_reducible refine Br.se (fun h=>?_) (fun h=>?_)|with_reducible refine Br.sne (fun h=>?_) (fun h=>?_)|with_reducible refine Br.nb (fun h=>?_) (fun h=>?_)|with_reducible refine Br.mk (fun h=>?_) (fun h=>?_)|refine Br.d (fun h=>?_) (fun h=>?_)|refine Br.nd (fun h=>?_) (fun h=>?_)|refine Br.e (fun h=>?_) (fun h=>?_)|refine Br.ne (fun h=>?_) (fun h=>?_)|refine Br.nne (fun h=>?_) (fun h=>?_)|refine Br.se (fun h=>?_) (fun h=>?_)|refine Br.mk (fun h=>?_) (fun h=>?_))
 ·have e:appendR st k xs=chg st (nameOk k):=if_neg h
  rw [e];exact ⟨rfl,hw⟩
 have e:appendR st k xs=appendGR (chg st (nameOk k)).1 k xs:=if_pos h
 rw [e]
 have i2:=chg_inv i (nameOk k)
 have hn2:(chg st (nameOk k)).1.fs.length≤100000:=by rw [(chg_fs st (nameOk k)).1];exact hn
 generalize (chg st (nameOk k)).1=st2 at *
 clear e i hn
 obtain ⟨s,E,hE,hw⟩:=Sat.ref.1 hw
 have r1:=i2.r1;have r0:=i2.r0;have hfull:=i2.full
 have hfl:st2.fs.length=E.length:=by rw [←hE,erR_len]
 have hnn:=total_nn st2.fs
 refine drw_rule hw fun w hw=>?_
 repeat (first|refine NilP.mk rfl ?_|refine ⟨_,At.own selfS (by exact ⟨rfl,trivial⟩),?_⟩|refine ⟨_,At.own (eqS hw) (by exact ⟨rfl,trivial⟩),?_⟩|refine ⟨_,(by rw [add_off];exact At.own selfS (by exact ⟨rfl,trivial⟩)),?_⟩|refine ⟨_,(by rw [add_off];exact At.own (eqS hw) (by exact ⟨rfl,trivial⟩)),?_⟩)
 refine (sizeR_spec hE (by omega) (by omega) hw).use ?_
 rintro _ w ⟨rfl,hw⟩
 refine ⟨_,rfl,hw,?_⟩
 rw [wrap64 (by omega) (by omega)]
 (first|with_reducible refine Br.d (fun h=>?_) (fun h=>?_)|with_reducible refine Br.nd (fun h=>?_) (fun h=>?_)|with_reducible refine Br.e (fun h=>?_) (fun h=>?_)|with_reducible refine Br.ne (fun h=>?_) (fun h=>?_)|with_reducible refine Br.nne (fun h=>?_) (fun h=>?_)|with_reducible refine Br.se (fun h=>?_) (fun h=>?_)|with_reducible refine Br.sne (fun h=>?_) (fun h=>?_)|with_reducible refine Br.nb (fun h=>?_) (fun h=>?_)|with_reducible refine Br.mk (fun h=>?_) (fun h=>?_)|refine Br.d (fun h=>?_) (fun h=>?_)|refine Br.nd (fun h=>?_) (fun h=>?_)|refine Br.e (fun h=>?_) (fun h=>?_)|refine Br.ne (fun h=>?_) (fun h=>?_)|refine Br.nne (fun h=>?_) (fun h=>?_)|refine Br.se (fun h=>?_) (fun h=>?_)|refine Br.mk (fun h=>?_) (fun h=>?_))
 ·have e:appendGR st2 k xs=(st2,3):=if_pos (by omega)
  rw [e];exact ⟨rfl,RO.shut hE hw⟩
 have e:appendGR st2 k xs=({ st2 with fs:=putBR k xs st2.fs },0):=if_neg (by omega)
 rw [e]
 refine ⟨fun w=>∃ s E,erR E=ensureR k st2.fs∧Sat R (RO r s E { st2 with fs:=ensureR k st2.fs } Hs) w,?_,?_⟩
 ·refine (place_spec k hE (by omega) hw).use ?_
  rintro _ w ⟨rfl,hw⟩
  refine ⟨_,rfl,?_⟩
  cases hg:getM k st2.fs with
  |none=>
   rw [placeD_none hg]
   refine Br.t (by decide) ?_
   have e2:ensureR k st2.fs=insM (k,⟨[],0⟩) st2.fs:=by unfold ensureR;rw [hg];rfl
   rw [e2]
   have hw:=(Own.nil (T:=5) hw).arr (Hs':=RO r s E st2 (Own ⟨none,0,0⟩ 5 []::Hs))
   refine (putR_spec (sb:=⟨none,0,0⟩) (f:=⟨[],0⟩) (k:=k) hE (by omega) hw).use ?_
   rintro _ w ⟨rfl,hw⟩
   obtain ⟨s,E,hE,hw⟩:=Sat.ref.1 hw
   exact ⟨rfl,s,E,hE,hw⟩
  |some f=>
   obtain ⟨a,sb,b,_,_,_,hp⟩:=find_ref hE hg
   rw [hp]
   refine Br.f (by simp) ?_
   have e2:ensureR k st2.fs=st2.fs:=by unfold ensureR;rw [hg];rfl
   rw [e2]
   exact ⟨s,E,hE,hw⟩
 clear hw hE hfl
 rintro z w ⟨s,E,hE,hw⟩
 have hfl:E.length≤100001:=by have:=ensureR_len k st2.fs;rw [←hE,erR_len] at this;omega
 refine (place_spec k hE (by omega) hw).use ?_
 rintro _ w ⟨rfl,hw⟩
 refine ⟨_,rfl,?_⟩
 obtain ⟨f,hf⟩:=Option.isSome_iff_exists.1 (ensureR_some k st2.fs)
 have hft:(f.b.length:Int)≤total st2.fs:=by rw [←ensureR_total k];exact total_le hf
 obtain ⟨a,sb,b,rfl,ha,hfs,hp⟩:=find_ref hE hf
 rw [show placeD k (DS.mk st2.room (ensureR k st2.fs) st2.fail st2.arm st2.off).fs=(a.length:Nat) from hp]
 have hlt:a.length<(a++(k,sb,f)::b).length:=by simp
 have hsl:s.len=(a++(k,sb,f)::b).length:=by have:=OwnN.len (hw.take (OwnN 3 s 112 ((a++(k,sb,f)::b).map rowR)));rwa [List.length_map] at this
 refine drw_ruleT hw fun w hw=>?_
 repeat (first|refine NilP.mk rfl ?_|refine ⟨_,At.own selfS (by exact ⟨rfl,trivial⟩),?_⟩|refine ⟨_,At.own (eqS hw) (by exact ⟨rfl,trivial⟩),?_⟩|refine ⟨_,(by rw [add_off];exact At.own selfS (by exact ⟨rfl,trivial⟩)),?_⟩|refine ⟨_,(by rw [add_off];exact At.own (eqS hw) (by exact ⟨rfl,trivial⟩)),?_⟩)
 have hr:ReadsN 3 s ((a++(k,sb,f)::b).map rowR) (Sat R (tru::RO r s (a++(k,sb,f)::b) { st2 with fs:=ensureR k st2.fs } Hs)):=OwnN.readsM (rows:=(a++(k,sb,f)::b).map rowR) (T:=112) hw selfS
 refine hr.rngM hlt fun ad hadr el=>?_
 rw [getElem_mid hlt] at el
 refine ⟨_,el.f 1 (by exact ⟨rfl,trivial⟩),new_rule hw fun b1 w hw=>⟨hw.absorb,?_⟩⟩
 simp only
 have hw:=Bufs.split.1 (hw.take (BufsAt (a++(k,sb,f)::b)))
 simp only at hw
 obtain ⟨R',hr2,_,hwl,back⟩:=Own.lend hw (by rw [List.length_map];omega)
 have hsrc:Src Tryz.prog 1 53 (.slice sb.a sb.len sb.cap) f.b.length (b8 f.b) w:=by
  have:=srcRo Tryz.underlying53 hwl hr2 (one_b8 f.b)
  simpa using this
 refine append0_rule elB8 hwl hsrc (by omega) (by omega) fun s2 w hw=>?_
 have hw:=back hw
 have toS:∀ {w} {xs:List Value} {s2:Sl},Sat R (Own sb 5 (b8 f.b)::Own s2 5 xs::BufsAt (a++b)::tru::pts r (rCells { st2 with fs:=ensureR k st2.fs } s)::OwnN 3 s 112 ((a++(k,sb,f)::b).map rowR)::Hs) w→Sat R (tru::RO r s (a++(k,sb,f)::b) { st2 with fs:=ensureR k st2.fs } Hs) w:=fun {w xs s2} h=>by
  have h:=h.swap.drop
  have h:=(Bufs.split (a:=a) (b:=b) (e:=(k,sb,f))).2 h
  exact h.arr
 refine ⟨toS hw,?_⟩
 have hsrc2:Src Tryz.prog 1 53 (.slice x.a x.len x.cap) xs.length (b8 xs) w:=by
  have:=srcRo Tryz.underlying53 hw hx (one_b8 xs)
  simpa using this
 refine append_rule elB8 hw.swap hsrc2 (one_b8 _) (by simp;omega) (by simp;omega) fun s3 w hw=>?_
 refine ⟨toS hw.swap,?_⟩
 refine (hr.rngM hlt fun ad hadr el=>?_)
 refine OwnN.storeM (E:=a++(k,sb,f)::b) (g:=rowR) (T:=112) 1 (k,s3,{ f with b:=f.b++xs }) hw hadr hlt (by kernel_rfl) rfl (by simp [Value.cells]) (by rw [getElem_mid hlt];rfl) fun w hw=>⟨trivial,?_⟩
 rw [set_mid] at hw
 refine RO.shut (s:=s) (E:=a++(k,s3,{ f with b:=f.b++xs })::b) ?_ ?_
 ·show _=putBR k xs st2.fs
  unfold putBR
  rw [hfs,updM_app ha,erR_app,erR_cons]
 ·have hw:Sat R (Own sb 5 (b8 f.b)::tru::Own s3 5 (b8 (f.b++xs))::BufsAt (a++b)::pts r (rCells { st2 with fs:=putBR k xs st2.fs } s)::OwnN 3 s 112 ((a++(k,s3,{ f with b:=f.b++xs })::b).map rowR)::Hs) w:=by
   rw [show b8 (f.b++xs)=b8 f.b++b8 xs by simp]
   exact hw.arr
  have hw:=(Bufs.split (a:=a) (b:=b) (e:=(k,s3,{ f with b:=f.b++xs }))).2 hw.drop.drop
  exact hw.arr
end Go.Proofs.YtkfedbncmfnpnaaGreatDoor
/- The reference's disk: Sync, Unlink, Rename, Read, Fail, Arm, Crash. Condition: bounds on lengths. -/
namespace Go.Proofs.YtkfedbncmfnpnaaGreatDoor
set_option linter.unusedVariables false
set_option linter.unusedSimpArgs false
open Go Go.VC
variable {R:Cx} {Hs Rest:List HP} {w:World}
theorem failR_spec {r:Nat} {st:DS} (n:Int) (hw:Sat R (RefAt r st::Hs) w):
  Gets Tryz.prog 12 #[.pointer (some ⟨r,0,none⟩),.int .i64 n] w fun v w'=>v=.int .i64 (if n<0 then 1 else 0)∧Sat R (RefAt r { st with fail:=if n<0 then st.fail else n }::Hs) w':=by
 obtain ⟨s,E,hE,hw⟩:=Sat.ref.1 hw
 apply call12
 (first|with_reducible refine Br.d (fun h=>?_) (fun h=>?_)|with_reducible refine Br.nd (fun h=>?_) (fun h=>?_)|with_reducible refine Br.e (fun h=>?_) (fun h=>?_)|with_reducible refine Br.ne (fun h=>?_) (fun h=>?_)|with_reducible refine Br.nne (fun h=>?_) (fun h=>?_)|with_reducible refine Br.se (fun h=>?_) (fun h=>?_)|with_reducible refine Br.sne (fun h=>?_) (fun h=>?_)|with_reducible refine Br.nb (fun h=>?_) (fun h=>?_)|with_reducible refine Br.mk (fun h=>?_) (fun h=>?_)|refine Br.d (fun h=>?_) (fun h=>?_)|refine Br.nd (fun h=>?_) (fun h=>?_)|refine Br.e (fun h=>?_) (fun h=>?_)|refine Br.ne (fun h=>?_) (fun h=>?_)|refine Br.nne (fun h=>?_) (fun h=>?_)|refine Br.se (fun h=>?_) (fun h=>?_)|refine Br.mk (fun h=>?_) (fun h=>?_))
 ·rw [if_pos h,if_pos h];exact ⟨rfl,RO.shut hE hw⟩
 ·repeat (first|refine NilP.mk rfl ?_|refine ⟨_,At.own selfS (by exact ⟨rfl,trivial⟩),?_⟩|refine ⟨_,At.own (eqS hw) (by exact ⟨rfl,trivial⟩),?_⟩|refine ⟨_,(by rw [add_off];exact At.own selfS (by exact ⟨rfl,trivial⟩)),?_⟩|refine ⟨_,(by rw [add_off];exact At.own (eqS hw) (by exact ⟨rfl,trivial⟩)),?_⟩)
  refine store_rule hw (by kernel_rfl) rfl (by simp [Value.cells,putL_len]) fun w hw=>?_
  rw [if_neg h,if_neg h];exact ⟨rfl,RO.shut hE hw⟩
theorem RO.len {r:Nat} {s:Sl} {E:List RE} {st:DS} (hw:Sat R (RO r s E st Hs) w):s.len=E.length:=by
 have:=OwnN.len (hw.take (OwnN 3 s 112 (E.map rowR)));rwa [List.length_map] at this
theorem RO.blen {r:Nat} {s:Sl} {a b:List RE} {e:RE} {st:DS} (hw:Sat R (RO r s (a++e::b) st Hs) w):e.2.1.len=e.2.2.b.length∧e.2.1.len≤e.2.1.cap:=by
 have h1:=Bufs.split.1 (hw.take (BufsAt (a++e::b)))
 exact ⟨by have:=Own.len h1;simpa using this,Own.cap h1⟩
theorem syncR_spec {r:Nat} {st:DS} {k:ByteArray} (i:Inv st) (hn:st.fs.length≤1000000) (hk:k.size≤9223372036854775807) (hw:Sat R (RefAt r st::Hs) w):
  Gets Tryz.prog 38 #[.pointer (some ⟨r,0,none⟩),.string k] w fun v w'=>v=.int .i64 (syncD st k).2∧Sat R (RefAt r (syncD st k).1::Hs) w':=by
 apply call38
 refine (changeR_spec i.toCounts hk hk hw).use ?_
 rw [Bool.and_self]
 rintro _ w ⟨rfl,hw⟩
 refine ⟨_,rfl,?_⟩
 (first|with_reducible refine Br.d (fun h=>?_) (fun h=>?_)|with_reducible refine Br.nd (fun h=>?_) (fun h=>?_)|with_reducible refine Br.e (fun h=>?_) (fun h=>?_)|with_reducible refine Br.ne (fun h=>?_) (fun h=>?_)|with_reducible refine Br.nne (fun h=>?_) (fun h=>?_)|with_reducible refine Br.se (fun h=>?_) (fun h=>?_)|with_reducible refine Br.sne (fun h=>?_) (fun h=>?_)|with_reducible refine Br.nb (fun h=>?_) (fun h=>?_)|with_reducible refine Br.mk (fun h=>?_) (fun h=>?_)|refine Br.d (fun h=>?_) (fun h=>?_)|refine Br.nd (fun h=>?_) (fun h=>?_)|refine Br.e (fun h=>?_) (fun h=>?_)|refine Br.ne (fun h=>?_) (fun h=>?_)|refine Br.nne (fun h=>?_) (fun h=>?_)|refine Br.se (fun h=>?_) (fun h=>?_)|refine Br.mk (fun h=>?_) (fun h=>?_))
 ·have e:syncD st k=chg st (nameOk k):=if_neg h
  rw [e];exact ⟨rfl,hw⟩
 have e:syncD st k=syncG k (chg st (nameOk k)).1:=if_pos h
 rw [e]
 have i2:=chg_inv i (nameOk k)
 have hn2:(chg st (nameOk k)).1.fs.length≤1000000:=by rw [(chg_fs st (nameOk k)).1];exact hn
 generalize (chg st (nameOk k)).1=st2 at *
 clear e i hn
 obtain ⟨s,E,hE,hw⟩:=Sat.ref.1 hw
 refine (place_spec k hE (by rw [←erR_len,hE];exact hn2) hw).use ?_
 rintro _ w ⟨rfl,hw⟩
 refine ⟨_,rfl,?_⟩
 cases hg:getM k st2.fs with
 |none=>
  rw [placeD_none hg]
  have e:syncG k st2=(st2,2):=by unfold syncG;rw [hg];rfl
  rw [e]
  exact Br.t (by decide) ⟨rfl,RO.shut hE hw⟩
 |some f=>
  obtain ⟨a,sb,b,rfl,ha,hfs,hp⟩:=find_ref hE hg
  rw [hp]
  refine Br.f (by simp) ?_
  have e:syncG k st2=({ st2 with fs:=updM k (fun f=>{ f with sure:=f.b.length }) st2.fs },0):=if_pos (by rw [hg];rfl)
  rw [e]
  have hlt:a.length<(a++(k,sb,f)::b).length:=by simp
  have hbl:=(RO.blen hw).1
  simp only at hbl
  refine drw_rule hw fun w hw=>?_
  repeat (first|refine NilP.mk rfl ?_|refine ⟨_,At.own selfS (by exact ⟨rfl,trivial⟩),?_⟩|refine ⟨_,At.own (eqS hw) (by exact ⟨rfl,trivial⟩),?_⟩|refine ⟨_,(by rw [add_off];exact At.own selfS (by exact ⟨rfl,trivial⟩)),?_⟩|refine ⟨_,(by rw [add_off];exact At.own (eqS hw) (by exact ⟨rfl,trivial⟩)),?_⟩)
  have hr:ReadsN 3 s ((a++(k,sb,f)::b).map rowR) (Sat R (RO r s (a++(k,sb,f)::b) st2 Hs)):=RO.reads hw selfS
  refine hr.rngM hlt fun ad hadr el=>?_
  rw [getElem_mid hlt] at el
  refine ⟨_,el.f 1 (by exact ⟨rfl,trivial⟩),?_⟩
  simp only
  refine hr.rngM hlt fun ad hadr el=>?_
  refine OwnN.storeM (E:=a++(k,sb,f)::b) (g:=rowR) (T:=112) 2 (k,sb,{ f with sure:=f.b.length }) hw hadr hlt (by kernel_rfl) rfl (by simp [Value.cells]) (by rw [getElem_mid hlt,hbl];rfl) fun w hw=>⟨trivial,?_⟩
  rw [set_mid] at hw
  refine RO.shut (s:=s) (E:=a++(k,sb,{ f with sure:=f.b.length })::b) ?_ ?_
  ·show _=updM k _ st2.fs
   rw [hfs,updM_app ha,erR_app,erR_cons]
  ·have hw:Sat R (BufsAt (a++(k,sb,f)::b)::pts r (rCells { st2 with fs:=updM k (fun f=>{ f with sure:=f.b.length }) st2.fs } s)::OwnN 3 s 112 ((a++(k,sb,{ f with sure:=f.b.length })::b).map rowR)::Hs) w:=hw.arr
   have hw:=(Bufs.split (a:=a) (b:=b) (e:=(k,sb,{ f with sure:=f.b.length }))).2 ((Bufs.split (a:=a) (b:=b) (e:=(k,sb,f))).1 hw)
   exact hw.arr
theorem unlinkR_spec {r:Nat} {st:DS} {k:ByteArray} (i:Inv st) (hn:st.fs.length≤1000000) (hk:k.size≤9223372036854775807) (hw:Sat R (RefAt r st::Hs) w):
  Gets Tryz.prog 92 #[.pointer (some ⟨r,0,none⟩),.string k] w fun v w'=>v=.int .i64 (unlinkD st k).2∧Sat R (RefAt r (unlinkD st k).1::Hs) w':=by
 apply call92
 refine (changeR_spec i.toCounts hk hk hw).use ?_
 rw [Bool.and_self]
 rintro _ w ⟨rfl,hw⟩
 refine ⟨_,rfl,?_⟩
 (first|with_reducible refine Br.d (fun h=>?_) (fun h=>?_)|with_reducible refine Br.nd (fun h=>?_) (fun h=>?_)|with_reducible refine Br.e (fun h=>?_) (fun h=>?_)|with_reducible refine Br.ne (fun h=>?_) (fun h=>?_)|with_reducible refine Br.nne (fun h=>?_) (fun h=>?_)|with_reducible refine Br.se (fun h=>?_) (fun h=>?_)|with_reducible refine Br.sne (fun h=>?_) (fun h=>?_)|with_reducible refine Br.nb (fun h=>?_) (fun h=>?_)|with_reducible refine Br.mk (fun h=>?_) (fun h=>?_)|refine Br.d (fun h=>?_) (fun h=>?_)|refine Br.nd (fun h=>?_) (fun h=>?_)|refine Br.e (fun h=>?_) (fun h=>?_)|refine Br.ne (fun h=>?_) (fun h=>?_)|refine Br.nne (fun h=>?_) (fun h=>?_)|refine Br.se (fun h=>?_) (fun h=>?_)|refine Br.mk (fun h=>?_) (fun h=>?_))
 ·have e:unlinkD st k=chg st (nameOk k):=if_neg h
  rw [e];exact ⟨rfl,hw⟩
 have e:unlinkD st k=unlinkG k (chg st (nameOk k)).1:=if_pos h
 rw [e]
 have hn2:(chg st (nameOk k)).1.fs.length≤1000000:=by rw [(chg_fs st (nameOk k)).1];exact hn
 generalize (chg st (nameOk k)).1=st2 at *
 clear e i hn
 obtain ⟨s,E,hE,hw⟩:=Sat.ref.1 hw
 refine (place_spec k hE (by rw [←erR_len,hE];exact hn2) hw).use ?_
 rintro _ w ⟨rfl,hw⟩
 refine ⟨_,rfl,?_⟩
 cases hg:getM k st2.fs with
 |none=>
  rw [placeD_none hg]
  have e:unlinkG k st2=(st2,2):=by unfold unlinkG;rw [hg];rfl
  rw [e]
  exact Br.t (by decide) ⟨rfl,RO.shut hE hw⟩
 |some f=>
  obtain ⟨a,sb,b,rfl,ha,hfs,hp⟩:=find_ref hE hg
  rw [hp]
  refine Br.f (by simp) ?_
  have e:unlinkG k st2=({ st2 with fs:=delM k st2.fs },0):=if_pos (by rw [hg];rfl)
  rw [e]
  refine (outR_spec hE (by rw [←erR_len,hE];exact hn2) hw).use ?_
  rintro _ w ⟨rfl,hw⟩
  have ed:erR (a++b)=delM k st2.fs:=by rw [hfs,delM_app ha (ba_rfl k),erR_app]
  rw [ed] at hw
  exact ⟨rfl,rfl,hw.drop⟩
theorem readR_spec {r:Nat} {st:DS} {k:ByteArray} (i:Inv st) (hn:st.fs.length≤1000000) (hk:k.size≤9223372036854775807) (hw:Sat R (RefAt r st::Hs) w):
  Gets Tryz.prog 45 #[.pointer (some ⟨r,0,none⟩),.string k] w fun v w'=>∃ t:Sl,v=.tuple #[.slice t.a t.len t.cap,.int .i64 (readD st k).2]∧Sat R (Own t 5 (b8 (readD st k).1)::RefAt r st::Hs) w':=by
 apply call45
 refine (isName_spec k hk hw).use ?_
 rintro _ w ⟨rfl,hw⟩
 refine ⟨_,rfl,?_⟩
 obtain ⟨s,E,hE,hw⟩:=Sat.ref.1 hw
 have r1:=i.r1;have hfull:=i.full
 repeat (first|refine NilP.mk rfl ?_|refine ⟨_,At.own selfS (by exact ⟨rfl,trivial⟩),?_⟩|refine ⟨_,At.own (eqS hw) (by exact ⟨rfl,trivial⟩),?_⟩|refine ⟨_,(by rw [add_off];exact At.own selfS (by exact ⟨rfl,trivial⟩)),?_⟩|refine ⟨_,(by rw [add_off];exact At.own (eqS hw) (by exact ⟨rfl,trivial⟩)),?_⟩)
 (first|with_reducible refine Br.d (fun h=>?_) (fun h=>?_)|with_reducible refine Br.nd (fun h=>?_) (fun h=>?_)|with_reducible refine Br.e (fun h=>?_) (fun h=>?_)|with_reducible refine Br.ne (fun h=>?_) (fun h=>?_)|with_reducible refine Br.nne (fun h=>?_) (fun h=>?_)|with_reducible refine Br.se (fun h=>?_) (fun h=>?_)|with_reducible refine Br.sne (fun h=>?_) (fun h=>?_)|with_reducible refine Br.nb (fun h=>?_) (fun h=>?_)|with_reducible refine Br.mk (fun h=>?_) (fun h=>?_)|refine Br.d (fun h=>?_) (fun h=>?_)|refine Br.nd (fun h=>?_) (fun h=>?_)|refine Br.e (fun h=>?_) (fun h=>?_)|refine Br.ne (fun h=>?_) (fun h=>?_)|refine Br.nne (fun h=>?_) (fun h=>?_)|refine Br.se (fun h=>?_) (fun h=>?_)|refine Br.mk (fun h=>?_) (fun h=>?_))
 ·have e:readD st k=([],5):=if_pos h
  rw [e];exact ⟨⟨none,0,0⟩,rfl,Own.nil (RO.shut hE hw)⟩
 have hoff:=h
 (first|with_reducible refine Br.d (fun h=>?_) (fun h=>?_)|with_reducible refine Br.nd (fun h=>?_) (fun h=>?_)|with_reducible refine Br.e (fun h=>?_) (fun h=>?_)|with_reducible refine Br.ne (fun h=>?_) (fun h=>?_)|with_reducible refine Br.nne (fun h=>?_) (fun h=>?_)|with_reducible refine Br.se (fun h=>?_) (fun h=>?_)|with_reducible refine Br.sne (fun h=>?_) (fun h=>?_)|with_reducible refine Br.nb (fun h=>?_) (fun h=>?_)|with_reducible refine Br.mk (fun h=>?_) (fun h=>?_)|refine Br.d (fun h=>?_) (fun h=>?_)|refine Br.nd (fun h=>?_) (fun h=>?_)|refine Br.e (fun h=>?_) (fun h=>?_)|refine Br.ne (fun h=>?_) (fun h=>?_)|refine Br.nne (fun h=>?_) (fun h=>?_)|refine Br.se (fun h=>?_) (fun h=>?_)|refine Br.mk (fun h=>?_) (fun h=>?_))
 ·have e:readD st k=([],1):=by unfold readD;rw [if_neg (by simp [hoff]),if_pos (by simp [h])]
  rw [e];exact ⟨⟨none,0,0⟩,rfl,Own.nil (RO.shut hE hw)⟩
 have e:readD st k=match getM k st.fs with|none=>([],2)|some f=>(f.b,0):=by unfold readD;rw [if_neg (by simp [hoff]),if_neg (by simp [h])];all_goals (cases getM k st.fs<;>rfl)
 refine (place_spec k hE (by rw [←erR_len,hE];exact hn) hw).use ?_
 rintro _ w ⟨rfl,hw⟩
 refine ⟨_,rfl,?_⟩
 cases hg:getM k st.fs with
 |none=>
  rw [placeD_none hg,e,hg]
  exact Br.t (by decide) ⟨⟨none,0,0⟩,rfl,Own.nil (RO.shut hE hw)⟩
 |some f=>
  obtain ⟨a,sb,b,rfl,ha,hfs,hp⟩:=find_ref hE hg
  have hft:=total_le hg
  rw [hp,e,hg]
  have hlt:a.length<(a++(k,sb,f)::b).length:=by simp
  refine Br.f (by simp) (new_rule hw fun b1 w hw=>?_)
  repeat (first|refine NilP.mk rfl ?_|refine ⟨_,At.own selfS (by exact ⟨rfl,trivial⟩),?_⟩|refine ⟨_,At.own (eqS hw) (by exact ⟨rfl,trivial⟩),?_⟩|refine ⟨_,(by rw [add_off];exact At.own selfS (by exact ⟨rfl,trivial⟩)),?_⟩|refine ⟨_,(by rw [add_off];exact At.own (eqS hw) (by exact ⟨rfl,trivial⟩)),?_⟩)
  have hr:ReadsN 3 s ((a++(k,sb,f)::b).map rowR) (fun w'=>w'=w):=OwnN.readsM (rows:=(a++(k,sb,f)::b).map rowR) (T:=112) hw (eqS hw)
  refine hr.rngM hlt fun ad hadr el=>?_
  rw [getElem_mid hlt] at el
  refine ⟨_,el.f 1 (by exact ⟨rfl,trivial⟩),?_⟩
  simp only
  have hw:=(Bufs.split (a:=a) (b:=b) (e:=(k,sb,f))).1 (hw.take (BufsAt (a++(k,sb,f)::b)))
  simp only at hw
  obtain ⟨R',hr2,_,hwl,back⟩:=Own.lend hw (by rw [List.length_map];omega)
  have hsrc:Src Tryz.prog 1 53 (.slice sb.a sb.len sb.cap) f.b.length (b8 f.b) w:=by
   have:=srcRo Tryz.underlying53 hwl hr2 (one_b8 f.b)
   simpa using this
  refine append0_rule elB8 hwl hsrc (by omega) (by omega) fun s2 w hw=>⟨s2,rfl,?_⟩
  have hw:=(back hw).swap
  exact hw.cons fun _ h=>RO.shut (s:=s) hE ((Bufs.split (a:=a) (b:=b) (e:=(k,sb,f))).2 h).arr
def renameGR (k to:ByteArray) (st:DS):DS × Int:=
 match getM k st.fs with
 |some f=>if k=to then (st,0) else ({ st with fs:=insM (to,f) (delM to (delM k st.fs)) },0)
 |none=>(st,2)
def renameR (st:DS) (k to:ByteArray):DS × Int:=doing st (nameOk k && nameOk to) (renameGR k to)
theorem renameR_spec {r:Nat} {st:DS} {k to:ByteArray} (i:Inv st) (hn:st.fs.length≤1000000) (hk:k.size≤9223372036854775807) (hk2:to.size≤9223372036854775807) (hw:Sat R (RefAt r st::Hs) w):
  Gets Tryz.prog 140 #[.pointer (some ⟨r,0,none⟩),.string k,.string to] w fun v w'=>v=.int .i64 (renameR st k to).2∧Sat R (RefAt r (renameR st k to).1::Hs) w':=by
 apply call140
 refine (changeR_spec i.toCounts hk hk2 hw).use ?_
 rintro _ w ⟨rfl,hw⟩
 refine ⟨_,rfl,?_⟩
 (first|with_reducible refine Br.d (fun h=>?_) (fun h=>?_)|with_reducible refine Br.nd (fun h=>?_) (fun h=>?_)|with_reducible refine Br.e (fun h=>?_) (fun h=>?_)|with_reducible refine Br.ne (fun h=>?_) (fun h=>?_)|with_reducible refine Br.nne (fun h=>?_) (fun h=>?_)|with_reducible refine Br.se (fun h=>?_) (fun h=>?_)|with_reducible refine Br.sne (fun h=>?_) (fun h=>?_)|with_reducible refine Br.nb (fun h=>?_) (fun h=>?_)|with_reducible refine Br.mk (fun h=>?_) (fun h=>?_)|refine Br.d (fun h=>?_) (fun h=>?_)|refine Br.nd (fun h=>?_) (fun h=>?_)|refine Br.e (fun h=>?_) (fun h=>?_)|refine Br.ne (fun h=>?_) (fun h=>?_)|refine Br.nne (fun h=>?_) (fun h=>?_)|refine Br.se (fun h=>?_) (fun h=>?_)|refine Br.mk (fun h=>?_) (fun h=>?_))
 ·have e:renameR st k to=chg st (nameOk k && nameOk to):=if_neg h
  rw [e];exact ⟨rfl,hw⟩
 have e:renameR st k to=renameGR k to (chg st (nameOk k && nameOk to)).1:=if_pos h
 rw [e]
 have hn2:(chg st (nameOk k && nameOk to)).1.fs.length≤1000000:=by rw [(chg_fs st _).1];exact hn
 generalize (chg st (nameOk k && nameOk to)).1=st2 at *
 clear e i hn
 obtain ⟨s,E,hE,hw⟩:=Sat.ref.1 hw
 refine (place_spec k hE (by rw [←erR_len,hE];exact hn2) hw).use ?_
 rintro _ w ⟨rfl,hw⟩
 refine ⟨_,rfl,?_⟩
 cases hg:getM k st2.fs with
 |none=>
  rw [placeD_none hg]
  have e:renameGR k to st2=(st2,2):=by unfold renameGR;rw [hg]
  rw [e]
  exact Br.t (by decide) ⟨rfl,RO.shut hE hw⟩
 |some f=>
  obtain ⟨a,sb,b,rfl,ha,hfs,hp⟩:=find_ref hE hg
  rw [hp]
  refine Br.f (by simp) ?_
  (first|with_reducible refine Br.d (fun h=>?_) (fun h=>?_)|with_reducible refine Br.nd (fun h=>?_) (fun h=>?_)|with_reducible refine Br.e (fun h=>?_) (fun h=>?_)|with_reducible refine Br.ne (fun h=>?_) (fun h=>?_)|with_reducible refine Br.nne (fun h=>?_) (fun h=>?_)|with_reducible refine Br.se (fun h=>?_) (fun h=>?_)|with_reducible refine Br.sne (fun h=>?_) (fun h=>?_)|with_reducible refine Br.nb (fun h=>?_) (fun h=>?_)|with_reducible refine Br.mk (fun h=>?_) (fun h=>?_)|refine Br.d (fun h=>?_) (fun h=>?_)|refine Br.nd (fun h=>?_) (fun h=>?_)|refine Br.e (fun h=>?_) (fun h=>?_)|refine Br.ne (fun h=>?_) (fun h=>?_)|refine Br.nne (fun h=>?_) (fun h=>?_)|refine Br.se (fun h=>?_) (fun h=>?_)|refine Br.mk (fun h=>?_) (fun h=>?_))
  ·have e:renameGR k to st2=(st2,0):=by unfold renameGR;rw [hg];exact if_pos h
   rw [e];exact ⟨rfl,RO.shut hE hw⟩
  have e:renameGR k to st2=({ st2 with fs:=insM (to,f) (delM to (delM k st2.fs)) },0):=by unfold renameGR;rw [hg];exact if_neg h
  rw [e]
  have hlt:a.length<(a++(k,sb,f)::b).length:=by simp
  have hll:(a++b).length≤1000000:=by have:(a++(k,sb,f)::b).length≤1000000:=by { rw [←erR_len,hE];exact hn2 };simp at this ⊢;omega
  repeat (first|refine NilP.mk rfl ?_|refine ⟨_,At.own selfS (by exact ⟨rfl,trivial⟩),?_⟩|refine ⟨_,At.own (eqS hw) (by exact ⟨rfl,trivial⟩),?_⟩|refine ⟨_,(by rw [add_off];exact At.own selfS (by exact ⟨rfl,trivial⟩)),?_⟩|refine ⟨_,(by rw [add_off];exact At.own (eqS hw) (by exact ⟨rfl,trivial⟩)),?_⟩)
  refine (RO.reads hw (eqS hw)).rngM hlt fun ad hadr el=>?_
  rw [getElem_mid hlt] at el
  refine ⟨k,sb,f.sure,el.z (by exact ⟨rfl,rfl,rfl,trivial⟩),new_rule hw fun bf w hw=>?_⟩
  refine store_rule (v:=.agg #[.string k,.slice sb.a sb.len sb.cap,.int .i64 f.sure]) hw (by kernel_rfl) rfl (by simp [Value.cells]) fun w hw=>?_
  have hw:Sat R (RO r s (a++(k,sb,f)::b) st2 (pts bf (.cells [.string k,.slice sb.a sb.len sb.cap,.int .i64 f.sure].toArray 112 (0,0))::Hs)) w:=by
   have hw:Sat R (pts bf (.cells [.string k,.slice sb.a sb.len sb.cap,.int .i64 f.sure].toArray 112 (0,0))::RO r s (a++(k,sb,f)::b) st2 Hs) w:=hw
   exact hw.arr
  refine (outR_spec hE (by rw [←erR_len,hE];exact hn2) hw).use ?_
  rintro _ w ⟨rfl,hw⟩
  refine ⟨rfl,?_⟩
  have ed:erR (a++b)=delM k st2.fs:=by rw [hfs,delM_app ha (ba_rfl k),erR_app]
  rw [ed] at hw
  obtain ⟨s2,E2,hE2,hw⟩:=Sat.ref.1 hw.swap
  simp only at hE2 hw
  have hl2:E2.length≤1000000:=by rw [←erR_len,hE2,←ed,erR_len];exact hll
  refine (place_spec to hE2 hl2 hw).use ?_
  rintro _ w ⟨rfl,hw⟩
  refine ⟨_,rfl,?_⟩
  simp only
  have fin:∀ {w} {s:Sl} {E:List RE} {R},erR E=delM to (delM k st2.fs)→E.length≤1000000→Sat R (RO r s E { st2 with fs:=delM to (delM k st2.fs) } (Own sb 5 (b8 f.b)::pts bf (.cells [.string to,.slice sb.a sb.len sb.cap,.int .i64 f.sure].toArray 112 (0,0))::Hs)) w→
    ∃ t47:ByteArray,∃ t47_1:Sl,∃ t47_2:Int,(At (fun w'=>w'=w) ⟨bf,0,none⟩ [.string t47,.slice t47_1.a t47_1.len t47_1.cap,.int .i64 t47_2])∧
     Calls Tryz.prog 82 #[.pointer (some ⟨r,0,none⟩),.agg #[.string t47,.slice t47_1.a t47_1.len t47_1.cap,.int .i64 t47_2]] w fun e_5 w_9=>
     (e_5=.returned (.tuple #[]))∧(True∧Sat R (RefAt r { st2 with fs:=insM (to,f) (delM to (delM k st2.fs)) }::Hs) w_9):=fun {w s E R} hE hl hw=>by
   refine ⟨to,sb,f.sure,At.own (eqS hw) (by exact ⟨rfl,rfl,rfl,trivial⟩),?_⟩
   refine (putR_spec (k:=to) (f:=f) hE hl hw).use ?_
   rintro _ w ⟨rfl,hw⟩
   exact ⟨rfl,trivial,hw.swap.drop⟩
  cases hg2:getM to (delM k st2.fs) with
  |none=>
   rw [placeD_none hg2]
   refine Br.f (by decide) ?_
   have hw:=hw.take (pts bf (.cells [.string k,.slice sb.a sb.len sb.cap,.int .i64 f.sure].toArray 112 (0,0)))
   refine store_rule hw (by kernel_rfl) rfl (by simp [Value.cells,putL_len]) fun w hw=>?_
   have hw:Sat R (RO r s2 E2 { st2 with fs:=delM to (delM k st2.fs) } (Own sb 5 (b8 f.b)::pts bf (.cells [.string to,.slice sb.a sb.len sb.cap,.int .i64 f.sure].toArray 112 (0,0))::Hs)) w:=by
    have hw:Sat R (pts bf (.cells [.string to,.slice sb.a sb.len sb.cap,.int .i64 f.sure].toArray 112 (0,0))::RO r s2 E2 st2 (Own sb 5 (b8 f.b)::Hs)) w:=hw
    exact hw.arr
   exact fin (by rw [hE2,delM_none hg2]) hl2 hw
  |some f2=>
   obtain ⟨a2,sb2,b2,rfl,ha2,hfs2,hp2⟩:=find_ref hE2 hg2
   rw [hp2]
   refine Br.t (by simp) ?_
   refine (outR_spec hE2 hl2 hw).use ?_
   rintro _ w ⟨rfl,hw⟩
   refine ⟨rfl,?_⟩
   have ed2:erR (a2++b2)=delM to (delM k st2.fs):=by rw [hfs2,delM_app ha2 (ba_rfl to),erR_app]
   rw [ed2] at hw
   obtain ⟨s3,E3,hE3,hw⟩:=Sat.ref.1 hw.drop
   simp only at hE3 hw
   have hl3:E3.length≤1000000:=by rw [←erR_len,hE3,←ed2,erR_len];simp at hl2 ⊢;omega
   have hw:=hw.take (pts bf (.cells [.string k,.slice sb.a sb.len sb.cap,.int .i64 f.sure].toArray 112 (0,0)))
   refine store_rule hw (by kernel_rfl) rfl (by simp [Value.cells,putL_len]) fun w hw=>?_
   have hw:Sat R (RO r s3 E3 { st2 with fs:=delM to (delM k st2.fs) } (Own sb 5 (b8 f.b)::pts bf (.cells [.string to,.slice sb.a sb.len sb.cap,.int .i64 f.sure].toArray 112 (0,0))::Hs)) w:=by
    have hw:Sat R (pts bf (.cells [.string to,.slice sb.a sb.len sb.cap,.int .i64 f.sure].toArray 112 (0,0))::RO r s3 E3 st2 (Own sb 5 (b8 f.b)::Hs)) w:=hw
    exact hw.arr
   exact fin hE3 hl3 hw
def crashP (fs:Fs) (keep:List Int):Fs:=fs.mapIdx fun i e=>(e.1,cutF keep[i]? e.2)
def crashR (st:DS) (keep:List Int):DS:=⟨st.room,crashP st.fs keep,-1,-1,false⟩
end Go.Proofs.YtkfedbncmfnpnaaGreatDoor
/- The disk and its reference are alike: the plain law. No program. Condition: none. -/
namespace Go.Proofs.YtkfedbncmfnpnaaGreatDoor
set_option linter.unusedVariables false
set_option linter.unusedSimpArgs false
open Go Go.VC
def Srt (fs:Fs):Prop:=fs.Pairwise fun x y=>x.1.data.toList<y.1.data.toList
theorem ltB_eq (a b:ByteArray):ltB a b=decide (a.data.toList<b.data.toList):=by
  unfold ltB;rw [ByteArray.toList_eq,ByteArray.toList_eq,Proofs.bytesLess_eq]
theorem uni_perm {a b:Fs} (h:a.Perm b) (u:Uni a):Uni b:=(h.map _).nodup_iff.1 u
theorem getM_perm {a b:Fs} (h:a.Perm b) (u:Uni a) (k:ByteArray):getM k a=getM k b:=by
  have key:∀ {l:Fs} {f:Fl},Uni l→(getM k l=some f↔(k,f)∈l):=fun {l f} u=>by
    constructor
    · intro hg
      obtain ⟨a,b,rfl,_⟩:=getM_split hg
      simp
    · intro hm
      obtain ⟨a,b,rfl⟩:=List.append_of_mem hm
      refine getM_app (getM_of_notin ?_) (ba_rfl k)
      unfold Uni at u
      rw [List.map_append,List.nodup_append] at u
      intro hk
      exact u.2.2 k hk k (by simp) rfl
  cases hb:getM k b with
  |some f=>exact (key u).2 (h.mem_iff.2 ((key (uni_perm h u)).1 hb))
  |none=>
    cases ha:getM k a with
    |none=>rfl
    |some f=>rw [(key (uni_perm h u)).2 (h.mem_iff.1 ((key u).1 ha))] at hb;cases hb
theorem updM_eq_map {k:ByteArray} {g:Fl→Fl}:∀ {l:Fs},Uni l→updM k g l=l.map fun e=>if k==e.1 then (e.1,g e.2) else e
  |[],_=>rfl
  |e::l,u=>by
    unfold Uni at u
    rw [List.map_cons,List.nodup_cons] at u
    rw [updM,List.map_cons]
    by_cases h:(k==e.1)=true
    · rw [if_pos h,if_pos h]
      congr 1
      have e1:=(MapKept.bytes_beq _ _).1 h
      have:∀ x∈l,(if k==x.1 then (x.1,g x.2) else x)=x:=fun x hx=>by
        rw [if_neg]
        intro h2
        have:=(MapKept.bytes_beq _ _).1 h2
        exact u.1 (by rw [←e1,this];exact List.mem_map_of_mem hx)
      rw [List.map_congr_left this];simp
    · rw [if_neg h,if_neg h,updM_eq_map (l:=l) u.2]
theorem updM_perm {a b:Fs} (h:a.Perm b) (u:Uni a) (k:ByteArray) (g:Fl→Fl):(updM k g a).Perm (updM k g b):=by
  rw [updM_eq_map u,updM_eq_map (uni_perm h u)];exact h.map _
theorem delM_eq_filter {k:ByteArray}:∀ {l:Fs},Uni l→delM k l=l.filter fun e=>!(k==e.1)
  |[],_=>rfl
  |e::l,u=>by
    unfold Uni at u
    rw [List.map_cons,List.nodup_cons] at u
    rw [delM]
    by_cases h:(k==e.1)=true
    · rw [if_pos h,List.filter_cons_of_neg (by simp [h])]
      have e1:=(MapKept.bytes_beq _ _).1 h
      symm
      rw [List.filter_eq_self]
      intro x hx
      simp only [Bool.not_eq_true']
      cases h2:(k==x.1)
      · rfl
      · have:=(MapKept.bytes_beq _ _).1 h2
        exact absurd (by rw [←e1,this];exact List.mem_map_of_mem hx) u.1
    · rw [if_neg h,List.filter_cons_of_pos (by simp [h]),delM_eq_filter (l:=l) u.2]
theorem delM_perm {a b:Fs} (h:a.Perm b) (u:Uni a) (k:ByteArray):(delM k a).Perm (delM k b):=by
  rw [delM_eq_filter u,delM_eq_filter (uni_perm h u)];exact h.filter _
theorem srt_sub {a b:Fs} (h:a.Sublist b) (s:Srt b):Srt a:=s.sublist h
theorem srt_keys {a b:Fs} (h:a.map (·.1)=b.map (·.1)) (s:Srt b):Srt a:=by
  have h1:(b.map (·.1)).Pairwise fun x y:ByteArray=>x.data.toList<y.data.toList:=List.pairwise_map.2 s
  rw [←h] at h1
  unfold Srt
  exact (List.pairwise_map (R:=fun x y:ByteArray=>x.data.toList<y.data.toList)).1 h1
theorem ltL_trans {a b c:List UInt8} (h1:a<b) (h2:b<c):a<c:=List.lt_trans h1 h2
theorem ba_ext {a b:ByteArray} (h:a.data.toList=b.data.toList):a=b:=by
  cases a;cases b;simp only at h;congr 1;exact Array.ext' h
theorem insM_srt {k:ByteArray} {f:Fl}:∀ {l:Fs},Srt l→k ∉ l.map (·.1)→Srt (insM (k,f) l)
  |[],_,_=>by simp [insM,Srt]
  |e::l,s,hk=>by
    unfold Srt at s
    rw [List.pairwise_cons] at s
    rw [List.map_cons,List.mem_cons,not_or] at hk
    by_cases h:ltB e.1 k=true
    · have e1:insM (k,f) (e::l)=e::insM (k,f) l:=by
        unfold insM
        simp only [atM,if_pos h,List.take_succ_cons,List.drop_succ_cons,List.cons_append]
      rw [e1]
      refine List.pairwise_cons.2 ⟨fun x hx=>?_,insM_srt s.2 hk.2⟩
      rw [(insM_perm (k,f) l).mem_iff] at hx
      rcases List.mem_cons.1 hx with rfl|hx
      · rw [ltB_eq] at h;exact of_decide_eq_true h
      · exact s.1 x hx
    · have e1:insM (k,f) (e::l)=(k,f)::e::l:=by
        unfold insM
        simp only [atM,if_neg h,List.take_zero,List.drop_zero,List.nil_append]
      rw [e1]
      rw [ltB_eq,decide_eq_true_eq] at h
      have hlt:k.data.toList<e.1.data.toList:=by
        exact Std.lt_of_le_of_ne h fun h2=>hk.1 (ba_ext h2)
      refine List.pairwise_cons.2 ⟨fun x hx=>?_,List.pairwise_cons.2 s⟩
      rcases List.mem_cons.1 hx with rfl|hx
      · exact hlt
      · exact ltL_trans hlt (s.1 x hx)
theorem names_srt {a b:Fs} (h:a.Perm b) (s:Srt b):namesOf a=b.map (·.1):=by
  unfold namesOf
  rw [mergeSort_of_perm (h.map _)]
  have hs:(b.map fun e=>e.1.data.toList).Pairwise fun x y=>(decide (x≤y))=true:=by
    rw [List.pairwise_map]
    exact s.imp fun h=>by simp only [decide_eq_true_eq];exact List.le_of_lt h
  rw [List.mergeSort_of_pairwise hs,List.map_map]
  apply List.map_congr_left
  intro e _
  simp
theorem crashL_perm:∀ {ks:List ByteArray} {keep:List Int} {a b:Fs},a.Perm b→Uni a→(crashL ks keep a).Perm (crashL ks keep b)
  |[],_,_,_,h,_=>h
  |k::ks,keep,a,b,h,u=>by
    rw [crashL,crashL]
    exact crashL_perm (updM_perm h u k _) (uni_upd u)
theorem crashL_app:∀ {l p:Fs} {keep:List Int},Uni (p++l)→crashL (l.map (·.1)) keep (p++l)=p++crashP l keep
  |[],p,keep,_=>by simp [crashL,crashP]
  |e::l,p,keep,u=>by
    have hg:getM e.1 p=none:=by
      refine getM_of_notin ?_
      unfold Uni at u
      rw [List.map_append,List.nodup_append] at u
      intro hk
      exact u.2.2 _ hk e.1 (by simp) rfl
    have hu2:Uni ((p++[(e.1,cutF keep.head? e.2)])++l):=by
      unfold Uni at *
      have:((p++[(e.1,cutF keep.head? e.2)])++l).map (·.1)=(p++e::l).map (·.1):=by simp
      rw [this];exact u
    rw [List.map_cons,crashL,show p++e::l=p++(e.1,e.2)::l from rfl,updM_app hg]
    rw [show p++(e.1,cutF keep.head? e.2)::l=(p++[(e.1,cutF keep.head? e.2)])++l by simp,crashL_app hu2]
    have:crashP (e::l) keep=(e.1,cutF keep.head? e.2)::crashP l keep.tail:=by
      unfold crashP
      rw [List.mapIdx_cons]
      congr 1
      · cases keep<;>rfl
      · apply List.ext_getElem?
        intro i
        simp only [List.getElem?_mapIdx]
        congr 1
        funext x
        cases keep<;>simp
    rw [this];simp
theorem crashL_keys:∀ (ks:List ByteArray) (keep:List Int) (fs:Fs),(crashL ks keep fs).map (·.1)=fs.map (·.1)
  |[],_,_=>rfl
  |k::ks,keep,fs=>by rw [crashL,crashL_keys,updM_keys]
theorem crashL_sure:∀ (ks:List ByteArray) (keep:List Int) {fs:Fs},SureOk fs→SureOk (crashL ks keep fs)
  |[],_,_,h=>h
  |k::ks,keep,fs,h=>by
    rw [crashL]
    refine crashL_sure ks _ (sure_upd (fun f hf=>?_) h)
    have:=stay_le keep.head? f hf
    show f.sure + stay keep.head? f≤(f.b.take (f.sure + stay keep.head? f)).length
    rw [List.length_take];omega
theorem updM_total_le {k:ByteArray} {g:Fl→Fl} (hg:∀ f,(g f).b.length≤f.b.length):∀ fs:Fs,total (updM k g fs)≤total fs
  |[]=>Int.le_refl _
  |e::fs=>by
    rw [updM]
    split
    · rw [total_cons,total_cons];have:=hg e.2;simp only;omega
    · rw [total_cons,total_cons];have:=updM_total_le (k:=k) hg fs;omega
theorem crashL_total:∀ (ks:List ByteArray) (keep:List Int) (fs:Fs),total (crashL ks keep fs)≤total fs
  |[],_,_=>Int.le_refl _
  |k::ks,keep,fs=>by
    rw [crashL]
    refine Int.le_trans (crashL_total ks _ _) (updM_total_le (fun f=>?_) fs)
    show (f.b.take _).length≤_
    rw [List.length_take];omega
theorem crash_inv {st:DS} (i:Inv st) (keep:List Int):Inv (crashD st keep):=
  { a0:=Int.le_refl _,a1:=by show (-1:Int)<_;omega,f0:=Int.le_refl _,f1:=by show (-1:Int)<_;omega,r0:=i.r0,r1:=i.r1,
    full:=Int.le_trans (crashL_total _ _ _) i.full,uni:=by unfold Uni crashD;simp only [crashL_keys];exact i.uni,
    names:=by unfold crashD;simp only [crashL_keys];exact i.names,sure:=crashL_sure _ _ i.sure }
structure Rel (a b:DS):Prop where
  room:a.room=b.room
  fail:a.fail=b.fail
  arm:a.arm=b.arm
  off:a.off=b.off
  perm:a.fs.Perm b.fs
  srt:Srt b.fs
  inv:Inv a
theorem Rel.invR {a b:DS} (h:Rel a b):Inv b:=
  { a0:=by rw [←h.arm];exact h.inv.a0,a1:=by rw [←h.arm];exact h.inv.a1,f0:=by rw [←h.fail];exact h.inv.f0,f1:=by rw [←h.fail];exact h.inv.f1,
    r0:=by rw [←h.room];exact h.inv.r0,r1:=by rw [←h.room];exact h.inv.r1,full:=by rw [←h.room,←total_perm h.perm];exact h.inv.full,
    uni:=uni_perm h.perm h.inv.uni,names:=fun k hk=>h.inv.names k ((h.perm.map _).mem_iff.2 hk),sure:=fun e he=>h.inv.sure e (h.perm.mem_iff.2 he) }
theorem Rel.new {room:Int} (h0:1≤room) (h1:room≤16777216):Rel ⟨room,[],-1,-1,false⟩ ⟨room,[],-1,-1,false⟩:=
  ⟨rfl,rfl,rfl,rfl,List.Perm.refl _,List.Pairwise.nil,inv_new h0 h1⟩
theorem Rel.chg {a b:DS} (h:Rel a b) (ok:Bool):Rel (chg a ok).1 (chg b ok).1∧(chg a ok).2=(chg b ok).2:=by
  have hi:=chg_inv h.inv ok
  obtain ⟨room,fs,fail,arm,off⟩:=a
  obtain ⟨room2,fs2,fail2,arm2,off2⟩:=b
  obtain ⟨h1,h2,h3,h4,h5,h6,_⟩:=h
  simp only at h1 h2 h3 h4 h5 h6
  subst h1 h2 h3 h4
  revert hi
  unfold Proofs.YtkfedbncmfnpnaaGreatDoor.chg
  cases ok
  · exact fun hi=>⟨⟨rfl,rfl,rfl,rfl,h5,h6,hi⟩,rfl⟩
  · cases off
    · cases hm:(metN arm).2
      · simp only [hm]
        exact fun hi=>⟨⟨rfl,rfl,rfl,rfl,h5,h6,hi⟩,rfl⟩
      · simp only [hm]
        exact fun hi=>⟨⟨rfl,rfl,rfl,rfl,h5,h6,hi⟩,rfl⟩
    · exact fun hi=>⟨⟨rfl,rfl,rfl,rfl,h5,h6,hi⟩,rfl⟩
theorem Rel.doing {a b:DS} (h:Rel a b) (ok:Bool) {g g':DS→DS × Int} (hg:ok=true→∀ a b,Rel a b→Rel (g a).1 (g' b).1∧(g a).2=(g' b).2):
    Rel (doing a ok g).1 (doing b ok g').1∧(doing a ok g).2=(doing b ok g').2:=by
  have h1:=h.chg ok
  unfold Proofs.YtkfedbncmfnpnaaGreatDoor.doing
  by_cases h0:(Proofs.YtkfedbncmfnpnaaGreatDoor.chg a ok).2=0
  · rw [if_pos h0,if_pos (by rw [←h1.2];exact h0)]
    exact hg (chg_ok h0) _ _ h1.1
  · rw [if_neg h0,if_neg (by rw [←h1.2];exact h0)]
    exact h1
theorem Rel.get {a b:DS} (h:Rel a b) (k:ByteArray):getM k a.fs=getM k b.fs:=getM_perm h.perm h.inv.uni k
theorem Rel.total {a b:DS} (h:Rel a b):total a.fs=total b.fs:=total_perm h.perm
theorem Rel.names {a b:DS} (h:Rel a b):namesOf a.fs=b.fs.map (·.1):=names_srt h.perm h.srt
theorem Rel.read {a b:DS} (h:Rel a b) (k:ByteArray):readD a k=readD b k:=by
  unfold readD;rw [h.off,h.get]
theorem Rel.append {a b:DS} (h:Rel a b) (k:ByteArray) (xs:List Int):Rel (appendD a k xs).1 (appendR b k xs).1∧(appendD a k xs).2=(appendR b k xs).2:=by
  refine h.doing _ fun hk a b h=>?_
  have hi:=appendG_inv h.inv hk xs
  unfold appendG appendGR at *
  rw [h.total,h.room] at *
  by_cases hc:Proofs.YtkfedbncmfnpnaaGreatDoor.total b.fs + xs.length>b.room
  · rw [if_pos hc,if_pos hc];exact ⟨h,rfl⟩
  · rw [if_neg hc] at *
    rw [if_neg hc]
    have hperm:(ensure k a.fs).Perm (ensureR k b.fs):=by
      unfold ensure ensureR
      rw [h.get]
      split
      · exact h.perm
      · refine List.perm_append_comm.trans ((h.perm.cons _).trans (insM_perm (k,(⟨[],0⟩:Fl)) b.fs).symm)
    have hsrt:Srt (ensureR k b.fs):=by
      unfold ensureR
      by_cases hs:(getM k b.fs).isSome=true
      · rw [if_pos hs];exact h.srt
      · rw [if_neg hs];exact insM_srt h.srt (notin_of_getM (by simpa using hs))
    refine ⟨⟨rfl,h.fail,h.arm,h.off,updM_perm hperm (uni_ensure h.inv.uni k) k _,srt_keys (updM_keys _ _ _) hsrt,hi⟩,rfl⟩
theorem Rel.sync {a b:DS} (h:Rel a b) (k:ByteArray):Rel (syncD a k).1 (syncD b k).1∧(syncD a k).2=(syncD b k).2:=by
  refine h.doing _ fun hk a b h=>?_
  unfold syncG
  rw [h.get]
  split
  · refine ⟨⟨h.room,h.fail,h.arm,h.off,updM_perm h.perm h.inv.uni k _,srt_keys (updM_keys _ _ _) h.srt,?_⟩,rfl⟩
    have i:=h.inv
    exact { toCounts:=⟨i.a0,i.a1,i.f0,i.f1⟩,r0:=i.r0,r1:=i.r1,full:=by simp only;rw [updM_total (g:=fun f=>{ f with sure:=f.b.length }) (fun _=>rfl)];exact i.full,uni:=uni_upd i.uni,names:=by simp only [updM_keys];exact i.names,sure:=sure_upd (fun f _=>Nat.le_refl _) i.sure }
  · exact ⟨h,rfl⟩
theorem Rel.unlink {a b:DS} (h:Rel a b) (k:ByteArray):Rel (unlinkD a k).1 (unlinkD b k).1∧(unlinkD a k).2=(unlinkD b k).2:=by
  refine h.doing _ fun hk a b h=>?_
  unfold unlinkG
  rw [h.get]
  split
  · exact ⟨⟨h.room,h.fail,h.arm,h.off,delM_perm h.perm h.inv.uni k,srt_sub (delM_sub k b.fs) h.srt,del_inv h.inv k⟩,rfl⟩
  · exact ⟨h,rfl⟩
theorem Rel.rename {a b:DS} (h:Rel a b) (k to:ByteArray):Rel (renameD a k to).1 (renameR b k to).1∧(renameD a k to).2=(renameR b k to).2:=by
  have hri:=rename_inv h.inv k to
  refine h.doing _ fun hk a b h=>?_
  have hi:Inv (renameG k to a).1:=renameG_inv h.inv (by simp only [Bool.and_eq_true] at hk;exact hk.2)
  unfold renameG renameGR at *
  rw [h.get] at *
  cases hg:getM k b.fs with
  |none=>exact ⟨h,rfl⟩
  |some f=>
    rw [hg] at hi
    simp only at hi ⊢
    by_cases hc:k=to
    · rw [if_pos hc,if_pos hc];exact ⟨h,rfl⟩
    · rw [if_neg hc] at *
      rw [if_neg hc]
      have p1:(delM k (delM to a.fs)).Perm (delM to (delM k b.fs)):=by
        have hb:=uni_perm h.perm h.inv.uni
        refine (delM_perm (delM_perm h.perm h.inv.uni to) (uni_del h.inv.uni to) k).trans ?_
        rw [delM_eq_filter (uni_del hb to),delM_eq_filter hb,delM_eq_filter (uni_del hb k),delM_eq_filter hb,List.filter_filter,List.filter_filter]
        refine List.Perm.of_eq ?_
        congr 1
        funext e
        exact Bool.and_comm _ _
      have hno:to ∉ (delM to (delM k b.fs)).map (·.1):=notin_of_getM (getM_del_self to (uni_del (uni_perm h.perm h.inv.uni) k))
      refine ⟨⟨h.room,h.fail,h.arm,h.off,?_,?_,hi⟩,rfl⟩
      · exact List.perm_append_comm.trans ((p1.cons _).trans (insM_perm (to,f) _).symm)
      · exact insM_srt (srt_sub (delM_sub _ _) (srt_sub (delM_sub _ _) h.srt)) hno
theorem Rel.crash {a b:DS} (h:Rel a b) (keep:List Int):Rel (crashD a keep) (crashR b keep):=by
  refine ⟨h.room,rfl,rfl,rfl,?_,?_,crash_inv h.inv keep⟩
  · show (crashL (namesOf a.fs) keep a.fs).Perm (crashP b.fs keep)
    rw [h.names]
    refine (crashL_perm h.perm h.inv.uni).trans ?_
    have:=crashL_app (l:=b.fs) (p:=[]) (keep:=keep) (by simpa using uni_perm h.perm h.inv.uni)
    simp only [List.nil_append] at this
    rw [this]
  · refine srt_keys ?_ h.srt
    show (crashP b.fs keep).map (·.1)=_
    unfold crashP
    apply List.ext_getElem?
    intro i
    simp [List.getElem?_mapIdx]
    cases b.fs[i]?<;>rfl
theorem Rel.setFail {a b:DS} (h:Rel a b) (n:Int) (hn:n<9223372036854775808):Rel { a with fail:=if n<0 then a.fail else n } { b with fail:=if n<0 then b.fail else n }:=by
  refine ⟨h.room,by simp only [h.fail],h.arm,h.off,h.perm,h.srt,?_⟩
  have i:=h.inv
  have f0:=i.f0;have f1:=i.f1
  exact { a0:=i.a0,a1:=i.a1,f0:=by simp only;split<;>omega,f1:=by simp only;split<;>omega,r0:=i.r0,r1:=i.r1,full:=i.full,uni:=i.uni,names:=i.names,sure:=i.sure }
end Go.Proofs.YtkfedbncmfnpnaaGreatDoor
/- The check sum, plain: a table by linear algebra, and by steps. No program. No condition. -/
namespace Go.VC
set_option linter.unusedVariables false
set_option linter.unusedSimpArgs false
def cstep (r:Nat):Nat:=if r % 2=1 then (r / 2) ^^^ 2197175160 else r / 2
def cstepN:Nat→Nat→Nat
 |0,r=>r
 |n + 1,r=>cstepN n (cstep r)
theorem xor_mod2 (a b:Nat):(a ^^^ b) % 2=(a % 2 + b % 2) % 2:=by
 rcases Nat.mod_two_eq_zero_or_one a with ha|ha<;>rcases Nat.mod_two_eq_zero_or_one b with hb|hb<;>
  simp [Nat.xor_mod_two_eq_one,Nat.mod_two_eq_zero_iff_testBit_zero,ha,hb]<;>(try omega)<;>
  (have:=Nat.xor_mod_two_eq_one (a:=a) (b:=b);rcases Nat.mod_two_eq_zero_or_one (a ^^^ b) with h|h<;>omega)
theorem cstep_xor (a b:Nat):cstep (a ^^^ b)=cstep a ^^^ cstep b:=by
 have hd:(a ^^^ b) / 2=a / 2 ^^^ b / 2:=Nat.xor_div_two
 have hm:=xor_mod2 a b
 unfold cstep
 rw [hd]
 rcases Nat.mod_two_eq_zero_or_one a with ha|ha<;>rcases Nat.mod_two_eq_zero_or_one b with hb|hb<;>rw [ha,hb] at hm
 ·rw [if_neg (by omega),if_neg (by omega),if_neg (by omega)]
 ·rw [if_pos (by omega),if_neg (by omega),if_pos hb,Nat.xor_assoc]
 ·rw [if_pos (by omega),if_pos ha,if_neg (by omega),Nat.xor_assoc,Nat.xor_assoc]
  congr 1;exact Nat.xor_comm _ _
 ·rw [if_neg (by omega),if_pos ha,if_pos hb]
  rw [Nat.xor_assoc,Nat.xor_comm (2197175160) (b / 2 ^^^ 2197175160),Nat.xor_assoc,Nat.xor_self,Nat.xor_zero]
theorem cstepN_xor:∀ (n a b:Nat),cstepN n (a ^^^ b)=cstepN n a ^^^ cstepN n b
 |0,_,_=>rfl
 |n + 1,a,b=>by rw [cstepN,cstepN,cstepN,cstep_xor,cstepN_xor n]
theorem cstepN_shift:∀ (n a:Nat),cstepN n (a * 2 ^ n)=a
 |0,a=>by simp [cstepN]
 |n + 1,a=>by
  have:cstep (a * 2 ^ (n + 1))=a * 2 ^ n:=by
   unfold cstep
   have e:a * 2 ^ (n + 1)=2 * (a * 2 ^ n):=by rw [Nat.pow_succ,Nat.mul_comm 2,Nat.mul_assoc]
   rw [e,if_neg (by omega)];omega
  rw [cstepN,this,cstepN_shift n]
theorem split8 (x:Nat):x=(x / 256 * 2 ^ 8) ^^^ (x % 256):=by
 have h:(x / 256 * 2 ^ 8) ^^^ (x % 256)=x / 256 * 2 ^ 8 + x % 256:=by
  have:=Nat.two_pow_add_eq_or_of_lt (i:=8) (b:=x % 256) (by omega) (x / 256)
  rw [Nat.mul_comm] at this
  rw [this]
  apply Nat.eq_of_testBit_eq
  intro j
  rw [Nat.testBit_xor,Nat.testBit_or]
  by_cases hj:j<8
  ·have:(x / 256 * 2 ^ 8).testBit j=false:=by rw [Nat.testBit_mul_two_pow];simp;omega
   rw [this];simp
  ·have:(x % 256).testBit j=false:=Nat.testBit_lt_two_pow (Nat.lt_of_lt_of_le (show x % 256<2 ^ 8 by omega) (Nat.pow_le_pow_right (by omega) (by omega)))
   rw [this];simp
 rw [h];omega
theorem cstep8_eq (x:Nat):cstepN 8 x=(x / 256) ^^^ cstepN 8 (x % 256):=by
 conv=>lhs;rw [split8 x]
 rw [cstepN_xor,cstepN_shift]
def mtimesAt (m:List Nat) (r:Nat):Nat→Nat→Nat
 |0,out=>out
 |k + 1,out=>mtimesAt m r k (out ^^^ (if (r / 2 ^ (32 - (k + 1))) % 2=1 then m.getD (32 - (k + 1)) 0 else 0))
def mtimes (m:List Nat) (r:Nat):Nat:=mtimesAt m r 32 0
def msq (m:List Nat):List Nat:=m.map (mtimes m)
def mstep:List Nat:=2197175160::(List.range 31).map fun i=>2 ^ i
def mbyte:List Nat:=msq (msq (msq mstep))
theorem mbyte_eq:∀ i,i<256→mtimes mbyte i=cstepN 8 i:=by decide +kernel
theorem mbyte_len:mbyte.length=32:=by decide +kernel
end Go.VC
/- Codes of numbers and of bytes, plain. No program. No condition. -/
namespace Go.VC
set_option linter.unusedVariables false
set_option linter.unusedSimpArgs false
def dig (n:Nat):List Int:=if h:n=0 then [] else dig (n / 256)++[((n % 256:Nat):Int)]
termination_by n
decreasing_by omega
theorem dig_zero:dig 0=[]:=by unfold dig;simp
theorem dig_pos {n:Nat} (h:n≠0):dig n=dig (n / 256)++[((n % 256:Nat):Int)]:=by
 conv=>lhs;unfold dig
 rw [dif_neg h]
def valI (acc:Int) (l:List Int):Int:=l.foldl (fun a b=>a * 256 + b) acc
theorem valI_nil (acc:Int):valI acc []=acc:=rfl
theorem valI_cons (acc b:Int) (l:List Int):valI acc (b::l)=valI (acc * 256 + b) l:=rfl
theorem valI_app (acc:Int) (a b:List Int):valI acc (a++b)=valI (valI acc a) b:=List.foldl_append
theorem valI_snoc (acc:Int) (a:List Int) (b:Int):valI acc (a++[b])=valI acc a * 256 + b:=by rw [valI_app];rfl
theorem valI_nn:∀ {l:List Int} {acc:Int},0≤acc→(∀ x∈l,0≤x∧x<256)→0≤valI acc l
 |[],_,h,_=>h
 |b::l,acc,h,hb=>by
  rw [valI_cons]
  have:=hb b List.mem_cons_self
  exact valI_nn (by omega) fun x hx=>hb x (List.mem_cons_of_mem _ hx)
theorem valI_lt:∀ {l:List Int} {acc:Int},0≤acc→(∀ x∈l,0≤x∧x<256)→valI acc l<(acc + 1) * 256 ^ l.length
 |[],acc,h,_=>by simp [valI];omega
 |b::l,acc,h,hb=>by
  rw [valI_cons]
  have h1:=hb b List.mem_cons_self
  have:=valI_lt (l:=l) (acc:=acc * 256 + b) (by omega) fun x hx=>hb x (List.mem_cons_of_mem _ hx)
  refine Int.lt_of_lt_of_le this ?_
  rw [List.length_cons,Int.pow_succ,Int.mul_comm (256 ^ l.length) 256,←Int.mul_assoc]
  exact Int.mul_le_mul_of_nonneg_right (by omega) (Int.le_of_lt (Int.pow_pos (by decide)))
theorem dig_val (n:Nat):valI 0 (dig n)=n:=by
 induction n using Nat.strongRecOn with
 |ind n ih=>
  by_cases h:n=0
  ·subst h;rw [dig_zero];rfl
  ·rw [dig_pos h,valI_snoc,ih (n / 256) (by omega)];omega
theorem dig_bd (n:Nat):∀ x∈dig n,0≤x∧x<256:=by
 induction n using Nat.strongRecOn with
 |ind n ih=>
  by_cases h:n=0
  ·subst h;rw [dig_zero];intro x hx;cases hx
  ·rw [dig_pos h]
   intro x hx
   rcases List.mem_append.1 hx with hx|hx
   ·exact ih (n / 256) (by omega) x hx
   ·simp at hx;omega
theorem dig_head (n:Nat):∀ x l,dig n=x::l→x≠0:=by
 induction n using Nat.strongRecOn with
 |ind n ih=>
  intro x l hx
  by_cases h:n=0
  ·subst h;rw [dig_zero] at hx;cases hx
  ·rw [dig_pos h] at hx
   by_cases h2:n / 256=0
   ·rw [h2,dig_zero] at hx
    simp at hx
    omega
   ·cases hd:dig (n / 256) with
    |nil=>rw [dig_pos h2] at hd;simp at hd
    |cons y l'=>
     rw [hd] at hx
     simp at hx
     obtain ⟨rfl,_⟩:=hx
     exact ih (n / 256) (by omega) _ _ hd
theorem dig_len_le:∀ (k n:Nat),n<256 ^ k→(dig n).length≤k
 |0,n,h=>by
  have:n=0:=by simpa using h
  subst this;rw [dig_zero];simp
 |k + 1,n,h=>by
  by_cases h0:n=0
  ·subst h0;rw [dig_zero];simp
  ·rw [dig_pos h0,List.length_append]
   have:=dig_len_le k (n / 256) (by rw [Nat.pow_succ] at h;exact Nat.div_lt_of_lt_mul (by rwa [Nat.mul_comm] at h))
   simp;omega
theorem dig_len8 {n:Nat} (h:n<18446744073709551616):(dig n).length≤8:=dig_len_le 8 n (by simpa using h)
theorem dig_width (n:Nat) (h:n<18446744073709551616):(Lib.bitLen n + 7) / 8=(dig n).length:=by
 induction n using Nat.strongRecOn with
 |ind n ih=>
  by_cases h0:n=0
  ·subst h0;rw [dig_zero];decide
  ·rw [dig_pos h0,List.length_append]
   by_cases h1:256≤n
   ·rw [Lib.bitLen_shift8 n h1 h,←ih (n / 256) (by omega) (by omega)]
    simp;omega
   ·have e:n / 256=0:=by omega
    rw [e,dig_zero]
    have h2:∀ m:Fin 256,m.val≠0→(Lib.bitLen m.val + 7) / 8=1:=by decide +kernel
    simpa using h2 ⟨n,by omega⟩ h0
theorem dig_drop:∀ (k n:Nat),k≤(dig n).length→(dig n).take ((dig n).length - k)=dig (n / 256 ^ k)
 |0,n,_=>by simp
 |k + 1,n,h=>by
  by_cases h0:n=0
  ·subst h0;rw [dig_zero] at h;simp at h
  ·rw [dig_pos h0] at h ⊢
   rw [List.length_append] at h ⊢
   simp only [List.length_cons,List.length_nil] at h ⊢
   have e:(dig (n / 256)).length + (0 + 1) - (k + 1)=(dig (n / 256)).length - k:=by omega
   rw [e,List.take_append_of_le_length (by omega),dig_drop k (n / 256) (by omega),Nat.div_div_eq_div_mul,Nat.pow_succ,Nat.mul_comm 256]
theorem dig_get {n k:Nat} (h:k<(dig n).length):(dig n)[(dig n).length - 1 - k]'(by omega)=((n / 256 ^ k % 256:Nat):Int):=by
 have h1:=dig_drop k n (by omega)
 have hn:n / 256 ^ k≠0:=by
  intro h0
  rw [h0,dig_zero] at h1
  have:=congrArg List.length h1
  simp at this;omega
 rw [dig_pos hn] at h1
 have h2:((dig n).take ((dig n).length - k)).getLast? =some ((n / 256 ^ k % 256:Nat):Int):=by rw [h1];simp
 rw [List.getLast?_eq_getElem?,List.length_take,Nat.min_eq_left (by omega),List.getElem?_take] at h2
 split at h2
 ·rw [List.getElem?_eq_some_iff] at h2
  obtain ⟨h3,h4⟩:=h2
  have e:(dig n).length - 1 - k=(dig n).length - k - 1:=by omega
  simp only [e]
  exact h4
 ·cases h2
def numB (n:Nat):List Int:=((dig n).length:Int)::dig n
def textB (b:List Int):List Int:=numB b.length++b
theorem numB_bd {n:Nat} (h:n<18446744073709551616):∀ x∈numB n,0≤x∧x<256:=by
 intro x hx
 rcases List.mem_cons.1 hx with rfl|hx
 ·have:=dig_len8 h;omega
 ·exact dig_bd n x hx
theorem numB_len {n:Nat} (h:n<18446744073709551616):(numB n).length≤9:=by
 have:=dig_len8 h;unfold numB;simp;omega
def parse (l:List Int):Option (Int × Bool × Nat):=
 match l with
 |[]=>none
 |k::rest=>
  let neg:=decide (16≤k)
  let w:=(if 16≤k then k - 16 else k).toNat
  if k<32∧w≤8∧w≤rest.length∧(w=0→k=0)∧(w≠0→rest.head?≠some 0) then some (valI 0 (rest.take w),neg,w + 1) else none
theorem parse_num {n:Nat} (h:n<18446744073709551616) (rest:List Int):parse (numB n++rest)=some ((n:Int),false,(numB n).length):=by
 have h8:=dig_len8 h
 unfold parse numB
 simp only [List.cons_append]
 have e1:¬ (16:Int)≤((dig n).length:Int):=by omega
 rw [if_neg e1]
 rw [if_pos]
 ·simp only [Int.toNat_natCast,List.take_left',dig_val,List.length_cons,Option.some.injEq,Prod.mk.injEq,and_true,true_and]
  simpa using e1
 ·refine ⟨by omega,by omega,by simp,fun h0=>by omega,fun h0=>?_⟩
  simp only [Int.toNat_natCast] at h0
  cases hd:dig n with
  |nil=>rw [hd] at h0;simp at h0
  |cons x l=>
   have:=dig_head n x l hd
   simp;exact this
theorem parse_bd {l:List Int} {n:Int} {neg:Bool} {k:Nat} (hb:∀ x∈l,0≤x∧x<256) (h:parse l=some (n,neg,k)):0≤n∧n<18446744073709551616∧1≤k∧k≤9∧k≤l.length:=by
 unfold parse at h
 split at h
 ·cases h
 ·rename_i c rest
  simp only at h
  generalize hw:(if 16≤c then c - 16 else c).toNat=w at h
  split at h
  ·rename_i hc
   obtain ⟨_,h8,hr,_,_⟩:=hc
   simp only [Option.some.injEq,Prod.mk.injEq] at h
   obtain ⟨rfl,_,rfl⟩:=h
   have hb2:∀ x∈rest.take w,0≤x∧x<256:=fun x hx=>hb x (List.mem_cons_of_mem _ (List.mem_of_mem_take hx))
   refine ⟨valI_nn (Int.le_refl _) hb2,?_,by omega,by omega,by simp;omega⟩
   refine Int.lt_of_lt_of_le (valI_lt (Int.le_refl _) hb2) ?_
   rw [List.length_take,Nat.min_eq_left hr,Int.zero_add,Int.one_mul]
   have h9:256 ^ w≤256 ^ 8:=Nat.pow_le_pow_right (by omega) h8
   have:((256 ^ w:Nat):Int)≤((256 ^ 8:Nat):Int):=Int.ofNat_le.2 h9
   rw [Int.natCast_pow] at this
   exact Int.le_trans this (by decide)
  ·cases h
structure Rd where
 bs:List Int
 bad:Bool
def rdNum (most:Int) (r:Rd):Int × Rd:=
 if r.bad then (0,r) else match parse r.bs with
 |some (n,neg,k)=>if neg=false∧n≤most then (n,⟨r.bs.drop k,false⟩) else (0,⟨r.bs,true⟩)
 |none=>(0,⟨r.bs,true⟩)
def rdText (most:Int) (r:Rd):List Int × Rd:=
 if r.bad then ([],r) else match parse r.bs with
 |some (n,neg,k)=>if neg=false∧0≤most∧n≤most∧n≤((r.bs.length:Int) - k) then (((r.bs.drop k).take n.toNat),⟨r.bs.drop (k + n.toNat),false⟩) else ([],⟨r.bs,true⟩)
 |none=>([],⟨r.bs,true⟩)
def rdWhole (r:Rd):Bool:=!r.bad && decide (r.bs.length=0)
end Go.VC
/- Records, plain. No program. No condition. -/
namespace Go.VC
set_option linter.unusedVariables false
set_option linter.unusedSimpArgs false
def ones32:Nat:=4294967295
def crcRun (r:Nat) (bs:List Int):Nat:=bs.foldl (fun r c=>cstepN 8 (r ^^^ c.toNat)) r
def crcAdd (sum:Nat) (bs:List Int):Nat:=crcRun (sum ^^^ ones32) bs ^^^ ones32
theorem crcRun_app (r:Nat) (a b:List Int):crcRun r (a++b)=crcRun (crcRun r a) b:=List.foldl_append
theorem crcAdd_app (s:Nat) (a b:List Int):crcAdd (crcAdd s a) b=crcAdd s (a++b):=by
 unfold crcAdd
 rw [Nat.xor_assoc,Nat.xor_self,Nat.xor_zero,crcRun_app]
theorem cstep_lt {r:Nat} (h:r<4294967296):cstep r<4294967296:=by
 unfold cstep
 split
 ·exact Nat.xor_lt_two_pow (n:=32) (by omega) (by decide)
 ·omega
theorem cstepN_lt:∀ (n:Nat) {r:Nat},r<4294967296→cstepN n r<4294967296
 |0,_,h=>h
 |n + 1,_,h=>cstepN_lt n (cstep_lt h)
theorem crcRun_lt:∀ {bs:List Int} {r:Nat},r<4294967296→(∀ x∈bs,0≤x∧x<256)→crcRun r bs<4294967296
 |[],_,h,_=>h
 |b::bs,r,h,hb=>by
  have:=hb b List.mem_cons_self
  exact crcRun_lt (bs:=bs) (cstepN_lt 8 (Nat.xor_lt_two_pow (n:=32) h (by omega))) fun x hx=>hb x (List.mem_cons_of_mem _ hx)
theorem crcAdd_lt {s:Nat} {bs:List Int} (hs:s<4294967296) (hb:∀ x∈bs,0≤x∧x<256):crcAdd s bs<4294967296:=
 Nat.xor_lt_two_pow (n:=32) (crcRun_lt (Nat.xor_lt_two_pow (n:=32) hs (by decide)) hb) (by decide)
def word4 (n:Nat):List Int:=[((n / 16777216 % 256:Nat):Int),((n / 65536 % 256:Nat):Int),((n / 256 % 256:Nat):Int),((n % 256:Nat):Int)]
theorem word4_len (n:Nat):(word4 n).length=4:=rfl
theorem word4_bd (n:Nat):∀ x∈word4 n,0≤x∧x<256:=by
 intro x hx
 simp only [word4,List.mem_cons,List.not_mem_nil,or_false] at hx
 rcases hx with rfl|rfl|rfl|rfl<;>omega
theorem word4_val {n:Nat} (h:n<4294967296):valI 0 (word4 n)=n:=by
 simp only [word4,valI,List.foldl];omega
theorem val_word4 {l:List Int} (hl:l.length=4) (hb:∀ x∈l,0≤x∧x<256):word4 (valI 0 l).toNat=l:=by
 match l,hl with
 |[a,b,c,d],_=>
  have ha:=hb a (by simp);have h2:=hb b (by simp);have h3:=hb c (by simp);have h4:=hb d (by simp)
  simp only [word4,valI,List.foldl,List.cons.injEq,and_true]
  omega
def recB (b:List Int):List Int:=word4 b.length++word4 (crcAdd 0 (word4 b.length++b))++b
theorem recB_len (b:List Int):(recB b).length=8 + b.length:=by simp [recB,word4_len];omega
theorem recB_bd {b:List Int} (h:∀ x∈b,0≤x∧x<256):∀ x∈recB b,0≤x∧x<256:=by
 intro x hx
 simp only [recB,List.mem_append] at hx
 rcases hx with (hx|hx)|hx
 ·exact word4_bd _ x hx
 ·exact word4_bd _ x hx
 ·exact h x hx
def first (l:List Int):Option (List Int):=
 if 8≤l.length then
  let n:=(valI 0 (l.take 4)).toNat
  if n≤65536∧n≤l.length - 8∧crcAdd 0 (l.take 4++(l.drop 8).take n)=(valI 0 ((l.drop 4).take 4)).toNat then some ((l.drop 8).take n) else none
 else none
theorem first_len {l b:List Int} (h:first l=some b):8 + b.length≤l.length∧b.length≤65536∧b=(l.drop 8).take b.length∧b.length=(valI 0 (l.take 4)).toNat:=by
 unfold first at h
 split at h
 ·simp only at h
  split at h
  ·rename_i h8 hc
   obtain ⟨h1,h2,_⟩:=hc
   simp only [Option.some.injEq] at h
   have hl:b.length=(valI 0 (l.take 4)).toNat:=by rw [←h];simp;omega
   exact ⟨by omega,by omega,by rw [hl];exact h.symm,hl⟩
  ·cases h
 ·cases h
def scan (l:List Int):List (List Int):=
 match h:first l with
 |none=>[]
 |some b=>b::scan (l.drop (8 + b.length))
termination_by l.length
decreasing_by
 have:=(first_len h).1
 simp;omega
theorem scan_none {l:List Int} (h:first l=none):scan l=[]:=by
 unfold scan
 split
 ·rfl
 ·rename_i b hb;rw [h] at hb;cases hb
theorem scan_some {l b:List Int} (h:first l=some b):scan l=b::scan (l.drop (8 + b.length)):=by
 conv=>lhs;unfold scan
 split
 ·rename_i hb;rw [h] at hb;cases hb
 ·rename_i b' hb;rw [h] at hb;cases hb;rfl
def scanLen (l:List (List Int)):Nat:=(l.map fun b=>8 + b.length).foldr (· + ·) 0
theorem scanLen_cons (b:List Int) (l:List (List Int)):scanLen (b::l)=8 + b.length + scanLen l:=rfl
theorem first_rec {b rest:List Int} (hb:b.length≤65536) (hbd:∀ x∈b,0≤x∧x<256):first (recB b++rest)=some b:=by
 unfold first
 have hl:=recB_len b
 rw [if_pos (by rw [List.length_append];omega)]
 have e0:recB b++rest=word4 b.length++(word4 (crcAdd 0 (word4 b.length++b))++(b++rest)):=by simp [recB]
 have e1:(recB b++rest).take 4=word4 b.length:=by rw [e0,List.take_left' (word4_len _)]
 have e2:(recB b++rest).drop 4=word4 (crcAdd 0 (word4 b.length++b))++(b++rest):=by rw [e0,List.drop_left' (word4_len _)]
 have e3:(recB b++rest).drop 8=b++rest:=by
  rw [show 8=4 + 4 from rfl,←List.drop_drop,e2,List.drop_left' (word4_len _)]
 have hv:(valI 0 (word4 b.length)).toNat=b.length:=by rw [word4_val (by omega)];rfl
 simp only
 have hc:crcAdd 0 (word4 b.length++b)<4294967296:=crcAdd_lt (by decide) fun x hx=>(List.mem_append.1 hx).elim (word4_bd _ x) (hbd x)
 rw [e1,e2,e3,hv,List.take_left' rfl,List.take_left' (word4_len _),word4_val hc]
 rw [if_pos ⟨hb,by rw [List.length_append];omega,rfl⟩]
end Go.VC
/- Package crc: the check sum. No condition. -/
namespace Go.Proofs.YtkfedbncmfnpnaaGreatDoor
set_option linter.unusedVariables false
set_option linter.unusedSimpArgs false
open Go Go.VC
variable {R:Cx} {Hs Rest:List HP} {w:World}
theorem At.intsK {kd:IntKind} {S:World→Prop} {b:Nat} {xs:List Int} {T:TypeId} {fr:Nat × Nat} (hS:∀ w,S w→Sat R Hs w)
  [t:TakeP b Hs (.cells (xs.map (Value.int kd)).toArray T fr) Rest] {i:Nat} (hi:i<xs.length):At S (Addr.add ⟨b,0,none⟩ i) [.int kd xs[i]]:=by
 rw [add_off]
 refine At.own hS ?_
 rw [Nat.zero_add,List.drop_eq_getElem_cons (by simpa using hi)]
 exact ⟨by simp,trivial⟩
theorem shr_nat32 (n k:Nat) (hk:k≤32):shrI .u32 (n:Int) (k:Int)=((n / 2 ^ k:Nat):Int):=by
 have e:min ((k:Int).toNat) IntKind.u32.bits=k:=by rw [Int.toNat_natCast];exact Nat.min_eq_left hk
 unfold shrI
 rw [e,Int.fdiv_eq_ediv_of_nonneg _ (by exact Int.le_of_lt (Int.pow_pos (by decide)))]
 rw [show ((2:Int) ^ k)=((2 ^ k:Nat):Int) from (Int.natCast_pow 2 k).symm]
 exact (Int.natCast_ediv n (2 ^ k)).symm
theorem and_one (x:Nat) (hx:x<4294967296):bitI .and .u32 (x:Int) 1=((x % 2:Nat):Int):=by
 have:=andU32 (x:=x) (y:=1) hx (by omega)
 rw [Nat.and_one_is_mod] at this
 exact this
theorem mask32 {x b:Nat} (hx:x<4294967296) (hb:b<2):bitI .and .u32 (x:Int) (IntKind.u32.wrap (0 - (b:Int)))=((if b=1 then x else 0:Nat):Int):=by
 rw [wrapU32m]
 rcases (show b=0∨b=1 by omega) with rfl|rfl
 ·have:=andU32 (x:=x) (y:=0) hx (by omega)
  rw [Nat.and_zero] at this
  exact this
 ·have:=andU32 (x:=x) (y:=4294967295) hx (by omega)
  have e:x &&& 4294967295=x:=by
   have:=Nat.and_two_pow_sub_one_eq_mod x 32
   rw [show (2:Nat) ^ 32 - 1=4294967295 from rfl,show (2:Nat) ^ 32=4294967296 from rfl] at this
   rw [this];omega
  rw [e] at this
  exact this
theorem notU32 {x:Nat} (hx:x<4294967296):IntKind.u32.wrap ((BitVec.ofInt IntKind.u32.bits (if IntKind.u32.signed=true then -1 else IntKind.u32.max) ^^^ BitVec.ofInt IntKind.u32.bits (x:Int)).toNat:Nat)=((x ^^^ ones32:Nat):Int):=by
 have:=xorU32 (x:=4294967295) (y:=x) (by omega) hx
 rw [Nat.xor_comm] at this
 exact this
abbrev mi (l:List Nat):List Int:=l.map (fun n:Nat=>(n:Int))
abbrev m32 (l:List Nat):List Value:=(mi l).map (Value.int .u32)
abbrev mAt (m:Nat) (l:List Nat):HP:=pts m (.cells (m32 l).toArray 260 (0,0))
def Fill (t c:List Nat) (k:Nat):Prop:=c.length=t.length∧∀ i,i<k→c[i]? =t[i]?
theorem Fill.set {t c:List Nat} {k x:Nat} (h:Fill t c k) (hk:k<t.length) (hx:x=t[k]):Fill t (c.set k x) (k + 1):=by
 refine ⟨by simp [h.1],fun i hi=>?_⟩
 rcases (show i=k∨i<k by omega) with rfl|hik
 ·rw [List.getElem?_set_self (by rw [h.1];exact hk),hx,List.getElem?_eq_getElem hk]
 ·rw [List.getElem?_set_ne (by omega)];exact h.2 i hik
theorem Fill.done {t c:List Nat} {k:Nat} (h:Fill t c k) (hk:t.length≤k):c=t:=by
 apply List.ext_getElem?
 intro i
 rcases Nat.lt_or_ge i k with hi|hi
 ·exact h.2 i hi
 ·rw [List.getElem?_eq_none (by rw [h.1];omega),List.getElem?_eq_none (by omega)]
theorem xor32 {a b:Nat} (ha:a<4294967296) (hb:b<4294967296):a ^^^ b<4294967296:=Nat.xor_lt_two_pow (n:=32) ha hb
theorem mtimesAt_lt {l:List Nat} (hl:∀ x∈l,x<4294967296) (r:Nat):∀ (k:Nat) {out:Nat},out<4294967296→mtimesAt l r k out<4294967296
 |0,_,h=>h
 |k + 1,out,h=>by
  refine mtimesAt_lt hl r k (xor32 h ?_)
  split
  ·rw [List.getD_eq_getElem?_getD]
   cases hx:l[32 - (k + 1)]? with
   |none=>simp
   |some x=>exact hl x (List.mem_of_getElem? hx)
  ·omega
theorem msq_bd {l:List Nat} (hl:∀ x∈l,x<4294967296):∀ x∈msq l,x<4294967296:=by
 intro x hx
 obtain ⟨r,_,rfl⟩:=List.mem_map.1 hx
 exact mtimesAt_lt hl r 32 (by omega)
theorem times_spec {m r:Nat} {l:List Nat} (hl:l.length=32) (hb:∀ x∈l,x<4294967296) (hr:r<4294967296) (hw:Sat R (mAt m l::Hs) w):
  Gets Tryz.prog 226 #[.pointer (some ⟨m,0,none⟩),.int .u32 r] w fun v w'=>v=.int .u32 (mtimes l r:Nat)∧Sat R (mAt m l::Hs) w':=by
 apply call226
 refine ⟨fun o t w=>∃ k n:Nat,t=k∧k≤32∧o=n∧n<4294967296∧mtimesAt l r (32 - k) n=mtimes l r∧Sat R (mAt m l::Hs) w,fun _ t _=>32 - t.toNat,⟨0,0,rfl,by omega,rfl,by omega,rfl,hw⟩,?_⟩
 rintro _ _ _ w ⟨k,n,rfl,hk,rfl,hn,he,hw⟩
 refine Br.d (fun h=>?_) (fun h=>?_)
 ·refine drw_rule hw fun w hw=>NilP.mk rfl (Rng.mk (by omega) (by omega) ⟨(l[k]'(by omega):Nat),?_,Ge0.mk (by omega) ?_⟩)
  ·have:=At.intsK (b:=m) (T:=260) (fr:=(0,0)) (kd:=.u32) (xs:=mi l) (S:=Sat R (mAt m l::Hs)) selfS (i:=k) (by simp;omega)
   rw [Int.toNat_natCast]
   simpa using this
  ·have hx:=hb (l[k]'(by omega)) (List.getElem_mem _)
   have h2:r / 2 ^ k<4294967296:=Nat.lt_of_le_of_lt (Nat.div_le_self _ _) hr
   rw [shr_nat32 r k (by omega),and_one _ h2,mask32 hx (by omega),wrap64 (by omega) (by omega)]
   have hm:(if r / 2 ^ k % 2=1 then l[k]'(by omega) else 0)<4294967296:=by split<;>omega
   rw [xorU32 hn hm]
   refine ⟨⟨k + 1,_,by omega,by omega,rfl,xor32 hn hm,?_,hw⟩,by dsimp only;omega⟩
   rw [←he]
   have e:32 - k=(31 - k) + 1:=by omega
   have e2:32 - (k + 1)=31 - k:=by omega
   have e3:32 - (31 - k + 1)=k:=by omega
   rw [e,e2,mtimesAt,e3,List.getD_eq_getElem?_getD,List.getElem?_eq_getElem (by omega:k<l.length)]
   rfl
 ·have hk2:k=32:=by omega
  subst hk2
  refine ⟨?_,hw⟩
  rw [←he];rfl
theorem zeros_at {b:Nat} {n:Nat} {T:TypeId} {o:Obj} (ho:o=.cells (m32 (List.replicate n 0)).toArray T (0,0)) (hw:Sat R (pts b o::Hs) w):Sat R (pts b (.cells (m32 (List.replicate n 0)).toArray T (0,0))::Hs) w:=by
 rw [←ho];exact hw
theorem mi_set (l:List Nat) (i x:Nat):(mi l).set i (x:Int)=mi (l.set i x):=by simp [mi,List.map_set]
theorem squared_spec {m:Nat} {l:List Nat} (hl:l.length=32) (hb:∀ x∈l,x<4294967296) (hw:Sat R (mAt m l::Hs) w):
  Gets Tryz.prog 225 #[.pointer (some ⟨m,0,none⟩)] w fun v w'=>∃ b,v=.pointer (some ⟨b,0,none⟩)∧Sat R (mAt b (msq l)::Hs) w':=by
 have hml:(msq l).length=32:=by simp [msq,hl]
 apply call225
 refine new_rule hw fun b w hw=>?_
 have hw:=zeros_at (n:=32) (T:=260) rfl hw
 refine ⟨fun t w=>∃ k:Nat,t=k∧k≤32∧∃ c,Fill (msq l) c k∧Sat R (mAt b c::mAt m l::Hs) w,fun t _=>32 - t.toNat,⟨0,rfl,by omega,_,⟨by simp [hml],fun i hi=>absurd hi (by omega)⟩,hw⟩,?_⟩
 rintro _ _ w ⟨k,rfl,hk,c,hf,hw⟩
 refine Br.d (fun h=>?_) (fun h=>?_)
 ·have hkl:k<l.length:=by omega
  refine drw_rule hw fun w hw=>NilP.mk rfl (Rng.mk (by omega) (by omega) ⟨(l[k]:Nat),?_,?_⟩)
  ·have:=At.intsK (b:=m) (T:=260) (fr:=(0,0)) (kd:=.u32) (xs:=mi l) (S:=Sat R (mAt m l::mAt b c::Hs)) selfS (i:=k) (by simp;omega)
   rw [Int.toNat_natCast]
   have h2:At (Sat R (mAt m l::mAt b c::Hs)) (Addr.add ⟨m,0,none⟩ k) [.int .u32 (l[k]:Nat)]:=by simpa using this
   exact fun w hw=>h2 w hw.swap
  ·refine (times_spec hl hb (hb l[k] (List.getElem_mem _)) hw.swap).use ?_
   rintro _ w ⟨rfl,hw⟩
   refine ⟨_,rfl,Rng.mk (by omega) (by omega) ?_⟩
   rw [Int.toNat_natCast]
   refine storeI_rule (l:=mi c) (by kernel_rfl) hw (by simp [hf.1,hml];omega) fun w hw=>?_
   rw [mi_set] at hw
   rw [wrap64 (by omega) (by omega)]
   exact ⟨⟨k + 1,by omega,by omega,_,hf.set (by omega) (by simp [msq]),hw⟩,by dsimp only;omega⟩
 ·have:=hf.done (by omega)
  subst this
  exact ⟨b,rfl,hw.swap.drop⟩
theorem mstep_len:mstep.length=32:=by decide
theorem mstep_bd:∀ x∈mstep,x<4294967296:=by decide +kernel
theorem mstep_get {k:Nat} (hk:k<31):mstep[k + 1]'(by rw [mstep_len];omega)=2 ^ k:=by simp [mstep]
theorem stepped_spec (hw:Sat R Hs w):Gets Tryz.prog 224 #[] w fun v w'=>∃ b,v=.pointer (some ⟨b,0,none⟩)∧Sat R (mAt b mstep::Hs) w':=by
 apply call224
 refine new_rule hw fun b w hw=>?_
 have hw:Sat R (mAt b (2197175160::List.replicate 31 0)::Hs) w:=hw
 refine ⟨fun t w=>∃ k:Nat,t=k∧k≤31∧∃ c,Fill mstep c (k + 1)∧Sat R (mAt b c::Hs) w,fun t _=>31 - t.toNat,⟨0,rfl,by omega,_,⟨by simp [mstep],fun i hi=>by (have:i=0:=by omega);subst this;rfl⟩,hw⟩,?_⟩
 rintro _ _ w ⟨k,rfl,hk,c,hf,hw⟩
 refine Br.d (fun h=>?_) (fun h=>?_)
 ·refine drw_rule hw fun w hw=>Ge0.mk (by omega) ?_
  rw [wrap64 (by omega) (by omega)]
  refine Rng.mk (by omega) (by omega) ?_
  have e:((k:Int) + 1).toNat=k + 1:=by omega
  have e2:shlI .u32 1 (k:Int)=((2 ^ k:Nat):Int):=by
   unfold shlI
   have e3:min ((k:Int).toNat) IntKind.u32.bits=k:=by rw [Int.toNat_natCast];exact Nat.min_eq_left (by show k≤32;omega)
   rw [e3,Int.one_mul,show ((2:Int) ^ k)=((2 ^ k:Nat):Int) from (Int.natCast_pow 2 k).symm]
   have:2 ^ k<4294967296:=Nat.pow_lt_pow_right (n:=32) (by omega) (by omega)
   generalize 2 ^ k=q at this ⊢
   exact wrapU32 (by omega) (by omega)
  rw [e,e2]
  refine storeI_rule (l:=mi c) (by kernel_rfl) hw (by simp [hf.1,mstep_len];omega) fun w hw=>?_
  rw [mi_set] at hw
  exact ⟨⟨k + 1,by omega,by omega,_,hf.set (by rw [mstep_len];omega) (mstep_get (by omega)).symm,hw⟩,by dsimp only;omega⟩
 ·have:=hf.done (by rw [mstep_len];omega)
  subst this
  exact ⟨b,rfl,hw⟩
def tabL:List Nat:=(List.range 256).map (cstepN 8)
theorem tabL_len:tabL.length=256:=by simp [tabL]
theorem tabL_get {k:Nat} (hk:k<256):tabL[k]'(by rw [tabL_len];exact hk)=cstepN 8 k:=by simp [tabL]
set_option maxRecDepth 20000 in
theorem table_spec (hw:Sat R Hs w):Gets Tryz.prog 196 #[] w fun v w'=>v=.agg (m32 tabL).toArray∧Sat R Hs w':=by
 apply call196
 refine new_rule hw fun b0 w hw=>?_
 have hw:=zeros_at (n:=256) (T:=211) (by kernel_rfl) hw
 refine (stepped_spec hw).use ?_
 rintro _ w ⟨m1,rfl,hw⟩
 refine ⟨_,rfl,(squared_spec mstep_len mstep_bd hw).use ?_⟩
 rintro _ w ⟨m2,rfl,hw⟩
 have l2:(msq mstep).length=32:=by simp [msq,mstep_len]
 refine ⟨_,rfl,(squared_spec l2 (msq_bd mstep_bd) hw).use ?_⟩
 rintro _ w ⟨m3,rfl,hw⟩
 have l3:(msq (msq mstep)).length=32:=by simp [msq,mstep_len]
 refine ⟨_,rfl,(squared_spec l3 (msq_bd (msq_bd mstep_bd)) hw).use ?_⟩
 rintro _ w ⟨m4,rfl,hw⟩
 have hmb:∀ x∈mbyte,x<4294967296:=msq_bd (msq_bd (msq_bd mstep_bd))
 have hw:Sat R (mAt m4 mbyte::pts b0 (.cells (m32 (List.replicate 256 0)).toArray 211 (0,0))::Hs) w:=hw
 refine ⟨_,rfl,?_⟩
 refine new_rule hw fun b2 w hw=>?_
 have hw:=zeros_at (n:=256) (T:=211) (by kernel_rfl) hw
 refine ⟨fun t w=>∃ k:Nat,t=k∧k≤256∧∃ c,Fill tabL c k∧Sat R (pts b2 (.cells (m32 c).toArray 211 (0,0))::mAt m4 mbyte::pts b0 (.cells (m32 (List.replicate 256 0)).toArray 211 (0,0))::Hs) w,fun t _=>256 - t.toNat,⟨0,rfl,by omega,_,⟨by simp [tabL_len],fun i hi=>absurd hi (by omega)⟩,hw⟩,?_⟩
 rintro _ _ w ⟨k,rfl,hk,c,hf,hw⟩
 have hcl:c.length=256:=by rw [hf.1,tabL_len]
 refine Br.d (fun h=>?_) (fun h=>?_)
 ·rw [wrapU32 (by omega) (by omega)]
  refine (times_spec mbyte_len hmb (r:=k) (by omega) hw.swap).use ?_
  rintro _ w ⟨rfl,hw⟩
  refine ⟨_,rfl,Rng.mk (by omega) (by omega) ?_⟩
  rw [Int.toNat_natCast]
  refine storeI_rule (l:=mi c) (by kernel_rfl) hw (by simp;omega) fun w hw=>?_
  rw [mi_set] at hw
  rw [wrap64 (by omega) (by omega)]
  exact ⟨⟨k + 1,by omega,by omega,_,hf.set (by rw [tabL_len];omega) (by rw [tabL_get (by omega)];exact mbyte_eq k (by omega)),hw⟩,by dsimp only;omega⟩
 ·have:=hf.done (by rw [tabL_len];omega)
  subst this
  have hlen:(m32 tabL).length=256:=by simp [tabL_len]
  have h1:oneAll (m32 tabL)=true:=by unfold oneAll;simp [Value.oneCell']
  refine ⟨m32 tabL,hlen,At.own (eqS hw) (by exact Pre.refl _),?_⟩
  have hw:Sat R (pts b0 (.cells (m32 (List.replicate 256 0)).toArray 211 (0,0))::Hs) w:=hw.drop.drop
  refine store_rule hw (v:=.agg (m32 tabL).toArray) (by show _=some ((m32 tabL).length);rw [hlen];kernel_rfl) h1 (by show 0 + (m32 tabL).length≤_;rw [hlen];simp) fun w hw=>?_
  have e:putL (m32 (List.replicate 256 0)) 0 (Value.agg (m32 tabL).toArray).cells.toList=m32 tabL:=by
   show putL _ 0 (m32 tabL)=_
   rw [putL_eq _ _ _ (by rw [hlen];simp),hlen]
   simp
  rw [e] at hw
  exact ⟨m32 tabL,hlen,At.own (eqS hw) (by exact Pre.refl _),rfl,hw.drop⟩
theorem cstep_byte {n c:Nat} (hc:c<256):(n / 256) ^^^ cstepN 8 ((n % 256) ^^^ c)=cstepN 8 (n ^^^ c):=by
 rw [cstep8_eq (n ^^^ c)]
 have h1:(n ^^^ c) / 256=n / 256:=by
  have:=Nat.xor_div_two_pow (a:=n) (b:=c) (n:=8)
  rw [show (2:Nat) ^ 8=256 from rfl] at this
  rw [this,Nat.div_eq_of_lt hc,Nat.xor_zero]
 have h2:(n ^^^ c) % 256=(n % 256) ^^^ c:=by
  have:=Nat.xor_mod_two_pow (a:=n) (b:=c) (n:=8)
  rw [show (2:Nat) ^ 8=256 from rfl] at this
  rw [this,Nat.mod_eq_of_lt hc]
 rw [h1,h2]
set_option maxRecDepth 20000 in
theorem add_spec {sum:Nat} {s:Sl} {xs:List Int} (hsum:sum<4294967296) (hxs:∀ x∈xs,0≤x∧x<256) (hs:Ro R s (b8 xs)) (hw:Sat R Hs w):
  Gets Tryz.prog 163 #[.int .u32 sum,.slice s.a s.len s.cap] w fun v w'=>v=.int .u32 (crcAdd sum xs:Nat)∧Sat R Hs w':=by
 have hlen:s.len=xs.length:=by have:=hs.len;simpa using this
 have hbd:xs.length≤9223372036854775807:=by have:=hs.bound;simpa using this
 apply call163
 refine (table_spec hw).use ?_
 rintro _ w ⟨rfl,hw⟩
 refine ⟨_,rfl,?_⟩
 refine new_rule hw fun b w hw=>?_
 have hw:=zeros_at (n:=256) (T:=211) (by kernel_rfl) hw
 have htl:(m32 tabL).length=256:=by simp [tabL_len]
 have h1:oneAll (m32 tabL)=true:=by unfold oneAll;simp [Value.oneCell']
 refine store_rule hw (v:=.agg (m32 tabL).toArray) (by show _=some ((m32 tabL).length);rw [htl];kernel_rfl) h1 (by show 0 + (m32 tabL).length≤_;rw [htl];simp) fun w hw=>?_
 have e:putL (m32 (List.replicate 256 0)) 0 (Value.agg (m32 tabL).toArray).cells.toList=m32 tabL:=by
  show putL _ 0 (m32 tabL)=_
  rw [putL_eq _ _ _ (by rw [htl];simp),htl]
  simp
 rw [e] at hw
 clear e
 have hst:sum ^^^ ones32<4294967296:=xor32 hsum (by unfold ones32;omega)
 rw [notU32 hsum]
 refine ⟨fun r t w=>∃ k n:Nat,t=k∧k≤xs.length∧r=n∧n<4294967296∧crcRun n (xs.drop k)=crcRun (sum ^^^ ones32) xs∧Sat R (pts b (.cells (m32 tabL).toArray 211 (0,0))::Hs) w,fun _ t _=>xs.length - t.toNat,⟨0,_,rfl,by omega,rfl,hst,rfl,hw⟩,?_⟩
 rintro _ _ _ w ⟨k,n,rfl,hk,rfl,hn,he,hw⟩
 refine Br.d (fun h=>?_) (fun h=>?_)
 ·have hkx:k<xs.length:=by omega
  have:=Ro.idxK (S:=fun w'=>w'=w) hs (eqS hw) (k:=k) hkx (F:=fun t=>t=xs[k]) rfl
  obtain ⟨h0,h1,this⟩:=this.out
  obtain ⟨a,ha,t,hat,rfl⟩:=this.out
  refine Rng.mk h0 h1 (NilP.mk ha ⟨_,hat,?_⟩)
  have hc:=hxs xs[k] (List.getElem_mem _)
  obtain ⟨c,hce⟩:=Int.eq_ofNat_of_zero_le hc.1
  have hc2:c<256:=by omega
  have e1:bitI .xor .u8 (IntKind.u8.wrap (n:Int)) xs[k]=(((n % 256) ^^^ c:Nat):Int):=by
   rw [wrapU8m,hce,show (n:Int) % 256=((n % 256:Nat):Int) from (Int.natCast_emod _ _).symm]
   exact xorU8 (by omega) hc2
  have hlt:(n % 256) ^^^ c<256:=Nat.xor_lt_two_pow (n:=8) (by omega) hc2
  rw [e1]
  refine Rng.mk (by omega) (by omega) ⟨(tabL[(n % 256) ^^^ c]'(by rw [tabL_len];exact hlt):Nat),?_,?_⟩
  ·have:=At.intsK (b:=b) (T:=211) (fr:=(0,0)) (kd:=.u32) (xs:=mi tabL) (S:=fun w'=>w'=w) (eqS hw) (i:=(n % 256) ^^^ c) (by simp [tabL_len];exact hlt)
   rw [Int.toNat_natCast]
   simpa using this
  ·have hct:cstepN 8 ((n % 256) ^^^ c)<4294967296:=cstepN_lt 8 (by omega)
   rw [tabL_get hlt,show shrI .u32 (n:Int) 8=((n / 256:Nat):Int) from shr_nat32 n 8 (by omega),xorU32 (by omega) hct,cstep_byte hc2,wrap64 (by omega) (by omega)]
   refine ⟨⟨k + 1,_,by omega,by omega,rfl,cstepN_lt 8 (xor32 hn (by omega)),?_,hw⟩,by dsimp only;omega⟩
   rw [←he,List.drop_eq_getElem_cons hkx]
   show _=crcRun (cstepN 8 (n ^^^ xs[k].toNat)) (xs.drop (k + 1))
   rw [hce];rfl
 ·have hk2:k=xs.length:=by omega
  subst hk2
  rw [notU32 hn]
  refine ⟨?_,hw.drop⟩
  have:n=crcRun (sum ^^^ ones32) xs:=by rw [←he,List.drop_length];rfl
  unfold crcAdd
  rw [this]
theorem sum_spec {s:Sl} {xs:List Int} (hxs:∀ x∈xs,0≤x∧x<256) (hs:Ro R s (b8 xs)) (hw:Sat R Hs w):
  Gets Tryz.prog 164 #[.slice s.a s.len s.cap] w fun v w'=>v=.int .u32 (crcAdd 0 xs:Nat)∧Sat R Hs w':=by
 apply call164
 refine (add_spec (sum:=0) (by omega) hxs hs hw).use ?_
 rintro _ w ⟨rfl,hw⟩
 exact ⟨_,rfl,rfl,hw⟩
end Go.Proofs.YtkfedbncmfnpnaaGreatDoor
/- Package record: words, Put. Condition: bounds on lengths. -/
namespace Go.Proofs.YtkfedbncmfnpnaaGreatDoor
set_option linter.unusedVariables false
set_option linter.unusedSimpArgs false
open Go Go.VC
variable {R:Cx} {Hs Rest:List HP} {w:World}
theorem word_spec {n:Nat} (hn:n<4294967296) (hw:Sat R Hs w):
  Gets Tryz.prog 161 #[.int .u32 n] w fun v w'=>∃ b,v=.slice (some ⟨b,0,none⟩) 4 4∧Sat R (pts b (.cells (b8 (word4 n)).toArray 5 (0,0))::Hs) w':=by
 apply call161
 have e:∀ k:Nat,k≤32→IntKind.u8.wrap (shrI .u32 (n:Int) (k:Int))=((n / 2 ^ k % 256:Nat):Int):=fun k hk=>by
  rw [shr_nat32 n k hk,wrapU8m];exact (Int.natCast_emod _ _).symm
 have e0:IntKind.u8.wrap (n:Int)=((n % 256:Nat):Int):=by rw [wrapU8m];exact (Int.natCast_emod _ _).symm
 have e1:=e 24 (by omega)
 have e2:=e 16 (by omega)
 have e3:=e 8 (by omega)
 rw [show ((24:Nat):Int)=24 from rfl] at e1
 rw [show ((16:Nat):Int)=16 from rfl] at e2
 rw [show ((8:Nat):Int)=8 from rfl] at e3
 unfold B161
 rw [e1,e2,e3,e0]
 refine new_rule hw fun b w hw=>⟨b,rfl,hw⟩
theorem ro_blk {b:Nat} {xs:List Int} {T:TypeId} (hl:xs.length≤9223372036854775807) (hc:R.m b=.none):Ro (R.add (Heap.one b (.cells (b8 xs).toArray T (0,0)))) ⟨some ⟨b,0,none⟩,xs.length,xs.length⟩ (b8 xs):=
 ⟨by simp,by simpa using hl,fun _=>⟨b,0,_,T,(0,0),rfl,Cx.lent hc,fun i v hv=>by rw [Nat.zero_add];simpa using hv⟩⟩
theorem shl8_or32 {n t:Int} (h0:0≤n) (h1:n<16777216) (t0:0≤t) (t1:t<256):bitI .or .u32 (shlI .u32 n 8) (IntKind.u32.wrap t)=n * 256 + t:=by
 have e:shlI .u32 n 8=n * 256:=by
  show IntKind.u32.wrap (n * 2 ^ 8)=_
  rw [wrapU32 (by omega) (by omega)];omega
 rw [e,wrapU32 t0 (by omega)]
 obtain ⟨a,rfl⟩:=Int.eq_ofNat_of_zero_le h0
 obtain ⟨b,rfl⟩:=Int.eq_ofNat_of_zero_le t0
 have:=orU32 (x:=a * 256) (y:=b) (by omega) (by omega)
 rw [or_byte a b (by omega)] at this
 rw [show ((a * 256:Nat):Int)=(a:Int) * 256 from Int.natCast_mul a 256] at this
 rw [this]
 exact (Int.natCast_add (a * 256) b).trans (by rw [Int.natCast_mul];rfl)
theorem number4_spec {s:Sl} {xs:List Int} (hl:xs.length≤4) (hxs:∀ x∈xs,0≤x∧x<256) (hs:Ro R s (b8 xs)) (hw:Sat R Hs w):
  Gets Tryz.prog 189 #[.slice s.a s.len s.cap] w fun v w'=>v=.int .u32 (valI 0 xs)∧Sat R Hs w':=by
 have hlen:s.len=xs.length:=by have:=hs.len;simpa using this
 apply call189
 refine ⟨fun n t w=>∃ k:Nat,t=k∧k≤xs.length∧n=valI 0 (xs.take k)∧Sat R Hs w,fun _ t _=>xs.length - t.toNat,⟨0,rfl,by omega,rfl,hw⟩,?_⟩
 rintro _ _ _ w ⟨k,rfl,hk,rfl,hw⟩
 refine Br.d (fun h=>?_) (fun h=>?_)
 ·have hkx:k<xs.length:=by omega
  have:=Ro.idxK (S:=fun w'=>w'=w) hs (eqS hw) (k:=k) hkx (F:=fun t=>t=xs[k]) rfl
  obtain ⟨h0,h1,this⟩:=this.out
  obtain ⟨a,ha,t,hat,rfl⟩:=this.out
  refine Rng.mk h0 h1 (NilP.mk ha ⟨_,hat,?_⟩)
  have hx:=hxs xs[k] (List.getElem_mem _)
  have hvb:∀ x∈xs.take k,0≤x∧x<256:=fun x hx=>hxs x (List.mem_of_mem_take hx)
  have hv0:=valI_nn (acc:=0) (Int.le_refl _) hvb
  have hv1:valI 0 (xs.take k)<16777216:=by
   refine Int.lt_of_lt_of_le (valI_lt (Int.le_refl _) hvb) ?_
   rw [List.length_take,Nat.min_eq_left (by omega),Int.zero_add,Int.one_mul]
   have h9:256 ^ k≤256 ^ 3:=Nat.pow_le_pow_right (by omega) (by omega)
   have:((256 ^ k:Nat):Int)≤((256 ^ 3:Nat):Int):=Int.ofNat_le.2 h9
   rw [Int.natCast_pow] at this
   exact Int.le_trans this (by decide)
  rw [shl8_or32 hv0 hv1 hx.1 hx.2,wrap64 (by omega) (by omega)]
  refine ⟨⟨k + 1,by omega,by omega,?_,hw⟩,by dsimp only;omega⟩
  rw [List.take_succ_eq_append_getElem hkx,valI_snoc]
 ·have hk2:k=xs.length:=by omega
  subst hk2
  exact ⟨by rw [List.take_length],hw⟩
theorem grow_spec {n:Nat} (hn:n≤1099511627776) (hw:Sat R Hs w):
  Gets Tryz.prog 195 #[.slice none 0 0,.int .i64 n] w fun v w'=>∃ t:Sl,v=.slice t.a t.len t.cap∧Sat R (Own t 5 []::Hs) w':=by
 refine GetsX.gets (call195 ⟨none,0,0⟩ n _ _ w ?_)
 refine ⟨fun w=>Sat R Hs w,?_,?_⟩
 ·exact Br.d (fun h=>absurd h (by omega)) (fun h=>hw)
 intro _ w hw
 have e:IntKind.i64.wrap ((n:Int) - IntKind.i64.wrap (((0:Nat):Int) - ((0:Nat):Int)))=n:=by
  rw [wrap64 (x:=((0:Nat):Int) - ((0:Nat):Int)) (by omega) (by omega),wrap64 (by omega) (by omega)];omega
 refine Br.mk (fun h=>?_) (fun h=>?_)
 ·have h:decide (IntKind.i64.wrap ((n:Int) - IntKind.i64.wrap (((0:Nat):Int) - ((0:Nat):Int)))>0)=true:=h
  rw [e] at h
  have h:=of_decide_eq_true h
  refine ⟨by simp,by simp,?_⟩
  show ∃ w',∃ t:Sl,(Builtin.append_ #[53,3 ] 53 #[.slice none 0 0,.int .i64 (IntKind.i64.wrap ((n:Int) - IntKind.i64.wrap (((0:Nat):Int) - ((0:Nat):Int))))]).run Tryz.prog w=_∧_
  rw [e]
  exact zeros_rule Tryz.underlying53 Tryz.underlying3 (by kernel_rfl) (n:=n) (bytes:=1) (by omega) (by omega) (by omega) hw fun t w hw=>⟨by simp,by simp,⟨t.a,0,t.cap⟩,rfl,hw⟩
 ·exact ⟨⟨none,0,0⟩,rfl,Own.nil hw⟩
abbrev joined (ps:List (Sl × List Int)):List Int:=(ps.map (·.2)).flatten
theorem joined_take {ps:List (Sl × List Int)} {k:Nat} (h:k<ps.length):joined (ps.take (k + 1))=joined (ps.take k)++ps[k].2:=by
 unfold joined
 rw [List.take_succ_eq_append_getElem h,List.map_append,List.flatten_append];congr 1;simp
theorem joined_le (ps:List (Sl × List Int)) (k:Nat):(joined (ps.take k)).length≤(joined ps).length:=by
 have:joined ps=joined (ps.take k)++joined (ps.drop k):=by
  unfold joined
  rw [←List.flatten_append,←List.map_append,List.take_append_drop]
 rw [this];simp
theorem concat_spec {m:Sl} {ps:List (Sl × List Int)} (hm:Ro R m ((ps.map (·.1)).map Sl.v)) (hps:∀ p∈ps,Ro R p.1 (b8 p.2)) (hl:(joined ps).length≤1099511627776) (hw:Sat R Hs w):
  Gets Tryz.prog 162 #[.slice m.a m.len m.cap] w fun v w'=>∃ t:Sl,v=.slice t.a t.len t.cap∧Sat R (Own t 5 (b8 (joined ps))::Hs) w':=by
 have hlen:m.len=ps.length:=by have:=hm.len;simpa using this
 have hbd:ps.length≤9223372036854775807:=by have:=hm.bound;simpa using this
 refine GetsX.gets (call162 m _ _ w ?_)
 refine ⟨fun n t w=>∃ k:Nat,t=k∧k≤ps.length∧n=((joined (ps.take k)).length:Nat)∧Sat R Hs w,fun _ t _=>ps.length - t.toNat,⟨0,rfl,by omega,rfl,hw⟩,?_⟩
 rintro _ _ _ w ⟨k,rfl,hk,rfl,hw⟩
 refine Br.d (fun h=>?_) (fun h=>?_)
 ·have hkx:k<ps.length:=by omega
  have:=Ro.idxS (S:=fun w'=>w'=w) hm (eqS hw) (k:=k) (by simpa using hkx) (F:=fun t=>t=ps[k].1) (by simp)
  obtain ⟨h0,h1,this⟩:=this.out
  obtain ⟨a,ha,t,hat,rfl⟩:=this.out
  refine Rng.mk h0 h1 (NilP.mk ha ⟨_,hat,?_⟩)
  have hp:=(hps ps[k] (List.getElem_mem _)).len
  rw [List.length_map] at hp
  have h1:=joined_le ps (k + 1)
  rw [joined_take hkx,List.length_append] at h1
  have e:IntKind.i64.wrap (((joined (ps.take k)).length:Int) + ((ps[k].1.len:Nat):Int))=((joined (ps.take (k + 1))).length:Nat):=by
   rw [joined_take hkx,List.length_append,hp,wrap64 (by omega) (by omega)];omega
  rw [e]
  refine Br.d (fun h=>absurd h (by omega)) (fun h=>?_)
  rw [wrap64 (by omega) (by omega)]
  exact ⟨⟨k + 1,by omega,by omega,rfl,hw⟩,by dsimp only;omega⟩
 ·have hk2:k=ps.length:=by omega
  subst hk2
  rw [List.take_length]
  refine (grow_spec hl hw).use ?_
  rintro _ w ⟨t,rfl,hw⟩
  refine .inl ⟨t,rfl,?_⟩
  refine ⟨fun ns t w=>∃ k:Nat,t=k∧k≤ps.length∧Sat R (Own ns 5 (b8 (joined (ps.take k)))::Hs) w,fun _ t _=>ps.length - t.toNat,⟨0,rfl,by omega,by simpa [joined] using hw⟩,?_⟩
  rintro _ ns _ w ⟨k,rfl,hk,hw⟩
  refine Br.d (fun h=>?_) (fun h=>?_)
  ·have hkx:k<ps.length:=by omega
   have:=Ro.idxS (S:=fun w'=>w'=w) hm (eqS hw) (k:=k) (by simpa using hkx) (F:=fun t=>t=ps[k].1) (by simp)
   obtain ⟨h0,h1,this⟩:=this.out
   obtain ⟨a,ha,t,hat,rfl⟩:=this.out
   refine Rng.mk h0 h1 (NilP.mk ha ⟨_,hat,?_⟩)
   have h1:=joined_le ps (k + 1)
   rw [joined_take hkx,List.length_append] at h1
   have hsrc:Src Tryz.prog 1 53 (.slice ps[k].1.a ps[k].1.len ps[k].1.cap) ps[k].2.length (b8 ps[k].2) w:=by
    have:=srcRo Tryz.underlying53 hw (hps ps[k] (List.getElem_mem _)) (one_b8 _)
    simpa using this
   refine append_rule elB8 (s:=ns) hw hsrc (one_b8 _) (by rw [List.length_map];omega) (by rw [List.length_map];omega) fun t w hw=>?_
   rw [wrap64 (by omega) (by omega)]
   refine ⟨⟨k + 1,by omega,by omega,?_⟩,by dsimp only;omega⟩
   rw [joined_take hkx]
   simpa [b8] using hw
  ·have hk2:k=ps.length:=by omega
   subst hk2
   rw [List.take_length] at hw
   exact ⟨ns,rfl,hw⟩
theorem rput_spec {s:Sl} {bs:List Int} (hbs:∀ x∈bs,0≤x∧x<256) (hs:Ro R s (b8 bs)) (hw:Sat R Hs w):
  Gets Tryz.prog 112 #[.slice s.a s.len s.cap] w fun v w'=>
   (bs.length>65536∧v=.tuple #[.slice none 0 0,.int .i64 3]∧Sat R Hs w')∨
   (bs.length≤65536∧∃ t:Sl,v=.tuple #[.slice t.a t.len t.cap,.int .i64 0]∧Sat R (Own t 5 (b8 (recB bs))::Hs) w'):=by
 have hlen:s.len=bs.length:=by have:=hs.len;simpa using this
 apply call112
 refine Br.d (fun h=>?_) (fun h=>?_)
 ·exact .inl ⟨by omega,rfl,hw⟩
 ·have hb:bs.length≤65536:=by omega
  have hb':s.len≤65536:=by omega
  rw [wrapU32 (by omega) (by omega)]
  refine (word_spec (n:=s.len) (by omega) hw).use ?_
  rintro _ w ⟨b1,rfl,hw⟩
  refine ⟨⟨some ⟨b1,0,none⟩,4,4⟩,rfl,?_⟩
  obtain ⟨hn1,hw⟩:=Sat.lend.1 hw
  have r1:=ro_blk (R:=R) (b:=b1) (xs:=word4 s.len) (T:=5) (by rw [word4_len];omega) hn1
  refine (sum_spec (word4_bd _) r1 hw).use ?_
  rintro _ w ⟨rfl,hw⟩
  refine ⟨_,rfl,?_⟩
  have hc1:crcAdd 0 (word4 s.len)<4294967296:=crcAdd_lt (by omega) (word4_bd _)
  have hq2:=crcAdd_app 0 (word4 s.len) bs
  generalize crcAdd 0 (word4 s.len)=q at hc1 hq2 ⊢
  refine (add_spec (sum:=q) hc1 hbs hs.add hw).use ?_
  rintro _ w ⟨rfl,hw⟩
  refine ⟨_,rfl,?_⟩
  rw [hq2]
  have hc2:crcAdd 0 (word4 s.len++bs)<4294967296:=crcAdd_lt (by omega) fun x hx=>(List.mem_append.1 hx).elim (word4_bd _ x) (hbs x)
  clear hq2 hc1
  refine (word_spec hc2 hw).use ?_
  rintro _ w ⟨b2,rfl,hw⟩
  refine ⟨⟨some ⟨b2,0,none⟩,4,4⟩,rfl,?_⟩
  obtain ⟨hn2,hw⟩:=Sat.lend.1 hw
  have r2:=ro_blk (b:=b2) (xs:=word4 (crcAdd 0 (word4 s.len++bs))) (T:=5) (by rw [word4_len];omega) hn2
  refine new_rule hw fun b3 w hw=>?_
  have hw:Sat _ (pts b3 (.cells ([(⟨some ⟨b1,0,none⟩,4,4⟩:Sl),⟨some ⟨b2,0,none⟩,4,4⟩,s].map Sl.v).toArray 53 (0,0))::Hs) w:=hw
  obtain ⟨hn3,hw⟩:=Sat.lend.1 hw
  refine (concat_spec (m:=⟨some ⟨b3,0,none⟩,3,3⟩) (ps:=[(⟨some ⟨b1,0,none⟩,4,4⟩,word4 s.len),(⟨some ⟨b2,0,none⟩,4,4⟩,word4 (crcAdd 0 (word4 s.len++bs))),(s,bs)]) ?_ ?_ ?_ hw).use ?_
  ·exact ⟨rfl,by simp,fun _=>⟨b3,0,_,53,(0,0),rfl,Cx.lent hn3,fun i v hv=>by rw [Nat.zero_add,List.getElem?_toArray];exact hv⟩⟩
  ·intro p hp
   simp only [List.mem_cons,List.not_mem_nil,or_false] at hp
   rcases hp with rfl|rfl|rfl
   ·exact r1.add.add
   ·exact r2.add
   ·exact hs.add.add.add
  ·simp [joined,word4_len];omega
  ·rintro _ w ⟨t,rfl,hw⟩
   refine ⟨t,rfl,.inr ⟨hb,t,rfl,?_⟩⟩
   have e:joined [((⟨some ⟨b1,0,none⟩,4,4⟩:Sl),word4 s.len),(⟨some ⟨b2,0,none⟩,4,4⟩,word4 (crcAdd 0 (word4 s.len++bs))),(s,bs)]=recB bs:=by simp [joined,recB,hlen]
   rw [e] at hw
   have hw:=(Sat.lend.2 ⟨hn3,hw⟩).drop
   have hw:=(Sat.lend.2 ⟨hn2,hw⟩).drop
   exact (Sat.lend.2 ⟨hn1,hw⟩).drop
end Go.Proofs.YtkfedbncmfnpnaaGreatDoor
