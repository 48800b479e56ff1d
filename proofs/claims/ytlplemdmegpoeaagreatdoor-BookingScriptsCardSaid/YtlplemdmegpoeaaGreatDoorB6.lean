/- Package slices: Insert of one who waits; Delete. Condition: a bound on the length. -/
import Derived.Test.YtlplemdmegpoeaaGreatDoorB5
import Derived.Lib.Overlaps
import Derived.Lib.Bytealg
import Derived.Test.YtlplemdmegpoeaaGreatDoorB3
import Derived.SizedLaws
set_option linter.unusedVariables false
set_option linter.unusedSimpArgs false
set_option maxHeartbeats 8000000
namespace Go.Proofs.YtlplemdmegpoeaaGreatDoor
section
open Go Go.VC Tryz
open Classical
variable {R:Cx} {Hs Rest:List HP} {w:World}
theorem ZsL : (f245.name == "runtime.NumGoroutine") = false := by kernel_rfl
theorem ZsN:f245.body.isNone=true:=by kernel_rfl
theorem ZsK:Extern.findNext f245=none:=by kernel_rfl
theorem ZsM:∃ tR,Extern.find f245=some (Extern.SlicesOverlaps.overlaps #[ 188,188 ] #[tR]):=⟨4,by kernel_rfl⟩
theorem elW:ElN prog 188 188 wtT 5 40:=⟨underlying188,⟨_,underlying188⟩,by kernel_rfl⟩
theorem szW1:ZgK prog wtT=5:=by kernel_rfl
theorem szW (w : nW):(sizeOf wtT).run prog w=.ok 5 w:=by
 obtain ⟨i,hi⟩:=ZmP (P:=prog) (t:=wtT) (by rw [szW1];decide);have:=Za9 hi w;rw [szW1] at this;exact this
theorem ZgD (x:Wt):(wtV x).length=5:=rfl
theorem Zdc (l:List Wt):Wid 5 (l.map wtV):=λ y hy=>by
 obtain ⟨x,_,rfl⟩:=List.mem_map.1 hy;rfl
theorem ZtY (x:Wt):ZR (wtV x)=true:=rfl
theorem ZiN (l:List Wt):ZR (l.map wtV).flatten=true:=by
 unfold ZR;rw [List.all_eq_true];intro v hv;obtain ⟨r,h1,h2⟩:=List.mem_flatten.1 hv;obtain ⟨x,_,rfl⟩:=List.mem_map.1 h1;exact List.all_eq_true.1 (ZtY x) v h2
theorem Zrw {b k m:Nat} (h:m≠k):ZbI (some ⟨b,0,none⟩) k m 5=some ⟨b,k * 5,none⟩:=by
 simp only [ZbI,if_neg h,Option.map_some,Zs];simp
theorem ZhO {b1 b2 o:Nat} {x:Wt} {T2:TypeId} {l:List Value} {fr:Nat × Nat} {la lc:Nat} {Q:Ending->World->Prop} (hl:l≠[])
  (hw:Sat R (pts b2 (.cells l.toArray T2 fr)::wtC b1 x::Hs) w) (k:Q (.returned (.bool false)) w):
  Ext prog 245 #[.slice (some ⟨b1,0,none⟩) 1 1,.slice (some ⟨b2,o,none⟩) la lc] w Q:=by
 have h2:=hw.at;have h1:=hw.swap.at;have hne:b1≠b2:=by
  rintro rfl;obtain ⟨h,hA,hd,h',hB,hd',_⟩:=hw;rw [show h=_ from hA] at hd hd'
  rw [show h'=_ from hB] at hd'
  have:=hd' b1 (by simp [ZX.one]);simp only [Cx.add,ZX.add,ZX.one] at this;split at this<;>simp_all
 obtain ⟨tR,hf⟩:=ZsM;refine ⟨.bool false,w,?_,k⟩;rw [run_callFunc_extern func245 ZsL ZsN ZsK hf];rw [Lib.run_overlaps_apart (P:=prog) w 188 tR wtT underlying188 5 (λ w=>szW w) ⟨b1,0,none⟩ ⟨b2,o,none⟩ 1 1 la lc hne wtT T2 5 l.length ?_ ?_ ?_ ?_ ?_]
 ·rfl
 ·simp only [World.shape?,h1];rfl
 ·simp only [World.shape?,h2];simp
 ·cases l with
  |nil=>exact absurd rfl hl
  |cons a l=>simp
 ·simp [World.frozen?,h1]
 ·simp [World.frozen?,h1]
theorem Ztt {b:Nat} {x:Wt} (h:w.heap[b]? =some (.cells (wtV x).toArray wtT (0,0))):∀ j v,(wtV x)[j]? =some v->w.cell? ((⟨b,0,none⟩:Addr).add j)=some v:=by
 intro j v hj;rw [Zs,Zas h,Nat.zero_add];exact hj
theorem Zke {b o:Nat} {xs rest:List Value} {T:TypeId} {fr:Nat × Nat} (h:w.heap[b]? =some (.cells (xs++rest).toArray T fr)):∀ j v,(xs.drop o)[j]? =some v->w.cell? ((⟨b,o,none⟩:Addr).add j)=some v:=by
 intro j v hj;rw [Zs,Zas h];rw [List.getElem?_drop] at hj;have hlt:=(List.getElem?_eq_some_iff.1 hj).1;rw [List.getElem?_append_left (by omega)];exact hj
theorem ZkL {s:Sl} {l:List Wt} {x:Wt} {p b:Nat} (hl:l.length<=1000000000) (hp:p<=l.length) (hw:Sat R (Zl 5 s wtT (l.map wtV)::wtC b x::Hs) w):
  Zk prog 173 #[.slice s.a s.len s.cap,nI p,.slice (some ⟨b,0,none⟩) 1 1] w λ v w'=>∃ t:Sl,v=.slice t.a t.len t.cap/\Sat R (Zl 5 t wtT ((l.take p++x::l.drop p).map wtV)::wtC b x::Hs) w':=by
 have hlen:=Zl.len hw;have hcap:=Zl.cap (by omega) hw;rw [List.length_map] at hlen;have hrl:(l.map wtV).length=l.length:=List.length_map _;refine Zwb s p ⟨some ⟨b,0,none⟩,1,1⟩ _ _ ?_;unfold B173;dsimp only;have w1:wI ((s.len:Int) + ((1:Nat):Int))=((l.length + 1:Nat):Int):=by rw [Zd];omega
 have w2:wI (((l.length + 1:Nat):Int) - p)=((l.length + 1 - p:Nat):Int):=by rw [Zd];omega
 have w3:wI ((p:Int) + ((1:Nat):Int))=((p + 1:Nat):Int):=by rw [Zd];omega
 rw [w1,w2,w3];simp only [Int.toNat_natCast];have hA:((l.map wtV).take p).flatten.length=p * 5:=by rw [(Zdc l).take.len,List.length_take,hrl,Nat.min_eq_left hp]
 have hD:((l.map wtV).drop p).flatten.length=(l.length - p) * 5:=by rw [(Zdc l).drop.len,List.length_drop,hrl]
 have hDo:ZR ((l.map wtV).drop p).flatten=true:=by rw [<-List.map_drop];exact ZiN _
 have hrows:(l.map wtV).flatten=((l.map wtV).take p).flatten++((l.map wtV).drop p).flatten:=by rw [<-List.flatten_append,List.take_append_drop]
 have hin:((l.map wtV).take p).flatten++wtV x++((l.map wtV).drop p).flatten=((l.take p++x::l.drop p).map wtV).flatten:=by simp [List.map_take,List.map_drop]
 have hinl:(l.take p++x::l.drop p).length=l.length + 1:=by simp;omega
 refine ⟨by omega,by omega,Br.f rfl (Br.e (λ h=>?_) (λ h=>Br.d (λ h2=>?_) (λ h2=>?_)))⟩
 ·-- behind all
  refine Z4 elW hw (Zfx elW.hk 1 hw rfl rfl) (Wid.one rfl) (by simp;omega) (by simp;omega) λ t w hw=>⟨t,rfl,?_⟩;have e:l.map wtV++[wtV x]=(l.take p++x::l.drop p).map wtV:=by
   rw [List.take_of_length_le (by omega),List.drop_eq_nil_of_le (by omega)];simp
  rw [e] at hw;exact hw
 ·-- no room
  refine ⟨by omega,by omega,?_⟩;refine ZgC underlying188 underlying3 elW.hi (by omega) (by omega) (by rw [hrl];omega) (by omega) (by omega) (by omega) hw λ t w ys hys hw=>?_;have hyw:Wid 5 ys:=λ y hy=>Zl.wid hw y (List.mem_append_right _ hy);have htl:=Zl.len hw;have hxs:((l.map wtV).take p++ys).length=l.length + 1:=by rw [List.length_append,List.length_take,hrl,hys,Nat.min_eq_left hp];omega
  rw [hxs] at htl;refine ⟨by omega,by omega,?_⟩;obtain ⟨hwid,⟨_,h0,_⟩|⟨b',rest,fr,cap,rfl,hcl,hfr,hw⟩⟩:=Zl.cases hw
  ·have:=congrArg List.length h0
   rw [hxs] at this;cases this
  dsimp only at htl ⊢;rw [List.flatten_append] at hw hcl;have hY:ys.flatten.length=(l.length + 1 - p) * 5:=by rw [hyw.len,hys]
  have hcl2:=hcl;rw [List.length_append,List.length_append,hA,hY] at hcl2;have hb1:=(hw.takeP (b:=b) inferInstance).at;rw [hxs,Zrw (by omega)];refine Zei underlying188 (by kernel_rfl) hw (by rw [hcl];exact hfr) (cs:=wtV x) (by show 5=Nat.min 1 _ * 5;rw [show Nat.min 1 (l.length + 1 - p)=1 from Nat.min_eq_left (by omega)]) (by rw [hcl];show p * 5 + 5<=_;omega) (Ztt hb1) rfl λ _ w hw=>?_
  refine Zq hw λ w hw=>⟨by omega,by omega,by omega,by omega,?_⟩;obtain ⟨_,⟨_,h0,_⟩|⟨bs,rest2,fr2,cap2,rfl,hcl3,hfr2,hws⟩⟩:=Zl.cases hw.swap
  ·have h3:l.length=0:=by
    have:=congrArg List.length h0;rw [hrl] at this;exact this
   omega
  clear w1 w2 w3;dsimp only at hlen hcap h h2 ⊢;rw [hrl] at h hcap;have hsat:=hws.at;rw [Zrw (by omega),Zrw (by omega)];have hdrop:(l.map wtV).flatten.drop (p * 5)=((l.map wtV).drop p).flatten:=(Zdc l).drop_flat p;refine Zei underlying188 (by kernel_rfl) hws.swap (by rw [Zbl,hcl];exact hfr) (cs:=((l.map wtV).drop p).flatten) (by rw [hD,hrl,show Nat.min (l.length - p) (l.length + 1 - (p + 1))=l.length - p from Nat.min_eq_left (by omega)])
   (by rw [Zbl,hcl,hD];omega) (by rw [<-hdrop];exact Zke hsat) hDo λ _ w hw=>?_
  rw [show (p + 1) * 5=p * 5 + (wtV x).length by rw [ZgD];omega,putN hA (by rw [hY,hD,ZgD];omega),hin] at hw;have hfin:=Zl.of_pts (cap:=cap) (Zdc _) (by rw [List.length_append,(Zdc _).len,List.length_map,hinl];omega) hw hfr;rw [List.length_map,hinl] at hfin;refine ⟨⟨some ⟨b',0,none⟩,l.length + 1,cap⟩,rfl,?_⟩;exact Sat.cons (λ R' h=>h.drop) hfin
 ·-- room
  obtain ⟨_,⟨_,h0,_⟩|⟨bs,rest,fr,cap,rfl,hcl,hfr,hws⟩⟩:=Zl.cases hw
  ·have h3:l.length=0:=by
    have:=congrArg List.length h0;rw [hrl] at this;exact this
   omega
  clear w1 w2 w3;dsimp only at hlen hcap h h2 ⊢;rw [hrl] at h hcap;have hcl2:=hcl;rw [List.length_append,(Zdc l).len,hrl] at hcl2;have hroom:5<=rest.length:=by omega
  refine ⟨by omega,by omega,by omega,by omega,?_⟩;rw [Zrw (by omega)];refine ZhO (by intro h0;have h5:=congrArg List.length h0;rw [hcl,List.length_nil] at h5;omega) hws ?_;refine ⟨_,rfl,Br.t rfl ?_⟩;refine Zq hws λ w hws=>⟨by omega,by omega,by omega,by omega,?_⟩;rw [Zrw (by omega)];have hsat:=hws.at;have hdrop:(l.map wtV).flatten.drop (p * 5)=((l.map wtV).drop p).flatten:=(Zdc l).drop_flat p;refine Zei underlying188 (by kernel_rfl) hws (by rw [hcl];exact hfr) (cs:=((l.map wtV).drop p).flatten) (by rw [hD,show Nat.min (l.length + 1 - p) (l.length + 1 - (p + 1))=l.length - p from (Nat.min_eq_right (by omega)).trans (by omega)])
   (by rw [hcl,hD];omega) (by rw [<-hdrop];exact Zke hsat) hDo λ _ w hw=>?_
  refine ⟨by omega,by omega,?_⟩;have hb1:=hw.swap.at;refine Zei underlying188 (by kernel_rfl) hw (by rw [Zbl,hcl];exact hfr) (cs:=wtV x) (by show 5=Nat.min 1 _ * 5;rw [show Nat.min 1 (l.length + 1 - p)=1 from Nat.min_eq_left (by omega)]) (by rw [Zbl,hcl];show p * 5 + 5<=_;omega) (Ztt hb1) rfl λ _ w hw=>?_
  rw [hrows,show (p + 1) * 5=p * 5 + (wtV x).length by rw [ZgD];omega,ZzN hA (by rw [ZgD];exact hroom),hin] at hw;have hfin:=Zl.of_pts (cap:=cap) (Zdc _) (by rw [List.length_append,(Zdc _).len,List.length_map,hinl,List.length_drop,ZgD];omega) hw hfr;rw [List.length_map,hinl] at hfin;exact ⟨_,rfl,hfin⟩
theorem zvW (w : nW):(zeroValue wtT).run prog w=.ok (.agg #[nI 0,nI 0,nI 0,nI 0,.float .f64 0]) w:=by
 rw [zeroValue192 ]
theorem ZkM {s:Sl} {l:List Wt} {k:Nat} (hl:l.length<=1000000000) (hk:k<l.length) (hw:Sat R (Zl 5 s wtT (l.map wtV)::Hs) w):
  Zk prog 176 #[.slice s.a s.len s.cap,nI k,nI ((k + 1:Nat):Int)] w λ v w'=>∃ t:Sl,v=.slice t.a t.len t.cap/\Sat R (Zl 5 t wtT ((l.take k++l.drop (k + 1)).map wtV)::Hs) w':=by
 have hlen:=Zl.len hw;have hcap:=Zl.cap (by omega) hw;rw [List.length_map] at hlen;apply Zv8;unfold B176;simp only [Int.toNat_natCast];refine ⟨by omega,by omega,by omega,by omega,by omega,by omega,Br.e (λ h=>by omega) (λ _=>?_)⟩;refine Zq hw λ w hw=>⟨by omega,by omega,by omega,by omega,?_⟩;refine Zrt (z:=.agg #[nI 0,nI 0,nI 0,nI 0,.float .f64 0]) (i:=k) (j:=k + 1) (rows:=l.map wtV) elW.ht elW.hi zvW rfl (λ m v hv=>?_) (ZiN l) (by omega) (by omega) (by rw [List.length_map];omega) hw λ t w hw=>⟨t,rfl,?_⟩
 ·unfold Builtin.zeroCells at hv
  rw [Array.mem_toList_iff,Array.mem_map] at hv;obtain ⟨i,_,rfl⟩:=hv;have h5:i % 5<5:=Nat.mod_lt _ (by omega);show ((#[nI 0,nI 0,nI 0,nI 0,.float .f64 0]:Array Value)[i % 5]!).oneCell'=true;generalize i % 5=j at h5
  match j,h5 with
  |0,_=>rfl
  |1,_=>rfl
  |2,_=>rfl
  |3,_=>rfl
  |4,_=>rfl
 ·rw [List.map_append,List.map_take,List.map_drop]
  exact hw
theorem Ztx {q:List Wt} (h:QSt q) {i j:Nat} (hij:i<j) (hj:j<q.length):q[i].ahead q[j]=true:=List.pairwise_iff_getElem.1 h i j (by omega) hj hij
theorem ZkK {s:Sl} {l:List Wt} {x:Wt} (hl:l.length<=1000000000) (hst:QSt l) (hw:Sat R (Zl 5 s wtT (l.map wtV)::Hs) w):
  Zk prog 171 #[.slice s.a s.len s.cap,wtA x,.func (.func 172) #[] #[]] w λ v w'=>(∃ (p:Nat) (b:Bool),v=.tuple #[nI p,.bool b]/\p<=l.length/\(∀ k (h:k<l.length),k<p->l[k].ahead x=true)/\(∀ k (h:k<l.length),p<=k->l[k].ahead x=false))/\Sat R (Zl 5 s wtT (l.map wtV)::Hs) w':=by
 have hlen:=Zl.len hw;rw [List.length_map] at hlen;apply Zwd;refine Za hw λ b w hw=>?_;have ordC:∀ (y:Wt) w,Sat R (Zl 5 s wtT (l.map wtV)::wtC b x::Hs) w->Zda prog cl (.func (.func 172) #[] #[]) [wtA y,wtA x] w (λ e w'=>e=.returned (nI (y.ord x))/\Sat R (Zl 5 s wtT (l.map wtV)::wtC b x::Hs) w'):=λ y w hw=>Zda.mk (by kernel_rfl) ((Zot hw).use λ v w' h=>⟨by rw [h.1],h.2⟩);have hw:Sat R (Zl 5 s wtT (l.map wtV)::wtC b x::Hs) w:=Sat.swap hw;refine ⟨λ i j w=>∃ a b':Nat,i=a/\j=b'/\a<=b'/\b'<=l.length/\(∀ k (h:k<l.length),k<a->l[k].ahead x=true)/\(∀ k (h:k<l.length),b'<=k->l[k].ahead x=false)/\Sat R (Zl 5 s wtT (l.map wtV)::wtC b x::Hs) w,λ i j _=>(j - i).toNat,⟨0,l.length,rfl,by omega,by omega,by omega,λ k _ hk=>by omega,λ k h hk=>by omega,hw⟩,?_⟩;clear hw;rintro _ _ _ w ⟨a,c,rfl,rfl,hac,hc,h1,h2,hw⟩;refine Br.d (λ h=>?_) (λ h=>?_)
 ·refine Zq hw λ w hw=>?_
  rw [Zrb (by omega)];have hm:(a + c) / 2<l.length:=by omega
  refine (Zl.reads (S:=Sat R (Zl 5 s wtT (l.map wtV)::wtC b x::Hs)) hw (λ _ h=>h)).rngM (E:=l) (g:=wtV) hm λ ad _ he=>?_;refine ⟨_,_,_,_,_,he.z (by exact ⟨rfl,rfl,rfl,rfl,rfl,trivial⟩),x.id,x.cls,x.many,x.time,x.sc,oS,?_⟩;refine (ordC l[(a + c) / 2] _ hw).mono ?_;clear hw;rintro _ w ⟨rfl,hw⟩;refine ⟨_,rfl,Br.d (λ h3=>?_) (λ h3=>?_)⟩
  ·have ha:=Zqt.1 h3
   rw [show wI ((((a + c) / 2:Nat):Int) + 1)=(((a + c) / 2 + 1:Nat):Int) from Zd]
   refine ⟨⟨(a + c) / 2 + 1,c,rfl,rfl,by omega,hc,λ k hk hk2=>?_,h2,hw⟩,by dsimp only;omega⟩;by_cases hkm:k=(a + c) / 2
   ·subst hkm;exact ha
   ·exact Zdp (Ztx hst (show k<(a + c) / 2 by omega) hm) ha
  ·have ha:l[(a + c) / 2].ahead x=false:=by
    rw [<-Bool.not_eq_true];exact λ h=>h3 (Zqt.2 h)
   refine ⟨⟨a,(a + c) / 2,rfl,rfl,by omega,by omega,h1,λ k hk hk2=>?_,hw⟩,by dsimp only;omega⟩;by_cases hkm:k=(a + c) / 2
   ·subst hkm;exact ha
   ·rw [<-Bool.not_eq_true] at ha ⊢
    exact λ h=>ha (Zdp (Ztx hst (show (a + c) / 2<k by omega) hk) h)
 ·obtain rfl:a=c:=by omega
  have fin:∀ (t:Bool) w,Sat R (Zl 5 s wtT (l.map wtV)::wtC b x::Hs) w->(∃ (p:Nat) (b:Bool),Value.tuple #[nI a,.bool t]=.tuple #[nI p,.bool b]/\p<=l.length/\(∀ k (h:k<l.length),k<p->l[k].ahead x=true)/\(∀ k (h:k<l.length),p<=k->l[k].ahead x=false))/\Sat R (Zl 5 s wtT (l.map wtV)::Hs) w:=λ t w hw=>⟨⟨a,t,rfl,hc,h1,h2⟩,hw.cons λ _ h=>h.drop⟩;refine Zq hw λ w hw=>?_;refine Br.d (λ h3=>?_) (λ h3=>fin _ _ hw);have ha:a<l.length:=by omega
  refine (Zl.reads (S:=Sat R (Zl 5 s wtT (l.map wtV)::wtC b x::Hs)) hw (λ _ h=>h)).rngM (E:=l) (g:=wtV) ha λ ad _ he=>?_;refine ⟨_,_,_,_,_,he.z (by exact ⟨rfl,rfl,rfl,rfl,rfl,trivial⟩),x.id,x.cls,x.many,x.time,x.sc,oS,?_⟩;refine (ordC l[a] _ hw).mono ?_;clear hw;rintro _ w ⟨rfl,hw⟩;exact ⟨_,rfl,fin _ _ hw⟩
theorem Zmj {l:List Wt} {id:Int} {k:Nat} (hk:k<l.length) (h1:l[k].id=id) (h2:ZdN id (l.take k)=false):ZdN id l=true/\Zfz id l=l.take k++l.drop (k + 1):=by
 induction l generalizing k with
 |nil=>simp at hk
 |cons w l ih=>
  cases k with
  |zero=>
   have h1:w.id=id:=h1;refine ⟨by simp [ZdN,h1],?_⟩;show (if w.id=id then l else _)=_
   rw [if_pos h1];simp
  |succ k=>
   rw [List.take_succ_cons] at h2;have h3:¬ w.id=id/\ZdN id (l.take k)=false:=by simpa [ZdN] using h2
   obtain ⟨a1,a2⟩:=ih (by simpa using hk) (by simpa using h1) h3.2;refine ⟨by simp only [ZdN,List.any_cons];rw [show l.any _=true from a1];simp,?_⟩
   show (if w.id=id then _ else w::Zfz id l)=_
   rw [if_neg h3.1,a2];simp
theorem Zf7 {q:Nat} {l:List Wt} {id:Int} (hl:l.length<=1000000000) (hw:Sat R (ZN q l::Hs) w):
  Zk prog 105 #[nP q,nI id] w λ v w'=>v=nI (Zj0 l id).2/\Sat R (ZN q (Zj0 l id).1::Hs) w':=by
 apply ZwQ;refine (ZgX hl hw).use ?_;clear hw;rintro _ w ⟨⟨i,rfl,hi⟩,hw⟩;refine ⟨i,rfl,Br.d (λ h=>?_) (λ h=>?_)⟩
 ·rcases hi with ⟨_,h1⟩|⟨k,rfl,_⟩
  ·unfold Zj0
   rw [h1];exact ⟨rfl,hw⟩
  ·omega
 rcases hi with ⟨h1,_⟩|⟨k,rfl,hk,h1,h2⟩
 ·omega
 obtain ⟨a1,a2⟩:=Zmj hk h1 h2;unfold Zj0;rw [a1,if_pos rfl,a2];obtain ⟨s,hw⟩:=Sat.qu.1 hw;refine Zb.mk rfl ⟨s,oA hw,?_⟩;rw [show wI ((k:Int) + 1)=((k + 1:Nat):Int) from Zd]
 refine (ZkM hl hk hw.swap).u1 λ t w hw=>?_;refine ⟨t,rfl,Zb.mk rfl ?_⟩;refine sRu hw.swap λ w hw=>?_;have hw:=hw.re (pts q (ZaC t));exact ⟨rfl,Sat.qu.2 ⟨t,hw⟩⟩
theorem Zqe {q:Nat} {l:List Wt} {x:Wt} (hq:QOk l) (hw:Sat R (ZN q l::Hs) w):
  Zk prog 102 #[nP q,wtA x] w λ v w'=>v=nI (Zcd l x).2/\Sat R (ZN q (Zcd l x).1::Hs) w':=by
 have hl:l.length<=1000000000:=by have:=hq.len;omega
 apply ZwT;refine Za hw λ b1 w hw=>?_;have hw:Sat R (wtD b1 x::ZN q l::Hs) w:=hw;refine ⟨x.id,x.cls,x.many,x.time,x.sc,oA hw,?_⟩;refine Za hw λ b2 w hw=>?_;refine sRu hw λ w hw=>?_;have hw:=hw.re (wtC b2 x);refine ⟨x.id,x.cls,x.many,x.time,x.sc,oA hw,?_⟩;refine (ZlW hw).u λ w hw=>?_;refine ⟨_,rfl,Br.nd (λ h=>?_) (λ hok=>?_)⟩
 ·unfold Zcd
  rw [if_pos h];exact ⟨rfl,hw.drop.drop⟩
 refine ⟨x.id,oA hw,?_⟩;have hw:Sat R (ZN q l::wtC b2 x::wtD b1 x::Hs) w:=hw.arr;refine (ZgX hl hw).use ?_;clear hw;rintro _ w ⟨⟨i,rfl,hi⟩,hw⟩;have close:∀ {w l},Sat R (ZN q l::wtC b2 x::wtD b1 x::Hs) w->Sat R (ZN q l::Hs) w:=λ h=>h.cons λ _ h=>h.drop.drop;refine ⟨i,rfl,Br.d (λ h=>?_) (λ h=>?_)⟩
 ·rcases hi with ⟨h1,_⟩|⟨k,rfl,hk,h1,h2⟩
  ·omega
  unfold Zcd;rw [if_neg (λ h=>h hok),if_pos (Zmj hk h1 h2).1];exact ⟨rfl,close hw⟩
 have hno:ZdN x.id l=false:=by
  rcases hi with ⟨_,h1⟩|⟨k,rfl,_⟩
  ·exact h1
  ·omega
 obtain ⟨s,hw⟩:=Sat.qu.1 hw;have hlen:=Zl.len hw.swap;rw [List.length_map] at hlen;refine Zb.mk rfl ⟨s,oA hw,Br.d (λ h3=>?_) (λ h3=>?_)⟩
 ·unfold Zcd
  rw [if_neg (λ h=>h hok),hno,if_neg (by simp),if_pos (by omega)];exact ⟨rfl,close (Sat.qu.2 ⟨s,hw⟩)⟩
 have hadd:Zcd l x=(Zis x l,0):=by
  unfold Zcd;rw [if_neg (λ h=>h hok),hno,if_neg (by simp),if_neg (by omega)]
 rw [hadd];refine Zq hw λ w hw=>Zb.mk rfl ?_;refine ⟨s,oS,x.id,x.cls,x.many,x.time,x.sc,oS,?_⟩;refine (ZkK hl hq.st hw.swap).use ?_;clear hw;rintro _ w ⟨⟨p,fb,rfl,hp,h1,h2⟩,hw⟩;refine ⟨_,_,rfl,?_⟩;refine Zr (Sat R [pts q (ZaC s),wtC b2 x,VC.tru]) hw (λ w hw=>?_) λ w hw=>?_
 ·exact (hw.arr (Hs':=pts q (ZaC s)::wtC b2 x::Zl 5 s wtT (l.map wtV)::wtD b1 x::Hs)).cons λ _ h=>h.restTru2
 refine Zb.mk rfl ⟨s,oS,x.id,x.cls,x.many,x.time,x.sc,oS,?_⟩;refine Za hw λ b3 w hw=>?_;have hw:Sat R (wtC b3 x::Zl 5 s wtT (l.map wtV)::pts q (ZaC s)::wtC b2 x::wtD b1 x::Hs) w:=hw;refine ⟨?_,?_⟩
 ·exact (hw.arr (Hs':=pts q (ZaC s)::wtC b2 x::Zl 5 s wtT (l.map wtV)::wtD b1 x::wtC b3 x::Hs)).cons λ _ h=>h.restTru2
 refine (ZkL hl hp hw.swap).u1 λ t w hw=>?_;refine ⟨t,rfl,?_,Zb.mk rfl ?_⟩
 ·exact (hw.arr (Hs':=pts q (ZaC s)::wtC b2 x::Zl 5 t wtT ((l.take p++x::l.drop p).map wtV)::wtD b1 x::wtC b3 x::Hs)).cons λ _ h=>h.restTru2
 have hw:Sat R (pts q (ZaC s)::Zl 5 t wtT ((l.take p++x::l.drop p).map wtV)::wtC b2 x::wtD b1 x::wtC b3 x::Hs) w:=hw.arr;refine sRu hw λ w hw=>?_;have hw:=hw.re (pts q (ZaC t));have e:Zis x l=l.take p++x::l.drop p:=by
  refine ZuF hq.st ?_ (λ h=>h2 p h (Nat.le_refl _)) hp;by_cases h0:p=0
  ·exact .inl h0
  ·exact .inr ⟨by omega,h1 (p - 1) (by omega) (by omega)⟩
 rw [e];exact ⟨rfl,Sat.qu.2 ⟨t,hw.cons λ _ h=>h.cons λ _ h=>h.drop.drop.drop⟩⟩
end
end Go.Proofs.YtlplemdmegpoeaaGreatDoor
namespace Go.VC
section
variable {R:Cx} {Hs:List HP} {w:World}
theorem ZxE {s:ByteArray} {i:Nat} (h:(s.get! i).toNat<128):Utf8.decode s i=((s.get! i).toNat,1):=by
 unfold Utf8.decode;simp only [Nat.add_zero];rw [if_pos h]
theorem ZxF {s:ByteArray} {i:Nat} (h:¬ (s.get! i).toNat<128):128<=(Utf8.decode s i).1:=by
 unfold Utf8.decode;simp only [Nat.add_zero];rw [if_neg h];have hr:128<=Utf8.runeError:=by decide
 repeat' split
 all_goals first|exact hr|(rename_i h1;simp only [Bool.and_eq_true,decide_eq_true_eq] at h1;dsimp only;omega)|(rename_i h1;dsimp only;omega)
theorem Zll {s:ByteArray} {i:Nat} (h:i<s.size):((s.get! i).toNat:Int)=(ZQ s)[i]'(by rw [Zc7];exact h):=by
 have h2:i<s.data.toList.length:=by simpa using h
 have e:s.get! i=s.data.toList[i]:=by
  show s.data[i]! =_;rw [getElem!_pos s.data i (by simpa using h2)];simp
 rw [e];simp [ZQ]
theorem Zox {b:Nat} {s:ByteArray} {pos:Nat} {A:Int->Int->World->Prop} {B:World->Prop} (hw:Sat R (pts b (.stringIter s pos)::Hs) w)
  (h1:pos<s.size->∀ w',Sat R (pts b (.stringIter s (pos + (Utf8.decode s pos).2))::Hs) w'->A (pos:Int) ((Utf8.decode s pos).1:Int) w') (h2:¬ pos<s.size->B w):Ztr (some ⟨b,0,none⟩) A B w:=
 ⟨b,s,pos,rfl,hw.at,λ h=>h1 h _ (hw.setPts (.stringIter s (pos + (Utf8.decode s pos).2))),h2⟩
def ZiU (b:Nat) (w:World):Nat:=match w.heap[b]? with
 |some (.stringIter s pos)=>s.size - pos
 |_=>0
theorem ZfC {b:Nat} {s:ByteArray} {pos:Nat} (hw:Sat R (pts b (.stringIter s pos)::Hs) w):ZiU b w=s.size - pos:=by
 unfold ZiU;rw [hw.at]
end
end Go.VC
namespace Go.Proofs.YtlplemdmegpoeaaGreatDoor
section
open Go Go.VC Tryz
open Classical
variable {R:Cx} {Hs Rest:List HP} {w:World}
theorem ZgY {l:List Wt} {left:List Int} {j:Nat} (hj:j<l.length) (h:(l.take j).any (Zcf left)=false) (hf:Zcf left l[j]=true):Zae l left=some l[j]:=by
 unfold Zae;rw [List.find?_eq_some_iff_append];refine ⟨hf,l.take j,l.drop (j + 1),by rw [<-List.drop_eq_getElem_cons hj,List.take_append_drop],λ x hx=>?_⟩;rw [<-Bool.not_eq_true,List.any_eq_true] at h;cases hx2:Zcf left x with
 |false=>rfl
 |true=>exact absurd ⟨x,hx,hx2⟩ h
theorem Zif {l:List Wt} {left:List Int} (h:l.any (Zcf left)=false):Zae l left=none:=by
 unfold Zae;rw [List.find?_eq_none];intro x hx hx2;rw [<-Bool.not_eq_true,List.any_eq_true] at h;exact h ⟨x,hx,hx2⟩
theorem ZjC {left:List Int} {x:Wt} (h:¬ (x.cls<left.length/\x.many<=left.getD x.cls.toNat 0)):Zcf left x=false:=by
 unfold Zcf;rw [<-Bool.not_eq_true,Bool.and_eq_true,decide_eq_true_iff,decide_eq_true_iff];exact h
def Zaj:Wt:=⟨0,0,0,0,0⟩
theorem ZlX {q:Nat} {l:List Wt} {sl:Sl} {left:List Int} (hq:QOk l) (hL:RoI R sl left) (hw:Sat R (ZN q l::Hs) w):
  Zk prog 174 #[nP q,.slice sl.a sl.len sl.cap] w λ v w'=>v=.tuple #[wtA ((Zae l left).getD Zaj),.bool (Zae l left).isSome]/\Sat R (ZN q l::Hs) w':=by
 have hl:l.length<=1000000000:=by have:=hq.len;omega
 have hLl:=hL.len;obtain ⟨s,hw⟩:=Sat.qu.1 hw;apply Zwa;refine Za hw λ b w hw=>?_;have hw:Sat R (Zl 5 s wtT (l.map wtV)::pts q (ZaC s)::wtD b Zaj::Hs) w:=by
  have hw:Sat R (wtD b Zaj::pts q (ZaC s)::Zl 5 s wtT (l.map wtV)::Hs) w:=hw;exact hw.arr
 have hlen:=Zl.len hw;rw [List.length_map] at hlen;refine Zb.mk rfl ⟨s,oA hw,?_⟩;have close:∀ {w x},Sat R (Zl 5 s wtT (l.map wtV)::pts q (ZaC s)::wtD b x::Hs) w->Sat R (ZN q l::Hs) w:=λ {w x} h=>by
  have h:Sat R (pts q (ZaC s)::Zl 5 s wtT (l.map wtV)::wtD b x::Hs) w:=h.swap;exact Sat.qu.2 ⟨s,h.cons λ _ h=>h.cons λ _ h=>h.drop⟩
 refine ⟨λ i w=>∃ j:Nat,i=j/\j<=l.length/\(l.take j).any (Zcf left)=false/\Sat R (Zl 5 s wtT (l.map wtV)::pts q (ZaC s)::wtD b Zaj::Hs) w,λ i _=>l.length - i.toNat,⟨0,rfl,by omega,by simp,hw⟩,?_⟩;clear hw;rintro _ _ w ⟨j,rfl,hj,hn,hw⟩;refine Br.d (λ h=>?_) (λ h=>?_)
 ·have hj2:j<l.length:=by omega
  have hx:=hq.ok l[j] (List.getElem_mem hj2);have next:Zcf left l[j]=false->(l.take (j + 1)).any (Zcf left)=false:=λ h=>by
   rw [List.take_add_one,List.getElem?_eq_getElem hj2,List.any_append,hn];simp [h]
  rw [Zd (x:=(j:Int) + 1)];refine (Zl.reads hw (eqS hw)).rngM (E:=l) (g:=wtV) hj2 λ a _ he=>?_;refine ⟨_,_,_,_,_,he.z (by exact ⟨rfl,rfl,rfl,rfl,rfl,trivial⟩),?_⟩;refine Za hw λ b2 w hw=>?_;refine sRu hw λ w hw=>?_;have hw:=hw.re (wtC b2 l[j]);refine Zq hw λ w hw=>?_;refine ⟨l[j].cls,oS,Br.d (λ h1=>?_) (λ h1=>⟨⟨j + 1,by omega,by omega,next (ZjC λ h=>h1 (by omega)),hw.drop⟩,by dsimp only;omega⟩)⟩;have hc:l[j].cls=(l[j].cls.toNat:Int):=by have:=hx.2.1.1;omega
  have hc2:l[j].cls.toNat<left.length:=by omega
  refine ⟨l[j].many,oS,l[j].cls,oS,?_⟩;refine Ro.ix hL (λ _ h=>h) l[j].cls.toNat hc hc2 ?_;refine Br.d (λ h2=>?_) (λ h2=>⟨⟨j + 1,by omega,by omega,next (ZjC λ h=>h2 ?_),hw.drop⟩,by dsimp only;omega⟩)
  ·have hf:Zcf left l[j]=true:=by
    unfold Zcf;rw [Bool.and_eq_true,decide_eq_true_iff,decide_eq_true_iff];refine ⟨by omega,?_⟩;rw [List.getD_eq_getElem?_getD,List.getElem?_eq_getElem hc2];exact h2
   refine ⟨l[j].id,l[j].cls,l[j].many,l[j].time,l[j].sc,oA hw,?_⟩;have hw:Sat R (wtD b Zaj::wtC b2 l[j]::Zl 5 s wtT (l.map wtV)::pts q (ZaC s)::Hs) w:=hw.arr;refine ZK hw (by kernel_rfl) rfl (by simp [Value.cells,wtV]) λ w hw=>?_;have hw:=hw.re (wtD b l[j]);refine ⟨l[j].id,l[j].cls,l[j].many,l[j].time,l[j].sc,oA hw,?_⟩;have hw:Sat R (wtC b2 l[j]::Zl 5 s wtT (l.map wtV)::pts q (ZaC s)::wtD b l[j]::Hs) w:=hw.arr;rw [ZgY hj2 hn hf];exact ⟨rfl,close hw.drop⟩
  ·have:=h.2
   rwa [List.getD_eq_getElem?_getD,List.getElem?_eq_getElem hc2] at this
 ·rw [List.take_of_length_le (by omega)] at hn
  have hw:Sat R (wtD b Zaj::Zl 5 s wtT (l.map wtV)::pts q (ZaC s)::Hs) w:=hw.arr;refine ZK hw (by kernel_rfl) rfl (by simp [Value.cells,wtV]) λ w hw=>?_;have hw:=hw.re (wtD b Zaj);refine ⟨0,0,0,0,0,oA hw,?_⟩;rw [Zif hn];have hw:Sat R (Zl 5 s wtT (l.map wtV)::pts q (ZaC s)::wtD b Zaj::Hs) w:=hw.arr;exact ⟨rfl,close hw⟩
theorem Zw8:ElN prog 100 100 168 5 40:=⟨underlying100,⟨_,underlying100⟩,by kernel_rfl⟩
theorem Zqd {q:Nat} {l:List Wt} (hl:l.length<=1000000000) (hw:Sat R (ZN q l::Hs) w):
  Zk prog 56 #[nP q] w λ v w'=>∃ t:Sl,v=.slice t.a t.len t.cap/\Sat R (Zl 5 t 168 (l.map wtV)::ZN q l::Hs) w':=by
 obtain ⟨s,hw⟩:=Sat.qu.1 hw;apply ZxX;refine Zb.mk rfl ⟨s,oA hw,?_⟩;have hlen:=Zl.len hw.swap;rw [List.length_map] at hlen;refine ⟨λ t i w=>∃ j:Nat,i=j/\j<=l.length/\Sat R (Zl 5 t 168 ((l.take j).map wtV)::Zl 5 s wtT (l.map wtV)::pts q (ZaC s)::Hs) w,λ _ i _=>l.length - i.toNat,⟨0,rfl,by omega,Zl.nil hw.swap⟩,?_⟩;clear hw;rintro _ t _ w ⟨j,rfl,hj,hw⟩;refine Br.d (λ h=>?_) (λ h=>?_)
 ·have hj2:j<l.length:=by omega
  have hw2:=hw.swap;refine (Zl.reads hw2 (S:=λ w'=>w'=w) (Hs':=Zl 5 t 168 ((l.take j).map wtV)::pts q (ZaC s)::Hs) (λ w' e=>by rw [e];exact hw2)).rngM (E:=l) (g:=wtV) hj2 λ a _ he=>?_;refine ⟨_,_,_,_,_,he.z (by exact ⟨rfl,rfl,rfl,rfl,rfl,trivial⟩),?_⟩;refine Za hw λ b2 w hw=>?_;refine sRu hw λ w hw=>?_;have hw:=hw.re (wtC b2 l[j]);refine ⟨l[j].id,l[j].cls,l[j].many,l[j].time,l[j].sc,oA hw,?_⟩;have hw:=hw.drop;refine Zd7 (x:=wtV l[j]) Zw8 hw rfl rfl (by rw [List.length_map,List.length_take];omega) (by rw [List.length_map,List.length_take];omega) λ t2 w hw=>⟨?_,?_⟩
  ·refine ⟨j + 1,Zd,by omega,?_⟩
   rw [List.take_add_one,List.getElem?_eq_getElem hj2,List.map_append];exact hw
  ·rw [Zd (x:=(j:Int) + 1)]
   dsimp only;omega
 ·rw [List.take_of_length_le (by omega)] at hw
  exact ⟨t,rfl,hw.cons λ _ h=>Sat.qu.2 ⟨s,h.swap⟩⟩
theorem ZuB : (f285.name == "runtime.NumGoroutine") = false := by kernel_rfl
theorem ZuD:f285.body.isNone=true:=by kernel_rfl
theorem ZuA:Extern.findNext f285=none:=by kernel_rfl
theorem ZuC:Extern.find f285=some Extern.BytealgIndexByte.indexByte:=by kernel_rfl
abbrev ZgN:ByteArray:=ByteArray.mk #[65,66,67,68,69,70,71,72,74,75,76,77,78,80,81,82,84,85,86,87,88,89,90,50,51,52,53,54,55,56,57]
theorem Zxu:(List.range 256).all (λ c=>Lib.indexByte ZgN.data.toList c.toUInt8==Zz c && (decide (Zz c<0)||decide (c<=90)))=true:=by kernel_rfl
theorem Zjq {c:Int} (h:0<=c/\c<256):Lib.indexByte ZgN.data.toList c.toNat.toUInt8=Zz c/\(Zz c<0\/c<=90):=by
 have:=List.all_eq_true.1 Zxu c.toNat (List.mem_range.2 (by omega));rw [Bool.and_eq_true,Bool.or_eq_true,decide_eq_true_iff,decide_eq_true_iff,beq_iff_eq,show ((c.toNat:Nat):Int)=c by omega] at this;exact ⟨this.1,this.2.imp id (by omega)⟩
theorem ZgM {c:Int} (h:0<=c/\c<256) (hw:Sat R Hs w):Zk prog 183 #[.string ZgN,.int .u8 c] w λ v w'=>v=nI (Zz c)/\Sat R Hs w':=by
 apply Zv2;have h1:Zk prog 255 #[.string ZgN,.int .u8 c] w λ v w'=>v=nI (Zz c)/\Sat R Hs w':=by
  apply Zvn;refine ⟨nI (Zz c),w,?_,_,rfl,rfl,hw⟩;rw [run_callFunc_extern func285 ZuB ZuD ZuA ZuC,Lib.run_indexByteString,(Zjq h).1];rfl
 refine h1.u λ w hw=>?_;exact ⟨_,rfl,rfl,hw⟩
abbrev ZcL (b:Nat) (n:Int):HP:=pts b (.cells [nI n].toArray 3 (0,0))
theorem Zf2 (hw:Sat R Hs w):Zk prog 182 #[] w λ v w'=>∃ b1 b2,v=.func (.func 254) #[] #[nP b1,nP b2]/\Sat R (ZcL b1 0::ZcL b2 2::Hs) w':=by
 apply Zv3;refine Za hw λ b1 w hw=>Za hw λ b2 w hw=>?_;have hw:Sat R (ZcL b1 0::ZcL b2 0::Hs) w:=Sat.swap hw;refine sRu hw λ w hw=>?_;have hw:=(hw.re (ZcL b1 0)).swap;refine sRu hw λ w hw=>?_;have hw:=(hw.re (ZcL b2 2)).swap;exact ⟨b1,b2,rfl,hw⟩
theorem Zj7 {b1 b2:Nat} {s k d:Int} (hs:0<=s/\s<31) (hk:0<=k/\k<=100) (hd:0<=d/\d<31) (hw:Sat R (ZcL b1 s::ZcL b2 k::Hs) w):
  Zk prog 254 #[nI d,nP b1,nP b2] w λ v w'=>v=nI ((s + k * d) % 31)/\Sat R (ZcL b1 ((s + k * d) % 31)::ZcL b2 (k + 1)::Hs) w':=by
 have hkd:0<=k * d/\k * d<=100 * 31:=⟨Int.mul_nonneg hk.1 hd.1,Int.mul_le_mul hk.2 (by omega) hd.1 (by omega)⟩;apply Zvo;refine Zb.mk rfl ⟨s,oA hw,Zb.mk rfl ⟨k,oA hw,?_⟩⟩;rw [Zd (x:=k * d),Zd (x:=s + k * d),Int.tmod_eq_emod_of_nonneg (by omega)];refine sRu hw λ w hw=>?_;have hw:=(hw.re (ZcL b1 ((s + k * d) % 31))).swap;refine Zb.mk rfl ⟨k,oA hw,?_⟩;rw [Zd (x:=k + 1)];refine sRu hw λ w hw=>?_;have hw:=(hw.re (ZcL b2 (k + 1))).swap;exact Zb.mk rfl ⟨_,oA hw,rfl,hw⟩
theorem Zj4 {l:List Int} {d:Int} {k:Nat} (hk:l.length=k):(Zb9 2 l % 31 + (2 + (k:Int)) * d) % 31=Zb9 2 (l++[d]) % 31:=by
 rw [Zsi,hk];simp only [Zb9,Int.add_zero];rw [Int.emod_add_emod]
theorem p31 {k:Nat} (h:k<5):(31:Int) ^ k<=923521:=by
 rcases (show k=0\/k=1\/k=2\/k=3\/k=4 by omega) with rfl|rfl|rfl|rfl|rfl<;>simp
theorem Zng {bs:List Int} (h:∃ c∈bs,Zz c<0):ZaZ bs=(0,6):=by
 unfold ZaZ;rw [if_pos (.inr h)]
theorem Zpj {l:List Int} (h:∀ c∈l,0<=Zz c):∀ d∈l.map Zz,0<=d/\d<31:=by
 intro d hd;obtain ⟨c,hc,rfl⟩:=List.mem_map.1 hd;have h1:=h c hc;have:=ZiP c;omega
theorem Zoy {s:ByteArray} (hw:Sat R Hs w):Zk prog 108 #[.string s] w λ v w'=>v=.tuple #[nI (ZaZ (ZQ s)).1,nI (ZaZ (ZQ s)).2]/\Sat R Hs w':=by
 apply ZwN
 suffices H:∀ K:nK,(∀ w',Sat R Hs w'->K (.tuple #[nI (ZaZ (ZQ s)).1,nI (ZaZ (ZQ s)).2]) w')->B108 s K w from H _ λ w' h=>⟨rfl,h⟩
 intro K hK;have hbl:=Zc7 s;obtain ⟨bs,hbs⟩:∃ bs,bs=ZQ s:=⟨_,rfl⟩;rw [<-hbs] at hK hbl;refine Br.ne (λ h=>?_) (λ h=>?_)
 ·have:=hK w hw
  unfold ZaZ at this;rw [if_pos (.inl (by omega))] at this;exact this
 have hsz:s.size=6:=by omega
 have hl6:bs.length=6:=by omega
 refine (Zf2 hw).use ?_;clear hw;rintro _ w ⟨b1,b2,rfl,hw⟩;refine ⟨_,rfl,?_⟩;refine Za hw λ it w hw=>?_;refine ⟨λ n sum w=>∃ k:Nat,k<=6/\(∀ c∈bs.take k,0<=Zz c)/\n=Zjg ((bs.take (min k 5)).map Zz)/\sum=Zb9 2 ((bs.take (min k 5)).map Zz) % 31/\(k=6->(Zb9 2 ((bs.take 5).map Zz) + Zz (bs.getD 5 0)) % 31=0)/\
  Sat R (pts it (.stringIter s k)::ZcL b1 (Zb9 2 ((bs.take (min k 5)).map Zz) % 31)::ZcL b2 (2 + (min k 5:Nat))::Hs) w,λ _ _ w=>ZiU it w,⟨0,by omega,by simp,by simp [Zjg],by simp [Zb9],by omega,by simpa [Zb9] using hw⟩,?_⟩
 clear hw;rintro _ _ _ w ⟨k,hk,hpos,rfl,rfl,hlast,hw⟩;have hm:ZiU it w=6 - k:=by rw [ZfC hw,hsz]
 refine Zox hw (λ hlt w hw=>?_) (λ hge=>?_)
 ·rw [hsz] at hlt
  have hkl:k<bs.length:=by omega
  have hxb:0<=bs[k]/\bs[k]<256:=by
   subst hbs;exact ZrL s _ (List.getElem_mem _)
  have hget:((s.get! k).toNat:Int)=bs[k]:=by subst hbs;exact Zll (by omega)
  have err:∀ {w A},Zz bs[k]<0->Sat R (A::ZcL b1 (Zb9 2 ((bs.take (min k 5)).map Zz) % 31)::ZcL b2 (2 + (min k 5:Nat))::Hs) w->K (.tuple #[nI 0,nI 6]) w:=λ {w A} h hw=>by
   have:=hK w hw.drop.drop.drop;rw [Zng ⟨_,List.getElem_mem hkl,h⟩] at this;exact this
  by_cases hlo:(s.get! k).toNat<128
  ·rw [ZxE hlo] at hw ⊢
   dsimp only at hw ⊢;rw [hget];rw [show IntKind.u8.wrap bs[k]=bs[k] by rw [IntKind.wrap_u8];omega];refine (ZgM hxb hw).u λ w hw=>?_;have h90:=(Zjq hxb).2;refine ⟨_,rfl,λ t w=>(t=true↔Zz bs[k]<0)/\Sat R (pts it (.stringIter s (k + 1))::ZcL b1 (Zb9 2 ((bs.take (min k 5)).map Zz) % 31)::ZcL b2 (2 + (min k 5:Nat))::Hs) w,?_,?_⟩
   ·exact Br.d (λ h=>⟨⟨λ _=>h,λ _=>rfl⟩,hw⟩) (λ h=>⟨⟨λ h2=>by have:=of_decide_eq_true h2;omega,λ h2=>absurd h2 h⟩,hw⟩)
   clear hw;rintro _ t w ⟨ht,hw⟩;refine Br.mk (λ h=>err (ht.1 h) hw) (λ h=>?_);have hd0:0<=Zz bs[k]:=by
    rw [<-Bool.not_eq_true] at h;have:¬ Zz bs[k]<0:=λ h2=>h (ht.2 h2);omega
   have hdb:0<=Zz bs[k]/\Zz bs[k]<31:=by have:=ZiP bs[k];omega
   have hpos':∀ c∈bs.take (k + 1),0<=Zz c:=λ c hc=>by
    rw [List.take_add_one,List.getElem?_eq_getElem hkl] at hc;rcases List.mem_append.1 hc with hc|hc
    ·exact hpos c hc
    ·simp at hc;rw [hc];exact hd0
   have hsb:0<=Zb9 2 ((bs.take (min k 5)).map Zz) % 31/\Zb9 2 ((bs.take (min k 5)).map Zz) % 31<31:=by omega
   refine Br.d (λ h5=>?_) (λ h5=>?_)
   ·have hk5:k<5:=by omega
    rw [show min k 5=k by omega] at hw hsb ⊢;have htk:(bs.take k).length=k:=by rw [List.length_take];omega
    have hw:Sat R (ZcL b1 (Zb9 2 ((bs.take k).map Zz) % 31)::ZcL b2 (2 + (k:Int))::pts it (.stringIter s (k + 1))::Hs) w:=hw.arr;have hadd:Zda prog cl (.func (.func 254) #[] #[nP b1,nP b2]) [nI (Zz bs[k])] w λ e w'=>e=.returned (nI ((Zb9 2 ((bs.take k).map Zz) % 31 + (2 + (k:Int)) * Zz bs[k]) % 31))/\Sat R (ZcL b1 ((Zb9 2 ((bs.take k).map Zz) % 31 + (2 + (k:Int)) * Zz bs[k]) % 31)::ZcL b2 (2 + (k:Int) + 1)::pts it (.stringIter s (k + 1))::Hs) w':=
     Zda.mk (by kernel_rfl) ((Zj7 hsb (by omega) hdb hw).use λ v w' h=>⟨by rw [h.1],h.2⟩)
    refine hadd.mono ?_;clear hw hadd;rintro _ w ⟨rfl,hw⟩;have htk1:(bs.take (k + 1)).map Zz=(bs.take k).map Zz++[Zz bs[k]]:=by
     rw [List.take_add_one,List.getElem?_eq_getElem hkl,List.map_append];rfl
    rw [Zj4 (by rw [List.length_map,htk]),<-htk1] at hw ⊢;have hnb:=ZqK (Zpj hpos);rw [List.length_map,htk] at hnb;have hp31:=p31 hk5;refine ⟨_,rfl,⟨k + 1,by omega,hpos',?_,?_,λ h=>by omega,?_⟩,?_⟩
    ·rw [show min (k + 1) 5=k + 1 by omega,htk1,Znh,Zd (x:=Zjg ((bs.take k).map Zz) * 31) (by omega) (by omega),Zd]
    ·rw [show min (k + 1) 5=k + 1 by omega]
    ·rw [show min (k + 1) 5=k + 1 by omega,show (2:Int) + ((k + 1:Nat):Int)=2 + (k:Int) + 1 by omega]
     exact hw.arr
    ·have hw:Sat R (pts it (.stringIter s (k + 1))::ZcL b1 (Zb9 2 ((bs.take (k + 1)).map Zz) % 31)::ZcL b2 (2 + (k:Int) + 1)::Hs) w:=hw.arr
     rw [ZfC hw,hsz,hm];omega
   ·have hk5:k=5:=by omega
    subst hk5;rw [show min 5 5=5 from rfl] at hw hsb
    have hx5:bs.getD 5 0=bs[5]:=by rw [List.getD_eq_getElem?_getD,List.getElem?_eq_getElem hkl];rfl
    have e1:(Zb9 2 ((bs.take 5).map Zz) % 31 + Zz bs[5]) % 31=(Zb9 2 ((bs.take 5).map Zz) + Zz (bs.getD 5 0)) % 31:=by rw [hx5];omega
    rw [show min 5 5=5 from rfl,Zd,Int.tmod_eq_emod_of_nonneg (by omega)]
    have hall:¬ ∃ c∈bs,Zz c<0:=by
     rintro ⟨c,hc,h⟩;have:=hpos' c (by rw [List.take_of_length_le (by omega)];exact hc);omega
    refine Br.ne (λ hne=>?_) (λ he=>?_)
    ·have:=hK w hw.drop.drop.drop
     unfold ZaZ at this;rw [if_neg (λ h=>h.elim (λ h=>h hl6) hall),if_pos (by rw [<-e1];exact hne)] at this;exact this
    ·refine ⟨⟨6,by omega,hpos',by rw [show min 6 5=5 from rfl],by rw [show min 6 5=5 from rfl],λ _=>by rw [<-e1];exact he,?_⟩,?_⟩
     ·rw [show min 6 5=5 from rfl]
      exact hw
     ·rw [ZfC hw,hsz,hm]
      omega
  ·have hhi:=ZxF hlo
   obtain ⟨c,hc⟩:∃ c:Int,c=((Utf8.decode s k).1:Int):=⟨_,rfl⟩;rw [<-hc];have hc128:128<=c:=by omega
   have hneg:Zz bs[k]<0:=by
    have:=(Zjq hxb).2;omega
   refine (ZgM (by rw [IntKind.wrap_u8];omega) hw).u λ w hw=>?_;refine ⟨_,rfl,λ t w=>t=true/\Sat R (pts it (.stringIter s (k + (Utf8.decode s k).2))::ZcL b1 (Zb9 2 ((bs.take (min k 5)).map Zz) % 31)::ZcL b2 (2 + (min k 5:Nat))::Hs) w,?_,?_⟩
   ·exact Br.d (λ _=>⟨rfl,hw⟩) (λ _=>⟨decide_eq_true (by omega),hw⟩)
   clear hw;rintro _ t w ⟨rfl,hw⟩;exact Br.t rfl (err hneg hw)
 ·have hk6:k=6:=by omega
  subst hk6;have hall:¬ ∃ c∈bs,Zz c<0:=by
   rintro ⟨c,hc,h⟩;have:=hpos c (by rw [List.take_of_length_le (by omega)];exact hc);omega
  have:=hK w hw.drop.drop.drop;unfold ZaZ at this;rw [if_neg (λ h=>h.elim (λ h=>h hl6) hall),if_neg (λ h=>h (hlast rfl))] at this;exact this
abbrev outB (b:Nat) (l:List Int):HP:=pts b (.cells (b8 l).toArray 255 (0,0))
abbrev ZnO (b:Nat) (l:List Int):HP:=pts b (.cells (Zc l).toArray 256 (0,0))
def Zr9:Nat->Int->List Int
 |0,_=>[0,0,0,0,0]
 |1,n=>[0,0,0,0,n % 31]
 |2,n=>[0,0,0,n / 31 % 31,n % 31]
 |3,n=>[0,0,n / 961 % 31,n / 31 % 31,n % 31]
 |4,n=>[0,n / 29791 % 31,n / 961 % 31,n / 31 % 31,n % 31]
 |_,n=>ZbM n
def Zsa:Nat->Int->Int
 |0,n=>n
 |1,n=>n / 31
 |2,n=>n / 961
 |3,n=>n / 29791
 |4,n=>n / 923521
 |_,_=>0
theorem ZmR {n:Int} (h:0<=n/\n<28629151):∀ {k:Nat},k<5->0<=Zsa k n/\Zsa k n<28629151/\Zsa (k + 1) n=Zsa k n / 31/\ZcK (Zc (Zr9 k n)) (0 + (4 - k)) [nI (Zsa k n % 31)]=Zc (Zr9 (k + 1) n)
 |0,_=>⟨h.1,h.2,rfl,rfl⟩
 |1,_=>⟨by show 0<=n / 31;omega,by show n / 31<_;omega,by show n / 961=n / 31 / 31;omega,rfl⟩
 |2,_=>⟨by show 0<=n / 961;omega,by show n / 961<_;omega,by show n / 29791=n / 961 / 31;omega,rfl⟩
 |3,_=>⟨by show 0<=n / 29791;omega,by show n / 29791<_;omega,by show n / 923521=n / 29791 / 31;omega,rfl⟩
 |4,_=>⟨by show 0<=n / 923521;omega,by show n / 923521<_;omega,by show 0=n / 923521 / 31;omega,rfl⟩
theorem ZmS {n:Int}:∀ {k:Nat},k<=5->(Zr9 k n).length=5
 |0,_=>rfl|1,_=>rfl|2,_=>rfl|3,_=>rfl|4,_=>rfl|5,_=>rfl
def Zm8 (n:Int) (k:Nat):List Int:=((ZbM n).take k).map ZcI++List.replicate (6 - k) 0
theorem Zqq {n:Int}:∀ {k:Nat} (hk:k<5),ZcK (b8 (Zm8 n k)) (0 + k) [.int .u8 (ZcI ((ZbM n)[k]'hk))]=b8 (Zm8 n (k + 1))
 |0,_=>rfl|1,_=>rfl|2,_=>rfl|3,_=>rfl|4,_=>rfl
theorem ZsO {n:Int}:ZcK (b8 (Zm8 n 5)) 5 [.int .u8 (ZcI (Zph n))]=b8 (ZsY n):=rfl
theorem Zm7 {n:Int}:∀ {k:Nat},k<=5->(b8 (Zm8 n k)).length=6
 |0,_=>rfl|1,_=>rfl|2,_=>rfl|3,_=>rfl|4,_=>rfl|5,_=>rfl
theorem Zgm {d:Int} (h:0<=d/\d<31):ZgN[d.toNat]? =some (UInt8.ofNat (ZcI d).toNat)/\((UInt8.ofNat (ZcI d).toNat).toNat:Int)=ZcI d:=by
 have:∀ j:Fin 31,ZgN[j.val]? =some (UInt8.ofNat (ZeR.getD j.val 0).toNat)/\((UInt8.ofNat (ZeR.getD j.val 0).toNat).toNat:Int)=ZeR.getD j.val 0:=by decide
 exact this ⟨d.toNat,by omega⟩
theorem ZsW {n:Int} (hn:0<=n/\n<28629151) (hw:Sat R Hs w):Zk prog 121 #[nI n] w λ v w'=>v=.tuple #[.string (Zuy n),nI 0]/\Sat R Hs w':=by
 apply ZwA;refine ⟨λ w=>Sat R Hs w,Br.d (λ h=>by omega) (λ _=>Br.d (λ h=>by omega) (λ _=>hw)),?_⟩;clear hw;rintro _ w hw;refine Za hw λ bo w hw=>Za hw λ bw w hw=>?_;have hw:Sat R (ZnO bw (Zr9 0 n)::outB bo (Zm8 n 0)::Hs) w:=hw;refine ⟨λ m i w=>∃ k:Nat,k<=5/\m=Zsa k n/\i=4 - (k:Int)/\Sat R (ZnO bw (Zr9 k n)::outB bo (Zm8 n 0)::Hs) w,λ _ i _=>(i + 1).toNat,⟨0,by omega,rfl,rfl,hw⟩,?_⟩;clear hw;rintro _ _ _ w ⟨k,hk,rfl,rfl,hw⟩;refine Br.d (λ h=>?_) (λ h=>?_)
 ·have hk5:k<5:=by omega
  obtain ⟨s1,s2,s3,s4⟩:=ZmR hn hk5;rw [Int.tmod_eq_emod_of_nonneg s1,Int.tdiv_eq_ediv_of_nonneg s1,Zd (x:=Zsa k n / 31),Zd (x:=4 - (k:Int) - 1)];refine Rng.mk (by omega) (by omega) ?_;rw [Zs,show (4 - (k:Int)).toNat=4 - k by omega];refine ZK hw (by kernel_rfl) rfl (by rw [List.length_map,ZmS (by omega)];show 0 + (4 - k) + 1<=5;omega) λ w hw=>?_;have hw:Sat R (ZnO bw (Zr9 (k + 1) n)::outB bo (Zm8 n 0)::Hs) w:=by
   unfold ZnO;rw [<-s4];exact hw
  exact ⟨⟨k + 1,by omega,s3.symm,by omega,hw⟩,by dsimp only;omega⟩
 ·have hk5:k=5:=by omega
  subst hk5;refine (Zf2 hw).use ?_;clear hw;rintro _ w ⟨b1,b2,rfl,hw⟩;have hw:Sat R (ZcL b1 0::ZcL b2 2::ZnO bw (ZbM n)::outB bo (Zm8 n 0)::Hs) w:=hw;have hw:Sat R (ZnO bw (ZbM n)::outB bo (Zm8 n 0)::ZcL b1 0::ZcL b2 2::Hs) w:=hw.arr;have hw0:Sat R (outB bo (Zm8 n 0)::ZcL b1 0::ZcL b2 2::ZnO bw (ZbM n)::Hs) w:=hw.arr;refine ⟨_,rfl,Zc (ZbM n),rfl,oA hw,?_⟩;refine ⟨λ sum i w=>∃ k:Nat,i=k/\k<=5/\sum=Zb9 2 ((ZbM n).take k) % 31/\Sat R (outB bo (Zm8 n k)::ZcL b1 (Zb9 2 ((ZbM n).take k) % 31)::ZcL b2 (2 + (k:Int))::ZnO bw (ZbM n)::Hs) w,λ _ i _=>(5 - i).toNat,⟨0,rfl,by omega,rfl,hw0⟩,?_⟩;clear hw hw0;rintro _ _ _ w ⟨k,rfl,hk,rfl,hw⟩;refine Br.d (λ h=>?_) (λ h=>?_)
  ·have hk5:k<5:=by omega
   have hkl:k<(ZbM n).length:=hk5;have hd:=Zrq n _ (List.getElem_mem hkl);obtain ⟨g1,g2⟩:=Zgm hd;refine Rng.mk (by omega) (by omega) ⟨(ZbM n)[k],?_,_,hd.1,g1,?_⟩
   ·rw [Int.toNat_natCast,List.getElem?_toArray,List.getElem?_map,List.getElem?_eq_getElem hkl]
    rfl
   refine Rng.mk (by omega) (by omega) ?_;rw [Zs,Int.toNat_natCast,g2];refine ZK hw (by kernel_rfl) rfl (by rw [Zm7 (by omega)];show 0 + k + 1<=6;omega) λ w hw=>?_;have hw:Sat R (outB bo (Zm8 n (k + 1))::ZcL b1 (Zb9 2 ((ZbM n).take k) % 31)::ZcL b2 (2 + (k:Int))::ZnO bw (ZbM n)::Hs) w:=by
    unfold outB;rw [<-Zqq (n:=n) hk5];exact hw
   have hsb:0<=Zb9 2 ((ZbM n).take k) % 31/\Zb9 2 ((ZbM n).take k) % 31<31:=by omega
   have hw:Sat R (ZcL b1 (Zb9 2 ((ZbM n).take k) % 31)::ZcL b2 (2 + (k:Int))::outB bo (Zm8 n (k + 1))::ZnO bw (ZbM n)::Hs) w:=hw.arr;have hadd:Zda prog cl (.func (.func 254) #[] #[nP b1,nP b2]) [nI (ZbM n)[k]] w λ e w'=>e=.returned (nI ((Zb9 2 ((ZbM n).take k) % 31 + (2 + (k:Int)) * (ZbM n)[k]) % 31))/\Sat R (ZcL b1 ((Zb9 2 ((ZbM n).take k) % 31 + (2 + (k:Int)) * (ZbM n)[k]) % 31)::ZcL b2 (2 + (k:Int) + 1)::outB bo (Zm8 n (k + 1))::ZnO bw (ZbM n)::Hs) w':=
    Zda.mk (by kernel_rfl) ((Zj7 hsb (by omega) hd hw).use λ v w' h=>⟨by rw [h.1],h.2⟩)
   refine hadd.mono ?_;clear hw hadd;rintro _ w ⟨rfl,hw⟩;have htk:((ZbM n).take k).length=k:=by rw [List.length_take];omega
   have htk1:(ZbM n).take (k + 1)=(ZbM n).take k++[(ZbM n)[k]]:=by
    rw [List.take_add_one,List.getElem?_eq_getElem hkl];rfl
   rw [Zj4 htk,<-htk1] at hw ⊢;rw [Zd (x:=(k:Int) + 1)];refine ⟨_,rfl,⟨k + 1,by omega,by omega,rfl,?_⟩,by dsimp only;omega⟩;rw [show (2:Int) + ((k + 1:Nat):Int)=2 + (k:Int) + 1 by omega];exact hw.arr
  ·have hk5:k=5:=by omega
   subst hk5;have hcd:=ZrE n;have e:(31 - Zb9 2 ((ZbM n).take 5) % 31).tmod 31=Zph n:=by
    rw [List.take_of_length_le (by exact Nat.le_refl 5),Int.tmod_eq_emod_of_nonneg (by omega)];rfl
   rw [Zd (x:=31 - Zb9 2 ((ZbM n).take 5) % 31) (by omega) (by omega),e];obtain ⟨g1,g2⟩:=Zgm hcd;refine ⟨_,hcd.1,g1,?_⟩;rw [Zs,g2];refine ZK hw (by kernel_rfl) rfl (by rw [Zm7 (by omega)];show 0 + 5 + 1<=6;omega) λ w hw=>?_;have hw:Sat R (outB bo (ZsY n)::ZcL b1 (Zb9 2 ((ZbM n).take 5) % 31)::ZcL b2 (2 + ((5:Nat):Int))::ZnO bw (ZbM n)::Hs) w:=by
    unfold outB;rw [<-ZsO (n:=n)];exact hw
   have hw2:Sat R (Own ⟨some ⟨bo,0,none⟩,6,6⟩ 255 (b8 (ZsY n))::ZcL b1 (Zb9 2 ((ZbM n).take 5) % 31)::ZcL b2 (2 + ((5:Nat):Int))::ZnO bw (ZbM n)::Hs) w:=Za0 (n:=6) hw;obtain ⟨R1,h1,_,h3,_⟩:=Own.lend hw2 (by rw [List.length_map,Zjh];omega);refine ⟨_,rfl,VC.strOf (ZsY n),λ w' e=>?_,?_⟩
   ·rw [show w'=w from e]
    exact ZjP (s:=⟨some ⟨bo,0,none⟩,6,6⟩) (xs:=ZsY n) underlying47 underlying5 underlying9 h3 h1
   ·exact ⟨rfl,hw.drop.drop.drop.drop⟩
theorem ZiV {A C:List HP} {x:HP}:Sat R (ZhI (A++x::C)::Hs) w↔Sat R (x::ZhI (A++C)::Hs) w:=by
 have hp:((A++x::C)++Hs).Perm (x::((A++C)++Hs)):=List.perm_middle.append_right Hs;constructor
 ·intro h
  exact ((Sat.star.1 h).perm hp).cons λ _ h=>Sat.star.2 h
 ·intro h
  have h2:Sat R (x::((A++C)++Hs)) w:=h.cons λ _ h=>Sat.star.1 h;exact Sat.star.2 (h2.perm hp.symm)
theorem ZbE {A C:List FE} {f q:Nat} {p:Pl}:Sat R (Zg (A++(f,q,p)::C)::Hs) w↔Sat R (Ze f p.r::ZN q p.q::Zg (A++C)::Hs) w:=by
 unfold Zg;rw [List.map_append,List.map_cons,ZiV,List.map_append];exact Sat.star
theorem ZcC {A C:List BE} {a:Nat} {x:Bk}:Sat R (Zh (A++(a,x)::C)::Hs) w↔Sat R (pts a (Zv x)::Zh (A++C)::Hs) w:=by
 unfold Zh;rw [List.map_append,List.map_cons,ZiV,List.map_append];exact Iff.rfl
theorem Zjy {β:Type} {k:Int} {v:β} {a b:List (Int × β)} (h:∀ e∈a,e.1≠k):ZH k (a++(k,v)::b)=some v:=Znp (Zhp.2 h) (by simp)
theorem Zth {β:Type} {k:Int} {v:β} {a b:List (Int × β)} (h:∀ e∈a,e.1≠k):Zfk k (a++(k,v)::b)=a++b:=Zfj (Zhp.2 h) (by simp)
structure ZjY (A C:List FE) (n:Int) (p:Pl):Prop where
 num:p.n=n
 a:∀ e∈A,e.2.2.n≠n
 c:∀ e∈C,e.2.2.n≠n
structure Zr8 (A C:List BE) (x:Bk):Prop where
 a:∀ e∈A,e.2.id≠x.id
 c:∀ e∈C,e.2.id≠x.id
theorem Zdm {b:ZE} {fs:List FE} {xs:List BE} (hl:Za1 b fs xs) (c:Zbu Pl.n b.fl) {n:Int} {p:Pl} (h:b.at n=some p):∃ A f q C,fs=A++(f,q,p)::C/\ZjY A C n p:=by
 have h1:=ZdK h;obtain ⟨⟨f,q,p'⟩,he,hp⟩:=List.mem_map.1 (hl.fl.mem_iff.2 h1.1);dsimp only at hp;subst hp;obtain ⟨A,C,rfl⟩:=List.append_of_mem he;have hnd:((A++(f,q,p')::C).map λ e=>e.2.2).Pairwise λ a b=>a.n≠b.n:=(hl.fl.pairwise_iff (λ h=>Ne.symm h)).2 (Zbu.ne c);rw [List.map_append,List.map_cons,List.pairwise_append,List.pairwise_cons] at hnd;refine ⟨A,f,q,C,rfl,h1.2,λ e he2=>?_,λ e he2=>?_⟩
 ·have:=hnd.2.2 e.2.2 (List.mem_map.2 ⟨e,he2,rfl⟩) p' (by simp)
  rw [<-h1.2];exact this
 ·have:=hnd.2.1.1 e.2.2 (List.mem_map.2 ⟨e,he2,rfl⟩)
  rw [<-h1.2];exact this.symm
theorem Zix {A C:List FE} {f q:Nat} {n:Int} {p:Pl} (h:ZjY A C n p):ZH n ((A++(f,q,p)::C).map flV)=some (.agg #[nP f,nP q]):=by
 rw [List.map_append,List.map_cons];unfold flV;dsimp only;rw [h.num];exact Zjy λ e he=>by
  obtain ⟨e',h1,rfl⟩:=List.mem_map.1 he;exact h.a e' h1
theorem Zfs {b:ZE} {fs:List FE} {xs:List BE} (hl:Za1 b fs xs) (c:Zbu Bk.id b.L) {x:Bk} (h:x∈b.L):∃ A a C,xs=A++(a,x)::C/\Zr8 A C x:=by
 rw [<-hl.bk] at h;obtain ⟨⟨a,x'⟩,he,hp⟩:=List.mem_map.1 h;dsimp only at hp;subst hp;obtain ⟨A,C,rfl⟩:=List.append_of_mem he;have hnd:((A++(a,x')::C).map λ e=>e.2).Pairwise λ a b=>a.id≠b.id:=by rw [hl.bk];exact Zbu.ne c
 rw [List.map_append,List.map_cons,List.pairwise_append,List.pairwise_cons] at hnd;refine ⟨A,a,C,rfl,λ e he2=>?_,λ e he2=>?_⟩
 ·exact hnd.2.2 e.2 (List.mem_map.2 ⟨e,he2,rfl⟩) x' (by simp)
 ·exact (hnd.2.1.1 e.2 (List.mem_map.2 ⟨e,he2,rfl⟩)).symm
theorem Zlp {A C:List BE} {a:Nat} {x:Bk} (h:Zr8 A C x):ZH x.id ((A++(a,x)::C).map bkV)=some (nP a):=by
 rw [List.map_append,List.map_cons];exact Zjy λ e he=>by
  obtain ⟨e',h1,rfl⟩:=List.mem_map.1 he;exact h.a e' h1
theorem Zmz {b:ZE} {fs:List FE} {xs:List BE} (hl:Za1 b fs xs) {n:Int}:ZH n (xs.map bkV)=none↔b.bk n=none:=by
 unfold ZE.bk;rw [Zhp,ZdL,<-hl.bk];constructor
 ·intro h x hx
  obtain ⟨e,he,rfl⟩:=List.mem_map.1 hx;exact h (bkV e) (List.mem_map.2 ⟨e,he,rfl⟩)
 ·rintro h _ he
  obtain ⟨e,h1,rfl⟩:=List.mem_map.1 he;exact h e.2 (List.mem_map.2 ⟨e,h1,rfl⟩)
theorem ZnE {b:ZE} {fs:List FE} {xs:List BE} (hl:Za1 b fs xs):xs.length=b.L.length:=by
 have:=congrArg List.length hl.bk;rwa [List.length_map] at this
theorem Za1.fset {b:ZE} {A C:List FE} {xs:List BE} {f q:Nat} {n:Int} {p:Pl} (hl:Za1 b (A++(f,q,p)::C) xs) (h:ZjY A C n p) (g:Pl->Pl):((A++(f,q,g p)::C).map λ e=>e.2.2).Perm (Zdb Pl.n n g b.fl):=by
 have h1:=hl.fl.map λ x=>if x.n=n then g x else x
 unfold Zdb;refine List.Perm.trans (List.Perm.of_eq ?_) h1;have key:∀ L:List FE,(∀ e∈L,e.2.2.n≠n)->(L.map λ e=>e.2.2).map (λ x=>if x.n=n then g x else x)=L.map λ e=>e.2.2:=λ L hL=>by
  rw [List.map_map];refine List.map_congr_left λ e he=>?_;show (if e.2.2.n=n then _ else _)=_
  rw [if_neg (hL e he)]
 rw [List.map_append,List.map_cons,List.map_append,List.map_cons,List.map_append,List.map_cons,key A h.a,key C h.c];rw [if_pos h.num]
theorem Za1.bset {b:ZE} {A C:List BE} {fs:List FE} {a:Nat} {x:Bk} (hl:Za1 b fs (A++(a,x)::C)) (c:Zbu Bk.id b.L) (g:Bk->Bk):(A++(a,g x)::C).map (λ e=>e.2)=Zdb Bk.id x.id g b.L:=by
 have e:=hl.bk;rw [List.map_append,List.map_cons] at e ⊢;rw [<-e] at c ⊢;exact (Zjm rfl c).symm
theorem Za1.bdel {b:ZE} {A C:List BE} {fs:List FE} {a:Nat} {x:Bk} (hl:Za1 b fs (A++(a,x)::C)) (c:Zbu Bk.id b.L):(A++C).map (λ e=>e.2)=Zjp Bk.id x.id b.L:=by
 have e:=hl.bk;rw [List.map_append,List.map_cons] at e;rw [List.map_append];rw [<-e] at c ⊢;exact (Zs2 rfl c).symm
theorem ZeI {A C:List FE} {f q:Nat} {n:Int} {p p':Pl} (h:p.n=n) (h':p'.n=n):(A++(f,q,p')::C).map flV=(A++(f,q,p)::C).map flV:=by
 rw [List.map_append,List.map_append,List.map_cons,List.map_cons];unfold flV;dsimp only;rw [h,h']
theorem ZrP {A C:List BE} {a:Nat} {x x':Bk} (h:x'.id=x.id):(A++(a,x')::C).map bkV=(A++(a,x)::C).map bkV:=by
 rw [List.map_append,List.map_append,List.map_cons,List.map_cons];unfold bkV;dsimp only;rw [h]
theorem ZrO {A C:List BE} {a:Nat} {x:Bk} (h:Zr8 A C x):Zfk x.id ((A++(a,x)::C).map bkV)=(A++C).map bkV:=by
 rw [List.map_append,List.map_cons,List.map_append];exact Zth λ e he=>by
  obtain ⟨e',h1,rfl⟩:=List.mem_map.1 he;exact h.a e' h1
abbrev plC (b:Nat) (v1 v2:Option Addr):HP:=pts b (.cells [.pointer v1,.pointer v2].toArray 97 (0,0))
theorem Zta {n:Int} {fs:List FE}:∃ v1 v2:Option Addr,(ZH n (fs.map flV)).getD (.agg #[.pointer none,.pointer none])=.agg #[.pointer v1,.pointer v2]:=by
 cases hgm:ZH n (fs.map flV) with
 |none=>exact ⟨none,none,rfl⟩
 |some v=>
  obtain ⟨A,C,e,_⟩:=ZaL hgm;have:(n,v)∈fs.map flV:=by rw [e];simp
  obtain ⟨x,_,hx⟩:=List.mem_map.1 this;have hx2:=congrArg Prod.snd hx;exact ⟨_,_,hx2.symm⟩
theorem Zto {n:Int} {xs:List BE}:∃ v:Option Addr,(ZH n (xs.map bkV)).getD (.pointer none)=.pointer v:=by
 cases hgm:ZH n (xs.map bkV) with
 |none=>exact ⟨none,rfl⟩
 |some v=>
  obtain ⟨A,C,e,_⟩:=ZaL hgm;have:(n,v)∈xs.map bkV:=by rw [e];simp
  obtain ⟨x,_,hx⟩:=List.mem_map.1 this;have hx2:=congrArg Prod.snd hx;exact ⟨_,hx2.symm⟩
theorem ZjX {p m1 m2:Nat} {b:ZE} {fs:List FE} {n:Int} (hw:Sat R (pts p (Zf b m1 m2)::MapAt m1 (fs.map flV)::Hs) w):
  Zcg prog 54 #[nP p,nI n] w
   (λ ch w'=>ch=ZiA 2/\ZH n (fs.map flV)=none/\Sat R (pts p (Zf b m1 m2)::MapAt m1 (fs.map flV)::Hs) w')
   (λ v w'=>(∃ v1 v2,ZH n (fs.map flV)=some (.agg #[.pointer v1,.pointer v2])/\v=.agg #[.pointer v1,.pointer v2])/\Sat R (pts p (Zf b m1 m2)::MapAt m1 (fs.map flV)::Hs) w'):=by
 obtain ⟨v1,v2,hv⟩:=Zta (n:=n) (fs:=fs);apply ZxZ;refine Za hw λ b4 w hw=>?_;refine Zb.mk rfl ⟨some m1,oA hw,v1,v2,(ZH n (fs.map flV)).isSome,λ w' e=>?_,?_⟩
 ·rw [show w'=w from e]
  have hm:Sat R (MapAt m1 (fs.map flV)::pts p (Zf b m1 m2)::plC b4 none none::Hs) w:=hw.arr;have:=MapAt.look Ztz hm n true;rw [hv] at this;exact this
 refine Za hw λ b5 w hw=>?_;refine sRu hw λ w hw=>?_;have hw:=hw.re (plC b5 v1 v2);refine ZbL (λ hn=>.inl ⟨rfl,?_⟩) (λ hn=>.inr ⟨_,rfl,rfl,?_,hw.drop.drop⟩)
 ·refine ⟨v1,v2,oA hw,?_⟩
  have hw:Sat R (plC b4 none none::plC b5 v1 v2::pts p (Zf b m1 m2)::MapAt m1 (fs.map flV)::Hs) w:=hw.swap;refine sRu hw λ w hw=>?_;have hw:=hw.re (plC b4 v1 v2);refine ⟨v1,v2,oA hw,⟨v1,v2,?_,rfl⟩,hw.drop.drop⟩;obtain ⟨v,hs⟩:=Option.isSome_iff_exists.1 hn;rw [hs] at hv ⊢;exact congrArg some hv
 ·cases hg:ZH n (fs.map flV) with
  |none=>rfl
  |some v=>rw [hg] at hn;cases hn
theorem Zmx {p m1 m2:Nat} {b:ZE} {xs:List BE} {s:ByteArray} (hw:Sat R (pts p (Zf b m1 m2)::MapAt m2 (xs.map bkV)::Hs) w):
  Zcg prog 43 #[nP p,.string s] w
   (λ ch w'=>(∃ e,ch=ZiA e/\(((ZaZ (ZQ s)).2≠0/\e=(ZaZ (ZQ s)).2)\/((ZaZ (ZQ s)).2=0/\e=2/\ZH (ZaZ (ZQ s)).1 (xs.map bkV)=none)))/\Sat R (pts p (Zf b m1 m2)::MapAt m2 (xs.map bkV)::Hs) w')
   (λ v w'=>(∃ v1,(ZaZ (ZQ s)).2=0/\ZH (ZaZ (ZQ s)).1 (xs.map bkV)=some (.pointer v1)/\v=.pointer v1)/\Sat R (pts p (Zf b m1 m2)::MapAt m2 (xs.map bkV)::Hs) w'):=by
 obtain ⟨v1,hv⟩:=Zto (n:=(ZaZ (ZQ s)).1) (xs:=xs);apply Zya;refine (Zoy hw).u λ w hw=>?_;refine .inl ⟨_,_,rfl,?_⟩;refine ZeF (λ h0=>.inl ⟨rfl,?_⟩) (λ h0=>.inr ⟨_,rfl,⟨_,rfl,.inl ⟨h0,rfl⟩⟩,hw⟩);refine Zb.mk rfl ⟨some m2,oA hw,v1,(ZH (ZaZ (ZQ s)).1 (xs.map bkV)).isSome,λ w' e=>?_,?_⟩
 ·rw [show w'=w from e]
  have:=MapAt.look ZtS hw.swap (ZaZ (ZQ s)).1 true;rw [hv] at this;exact this
 refine ZbL (λ hn=>.inl ⟨rfl,⟨v1,h0,?_,rfl⟩,hw⟩) (λ hn=>.inr ⟨_,rfl,⟨_,rfl,.inr ⟨h0,rfl,?_⟩⟩,hw⟩)
 ·obtain ⟨v,hs⟩:=Option.isSome_iff_exists.1 hn
  rw [hs] at hv ⊢;exact congrArg some hv
 ·cases hg:ZH (ZaZ (ZQ s)).1 (xs.map bkV) with
  |none=>rfl
  |some v=>rw [hg] at hn;cases hn
theorem ZeP {p m1 m2 a f q:Nat} {b:ZE} {A C:List FE} {x:Bk} {pl:Pl} (hid:0<=x.id/\x.id<28629151) (hm:ZjY A C x.flt pl)
  (hw:Sat R (pts p (Zf b m1 m2)::MapAt m1 ((A++(f,q,pl)::C).map flV)::pts a (Zv x)::Ze f pl.r::Hs) w):
  Zk prog 53 #[nP p,nP a] w λ v w'=>∃ sl sb:Sl,v=.agg (rpV (ZaH pl x) sl sb).toArray/\
   Sat R (Own sl 3 (Zc (Zj pl.r))::Own sb 9 ((ZY pl.r x.id).map Value.string)::pts p (Zf b m1 m2)::MapAt m1 ((A++(f,q,pl)::C).map flV)::pts a (Zv x)::Ze f pl.r::Hs) w':=by
 obtain ⟨M,hM⟩:∃ M,M=(A++(f,q,pl)::C).map flV:=⟨_,rfl⟩;have hget:ZH x.flt M=some (.agg #[nP f,nP q]):=by rw [hM];exact Zix hm
 rw [<-hM] at hw ⊢;apply Zx0;refine Za hw λ b4 w hw=>?_;have hw:Sat R (Zp b4::pts p (Zf b m1 m2)::MapAt m1 M::pts a (Zv x)::Ze f pl.r::Hs) w:=hw;refine Za7 hw λ w hw=>?_;refine Zb.mk rfl ⟨some m1,oS,Zb.mk rfl ⟨x.flt,oS,some ⟨f,0,none⟩,some ⟨q,0,none⟩,λ w' h=>?_,?_⟩⟩
 ·have hm1:Sat R (MapAt m1 M::VC.tru::Zp b4::pts p (Zf b m1 m2)::pts a (Zv x)::Ze f pl.r::Hs) w':=Sat.arr h
  have:=MapAt.look Ztz hm1 x.flt false;rw [hget] at this;exact this
 refine Za hw λ b5 w hw=>⟨hw.absorb,?_⟩;refine sRu hw λ w hw=>?_;have hw:=hw.re (plC b5 (some ⟨f,0,none⟩) (some ⟨q,0,none⟩));have hw:Sat R (plC b5 (some ⟨f,0,none⟩) (some ⟨q,0,none⟩)::Zp b4::pts p (Zf b m1 m2)::MapAt m1 M::pts a (Zv x)::Ze f pl.r::Hs) w:=hw.cons λ _ h=>h.drop;refine Zb.mk rfl ⟨x.id,oA hw,?_⟩;refine (ZsW hid hw).u λ w hw=>?_;refine ⟨_,_,rfl,?_⟩;refine Zr (Sat R [pts a (Zv x),plC b5 (some ⟨f,0,none⟩) (some ⟨q,0,none⟩),VC.tru]) hw (λ w hw=>?_) λ w hw=>?_
 ·exact (hw.arr (Hs':=pts a (Zv x)::plC b5 (some ⟨f,0,none⟩) (some ⟨q,0,none⟩)::Zp b4::pts p (Zf b m1 m2)::MapAt m1 M::Ze f pl.r::Hs)).cons λ _ h=>h.restTru2
 refine Zb.mk rfl ⟨x.state,oS,Zb.mk rfl ⟨x.flt,oS,Zb.mk rfl ⟨x.cls,oS,Zb.mk rfl ⟨x.many,oS,Zb.mk rfl ⟨x.till,oS,some ⟨f,0,none⟩,oS,some ⟨f,0,none⟩,oS,Zb.mk rfl ⟨x.id,oS,?_⟩⟩⟩⟩⟩⟩;have hw:Sat R (Ze f pl.r::pts a (Zv x)::plC b5 (some ⟨f,0,none⟩) (some ⟨q,0,none⟩)::Zp b4::pts p (Zf b m1 m2)::MapAt m1 M::Hs) w:=hw.arr;refine (Zcv hw).u1 λ sl w hw=>?_;refine ⟨sl,rfl,?_,?_⟩
 ·exact (hw.arr (Hs':=pts a (Zv x)::plC b5 (some ⟨f,0,none⟩) (some ⟨q,0,none⟩)::Own sl 3 (Zc (Zj pl.r))::Ze f pl.r::Zp b4::pts p (Zf b m1 m2)::MapAt m1 M::Hs)).cons λ _ h=>h.restTru2
 have hw:Sat R (Ze f pl.r::pts a (Zv x)::plC b5 (some ⟨f,0,none⟩) (some ⟨q,0,none⟩)::Zp b4::Own sl 3 (Zc (Zj pl.r))::pts p (Zf b m1 m2)::MapAt m1 M::Hs) w:=hw.arr;refine (Zl5 hw).u1 λ sb w hw=>?_;refine ⟨sb,rfl,?_,?_⟩
 ·exact (hw.arr (Hs':=pts a (Zv x)::plC b5 (some ⟨f,0,none⟩) (some ⟨q,0,none⟩)::Own sb 9 ((ZY pl.r x.id).map Value.string)::Ze f pl.r::Zp b4::Own sl 3 (Zc (Zj pl.r))::pts p (Zf b m1 m2)::MapAt m1 M::Hs)).cons λ _ h=>h.restTru2
 have hw:Sat R (Zp b4::plC b5 (some ⟨f,0,none⟩) (some ⟨q,0,none⟩)::Own sl 3 (Zc (Zj pl.r))::Own sb 9 ((ZY pl.r x.id).map Value.string)::pts p (Zf b m1 m2)::MapAt m1 M::pts a (Zv x)::Ze f pl.r::Hs) w:=hw.arr;refine sRu hw λ w hw=>?_;have hw:=hw.re (rpC b4 (ZaH pl x) sl sb);refine ⟨0,Zuy x.id,x.state,x.flt,x.cls,x.many,x.till,sl,sb,oA hw,sl,sb,rfl,hw.drop.drop⟩
def ZfI (q:Nat) (w : nW):Nat:=match w.heap[q]? with
 |some (.cells l _ _)=>(match l[0]? with|some (Value.slice _ n _)=>n|_=>0)
 |_=>0
theorem Zm2 {q:Nat} {l:List Wt} (hw:Sat R (ZN q l::Hs) w):ZfI q w=l.length:=by
 obtain ⟨s,hw⟩:=Sat.qu.1 hw;have h:=Zl.len hw.swap;rw [List.length_map] at h;unfold ZfI;rw [hw.at];exact h
theorem Zfh {q:Nat} {l:List Wt} {sl:Sl} {left:List Int} (hq:QOk l) (hb:left.length<=9223372036854775807) (hw:Sat R (Own sl 3 (Zc left)::ZN q l::Hs) w):
  Zk prog 174 #[nP q,.slice sl.a sl.len sl.cap] w λ v w'=>v=.tuple #[wtA ((Zae l left).getD Zaj),.bool (Zae l left).isSome]/\Sat R (ZN q l::Hs) w':=by
 obtain ⟨R1,e1,g1,hw⟩:=Own.leak hw;refine (ZlX hq (g1.ro (by rw [List.length_map];exact hb)) hw).u λ w hw=>?_;exact ⟨_,rfl,rfl,e1.back hw⟩
abbrev fqC (b f q:Nat):HP:=plC b (some ⟨f,0,none⟩) (some ⟨q,0,none⟩)
structure Zw3 (n:Int) (b:ZE) (A C:List FE) (f q:Nat) (MB:List (Int × Value)) (j:Nat) (b':ZE) (pl:Pl) (xs:List BE):Prop where
 prom:Zy n b=ZgZ j n b'
 len:pl.q.length<j
 core:Core b'
 here:b'.at n=some pl
 now:b'.now=b.now
 next:b'.next=b.next
 book:Za1 b' (A++(f,q,pl)::C) xs
 mb:xs.map bkV=MB
abbrev Zue (R:Cx) (Hs:List HP) (p m1 m2 f q b4 bw:Nat) (b:ZE) (pl:Pl) (A C:List FE) (MF MB:List (Int × Value)) (xs:List BE) (w : nW):Prop:=
 Sat R (Ze f pl.r::ZN q pl.q::pts p (Zf b m1 m2)::MapAt m1 MF::MapAt m2 MB::Zg (A++C)::Zh xs::fqC b4 f q::wtD bw ((Zae pl.q (Zj pl.r)).getD Zaj)::Hs) w
theorem ZcX {r:RF} (g:ZaP r):(Zj r).length<=9223372036854775807:=by have:=(Zgu g).1;omega
theorem ZdC {p m1 m2:Nat} {b:ZE} {fs:List FE} {xs:List BE} {n:Int} {pl:Pl} (k:Core b) (hl:Za1 b fs xs) (hat:b.at n=some pl)
  (hw:Sat R (pts p (Zf b m1 m2)::MapAt m1 (fs.map flV)::MapAt m2 (xs.map bkV)::Zg fs::Zh xs::Hs) w):
  Zk prog 103 #[nP p,nI n] w λ v w'=>v=.tuple #[]/\∃ fs' xs',Za1 (Zy n b) fs' xs'/\fs'.map flV=fs.map flV/\xs'.map bkV=xs.map bkV/\
   Sat R (pts p (Zf (Zy n b) m1 m2)::MapAt m1 (fs.map flV)::MapAt m2 (xs.map bkV)::Zg fs'::Zh xs'::Hs) w':=by
 obtain ⟨A,f,q,C,rfl,hm⟩:=Zdm hl k.nums hat;obtain ⟨MF,hMF⟩:∃ M,M=(A++(f,q,pl)::C).map flV:=⟨_,rfl⟩;obtain ⟨MB,hMB⟩:∃ M,M=xs.map bkV:=⟨_,rfl⟩;have hget:ZH n MF=some (.agg #[nP f,nP q]):=by rw [hMF];exact Zix hm
 rw [<-hMF,<-hMB] at hw ⊢;have hpl:=Z9 hat;apply ZwS;refine Zb.mk rfl ⟨some m1,oA hw,some ⟨f,0,none⟩,some ⟨q,0,none⟩,λ w' e=>?_,?_⟩
 ·rw [show w'=w from e]
  have:=MapAt.look Ztz hw.swap n false;rw [hget] at this;exact this
 refine Za hw λ b4 w hw=>?_;refine sRu hw λ w hw=>?_;have hw:=hw.re (fqC b4 f q);have hw:Sat R (Zg (A++(f,q,pl)::C)::pts p (Zf b m1 m2)::MapAt m1 MF::MapAt m2 MB::Zh xs::fqC b4 f q::Hs) w:=hw.arr;have hw:=ZbE.1 hw;have hg:ZaP pl.r:=k.good pl hpl.1;have hqok:QOk pl.q:=k.qok pl hpl.1;have hi0:Zw3 n b A C f q MB 201 b pl xs:=⟨rfl,by have:=hqok.len;omega,k,hat,rfl,rfl,hl,hMB.symm⟩;refine ⟨λ w5 fits w=>∃ bw,w5=some ⟨bw,0,none⟩/\fits=(Zae pl.q (Zj pl.r)).isSome/\Zue R Hs p m1 m2 f q b4 bw b pl A C MF MB xs w,?_,?_⟩
 ·refine Zr (Sat R [fqC b4 f q,VC.tru]) hw (λ w hw=>?_) λ w hw=>?_
  ·exact (hw.arr (Hs':=fqC b4 f q::Ze f pl.r::ZN q pl.q::Zg (A++C)::pts p (Zf b m1 m2)::MapAt m1 MF::MapAt m2 MB::Zh xs::Hs)).cons λ _ h=>h.allTru
  refine ⟨some ⟨q,0,none⟩,oS,some ⟨f,0,none⟩,oS,?_,?_⟩
  ·refine (Zcv hw).u1 λ sl w hw=>?_
   refine ⟨sl,rfl,?_,?_,?_⟩
   ·exact (hw.arr (Hs':=fqC b4 f q::Own sl 3 (Zc (Zj pl.r))::Ze f pl.r::ZN q pl.q::Zg (A++C)::pts p (Zf b m1 m2)::MapAt m1 MF::MapAt m2 MB::Zh xs::Hs)).cons λ _ h=>h.allTru
   ·have hw:Sat R (Own sl 3 (Zc (Zj pl.r))::ZN q pl.q::Ze f pl.r::Zg (A++C)::pts p (Zf b m1 m2)::MapAt m1 MF::MapAt m2 MB::Zh xs::fqC b4 f q::Hs) w:=hw.arr
    refine (Zfh hqok (ZcX hg) hw).u λ w hw=>?_;refine ⟨_,_,_,_,_,_,rfl,?_,?_⟩
    ·exact (hw.arr (Hs':=fqC b4 f q::Ze f pl.r::ZN q pl.q::Zg (A++C)::pts p (Zf b m1 m2)::MapAt m1 MF::MapAt m2 MB::Zh xs::Hs)).cons λ _ h=>h.allTru
    refine Za hw λ bw w hw=>?_;have hw:Sat R (wtD bw Zaj::ZN q pl.q::Ze f pl.r::Zg (A++C)::pts p (Zf b m1 m2)::MapAt m1 MF::MapAt m2 MB::Zh xs::fqC b4 f q::Hs) w:=hw;refine ⟨?_,?_⟩
    ·exact (hw.arr (Hs':=fqC b4 f q::wtD bw Zaj::Ze f pl.r::ZN q pl.q::Zg (A++C)::pts p (Zf b m1 m2)::MapAt m1 MF::MapAt m2 MB::Zh xs::Hs)).cons λ _ h=>h.allTru
    refine ZK hw (by kernel_rfl) rfl (by simp [Value.cells,wtV]) λ w hw=>?_;have hw:=hw.re (wtD bw ((Zae pl.q (Zj pl.r)).getD Zaj));exact ⟨bw,rfl,rfl,hw.arr⟩
   ·refine Za hw λ bw w hw=>?_
    have hw:Sat R (wtD bw Zaj::Own sl 3 (Zc (Zj pl.r))::Ze f pl.r::ZN q pl.q::Zg (A++C)::pts p (Zf b m1 m2)::MapAt m1 MF::MapAt m2 MB::Zh xs::fqC b4 f q::Hs) w:=hw;refine ⟨?_,?_⟩
    ·exact (hw.arr (Hs':=fqC b4 f q::wtD bw Zaj::Own sl 3 (Zc (Zj pl.r))::Ze f pl.r::ZN q pl.q::Zg (A++C)::pts p (Zf b m1 m2)::MapAt m1 MF::MapAt m2 MB::Zh xs::Hs)).cons λ _ h=>h.allTru
    have hw:Sat R (wtD bw Zaj::Own sl 3 (Zc (Zj pl.r))::Ze f pl.r::ZN q pl.q::Zg (A++C)::pts p (Zf b m1 m2)::MapAt m1 MF::MapAt m2 MB::Zh xs::fqC b4 f q::Hs) w:=hw;have hw:Sat R (Own sl 3 (Zc (Zj pl.r))::ZN q pl.q::wtD bw Zaj::Ze f pl.r::Zg (A++C)::pts p (Zf b m1 m2)::MapAt m1 MF::MapAt m2 MB::Zh xs::fqC b4 f q::Hs) w:=hw.arr;refine (Zfh hqok (ZcX hg) hw).u λ w hw=>?_;refine ⟨_,_,_,_,_,_,rfl,?_,?_⟩
    ·exact (hw.arr (Hs':=fqC b4 f q::wtD bw Zaj::Ze f pl.r::ZN q pl.q::Zg (A++C)::pts p (Zf b m1 m2)::MapAt m1 MF::MapAt m2 MB::Zh xs::Hs)).cons λ _ h=>h.allTru
    have hw:Sat R (wtD bw Zaj::ZN q pl.q::Ze f pl.r::Zg (A++C)::pts p (Zf b m1 m2)::MapAt m1 MF::MapAt m2 MB::Zh xs::fqC b4 f q::Hs) w:=hw.arr;refine ZK hw (by kernel_rfl) rfl (by simp [Value.cells,wtV]) λ w hw=>?_;have hw:=hw.re (wtD bw ((Zae pl.q (Zj pl.r)).getD Zaj));exact ⟨bw,rfl,rfl,hw.arr⟩
  ·refine Za hw λ bw w hw=>?_
   have hw:Sat R (wtD bw Zaj::Ze f pl.r::ZN q pl.q::Zg (A++C)::pts p (Zf b m1 m2)::MapAt m1 MF::MapAt m2 MB::Zh xs::fqC b4 f q::Hs) w:=hw;refine ⟨?_,?_⟩
   ·exact (hw.arr (Hs':=fqC b4 f q::wtD bw Zaj::Ze f pl.r::ZN q pl.q::Zg (A++C)::pts p (Zf b m1 m2)::MapAt m1 MF::MapAt m2 MB::Zh xs::Hs)).cons λ _ h=>h.allTru
   have hw:Sat R (wtD bw Zaj::Ze f pl.r::ZN q pl.q::Zg (A++C)::pts p (Zf b m1 m2)::MapAt m1 MF::MapAt m2 MB::Zh xs::fqC b4 f q::Hs) w:=hw;refine (Zcv hw.swap).u1 λ sl w hw=>?_;refine ⟨sl,rfl,?_,?_⟩
   ·exact (hw.arr (Hs':=fqC b4 f q::wtD bw Zaj::Own sl 3 (Zc (Zj pl.r))::Ze f pl.r::ZN q pl.q::Zg (A++C)::pts p (Zf b m1 m2)::MapAt m1 MF::MapAt m2 MB::Zh xs::Hs)).cons λ _ h=>h.allTru
   have hw:Sat R (Own sl 3 (Zc (Zj pl.r))::ZN q pl.q::wtD bw Zaj::Ze f pl.r::Zg (A++C)::pts p (Zf b m1 m2)::MapAt m1 MF::MapAt m2 MB::Zh xs::fqC b4 f q::Hs) w:=hw.arr;refine (Zfh hqok (ZcX hg) hw).u λ w hw=>?_;refine ⟨_,_,_,_,_,_,rfl,?_,?_⟩
   ·exact (hw.arr (Hs':=fqC b4 f q::wtD bw Zaj::Ze f pl.r::ZN q pl.q::Zg (A++C)::pts p (Zf b m1 m2)::MapAt m1 MF::MapAt m2 MB::Zh xs::Hs)).cons λ _ h=>h.allTru
   have hw:Sat R (wtD bw Zaj::ZN q pl.q::Ze f pl.r::Zg (A++C)::pts p (Zf b m1 m2)::MapAt m1 MF::MapAt m2 MB::Zh xs::fqC b4 f q::Hs) w:=hw.arr;refine ZK hw (by kernel_rfl) rfl (by simp [Value.cells,wtV]) λ w hw=>?_;have hw:=hw.re (wtD bw ((Zae pl.q (Zj pl.r)).getD Zaj));exact ⟨bw,rfl,rfl,hw.arr⟩
 clear hw;rintro _ _ _ w ⟨bw,rfl,rfl,hw⟩;refine ⟨λ w5 fits w=>∃ j b' pl xs' bw,Zw3 n b A C f q MB j b' pl xs'/\w5=some ⟨bw,0,none⟩/\fits=(Zae pl.q (Zj pl.r)).isSome/\Zue R Hs p m1 m2 f q b4 bw b pl A C MF MB xs' w,λ _ _ w=>ZfI q w,⟨201,b,pl,xs,bw,hi0,rfl,rfl,hw⟩,?_⟩;clear hw hi0 hqok hg hpl;rintro _ _ _ w ⟨j,b',pl',xs',bw,hi,rfl,rfl,hw⟩;have hql:ZfI q w=pl'.q.length:=Zm2 hw.swap;have hpl:=Z9 hi.here;have hg:=hi.core.good pl' hpl.1;have hqok:=hi.core.qok pl' hpl.1;have hm':ZjY A C n pl':=⟨hpl.2,hm.a,hm.c⟩;obtain ⟨j,rfl⟩:∃ i,j=i + 1:=⟨j - 1,by have:=hi.len;omega⟩;have hprom:=hi.prom;unfold ZgZ at hprom;rw [hi.here] at hprom;dsimp only at hprom;cases hf:Zae pl'.q (Zj pl'.r) with
 |none=>
  rw [hf] at hprom;dsimp only at hprom;refine Br.f rfl ⟨rfl,A++(f,q,pl')::C,xs',?_,?_,hi.mb,?_⟩
  ·rw [hprom];exact hi.book
  ·rw [hMF];exact ZeI hm.num hpl.2
  ·rw [hprom,show Zf b' m1 m2=Zf b m1 m2 by unfold Zf;rw [hi.now,hi.next]]
   have hw:Sat R (Ze f pl'.r::ZN q pl'.q::Zg (A++C)::pts p (Zf b m1 m2)::MapAt m1 MF::MapAt m2 MB::Zh xs'::fqC b4 f q::wtD bw ((Zae pl'.q (Zj pl'.r)).getD Zaj)::Hs) w:=hw.arr;have hw:=ZbE.2 hw;have hw:Sat R (pts p (Zf b m1 m2)::MapAt m1 MF::MapAt m2 MB::Zg (A++(f,q,pl')::C)::Zh xs'::fqC b4 f q::wtD bw ((Zae pl'.q (Zj pl'.r)).getD Zaj)::Hs) w:=hw.arr;exact hw.cons λ _ h=>h.cons λ _ h=>h.cons λ _ h=>h.cons λ _ h=>h.cons λ _ h=>h.drop.drop
 |some x=>
  rw [hf] at hprom;dsimp only at hprom;obtain ⟨hx,hfit,htk⟩:=Zgz hi.core hpl.1 hf;obtain ⟨y,hyL,hyid,hyf,hys,hyc,hym⟩:=hi.core.waits hpl.1 hx;obtain ⟨A2,a,C2,rfl,hbm⟩:=Zfs hi.book hi.core.ids hyL;have hgetb:ZH x.id MB=some (nP a):=by rw [<-hi.mb,<-hyid];exact Zlp hbm
  have hhas:ZdN x.id pl'.q=true:=Zfb.2 ⟨x,hx,rfl⟩;have hrem:Zj0 pl'.q x.id=(Zfz x.id pl'.q,0):=by unfold Zj0;rw [if_pos hhas]
  have hdl:=ZjK hhas;have hw:Sat R (Ze f pl'.r::ZN q pl'.q::pts p (Zf b m1 m2)::MapAt m1 MF::MapAt m2 MB::Zg (A++C)::Zh (A2++(a,y)::C2)::fqC b4 f q::wtD bw x::Hs) w:=by
   have:=hw;unfold Zue at this;rw [hf] at this;exact this
  refine Br.t rfl ⟨some ⟨q,0,none⟩,oA hw,Zb.mk rfl ⟨x.id,oA hw,?_⟩⟩;refine (Zf7 (by have:=hqok.len;omega) hw.swap).u λ w hw=>?_;rw [hrem] at hw ⊢;refine ⟨_,rfl,some ⟨f,0,none⟩,oA hw,Zb.mk rfl ⟨x.id,oA hw,Zb.mk rfl ⟨x.cls,oA hw,Zb.mk rfl ⟨x.many,oA hw,?_⟩⟩⟩⟩;refine (ZkX hw.swap).u λ w hw=>?_;refine ⟨_,rfl,?_⟩;refine Zq hw λ w hw=>Zb.mk rfl ⟨some m2,oS,Zb.mk rfl ⟨x.id,oS,some ⟨a,0,none⟩,λ w' h=>?_,Zb.mk rfl ?_⟩⟩
  ·have hm1:Sat R (MapAt m2 MB::Ze f (Zw pl'.r x.id x.cls x.many).1::ZN q (Zfz x.id pl'.q)::pts p (Zf b m1 m2)::MapAt m1 MF::Zg (A++C)::Zh (A2++(a,y)::C2)::fqC b4 f q::wtD bw x::Hs) w':=Sat.arr h
   have:=MapAt.look ZtS hm1 x.id false;rw [hgetb] at this;exact this
  have hw:Sat R (Zh (A2++(a,y)::C2)::Ze f (Zw pl'.r x.id x.cls x.many).1::ZN q (Zfz x.id pl'.q)::pts p (Zf b m1 m2)::MapAt m1 MF::MapAt m2 MB::Zg (A++C)::fqC b4 f q::wtD bw x::Hs) w:=hw.arr;have hw:=ZcC.1 hw;refine sRu hw λ w hw=>?_;have hw:=ZcC.2 (hw.re (pts a (Zv (Zdo y))));refine Zb.mk rfl ⟨x.id,x.cls,x.many,x.time,x.sc,oA hw,?_⟩;refine Za hw λ bw2 w hw=>?_;refine sRu hw λ w hw=>?_;have hw:=hw.re (wtD bw2 x);have hcore:Core (Ze3 b' n x):=ZhB hi.core hpl.1 hpl.2 hf;have hat2:(Ze3 b' n x).at n=some (Zer x pl'):=Zl4 hi.core hi.here;have hpl2:=Z9 hat2;have hi2:Zw3 n b A C f q MB j (Ze3 b' n x) (Zer x pl') (A2++(a,Zdo y)::C2):=
   ⟨hprom,by have:=hi.len;show (Zfz x.id pl'.q).length<j;omega,hcore,hat2,hi.now,hi.next,⟨hi.book.fset hm' (Zer x),by
    have:=hi.book.bset hi.core.ids Zdo;rw [hyid] at this;exact this⟩,(ZrP (show (Zdo y).id=y.id from rfl)).trans hi.mb⟩
  obtain ⟨pl2,hpe⟩:∃ pl2,pl2=Zer x pl':=⟨_,rfl⟩;have hw:Sat R (Ze f pl2.r::ZN q pl2.q::wtD bw2 x::pts p (Zf b m1 m2)::MapAt m1 MF::MapAt m2 MB::Zg (A++C)::Zh (A2++(a,Zdo y)::C2)::fqC b4 f q::wtD bw x::Hs) w:=by
   have hw:Sat R (wtD bw2 x::Zh (A2++(a,Zdo y)::C2)::Ze f pl2.r::ZN q pl2.q::pts p (Zf b m1 m2)::MapAt m1 MF::MapAt m2 MB::Zg (A++C)::fqC b4 f q::wtD bw x::Hs) w:=by
    rw [hpe];exact hw
   exact hw.arr
  have hql2:pl2.q.length + 1=pl'.q.length:=by rw [hpe];exact hdl
  rw [<-hpe] at hi2 hat2 hpl2;have hg2:=hcore.good pl2 hpl2.1;have hqok2:=hcore.qok pl2 hpl2.1;clear hpe;refine Zr (Sat R [fqC b4 f q,VC.tru]) hw (λ w hw=>?_) λ w hw=>?_
  ·exact (hw.arr (Hs':=fqC b4 f q::Ze f pl2.r::ZN q pl2.q::wtD bw2 x::pts p (Zf b m1 m2)::MapAt m1 MF::MapAt m2 MB::Zg (A++C)::Zh (A2++(a,Zdo y)::C2)::wtD bw x::Hs)).cons λ _ h=>h.allTru
  refine ⟨some ⟨q,0,none⟩,oS,some ⟨f,0,none⟩,oS,?_⟩;refine (Zcv hw).u1 λ sl w hw=>?_;refine ⟨sl,rfl,?_,?_⟩
  ·exact (hw.arr (Hs':=fqC b4 f q::Own sl 3 (Zc (Zj pl2.r))::Ze f pl2.r::ZN q pl2.q::wtD bw2 x::pts p (Zf b m1 m2)::MapAt m1 MF::MapAt m2 MB::Zg (A++C)::Zh (A2++(a,Zdo y)::C2)::wtD bw x::Hs)).cons λ _ h=>h.allTru
  have hw:Sat R (Own sl 3 (Zc (Zj pl2.r))::ZN q pl2.q::wtD bw2 x::Ze f pl2.r::pts p (Zf b m1 m2)::MapAt m1 MF::MapAt m2 MB::Zg (A++C)::Zh (A2++(a,Zdo y)::C2)::fqC b4 f q::wtD bw x::Hs) w:=hw.arr;refine (Zfh hqok2 (ZcX hg2) hw).u λ w hw=>?_;refine ⟨_,_,_,_,_,_,rfl,?_,?_⟩
  ·exact (hw.arr (Hs':=fqC b4 f q::Ze f pl2.r::ZN q pl2.q::wtD bw2 x::pts p (Zf b m1 m2)::MapAt m1 MF::MapAt m2 MB::Zg (A++C)::Zh (A2++(a,Zdo y)::C2)::wtD bw x::Hs)).cons λ _ h=>h.allTru
  have hw:Sat R (wtD bw2 x::ZN q pl2.q::Ze f pl2.r::pts p (Zf b m1 m2)::MapAt m1 MF::MapAt m2 MB::Zg (A++C)::Zh (A2++(a,Zdo y)::C2)::fqC b4 f q::wtD bw x::Hs) w:=hw.arr;refine ZK hw (by kernel_rfl) rfl (by simp [Value.cells,wtV]) λ w hw=>?_;have hw:=hw.re (wtD bw2 ((Zae pl2.q (Zj pl2.r)).getD Zaj));have hw:Sat R (wtD bw x::Ze f pl2.r::ZN q pl2.q::pts p (Zf b m1 m2)::MapAt m1 MF::MapAt m2 MB::Zg (A++C)::Zh (A2++(a,Zdo y)::C2)::fqC b4 f q::wtD bw2 ((Zae pl2.q (Zj pl2.r)).getD Zaj)::Hs) w:=hw.arr;have hw:=hw.drop;refine ⟨⟨j,_,pl2,_,bw2,hi2,rfl,rfl,hw⟩,?_⟩;show ZfI q _<ZfI q _;rw [Zm2 hw.swap,hql];omega
theorem Zbt {p m1 m2 f q:Nat} {b:ZE} {A C:List FE} {xs:List BE} {pl:Pl} (hl:Za1 b (A++(f,q,pl)::C) xs) {MF MB:List (Int × Value)} (hF:MF=(A++(f,q,pl)::C).map flV) (hB:MB=xs.map bkV)
  (hw:Sat R (Ze f pl.r::ZN q pl.q::pts p (Zf b m1 m2)::MapAt m1 MF::MapAt m2 MB::Zg (A++C)::Zh xs::Hs) w):Sat R (Zo p b::Hs) w:=by
 subst hF hB;have hw:Sat R (Ze f pl.r::ZN q pl.q::Zg (A++C)::pts p (Zf b m1 m2)::MapAt m1 ((A++(f,q,pl)::C).map flV)::MapAt m2 (xs.map bkV)::Zh xs::Hs) w:=hw.arr;have hw:=ZbE.2 hw;have hw:Sat R (pts p (Zf b m1 m2)::MapAt m1 ((A++(f,q,pl)::C).map flV)::MapAt m2 (xs.map bkV)::Zg (A++(f,q,pl)::C)::Zh xs::Hs) w:=hw.arr;exact Sat.book.2 ⟨m1,m2,_,xs,hl,hw⟩
theorem ZjB {b:ZE} {fs:List FE} {xs:List BE} (hl:Za1 b fs xs) (k:Core b) {n:Int} {v:Value} (h:ZH n (fs.map flV)=some v):
  ∃ A f q C pl,fs=A++(f,q,pl)::C/\ZjY A C n pl/\b.at n=some pl/\v=.agg #[nP f,nP q]:=by
 cases hat:b.at n with
 |none=>rw [(Zhr hl).2 hat] at h;cases h
 |some pl=>
  obtain ⟨A,f,q,C,rfl,hm⟩:=Zdm hl k.nums hat;rw [Zix hm] at h;exact ⟨A,f,q,C,pl,rfl,hm,rfl,(Option.some.inj h).symm⟩
theorem ZnF {b:ZE} {fs:List FE} {xs:List BE} (hl:Za1 b fs xs) (k:Core b) (v:Value):ZeN b.next v (xs.map bkV)=xs.map bkV++[(b.next,v)]:=by
 have:ZH b.next (xs.map bkV)=none:=by
  rw [Zmz hl];unfold ZE.bk;rw [ZdL];intro x hx e;have:=(k.each x hx).id.2;omega
 unfold ZeN;rw [this];rfl
theorem ZnD {xs:List BE} {a:Nat} {x:Bk} (hw:Sat R (pts a (Zv x)::Zh xs::Hs) w):Sat R (Zh (xs++[(a,x)])::Hs) w:=by
 have:Sat R (pts a (Zv x)::Zh (xs++[])::Hs) w:=by rw [List.append_nil];exact hw
 exact ZcC.2 this
theorem Zr2 {p:Nat} {b:ZE} {c:Cm} {sg sp:Sl} (hk:c.kind=2) (k:Core b) (hr:Z5 c) (hw:Sat R (Zo p b::Hs) w):
  Zcg prog 40 #[nP p,.agg #[nI c.kind,.string c.pnr,nI c.flt,nI c.cls,nI c.many,nI c.time,.float .f64 c.sc,.string c.lab,nI c.rows,.slice sg.a sg.len sg.cap,.slice sp.a sp.len sp.cap]] w
   (λ ch w'=>∃ e,ch=ZiA e/\Zbe b c=(b,Z1 e)/\Sat R (Zo p b::Hs) w')
   (λ v w'=>∃ sl sb:Sl,v=.agg (rpV (Zbe b c).2 sl sb).toArray/\Sat R (Own sl 3 (Zc (Zbe b c).2.left)::Own sb 9 ((Zbe b c).2.labs.map Value.string)::Zo p (Zbe b c).1::Hs) w'):=by
 apply ZtQ
 suffices H:∀ (X:List PanicEntry->World->Prop) (K:nK),(∀ e w',Zbe b c=(b,Z1 e)->Sat R (Zo p b::Hs) w'->X (ZiA e) w')->
   (∀ sl sb w',Sat R (Own sl 3 (Zc (Zbe b c).2.left)::Own sb 9 ((Zbe b c).2.labs.map Value.string)::Zo p (Zbe b c).1::Hs) w'->K (.agg (rpV (Zbe b c).2 sl sb).toArray) w')->B40 (some ⟨p,0,none⟩) c.kind c.pnr c.flt c.cls c.many c.time c.sc c.lab c.rows sg sp X K w from
  H _ _ (λ e w' h1 h2=>⟨e,rfl,h1,h2⟩) (λ sl sb w' h2=>⟨sl,sb,rfl,h2⟩)
 intro X K hX hK;obtain ⟨m1,m2,fs,xs,hl,hw⟩:=Sat.book.1 hw;have hxl:=ZnE hl;refine Za hw λ b3 w hw=>Za hw λ b4 w hw=>?_;have hw:Sat R (Zp b4::cmC b3 c sg sp::pts p (Zf b m1 m2)::MapAt m1 (fs.map flV)::MapAt m2 (xs.map bkV)::Zg fs::Zh xs::Hs) w:=hw;refine ⟨c.flt,oA hw,?_⟩;have hw:Sat R (pts p (Zf b m1 m2)::MapAt m1 (fs.map flV)::Zp b4::cmC b3 c sg sp::MapAt m2 (xs.map bkV)::Zg fs::Zh xs::Hs) w:=hw.arr;refine (ZjX hw).use ?_ ?_
 rotate_left
 ·clear hw
  rintro _ w ⟨rfl,hno,hw⟩;refine .inr ⟨_,rfl,hX 2 w ?_ ?_⟩
  ·unfold Zbe
   rw [(Zhr hl).1 hno]
  ·have hw:Sat R (Zp b4::cmC b3 c sg sp::pts p (Zf b m1 m2)::MapAt m1 (fs.map flV)::MapAt m2 (xs.map bkV)::Zg fs::Zh xs::Hs) w:=hw.arr
   exact Sat.book.2 ⟨m1,m2,fs,xs,hl,hw.drop.drop⟩
 clear hw;rintro _ w ⟨⟨v1,v2,hgm,rfl⟩,hw⟩;obtain ⟨A,f,q,C,pl,rfl,hm,hat,hv⟩:=ZjB hl k hgm;simp only [Value.agg.injEq,Array.mk.injEq,List.cons.injEq,Value.pointer.injEq,and_true] at hv;obtain ⟨rfl,rfl⟩:=hv;obtain ⟨MF,hMF⟩:∃ M,M=(A++(f,q,pl)::C).map flV:=⟨_,rfl⟩;obtain ⟨MB,hMB⟩:∃ M,M=xs.map bkV:=⟨_,rfl⟩;have hMBl:MB.length=b.L.length:=by rw [hMB,List.length_map];exact hxl
 rw [<-hMF,<-hMB] at hw;have hw:Sat R (Zg (A++(f,q,pl)::C)::cmC b3 c sg sp::Zp b4::pts p (Zf b m1 m2)::MapAt m1 MF::MapAt m2 MB::Zh xs::Hs) w:=hw.arr;have hw:=ZbE.1 hw;refine .inl ⟨_,_,rfl,?_⟩;refine Za hw λ b5 w hw=>?_;refine sRu hw λ w hw=>?_;have hw:=hw.re (fqC b5 f q);refine Za7 hw λ w hw=>?_;refine Zb.mk rfl ⟨b.next,oS,c.flt,oS,c.cls,oS,c.many,oS,c.time,oS,?_⟩;refine Za hw λ bx w hw=>⟨hw.absorb,?_⟩;have hw:Sat R (pts bx (Zv (Zah b c))::fqC b5 f q::Ze f pl.r::ZN q pl.q::Zg (A++C)::cmC b3 c sg sp::Zp b4::pts p (Zf b m1 m2)::MapAt m1 MF::MapAt m2 MB::Zh xs::Hs) w:=by
  have hw:Sat R (pts bx (Zv (Zah b c))::VC.tru::fqC b5 f q::Ze f pl.r::ZN q pl.q::Zg (A++C)::cmC b3 c sg sp::Zp b4::pts p (Zf b m1 m2)::MapAt m1 MF::MapAt m2 MB::Zh xs::Hs) w:=hw;exact hw.cons λ _ h=>h.drop
 have close:∀ {w},Sat R (pts bx (Zv (Zah b c))::fqC b5 f q::Ze f pl.r::ZN q pl.q::Zg (A++C)::cmC b3 c sg sp::Zp b4::pts p (Zf b m1 m2)::MapAt m1 MF::MapAt m2 MB::Zh xs::Hs) w->Sat R (Zo p b::Hs) w:=λ {w} hw=>by
  have hw:Sat R (pts bx (Zv (Zah b c))::fqC b5 f q::cmC b3 c sg sp::Zp b4::Ze f pl.r::ZN q pl.q::pts p (Zf b m1 m2)::MapAt m1 MF::MapAt m2 MB::Zg (A++C)::Zh xs::Hs) w:=hw.arr;exact Zbt hl hMF hMB hw.drop.drop.drop.drop
 have hheld:∀ {e},Zbe b c=e↔(if c.time<=b.now then (b,Z1 1) else if b.full then (b,Z1 3)
   else if (Zw pl.r b.next c.cls c.many).2≠0 then (b,Z1 (Zw pl.r b.next c.cls c.many).2)
   else ({ b.put c.flt (takeP b.next c.cls c.many) (b.L++[Zah b c]) with next:=b.next + 1 },ZaH (takeP b.next c.cls c.many pl) (Zah b c)))=e:=by
  intro e;unfold Zbe;rw [hat]
 refine ⟨λ w=>¬ c.time<=b.now/\Sat R (pts bx (Zv (Zah b c))::fqC b5 f q::Ze f pl.r::ZN q pl.q::Zg (A++C)::cmC b3 c sg sp::Zp b4::pts p (Zf b m1 m2)::MapAt m1 MF::MapAt m2 MB::Zh xs::Hs) w,?_,?_⟩
 ·refine ⟨c.kind,oA hw,Br.e (λ _=>?_) (λ h=>absurd hk h)⟩
  refine Zq hw λ w hw=>⟨c.time,oS,Zb.mk rfl ⟨b.now,oS,?_⟩⟩;refine ZbL (λ h=>.inl ⟨rfl,hw,?_,hw⟩) (λ h=>.inr ⟨_,rfl,hX 1 w ?_ (close hw)⟩)
  ·have:=of_decide_eq_true h;omega
  ·have:=of_decide_eq_false h
   exact hheld.2 (by rw [if_pos (by omega)])
 clear hw;rintro _ w ⟨ht,hw⟩;refine ⟨λ w=>¬ b.full/\Sat R (pts bx (Zv (Zah b c))::fqC b5 f q::Ze f pl.r::ZN q pl.q::Zg (A++C)::cmC b3 c sg sp::Zp b4::pts p (Zf b m1 m2)::MapAt m1 MF::MapAt m2 MB::Zh xs::Hs) w,?_,?_⟩
 ·refine Zb.mk rfl ⟨some m2,oA hw,(MB.length:Int),λ w' e=>?_,?_⟩
  ·rw [show w'=w from e]
   have hm1:Sat R (MapAt m2 MB::pts bx (Zv (Zah b c))::fqC b5 f q::Ze f pl.r::ZN q pl.q::Zg (A++C)::cmC b3 c sg sp::Zp b4::pts p (Zf b m1 m2)::MapAt m1 MF::Zh xs::Hs) w:=hw.arr;exact MapAt.len (by kernel_rfl) hm1
  rw [hMBl]
  with_reducible refine Br.d (λ h3=>?_) (λ h3=>?_)
  ·refine Zb.mk rfl ⟨b.next,oA hw,?_⟩
   refine ZbL (λ h=>.inl ⟨rfl,?_,hw⟩) (λ h=>.inr ⟨_,rfl,hX 3 w ?_ (close hw)⟩)
   ·have:=of_decide_eq_true h
    unfold ZE.full;omega
   ·have:=of_decide_eq_false h
    exact hheld.2 (by rw [if_neg ht,if_pos (.inr (by omega))])
  ·exact ZbL (λ h=>by cases h) (λ h=>.inr ⟨_,rfl,hX 3 w (hheld.2 (by rw [if_neg ht,if_pos (.inl (by omega))])) (close hw)⟩)
 clear hw;rintro _ w ⟨hf,hw⟩;have hnext:=k.next;have hf2:b.L.length<300/\b.next<28629151:=by unfold ZE.full at hf;omega
 obtain ⟨r2,hr2⟩:∃ r2,r2=(Zw pl.r b.next c.cls c.many).1:=⟨_,rfl⟩;refine ⟨λ w=>(Zw pl.r b.next c.cls c.many).2=0/\Sat R (pts bx (Zv (Zah b c))::fqC b5 f q::Ze f r2::ZN q pl.q::Zg (A++C)::cmC b3 c sg sp::Zp b4::pts p (Zf b m1 m2)::MapAt m1 MF::MapAt m2 MB::Zh xs::Hs) w,?_,?_⟩
 ·refine ⟨c.kind,oA hw,Br.e (λ _=>?_) (λ h=>absurd hk h)⟩
  refine Zr (Sat R [fqC b5 f q,pts bx (Zv (Zah b c)),VC.tru]) hw (λ w hw=>?_) λ w hw=>?_
  ·exact (hw.arr (Hs':=fqC b5 f q::pts bx (Zv (Zah b c))::Ze f pl.r::ZN q pl.q::Zg (A++C)::cmC b3 c sg sp::Zp b4::pts p (Zf b m1 m2)::MapAt m1 MF::MapAt m2 MB::Zh xs::Hs)).cons λ _ h=>h.restTru2
  refine ⟨some ⟨f,0,none⟩,oS,b.next,oS,c.cls,oS,c.many,oS,?_⟩;have hw:Sat R (Ze f pl.r::pts bx (Zv (Zah b c))::fqC b5 f q::ZN q pl.q::Zg (A++C)::cmC b3 c sg sp::Zp b4::pts p (Zf b m1 m2)::MapAt m1 MF::MapAt m2 MB::Zh xs::Hs) w:=hw.arr;refine (ZkX hw).u λ w hw=>?_;refine .inl ⟨_,rfl,?_⟩;refine ZeF (λ h0=>.inl ⟨rfl,?_,h0,?_⟩) (λ h0=>.inr ⟨_,rfl,hX _ w (hheld.2 (by rw [if_neg ht,if_neg hf,if_pos h0])) ?_⟩)
  ·exact (hw.arr (Hs':=fqC b5 f q::pts bx (Zv (Zah b c))::Ze f (Zw pl.r b.next c.cls c.many).1::ZN q pl.q::Zg (A++C)::cmC b3 c sg sp::Zp b4::pts p (Zf b m1 m2)::MapAt m1 MF::MapAt m2 MB::Zh xs::Hs)).cons λ _ h=>h.restTru2
  ·rw [hr2];exact hw.arr
  ·rw [ZlE h0] at hw
   have hw:Sat R (pts bx (Zv (Zah b c))::fqC b5 f q::Ze f pl.r::ZN q pl.q::Zg (A++C)::cmC b3 c sg sp::Zp b4::pts p (Zf b m1 m2)::MapAt m1 MF::MapAt m2 MB::Zh xs::Hs) w:=hw.arr;exact close hw
 clear hw;rintro _ w ⟨h0,hw⟩;have hcore:=Zfn k hr hat hf h0;have hres:Zbe b c=({ b.put c.flt (takeP b.next c.cls c.many) (b.L++[Zah b c]) with next:=b.next + 1 },ZaH (takeP b.next c.cls c.many pl) (Zah b c)):=hheld.2 (by rw [if_neg ht,if_neg hf,if_neg (λ h=>h h0)]);obtain ⟨nb,hnb⟩:∃ nb,nb={ b.put c.flt (takeP b.next c.cls c.many) (b.L++[Zah b c]) with next:=b.next + 1 }:=⟨_,rfl⟩;obtain ⟨pl2,hp2⟩:∃ pl2,pl2=takeP b.next c.cls c.many pl:=⟨_,rfl⟩;rw [<-hnb] at hres hcore;rw [<-hp2] at hres;have hn2:pl2.n=c.flt:=by rw [hp2];exact (Zcb (r:=pl.r) (o:=b.next) (c:=c.cls) (m:=c.many)).1.trans hm.num
 have hm2:ZjY A C c.flt pl2:=⟨hn2,hm.a,hm.c⟩;have hMF2:MF=(A++(f,q,pl2)::C).map flV:=by rw [hMF];exact ZeI hn2 hm.num
 have hl2:Za1 nb (A++(f,q,pl2)::C) (xs++[(bx,Zah b c)]):=by
  refine ⟨?_,?_⟩
  ·rw [hnb,hp2]
   exact hl.fset hm (takeP b.next c.cls c.many)
  ·rw [hnb,List.map_append,hl.bk]
   rfl
 have hMB2:MB++[(b.next,Value.pointer (some ⟨bx,0,none⟩))]=(xs++[(bx,Zah b c)]).map bkV:=by rw [hMB,List.map_append];rfl
 have hput:ZeN b.next (nP bx) MB=MB++[(b.next,Value.pointer (some ⟨bx,0,none⟩))]:=by rw [hMB];exact ZnF hl k _
 have hr22:r2=pl2.r:=by rw [hr2,hp2];rfl
 have hq2:pl.q=pl2.q:=by rw [hp2];rfl
 rw [hr22,hq2] at hw;refine Zq hw λ w hw=>Zb.mk rfl ⟨some m2,oS,b.next,oS,?_⟩;have hw:Sat R (MapAt m2 MB::pts bx (Zv (Zah b c))::fqC b5 f q::Ze f pl2.r::ZN q pl2.q::Zg (A++C)::cmC b3 c sg sp::Zp b4::pts p (Zf b m1 m2)::MapAt m1 MF::Zh xs::Hs) w:=hw.arr;refine MapAt.put ZtS hw b.next (nP bx) λ w hw=>?_;rw [hput] at hw;refine Zb.mk rfl ⟨b.next,oA hw,Zb.mk rfl ?_⟩;have hw:Sat R (pts p (Zf b m1 m2)::MapAt m2 (MB++[(b.next,Value.pointer (some ⟨bx,0,none⟩))])::pts bx (Zv (Zah b c))::fqC b5 f q::Ze f pl2.r::ZN q pl2.q::Zg (A++C)::cmC b3 c sg sp::Zp b4::MapAt m1 MF::Zh xs::Hs) w:=hw.arr;rw [Zd (x:=b.next + 1)];refine sRu hw λ w hw=>?_;have hw:Sat R (pts p (Zf nb m1 m2)::MapAt m2 (MB++[(b.next,Value.pointer (some ⟨bx,0,none⟩))])::pts bx (Zv (Zah b c))::fqC b5 f q::Ze f pl2.r::ZN q pl2.q::Zg (A++C)::cmC b3 c sg sp::Zp b4::MapAt m1 MF::Zh xs::Hs) w:=by
  rw [hnb];exact hw.re (pts p (Zf { b.put c.flt (takeP b.next c.cls c.many) (b.L++[Zah b c]) with next:=b.next + 1 } m1 m2))
 refine ⟨c.kind,oA hw,Br.e (λ h=>by omega) (λ _=>?_)⟩;have hw:Sat R (pts p (Zf nb m1 m2)::MapAt m1 ((A++(f,q,pl2)::C).map flV)::pts bx (Zv (Zah b c))::Ze f pl2.r::MapAt m2 (MB++[(b.next,Value.pointer (some ⟨bx,0,none⟩))])::fqC b5 f q::ZN q pl2.q::Zg (A++C)::cmC b3 c sg sp::Zp b4::Zh xs::Hs) w:=by
  rw [<-hMF2];exact hw.arr
 refine (ZeP (x:=Zah b c) (by show 0<=b.next/\b.next<28629151;omega) hm2 hw).use ?_;clear hw;rintro _ w ⟨sl,sb,rfl,hw⟩;refine .inl ⟨_,_,_,_,_,_,_,sl,sb,rfl,?_⟩;rw [<-hMF2] at hw;have hw:Sat R (Zp b4::Own sl 3 (Zc (Zj pl2.r))::Own sb 9 ((ZY pl2.r (Zah b c).id).map Value.string)::pts bx (Zv (Zah b c))::Zh xs::Ze f pl2.r::ZN q pl2.q::pts p (Zf nb m1 m2)::MapAt m1 MF::MapAt m2 (MB++[(b.next,Value.pointer (some ⟨bx,0,none⟩))])::Zg (A++C)::fqC b5 f q::cmC b3 c sg sp::Hs) w:=hw.arr;refine sRu hw λ w hw=>?_;have hw:=hw.re (rpC b4 (ZaH pl2 (Zah b c)) sl sb);refine ⟨_,_,_,_,_,_,_,sl,sb,oA hw,?_⟩;have hfin:=hK sl sb w;rw [hres] at hfin;refine hfin ?_;refine hw.drop.cons λ _ hw=>hw.cons λ _ hw=>?_;have hw:=ZnD hw;have hw:Sat _ (Ze f pl2.r::ZN q pl2.q::pts p (Zf nb m1 m2)::MapAt m1 MF::MapAt m2 (MB++[(b.next,Value.pointer (some ⟨bx,0,none⟩))])::Zg (A++C)::Zh (xs++[(bx,Zah b c)])::fqC b5 f q::cmC b3 c sg sp::Hs) w:=hw.arr;exact (Zbt hl2 hMF2 hMB2 hw).cons λ _ h=>h.drop.drop
theorem Zmy {b:ZE} {fs:List FE} {xs:List BE} (hl:Za1 b fs xs) (k:Core b) (v:Value):ZH b.next (xs.map bkV++[(b.next,v)])=some v:=by
 refine Zjy λ e he=>?_;obtain ⟨e',h1,rfl⟩:=List.mem_map.1 he;have:e'.2∈b.L:=by rw [<-hl.bk];exact List.mem_map.2 ⟨e',h1,rfl⟩
 have:=(k.each _ this).id.2;show e'.2.id≠b.next;omega
theorem Zr1 {p:Nat} {b:ZE} {c:Cm} {sg sp:Sl} (hk:c.kind=7) (k0:ZaA b) (hr:Z5 c) (hsc:c.sc<18446744073709551616) (hw:Sat R (Zo p b::Hs) w):
  Zcg prog 40 #[nP p,.agg #[nI c.kind,.string c.pnr,nI c.flt,nI c.cls,nI c.many,nI c.time,.float .f64 c.sc,.string c.lab,nI c.rows,.slice sg.a sg.len sg.cap,.slice sp.a sp.len sp.cap]] w
   (λ ch w'=>∃ e,ch=ZiA e/\ZaF b c=(b,Z1 e)/\Sat R (Zo p b::Hs) w')
   (λ v w'=>∃ sl sb:Sl,v=.agg (rpV (ZaF b c).2 sl sb).toArray/\Sat R (Own sl 3 (Zc (ZaF b c).2.left)::Own sb 9 ((ZaF b c).2.labs.map Value.string)::Zo p (ZaF b c).1::Hs) w'):=by
 apply ZtQ
 suffices H:∀ (X:List PanicEntry->World->Prop) (K:nK),(∀ e w',ZaF b c=(b,Z1 e)->Sat R (Zo p b::Hs) w'->X (ZiA e) w')->
   (∀ sl sb w',Sat R (Own sl 3 (Zc (ZaF b c).2.left)::Own sb 9 ((ZaF b c).2.labs.map Value.string)::Zo p (ZaF b c).1::Hs) w'->K (.agg (rpV (ZaF b c).2 sl sb).toArray) w')->B40 (some ⟨p,0,none⟩) c.kind c.pnr c.flt c.cls c.many c.time c.sc c.lab c.rows sg sp X K w from
  H _ _ (λ e w' h1 h2=>⟨e,rfl,h1,h2⟩) (λ sl sb w' h2=>⟨sl,sb,rfl,h2⟩)
 intro X K hX hK;have k:=k0.core;obtain ⟨m1,m2,fs,xs,hl,hw⟩:=Sat.book.1 hw;have hxl:=ZnE hl;refine Za hw λ b3 w hw=>Za hw λ b4 w hw=>?_;have hw:Sat R (Zp b4::cmC b3 c sg sp::pts p (Zf b m1 m2)::MapAt m1 (fs.map flV)::MapAt m2 (xs.map bkV)::Zg fs::Zh xs::Hs) w:=hw;refine ⟨c.flt,oA hw,?_⟩;have hw:Sat R (pts p (Zf b m1 m2)::MapAt m1 (fs.map flV)::Zp b4::cmC b3 c sg sp::MapAt m2 (xs.map bkV)::Zg fs::Zh xs::Hs) w:=hw.arr;refine (ZjX hw).use ?_ ?_
 rotate_left
 ·clear hw
  rintro _ w ⟨rfl,hno,hw⟩;refine .inr ⟨_,rfl,hX 2 w ?_ ?_⟩
  ·unfold ZaF
   rw [(Zhr hl).1 hno]
  ·have hw:Sat R (Zp b4::cmC b3 c sg sp::pts p (Zf b m1 m2)::MapAt m1 (fs.map flV)::MapAt m2 (xs.map bkV)::Zg fs::Zh xs::Hs) w:=hw.arr
   exact Sat.book.2 ⟨m1,m2,fs,xs,hl,hw.drop.drop⟩
 clear hw;rintro _ w ⟨⟨v1,v2,hgm,rfl⟩,hw⟩;obtain ⟨A,f,q,C,pl,rfl,hm,hat,hv⟩:=ZjB hl k hgm;simp only [Value.agg.injEq,Array.mk.injEq,List.cons.injEq,Value.pointer.injEq,and_true] at hv;obtain ⟨rfl,rfl⟩:=hv;obtain ⟨MF,hMF⟩:∃ M,M=(A++(f,q,pl)::C).map flV:=⟨_,rfl⟩;obtain ⟨MB,hMB⟩:∃ M,M=xs.map bkV:=⟨_,rfl⟩;have hMBl:MB.length=b.L.length:=by rw [hMB,List.length_map];exact hxl
 rw [<-hMF,<-hMB] at hw;have hw:Sat R (Zg (A++(f,q,pl)::C)::cmC b3 c sg sp::Zp b4::pts p (Zf b m1 m2)::MapAt m1 MF::MapAt m2 MB::Zh xs::Hs) w:=hw.arr;have hw:=ZbE.1 hw;refine .inl ⟨_,_,rfl,?_⟩;refine Za hw λ b5 w hw=>?_;refine sRu hw λ w hw=>?_;have hw:=hw.re (fqC b5 f q);refine Za7 hw λ w hw=>?_;refine Zb.mk rfl ⟨b.next,oS,c.flt,oS,c.cls,oS,c.many,oS,c.time,oS,?_⟩;refine Za hw λ bx w hw=>⟨hw.absorb,?_⟩;have hw:Sat R (pts bx (Zv (Zah b c))::fqC b5 f q::Ze f pl.r::ZN q pl.q::Zg (A++C)::cmC b3 c sg sp::Zp b4::pts p (Zf b m1 m2)::MapAt m1 MF::MapAt m2 MB::Zh xs::Hs) w:=by
  have hw:Sat R (pts bx (Zv (Zah b c))::VC.tru::fqC b5 f q::Ze f pl.r::ZN q pl.q::Zg (A++C)::cmC b3 c sg sp::Zp b4::pts p (Zf b m1 m2)::MapAt m1 MF::MapAt m2 MB::Zh xs::Hs) w:=hw;exact hw.cons λ _ h=>h.drop
 have close:∀ {w},Sat R (pts bx (Zv (Zah b c))::fqC b5 f q::Ze f pl.r::ZN q pl.q::Zg (A++C)::cmC b3 c sg sp::Zp b4::pts p (Zf b m1 m2)::MapAt m1 MF::MapAt m2 MB::Zh xs::Hs) w->Sat R (Zo p b::Hs) w:=λ {w} hw=>by
  have hw:Sat R (pts bx (Zv (Zah b c))::fqC b5 f q::cmC b3 c sg sp::Zp b4::Ze f pl.r::ZN q pl.q::pts p (Zf b m1 m2)::MapAt m1 MF::MapAt m2 MB::Zg (A++C)::Zh xs::Hs) w:=hw.arr;exact Zbt hl hMF hMB hw.drop.drop.drop.drop
 have hwait:∀ {e},ZaF b c=e↔(if (pl.r.lims.length:Int)<=c.cls then (b,Z1 1) else if b.full then (b,Z1 3)
   else if (Zcd pl.q (Zb3 b c)).2≠0 then (b,Z1 (Zcd pl.q (Zb3 b c)).2)
   else (Zy c.flt (Zbh b c),match (Zy c.flt (Zbh b c)).bk b.next with
    |none=>Z1 0
    |some x=>ZaB (Zy c.flt (Zbh b c)) x))=e:=by
  intro e;unfold ZaF;rw [hat];exact Iff.rfl
 have hpl:=Z9 hat;have closeW:∀ {w},Sat R (pts bx (Zv (ZbJ b c))::fqC b5 f q::Ze f pl.r::ZN q pl.q::Zg (A++C)::cmC b3 c sg sp::Zp b4::pts p (Zf b m1 m2)::MapAt m1 MF::MapAt m2 MB::Zh xs::Hs) w->Sat R (Zo p b::Hs) w:=λ {w} hw=>by
  have hw:Sat R (pts bx (Zv (ZbJ b c))::fqC b5 f q::cmC b3 c sg sp::Zp b4::Ze f pl.r::ZN q pl.q::pts p (Zf b m1 m2)::MapAt m1 MF::MapAt m2 MB::Zg (A++C)::Zh xs::Hs) w:=hw.arr;exact Zbt hl hMF hMB hw.drop.drop.drop.drop
 refine ⟨λ w=>¬ (pl.r.lims.length:Int)<=c.cls/\Sat R (pts bx (Zv (ZbJ b c))::fqC b5 f q::Ze f pl.r::ZN q pl.q::Zg (A++C)::cmC b3 c sg sp::Zp b4::pts p (Zf b m1 m2)::MapAt m1 MF::MapAt m2 MB::Zh xs::Hs) w,?_,?_⟩
 ·refine ⟨c.kind,oA hw,Br.e (λ h=>by omega) (λ _=>?_)⟩
  refine Zr (Sat R [cmC b3 c sg sp,fqC b5 f q,VC.tru]) hw (λ w hw=>?_) λ w hw=>?_
  ·exact (hw.arr (Hs':=cmC b3 c sg sp::fqC b5 f q::pts bx (Zv (Zah b c))::Ze f pl.r::ZN q pl.q::Zg (A++C)::Zp b4::pts p (Zf b m1 m2)::MapAt m1 MF::MapAt m2 MB::Zh xs::Hs)).cons λ _ h=>h.restTru2
  refine ⟨c.cls,oS,some ⟨f,0,none⟩,oS,?_⟩;have hw:Sat R (Ze f pl.r::pts bx (Zv (Zah b c))::fqC b5 f q::ZN q pl.q::Zg (A++C)::cmC b3 c sg sp::Zp b4::pts p (Zf b m1 m2)::MapAt m1 MF::MapAt m2 MB::Zh xs::Hs) w:=hw.arr;refine (Zcv hw).u1 λ sl w hw=>?_;have hsl:=Own.len hw;rw [List.length_map,Ze5] at hsl;have hw:Sat R (pts bx (Zv (Zah b c))::fqC b5 f q::Ze f pl.r::ZN q pl.q::Zg (A++C)::cmC b3 c sg sp::Zp b4::pts p (Zf b m1 m2)::MapAt m1 MF::MapAt m2 MB::Zh xs::Hs) w:=by
   have hw:=hw.drop;exact hw.arr
  have hS:Sat R [cmC b3 c sg sp,fqC b5 f q,VC.tru] w:=(hw.arr (Hs':=cmC b3 c sg sp::fqC b5 f q::pts bx (Zv (Zah b c))::Ze f pl.r::ZN q pl.q::Zg (A++C)::Zp b4::pts p (Zf b m1 m2)::MapAt m1 MF::MapAt m2 MB::Zh xs::Hs)).cons λ _ h=>h.restTru2;refine .inl ⟨sl,rfl,hS,?_⟩;refine ZbL (λ h=>.inl ⟨rfl,hS,?_⟩) (λ h=>.inr ⟨_,rfl,hX 1 w ?_ (close hw)⟩)
  ·have:=of_decide_eq_true h
   clear hS;refine sRu hw λ w hw=>?_;refine ZK hw (by kernel_rfl) rfl (by rw [Zbl];simp [Value.cells]) λ w hw=>?_;have hw:=hw.re (pts bx (Zv (ZbJ b c)));exact ⟨by omega,hw⟩
  ·have:=of_decide_eq_false h
   exact hwait.2 (by rw [if_pos (by omega)])
 clear hw;rintro _ w ⟨ht,hw⟩;refine ⟨λ w=>¬ b.full/\Sat R (pts bx (Zv (ZbJ b c))::fqC b5 f q::Ze f pl.r::ZN q pl.q::Zg (A++C)::cmC b3 c sg sp::Zp b4::pts p (Zf b m1 m2)::MapAt m1 MF::MapAt m2 MB::Zh xs::Hs) w,?_,?_⟩
 ·refine Zb.mk rfl ⟨some m2,oA hw,(MB.length:Int),λ w' e=>?_,?_⟩
  ·rw [show w'=w from e]
   have hm1:Sat R (MapAt m2 MB::pts bx (Zv (ZbJ b c))::fqC b5 f q::Ze f pl.r::ZN q pl.q::Zg (A++C)::cmC b3 c sg sp::Zp b4::pts p (Zf b m1 m2)::MapAt m1 MF::Zh xs::Hs) w:=hw.arr;exact MapAt.len (by kernel_rfl) hm1
  rw [hMBl]
  with_reducible refine Br.d (λ h3=>?_) (λ h3=>?_)
  ·refine Zb.mk rfl ⟨b.next,oA hw,?_⟩
   refine ZbL (λ h=>.inl ⟨rfl,?_,hw⟩) (λ h=>.inr ⟨_,rfl,hX 3 w ?_ (closeW hw)⟩)
   ·have:=of_decide_eq_true h
    unfold ZE.full;omega
   ·have:=of_decide_eq_false h
    exact hwait.2 (by rw [if_neg ht,if_pos (.inr (by omega))])
  ·exact ZbL (λ h=>by cases h) (λ h=>.inr ⟨_,rfl,hX 3 w (hwait.2 (by rw [if_neg ht,if_pos (.inl (by omega))])) (closeW hw)⟩)
 clear hw;rintro _ w ⟨hf,hw⟩;have hnext:=k.next;have hf2:b.L.length<300/\b.next<28629151:=by unfold ZE.full at hf;omega
 have hqok:=k.qok pl hpl.1;obtain ⟨q2,hq2⟩:∃ q2,q2=(Zcd pl.q (Zb3 b c)).1:=⟨_,rfl⟩;refine ⟨λ w=>(Zcd pl.q (Zb3 b c)).2=0/\Sat R (pts bx (Zv (ZbJ b c))::fqC b5 f q::Ze f pl.r::ZN q q2::Zg (A++C)::cmC b3 c sg sp::Zp b4::pts p (Zf b m1 m2)::MapAt m1 MF::MapAt m2 MB::Zh xs::Hs) w,?_,?_⟩
 ·refine ⟨c.kind,oA hw,Br.e (λ h=>by omega) (λ _=>?_)⟩
  refine Zr (Sat R [fqC b5 f q,pts bx (Zv (ZbJ b c)),pts p (Zf b m1 m2),cmC b3 c sg sp,VC.tru]) hw (λ w hw=>?_) λ w hw=>?_
  ·exact (hw.arr (Hs':=fqC b5 f q::pts bx (Zv (ZbJ b c))::pts p (Zf b m1 m2)::cmC b3 c sg sp::Ze f pl.r::ZN q pl.q::Zg (A++C)::Zp b4::MapAt m1 MF::MapAt m2 MB::Zh xs::Hs)).cons λ _ h=>h.cons λ _ h=>h.cons λ _ h=>h.restTru2
  refine ⟨some ⟨q,0,none⟩,oS,b.next,oS,c.cls,oS,c.many,oS,Zb.mk rfl ⟨b.now,oS,c.sc,oS,?_⟩⟩;have hw:Sat R (ZN q pl.q::pts bx (Zv (ZbJ b c))::fqC b5 f q::Ze f pl.r::Zg (A++C)::cmC b3 c sg sp::Zp b4::pts p (Zf b m1 m2)::MapAt m1 MF::MapAt m2 MB::Zh xs::Hs) w:=hw.arr;refine (Zqe (x:=Zb3 b c) hqok hw).u λ w hw=>?_;have hS:Sat R [fqC b5 f q,pts bx (Zv (ZbJ b c)),pts p (Zf b m1 m2),cmC b3 c sg sp,VC.tru] w:=(hw.arr (Hs':=fqC b5 f q::pts bx (Zv (ZbJ b c))::pts p (Zf b m1 m2)::cmC b3 c sg sp::Ze f pl.r::ZN q (Zcd pl.q (Zb3 b c)).1::Zg (A++C)::Zp b4::MapAt m1 MF::MapAt m2 MB::Zh xs::Hs)).cons λ _ h=>h.cons λ _ h=>h.cons λ _ h=>h.restTru2;refine .inl ⟨_,rfl,hS,?_⟩;refine ZeF (λ h0=>.inl ⟨rfl,hS,h0,?_⟩) (λ h0=>.inr ⟨_,rfl,hX _ w (hwait.2 (by rw [if_neg ht,if_neg hf,if_pos h0])) ?_⟩)
  ·rw [hq2];exact hw.arr
  ·have hno:(Zcd pl.q (Zb3 b c)).1=pl.q:=by
    unfold Zcd at h0 ⊢;split at h0<;>rename_i h1
    ·rw [if_pos h1]
    ·rw [if_neg h1]
     split at h0<;>rename_i h2
     ·rw [if_pos h2]
     ·rw [if_neg h2]
      split at h0<;>rename_i h3
      ·rw [if_pos h3]
      ·exact absurd rfl h0
   rw [hno] at hw;have hw:Sat R (pts bx (Zv (ZbJ b c))::fqC b5 f q::Ze f pl.r::ZN q pl.q::Zg (A++C)::cmC b3 c sg sp::Zp b4::pts p (Zf b m1 m2)::MapAt m1 MF::MapAt m2 MB::Zh xs::Hs) w:=hw.arr;exact closeW hw
 clear hw;rintro _ w ⟨h0,hw⟩;have hcore:=Zfm k hr hsc hat ht hf h0;obtain ⟨y,hyL,hyid,hyf,hyc,hym,hyt,hres⟩:∃ y,y∈(Zy c.flt (Zbh b c)).L/\y.id=b.next/\y.flt=c.flt/\y.cls=c.cls/\y.many=c.many/\y.till=0/\ZaF b c=(Zy c.flt (Zbh b c),ZaB (Zy c.flt (Zbh b c)) y):=by
  rcases ZhX k0 hr hsc with ⟨h1,_⟩|⟨_,y,_,_,_,_,_,h1,h2,h3,h4,h5,h6,h7⟩
  ·exfalso
   rw [hwait.2 (by rw [if_neg ht,if_neg hf,if_neg (λ h=>h h0)])] at h1;refine h1 ?_;dsimp only;split
   ·rfl
   ·exact ZgJ
  ·exact ⟨y,h1,h2,h3,h4,h5,h6,h7⟩
 obtain ⟨nb,hnb⟩:∃ nb,nb=Zbh b c:=⟨_,rfl⟩;obtain ⟨pl2,hp2⟩:∃ pl2,pl2=Zsk (Zb3 b c) pl:=⟨_,rfl⟩;rw [<-hnb] at hres hcore hyL;have hn2:pl2.n=c.flt:=by rw [hp2];exact hm.num
 have hm2:ZjY A C c.flt pl2:=⟨hn2,hm.a,hm.c⟩;have hMF2:MF=(A++(f,q,pl2)::C).map flV:=by rw [hMF];exact ZeI hn2 hm.num
 have hl2:Za1 nb (A++(f,q,pl2)::C) (xs++[(bx,ZbJ b c)]):=by
  refine ⟨?_,?_⟩
  ·rw [hnb,hp2]
   exact hl.fset hm (Zsk (Zb3 b c))
  ·rw [hnb,List.map_append,hl.bk]
   rfl
 have hMB2:MB++[(b.next,Value.pointer (some ⟨bx,0,none⟩))]=(xs++[(bx,ZbJ b c)]).map bkV:=by rw [hMB,List.map_append];rfl
 have hput:ZeN b.next (nP bx) MB=MB++[(b.next,Value.pointer (some ⟨bx,0,none⟩))]:=by rw [hMB];exact ZnF hl k _
 have hbget:ZH b.next (MB++[(b.next,Value.pointer (some ⟨bx,0,none⟩))])=some (nP bx):=by rw [hMB];exact Zmy hl k _
 have hq22:q2=pl2.q:=by rw [hq2,hp2,(Zig h0).2.2.2];rfl
 have hr22:pl.r=pl2.r:=by rw [hp2];rfl
 rw [hr22,hq22] at hw;have hat2:nb.at c.flt=some pl2:=(ZdV hcore).2 ⟨hl2.fl.mem_iff.1 (List.mem_map.2 ⟨(f,q,pl2),by simp,rfl⟩),hn2⟩;refine Zq hw λ w hw=>Zb.mk rfl ⟨some m2,oS,b.next,oS,?_⟩;have hw:Sat R (MapAt m2 MB::pts bx (Zv (ZbJ b c))::fqC b5 f q::Ze f pl2.r::ZN q pl2.q::Zg (A++C)::cmC b3 c sg sp::Zp b4::pts p (Zf b m1 m2)::MapAt m1 MF::Zh xs::Hs) w:=hw.arr;refine MapAt.put ZtS hw b.next (nP bx) λ w hw=>?_;rw [hput] at hw;refine Zb.mk rfl ⟨b.next,oA hw,Zb.mk rfl ?_⟩;have hw:Sat R (pts p (Zf b m1 m2)::MapAt m2 (MB++[(b.next,Value.pointer (some ⟨bx,0,none⟩))])::pts bx (Zv (ZbJ b c))::fqC b5 f q::Ze f pl2.r::ZN q pl2.q::Zg (A++C)::cmC b3 c sg sp::Zp b4::MapAt m1 MF::Zh xs::Hs) w:=hw.arr;rw [Zd (x:=b.next + 1)];refine sRu hw λ w hw=>?_;have hw:Sat R (pts p (Zf nb m1 m2)::MapAt m2 (MB++[(b.next,Value.pointer (some ⟨bx,0,none⟩))])::pts bx (Zv (ZbJ b c))::fqC b5 f q::Ze f pl2.r::ZN q pl2.q::Zg (A++C)::cmC b3 c sg sp::Zp b4::MapAt m1 MF::Zh xs::Hs) w:=by
  rw [hnb];exact hw.re (pts p (Zf (Zbh b c) m1 m2))
 refine ⟨c.kind,oA hw,Br.e (λ _=>?_) (λ h=>absurd hk h)⟩;refine ⟨c.flt,oA hw,?_⟩;have hw:Sat R (pts bx (Zv (ZbJ b c))::Zh xs::Ze f pl2.r::ZN q pl2.q::Zg (A++C)::pts p (Zf nb m1 m2)::MapAt m1 MF::MapAt m2 (MB++[(b.next,Value.pointer (some ⟨bx,0,none⟩))])::fqC b5 f q::cmC b3 c sg sp::Zp b4::Hs) w:=hw.arr;have hw:=ZnD hw;have hw:Sat R (Ze f pl2.r::ZN q pl2.q::Zg (A++C)::Zh (xs++[(bx,ZbJ b c)])::pts p (Zf nb m1 m2)::MapAt m1 MF::MapAt m2 (MB++[(b.next,Value.pointer (some ⟨bx,0,none⟩))])::fqC b5 f q::cmC b3 c sg sp::Zp b4::Hs) w:=hw.arr;have hw:=ZbE.2 hw;rw [hMF2,hMB2] at hw;have hw:Sat R (pts p (Zf nb m1 m2)::MapAt m1 ((A++(f,q,pl2)::C).map flV)::MapAt m2 ((xs++[(bx,ZbJ b c)]).map bkV)::Zg (A++(f,q,pl2)::C)::Zh (xs++[(bx,ZbJ b c)])::fqC b5 f q::cmC b3 c sg sp::Zp b4::Hs) w:=hw.arr;refine (ZdC hcore hl2 hat2 hw).use ?_;clear hw;rintro _ w ⟨rfl,fs3,xs3,hl3,hf3,hb3,hw⟩;refine .inl ⟨rfl,?_⟩;have hcore3:=(Zbb (n:=c.flt) hcore).1;obtain ⟨A3,a3,C3,rfl,hbm3⟩:=Zfs hl3 hcore3.ids hyL;have ha3:a3=bx:=by
  have h1:=Zlp (a:=a3) hbm3;rw [hb3,<-hMB2,hyid,hbget] at h1;simpa using h1.symm
 subst ha3;obtain ⟨p3,hp3⟩:=hcore3.at_of hyL;obtain ⟨D3,f3,q3,E3,rfl,hm3⟩:=Zdm hl3 hcore3.nums hp3;rw [<-hf3,<-hb3] at hw;have htell:ZaB (Zy c.flt nb) y=ZaH p3 y:=by unfold ZaB;rw [hp3]
 rw [htell] at hres;have hw:Sat R (Zg (D3++(f3,q3,p3)::E3)::Zh (A3++(a3,y)::C3)::pts p (Zf (Zy c.flt nb) m1 m2)::MapAt m1 ((D3++(f3,q3,p3)::E3).map flV)::MapAt m2 ((A3++(a3,y)::C3).map bkV)::fqC b5 f q::cmC b3 c sg sp::Zp b4::Hs) w:=hw.arr;have hw:=ZbE.1 hw;have hw:Sat R (Zh (A3++(a3,y)::C3)::Ze f3 p3.r::ZN q3 p3.q::Zg (D3++E3)::pts p (Zf (Zy c.flt nb) m1 m2)::MapAt m1 ((D3++(f3,q3,p3)::E3).map flV)::MapAt m2 ((A3++(a3,y)::C3).map bkV)::fqC b5 f q::cmC b3 c sg sp::Zp b4::Hs) w:=hw.arr;have hw:=ZcC.1 hw;have hw:Sat R (pts p (Zf (Zy c.flt nb) m1 m2)::MapAt m1 ((D3++(f3,q3,p3)::E3).map flV)::pts a3 (Zv y)::Ze f3 p3.r::Zh (A3++C3)::ZN q3 p3.q::Zg (D3++E3)::MapAt m2 ((A3++(a3,y)::C3).map bkV)::fqC b5 f q::cmC b3 c sg sp::Zp b4::Hs) w:=hw.arr;refine (ZeP (x:=y) (by omega) hm3 hw).use ?_;clear hw;rintro _ w ⟨sl,sb,rfl,hw⟩;refine .inl ⟨_,_,_,_,_,_,_,sl,sb,rfl,?_⟩;have hw:Sat R (Zp b4::Own sl 3 (Zc (Zj p3.r))::Own sb 9 ((ZY p3.r y.id).map Value.string)::pts a3 (Zv y)::Zh (A3++C3)::Ze f3 p3.r::ZN q3 p3.q::pts p (Zf (Zy c.flt nb) m1 m2)::MapAt m1 ((D3++(f3,q3,p3)::E3).map flV)::MapAt m2 ((A3++(a3,y)::C3).map bkV)::Zg (D3++E3)::fqC b5 f q::cmC b3 c sg sp::Hs) w:=hw.arr;refine sRu hw λ w hw=>?_;have hw:=hw.re (rpC b4 (ZaH p3 y) sl sb);refine ⟨_,_,_,_,_,_,_,sl,sb,oA hw,?_⟩;have hfin:=hK sl sb w;rw [hres] at hfin;refine hfin ?_;refine hw.drop.cons λ _ hw=>hw.cons λ _ hw=>?_;have hw:=ZcC.2 hw;have hw:Sat _ (Ze f3 p3.r::ZN q3 p3.q::pts p (Zf (Zy c.flt nb) m1 m2)::MapAt m1 ((D3++(f3,q3,p3)::E3).map flV)::MapAt m2 ((A3++(a3,y)::C3).map bkV)::Zg (D3++E3)::Zh (A3++(a3,y)::C3)::fqC b5 f q::cmC b3 c sg sp::Hs) w:=hw.arr;exact (Zbt hl3 rfl rfl hw).cons λ _ h=>h.drop.drop
theorem Zd9 {p m1 m2 f q a:Nat} {b:ZE} {A C:List FE} {A2 C2:List BE} {pl:Pl} {x:Bk} (hl:Za1 b (A++(f,q,pl)::C) (A2++(a,x)::C2)) {MF MB:List (Int × Value)} (hF:MF=(A++(f,q,pl)::C).map flV) (hB:MB=(A2++(a,x)::C2).map bkV)
  (hw:Sat R (Ze f pl.r::ZN q pl.q::pts a (Zv x)::pts p (Zf b m1 m2)::MapAt m1 MF::MapAt m2 MB::Zg (A++C)::Zh (A2++C2)::Hs) w):Sat R (Zo p b::Hs) w:=by
 have hw:Sat R (pts a (Zv x)::Zh (A2++C2)::Ze f pl.r::ZN q pl.q::pts p (Zf b m1 m2)::MapAt m1 MF::MapAt m2 MB::Zg (A++C)::Hs) w:=hw.arr;have hw:=ZcC.2 hw;have hw:Sat R (Ze f pl.r::ZN q pl.q::pts p (Zf b m1 m2)::MapAt m1 MF::MapAt m2 MB::Zg (A++C)::Zh (A2++(a,x)::C2)::Hs) w:=hw.arr;exact Zbt hl hF hB hw
theorem ZgI {p m1 m2 f q a b6:Nat} {b:ZE} {A C:List FE} {A2 C2:List BE} {pl:Pl} {x:Bk} {X:List PanicEntry->World->Prop} {K:Value->World->Prop} (hl:Za1 b (A++(f,q,pl)::C) (A2++(a,x)::C2)) {MF MB:List (Int × Value)} (hF:MF=(A++(f,q,pl)::C).map flV) (hB:MB=(A2++(a,x)::C2).map bkV)
  (hid:0<=x.id/\x.id<28629151) (hm:ZjY A C x.flt pl)
  (hK:∀ sl sb w',Sat R (Own sl 3 (Zc (Zj pl.r))::Own sb 9 ((ZY pl.r x.id).map Value.string)::Zo p b::Hs) w'->K (.agg (rpV (ZaH pl x) sl sb).toArray) w')
  (hw:Sat R (Ze f pl.r::ZN q pl.q::pts a (Zv x)::pts p (Zf b m1 m2)::MapAt m1 MF::MapAt m2 MB::Zg (A++C)::Zh (A2++C2)::Zp b6::Hs) w):
  nC 53 #[nP p,nP a] w λ e w_9=>
   (∃ t0:Int,∃ t1:ByteArray,∃ t2:Int,∃ t3:Int,∃ t4:Int,∃ t5:Int,∃ t6:Int,∃ t7:Sl,∃ t8:Sl,(e=.returned (.agg #[nI t0,.string t1,nI t2,nI t3,nI t4,nI t5,nI t6,.slice t7.a t7.len t7.cap,.slice t8.a t8.len t8.cap]))/\
    ∃ w_10:World,((Instr.storeAt 33 (.pointer ((some ⟨b6,0,none⟩))) (.agg #[nI t0,.string t1,nI t2,nI t3,nI t4,nI t5,nI t6,.slice t7.a t7.len t7.cap,.slice t8.a t8.len t8.cap])).run prog w_9=.ok () w_10)/\
    ∃ u0:Int,∃ u1:ByteArray,∃ u2:Int,∃ u3:Int,∃ u4:Int,∃ u5:Int,∃ u6:Int,∃ u7:Sl,∃ u8:Sl,(At (λ w'=>w'=w_10) ⟨b6,0,none⟩ [nI u0,.string u1,nI u2,nI u3,nI u4,nI u5,nI u6,.slice u7.a u7.len u7.cap,.slice u8.a u8.len u8.cap])/\
    K (.agg #[nI u0,.string u1,nI u2,nI u3,nI u4,nI u5,nI u6,.slice u7.a u7.len u7.cap,.slice u8.a u8.len u8.cap]) w_10)\/
   (∃ ch:List PanicEntry,(e=.panicked ch)/\X ch w_9):=by
 subst hF hB;have hw:Sat R (pts p (Zf b m1 m2)::MapAt m1 ((A++(f,q,pl)::C).map flV)::pts a (Zv x)::Ze f pl.r::ZN q pl.q::MapAt m2 ((A2++(a,x)::C2).map bkV)::Zg (A++C)::Zh (A2++C2)::Zp b6::Hs) w:=hw.arr;refine (ZeP hid hm hw).use ?_;clear hw;rintro _ w ⟨sl,sb,rfl,hw⟩;refine .inl ⟨_,_,_,_,_,_,_,sl,sb,rfl,?_⟩;have hw:Sat R (Zp b6::Own sl 3 (Zc (Zj pl.r))::Own sb 9 ((ZY pl.r x.id).map Value.string)::Ze f pl.r::ZN q pl.q::pts a (Zv x)::pts p (Zf b m1 m2)::MapAt m1 ((A++(f,q,pl)::C).map flV)::MapAt m2 ((A2++(a,x)::C2).map bkV)::Zg (A++C)::Zh (A2++C2)::Hs) w:=hw.arr;refine sRu hw λ w hw=>?_;have hw:=hw.re (rpC b6 (ZaH pl x) sl sb);refine ⟨_,_,_,_,_,_,_,sl,sb,oA hw,hK sl sb w ?_⟩;exact hw.drop.cons λ _ hw=>hw.cons λ _ hw=>Zd9 hl rfl rfl hw
theorem Zrs {id:Int}:∀ {l:List Wt},ZdN id l=false->Zfz id l=l
 |[],_=>rfl
 |w::l,h=>by
  have h1:¬ w.id=id/\ZdN id l=false:=by simpa [ZdN] using h
  show (if w.id=id then l else w::Zfz id l)=_
  rw [if_neg h1.1,Zrs h1.2]
theorem Zm3 {id:Int} {l:List Wt}:(Zj0 l id).1=Zfz id l:=by
 unfold Zj0;cases h:ZdN id l with
 |true=>rfl
 |false=>exact (Zrs h).symm
theorem ZsP {p m1 m2 a:Nat} {b:ZE} {c:Cm} {x:Bk} {fs:List FE} {A2 C2:List BE} {sg sp:Sl} (hk:c.kind=3\/c.kind=4\/c.kind=5\/c.kind=6) (k:Core b) (hlab:c.lab.size<=16) (hl:Za1 b fs (A2++(a,x)::C2)) (hbm:Zr8 A2 C2 x)
  (hw:Sat R (pts p (Zf b m1 m2)::MapAt m1 (fs.map flV)::MapAt m2 ((A2++(a,x)::C2).map bkV)::Zg fs::Zh (A2++(a,x)::C2)::Hs) w):
  Zcg prog 42 #[nP p,nP a,.agg #[nI c.kind,.string c.pnr,nI c.flt,nI c.cls,nI c.many,nI c.time,.float .f64 c.sc,.string c.lab,nI c.rows,.slice sg.a sg.len sg.cap,.slice sp.a sp.len sp.cap]] w
   (λ ch w'=>∃ e,ch=ZiA e/\ZdD b x c=(b,Z1 e)/\Sat R (Zo p b::Hs) w')
   (λ v w'=>∃ sl sb:Sl,v=.agg (rpV (ZdD b x c).2 sl sb).toArray/\Sat R (Own sl 3 (Zc (ZdD b x c).2.left)::Own sb 9 ((ZdD b x c).2.labs.map Value.string)::Zo p (ZdD b x c).1::Hs) w'):=by
 apply Zyb
 suffices H:∀ (X:List PanicEntry->World->Prop) (K:nK),(∀ e w',ZdD b x c=(b,Z1 e)->Sat R (Zo p b::Hs) w'->X (ZiA e) w')->
   (∀ sl sb w',Sat R (Own sl 3 (Zc (ZdD b x c).2.left)::Own sb 9 ((ZdD b x c).2.labs.map Value.string)::Zo p (ZdD b x c).1::Hs) w'->K (.agg (rpV (ZdD b x c).2 sl sb).toArray) w')->B42 (some ⟨p,0,none⟩) (some ⟨a,0,none⟩) c.kind c.pnr c.flt c.cls c.many c.time c.sc c.lab c.rows sg sp X K w from
  H _ _ (λ e w' h1 h2=>⟨e,rfl,h1,h2⟩) (λ sl sb w' h2=>⟨sl,sb,rfl,h2⟩)
 intro X K hX hK;have hxL:x∈b.L:=by rw [<-hl.bk];exact List.mem_map.2 ⟨(a,x),by simp,rfl⟩
 have hbk:=k.each x hxL;have hnx:=k.next;have hid:0<=x.id/\x.id<28629151:=⟨by have:=hbk.id;omega,by have:=hbk.id;omega⟩;obtain ⟨pl,hat⟩:=k.at_of hxL;obtain ⟨A,f,q,C,rfl,hm⟩:=Zdm hl k.nums hat;have hpl:=Z9 hat;have hg:=k.good pl hpl.1;have hqok:=k.qok pl hpl.1;obtain ⟨MF,hMF⟩:∃ M,M=(A++(f,q,pl)::C).map flV:=⟨_,rfl⟩;obtain ⟨MB,hMB⟩:∃ M,M=(A2++(a,x)::C2).map bkV:=⟨_,rfl⟩;have hget:ZH x.flt MF=some (.agg #[nP f,nP q]):=by rw [hMF];exact Zix hm
 rw [<-hMF,<-hMB] at hw;have hone:∀ {e},ZdD b x c=e↔(if c.kind=3 then (if x.state≠1 then (b,Z1 7) else ({ b with L:=Zdb Bk.id x.id Zbm b.L },ZaH pl (Zbm x)))
  else if c.kind=4 then (Zy x.flt (ZfR b x),⟨0,c.pnr,0,0,0,0,0,[],[]⟩)
  else if x.state=3 then (b,Z1 7)
  else if c.kind=5 then
   (if (ZO pl.r x.id c.lab).2≠0 then (b,Z1 (ZO pl.r x.id c.lab).2)
    else (b.put x.flt (ZaU (ZO pl.r x.id c.lab).1) b.L,ZaH (ZaU (ZO pl.r x.id c.lab).1 pl) x))
  else (if (ZM pl.r x.id).2.2≠0 then (b,Z1 (ZM pl.r x.id).2.2)
    else (b.put x.flt (ZaU (ZM pl.r x.id).1) b.L,ZaH (ZaU (ZM pl.r x.id).1 pl) x)))=e:=by
  intro e;unfold ZdD;rw [hat]
 refine Za hw λ b5 w hw=>Za hw λ b6 w hw=>?_;have hw:Sat R (Zg (A++(f,q,pl)::C)::Zh (A2++(a,x)::C2)::pts p (Zf b m1 m2)::MapAt m1 MF::MapAt m2 MB::cmC b5 c sg sp::Zp b6::Hs) w:=by
  have hw:Sat R (Zp b6::cmC b5 c sg sp::pts p (Zf b m1 m2)::MapAt m1 MF::MapAt m2 MB::Zg (A++(f,q,pl)::C)::Zh (A2++(a,x)::C2)::Hs) w:=hw;exact hw.arr
 have hw:=ZbE.1 hw;have hw:Sat R (Zh (A2++(a,x)::C2)::Ze f pl.r::ZN q pl.q::Zg (A++C)::pts p (Zf b m1 m2)::MapAt m1 MF::MapAt m2 MB::cmC b5 c sg sp::Zp b6::Hs) w:=hw.arr;have hw:=ZcC.1 hw;refine Za7 hw λ w hw=>?_;refine Zb.mk rfl ⟨some m1,oS,Zb.mk rfl ⟨x.flt,oS,some ⟨f,0,none⟩,some ⟨q,0,none⟩,λ w' h=>?_,?_⟩⟩
 ·have hm1:Sat R (MapAt m1 MF::VC.tru::pts a (Zv x)::Zh (A2++C2)::Ze f pl.r::ZN q pl.q::Zg (A++C)::pts p (Zf b m1 m2)::MapAt m2 MB::cmC b5 c sg sp::Zp b6::Hs) w':=Sat.arr h
  have:=MapAt.look Ztz hm1 x.flt false;rw [hget] at this;exact this
 refine Za hw λ b7 w hw=>⟨hw.absorb,?_⟩;refine sRu hw λ w hw=>?_;have hw:=hw.re (fqC b7 f q);have hw:Sat R (Ze f pl.r::ZN q pl.q::pts a (Zv x)::pts p (Zf b m1 m2)::MapAt m1 MF::MapAt m2 MB::Zg (A++C)::Zh (A2++C2)::Zp b6::fqC b7 f q::cmC b5 c sg sp::Hs) w:=by
  have hw:Sat R (fqC b7 f q::pts a (Zv x)::Zh (A2++C2)::Ze f pl.r::ZN q pl.q::Zg (A++C)::pts p (Zf b m1 m2)::MapAt m1 MF::MapAt m2 MB::cmC b5 c sg sp::Zp b6::Hs) w:=hw.cons λ _ h=>h.drop;exact hw.arr
 have close:∀ {w},Sat R (Ze f pl.r::ZN q pl.q::pts a (Zv x)::pts p (Zf b m1 m2)::MapAt m1 MF::MapAt m2 MB::Zg (A++C)::Zh (A2++C2)::Zp b6::fqC b7 f q::cmC b5 c sg sp::Hs) w->Sat R (Zo p b::Hs) w:=λ {w} hw=>
  (Zd9 hl hMF hMB hw).cons λ _ h=>h.drop.drop.drop
 refine Zb.mk rfl ⟨x.state,oA hw,c.kind,oA hw,?_⟩;refine Br.e (λ h3=>?_) (λ h3=>Br.e (λ h4=>?_) (λ h4=>Br.e (λ h5=>?_) (λ h5=>Br.e (λ h6=>?_) (λ h6=>by omega))))
 ·-- confirmed
  refine Zb.mk rfl ⟨x.state,oA hw,?_⟩;refine ZbL (λ h=>.inl ⟨rfl,?_⟩) (λ h=>.inr ⟨_,rfl,hX 7 w (hone.2 ?_) (close hw)⟩)
  rotate_left
  ·have h1:¬ x.state=1:=by simpa using h
   rw [if_pos h3,if_pos h1]
  have h1:x.state=1:=by simpa using h
  have hres:=hone.2 (by rw [if_pos h3,if_neg (λ h=>h h1)]);refine Zb.mk rfl ?_;have hw:Sat R (pts a (Zv x)::Ze f pl.r::ZN q pl.q::pts p (Zf b m1 m2)::MapAt m1 MF::MapAt m2 MB::Zg (A++C)::Zh (A2++C2)::Zp b6::fqC b7 f q::cmC b5 c sg sp::Hs) w:=hw.arr;refine sRu hw λ w hw=>Zb.mk rfl ?_;refine ZK hw (by kernel_rfl) rfl (by rw [Zbl];simp [Value.cells]) λ w hw=>?_;have hw:=hw.re (pts a (Zv (Zbm x)));have hw:Sat R (Ze f pl.r::ZN q pl.q::pts a (Zv (Zbm x))::pts p (Zf b m1 m2)::MapAt m1 MF::MapAt m2 MB::Zg (A++C)::Zh (A2++C2)::Zp b6::fqC b7 f q::cmC b5 c sg sp::Hs) w:=hw.arr;have hl2:Za1 { b with L:=Zdb Bk.id x.id Zbm b.L } (A++(f,q,pl)::C) (A2++(a,Zbm x)::C2):=⟨hl.fl,hl.bset k.ids Zbm⟩;refine ZgI (Hs:=fqC b7 f q::cmC b5 c sg sp::Hs) (b:={ b with L:=Zdb Bk.id x.id Zbm b.L }) (x:=Zbm x) (MB:=MB) hl2 hMF (by rw [hMB];exact (ZrP (show (Zbm x).id=x.id from rfl)).symm) hid hm (λ sl sb w' hw=>?_) hw
  have hfin:=hK sl sb w';rw [hres] at hfin;exact hfin (hw.cons λ _ h=>h.cons λ _ h=>h.cons λ _ h=>h.drop.drop)
 ·-- cancelled
  have hres:=hone.2 (by rw [if_neg h3,if_pos h4]);have hcore:=ZhC k hxL;obtain ⟨pl2,hp2⟩:∃ pl2:Pl,pl2=if x.state=3 then Zp9 x.id pl else Zdu x.id pl:=⟨_,rfl⟩
  refine ⟨λ w=>Sat R (Ze f pl2.r::ZN q pl2.q::pts a (Zv x)::pts p (Zf b m1 m2)::MapAt m1 MF::MapAt m2 MB::Zg (A++C)::Zh (A2++C2)::Zp b6::fqC b7 f q::cmC b5 c sg sp::Hs) w,?_,?_⟩
  ·refine Br.e (λ hs=>?_) (λ hs=>?_)
   ·rw [if_pos hs] at hp2
    refine Zq hw λ w hw=>⟨some ⟨q,0,none⟩,oS,Zb.mk rfl ⟨x.id,oS,?_⟩⟩;refine (Zf7 (by have:=hqok.len;omega) hw.swap).u λ w hw=>?_;rw [Zm3] at hw;refine .inl ⟨_,rfl,?_⟩;rw [hp2];exact hw.swap
   ·rw [if_neg hs] at hp2
    refine Zq hw λ w hw=>⟨some ⟨f,0,none⟩,oS,Zb.mk rfl ⟨x.id,oS,?_⟩⟩;refine (ZkY hw).u λ w hw=>?_;refine .inl ⟨_,rfl,?_⟩;rw [hp2];exact hw
  clear hw;rintro _ w hw;have hn2:pl2.n=x.flt:=by
   rw [hp2];split
   ·exact hm.num
   ·exact (Zdl (r:=pl.r) (o:=x.id)).1.trans hm.num
  have hMF2:MF=(A++(f,q,pl2)::C).map flV:=by rw [hMF];exact ZeI hn2 hm.num
  have hl2:Za1 (ZfR b x) (A++(f,q,pl2)::C) (A2++C2):=by
   refine ⟨?_,?_⟩
   ·have h1:=hl.fset hm (Zp9 x.id)
    have h2:=hl.fset hm (Zdu x.id);unfold ZfR;rw [hp2];split
    ·exact h1
    ·exact h2
   ·have h1:=hl.bdel k.ids
    unfold ZfR;split
    ·exact h1
    ·exact h1
  have hat2:(ZfR b x).at x.flt=some pl2:=(ZdV hcore).2 ⟨hl2.fl.mem_iff.1 (List.mem_map.2 ⟨(f,q,pl2),by simp,rfl⟩),hn2⟩;have hgc:Zf (ZfR b x) m1 m2=Zf b m1 m2:=by
   unfold ZfR;split<;>rfl
  refine Zq hw λ w hw=>Zb.mk rfl ⟨some m2,oS,Zb.mk rfl ⟨x.id,oS,?_⟩⟩;have hw:Sat R (MapAt m2 MB::Ze f pl2.r::ZN q pl2.q::pts a (Zv x)::pts p (Zf b m1 m2)::MapAt m1 MF::Zg (A++C)::Zh (A2++C2)::Zp b6::fqC b7 f q::cmC b5 c sg sp::Hs) w:=hw.arr;refine MapAt.del ZtS hw x.id λ w hw=>?_;rw [hMB,ZrO hbm] at hw;refine Zb.mk rfl ⟨x.flt,oA hw,?_⟩;have hw:Sat R (Ze f pl2.r::ZN q pl2.q::Zg (A++C)::MapAt m2 ((A2++C2).map bkV)::pts a (Zv x)::pts p (Zf (ZfR b x) m1 m2)::MapAt m1 ((A++(f,q,pl2)::C).map flV)::Zh (A2++C2)::Zp b6::fqC b7 f q::cmC b5 c sg sp::Hs) w:=by
   rw [hgc,<-hMF2];exact hw.arr
  have hw:=ZbE.2 hw;have hw:Sat R (pts p (Zf (ZfR b x) m1 m2)::MapAt m1 ((A++(f,q,pl2)::C).map flV)::MapAt m2 ((A2++C2).map bkV)::Zg (A++(f,q,pl2)::C)::Zh (A2++C2)::pts a (Zv x)::Zp b6::fqC b7 f q::cmC b5 c sg sp::Hs) w:=hw.arr;refine (ZdC hcore hl2 hat2 hw).use ?_;clear hw;rintro _ w ⟨rfl,fs3,xs3,hl3,hf3,hb3,hw⟩;refine .inl ⟨rfl,c.pnr,oA hw,?_⟩;have hw:Sat R (Zp b6::pts p (Zf (Zy x.flt (ZfR b x)) m1 m2)::MapAt m1 ((A++(f,q,pl2)::C).map flV)::MapAt m2 ((A2++C2).map bkV)::Zg fs3::Zh xs3::pts a (Zv x)::fqC b7 f q::cmC b5 c sg sp::Hs) w:=hw.arr;refine sRu hw λ w hw=>?_;have hw:=hw.re (rpC b6 ⟨0,c.pnr,0,0,0,0,0,[],[]⟩ Zn Zn);refine ⟨_,_,_,_,_,_,_,Zn,Zn,oA hw,?_⟩;have hfin:=hK Zn Zn w;rw [hres] at hfin;refine hfin (Own.nil (Own.nil ?_));rw [<-hf3,<-hb3] at hw;have hw:Sat R (pts p (Zf (Zy x.flt (ZfR b x)) m1 m2)::MapAt m1 (fs3.map flV)::MapAt m2 (xs3.map bkV)::Zg fs3::Zh xs3::pts a (Zv x)::fqC b7 f q::cmC b5 c sg sp::Hs) w:=hw.drop;exact (Sat.book.2 ⟨m1,m2,fs3,xs3,hl3,hw⟩).cons λ _ h=>h.drop.drop.drop
 ·-- a seat
  refine ZbL (λ h=>.inl ⟨rfl,?_⟩) (λ h=>.inr ⟨_,rfl,hX 7 w (hone.2 ?_) (close hw)⟩)
  rotate_left
  ·have h1:x.state=3:=by simpa using h
   rw [if_neg h3,if_neg h4,if_pos h1]
  have h1:¬ x.state=3:=by simpa using h
  refine Zr (Sat R [pts a (Zv x),fqC b7 f q,cmC b5 c sg sp,VC.tru]) hw (λ w hw=>?_) λ w hw=>?_
  ·exact (hw.arr (Hs':=pts a (Zv x)::fqC b7 f q::cmC b5 c sg sp::Ze f pl.r::ZN q pl.q::pts p (Zf b m1 m2)::MapAt m1 MF::MapAt m2 MB::Zg (A++C)::Zh (A2++C2)::Zp b6::Hs)).cons λ _ h=>h.cons λ _ h=>h.restTru2
  refine ⟨some ⟨f,0,none⟩,oS,Zb.mk rfl ⟨x.id,oS,c.lab,oS,?_⟩⟩;refine (ZqG (by omega) hw).u λ w hw=>?_;refine .inl ⟨_,rfl,?_⟩;refine ZeF (λ h0=>.inl ⟨rfl,?_,?_⟩) (λ h0=>.inr ⟨_,rfl,hX _ w (hone.2 (by rw [if_neg h3,if_neg h4,if_neg h1,if_pos h5,if_pos h0])) ?_⟩)
  rotate_left 2
  ·rw [ZmX h0] at hw
   exact close hw
  ·exact (hw.arr (Hs':=pts a (Zv x)::fqC b7 f q::cmC b5 c sg sp::Ze f (ZO pl.r x.id c.lab).1::ZN q pl.q::pts p (Zf b m1 m2)::MapAt m1 MF::MapAt m2 MB::Zg (A++C)::Zh (A2++C2)::Zp b6::Hs)).cons λ _ h=>h.cons λ _ h=>h.restTru2
  have hres:=hone.2 (by rw [if_neg h3,if_neg h4,if_neg h1,if_pos h5,if_neg (λ h=>h h0)]);have hn2:(ZaU (ZO pl.r x.id c.lab).1 pl).n=x.flt:=(ZlH hg h0).num.trans hm.num;have hl2:Za1 (b.put x.flt (ZaU (ZO pl.r x.id c.lab).1) b.L) (A++(f,q,ZaU (ZO pl.r x.id c.lab).1 pl)::C) (A2++(a,x)::C2):=⟨hl.fset hm (ZaU (ZO pl.r x.id c.lab).1),hl.bk⟩;refine ZgI (Hs:=fqC b7 f q::cmC b5 c sg sp::Hs) hl2 (by rw [hMF];exact (ZeI hm.num hn2).symm) hMB hid ⟨hn2,hm.a,hm.c⟩ (λ sl sb w' hw=>?_) hw;have hfin:=hK sl sb w';rw [hres] at hfin;exact hfin (hw.cons λ _ h=>h.cons λ _ h=>h.cons λ _ h=>h.drop.drop)
 ·-- seats of themselves
  refine ZbL (λ h=>.inl ⟨rfl,?_⟩) (λ h=>.inr ⟨_,rfl,hX 7 w (hone.2 ?_) (close hw)⟩)
  rotate_left
  ·have h1:x.state=3:=by simpa using h
   rw [if_neg h3,if_neg h4,if_pos h1]
  have h1:¬ x.state=3:=by simpa using h
  refine Zq hw λ w hw=>⟨some ⟨f,0,none⟩,oS,Zb.mk rfl ⟨x.id,oS,?_⟩⟩;refine (ZqH hw).u1 λ t w hw=>?_;have hw:=hw.drop;refine .inl ⟨_,_,rfl,?_⟩;refine ZeF (λ h0=>.inl ⟨rfl,?_⟩) (λ h0=>.inr ⟨_,rfl,hX _ w (hone.2 (by rw [if_neg h3,if_neg h4,if_neg h1,if_neg h5,if_pos h0])) ?_⟩)
  rotate_left
  ·rw [ZrY h0] at hw
   exact close hw
  have hres:=hone.2 (by rw [if_neg h3,if_neg h4,if_neg h1,if_neg h5,if_neg (λ h=>h h0)]);have hn2:(ZaU (ZM pl.r x.id).1 pl).n=x.flt:=(ZmC h0).num.trans hm.num;have hl2:Za1 (b.put x.flt (ZaU (ZM pl.r x.id).1) b.L) (A++(f,q,ZaU (ZM pl.r x.id).1 pl)::C) (A2++(a,x)::C2):=⟨hl.fset hm (ZaU (ZM pl.r x.id).1),hl.bk⟩;refine ZgI (Hs:=fqC b7 f q::cmC b5 c sg sp::Hs) hl2 (by rw [hMF];exact (ZeI hm.num hn2).symm) hMB hid ⟨hn2,hm.a,hm.c⟩ (λ sl sb w' hw=>?_) hw;have hfin:=hK sl sb w';rw [hres] at hfin;exact hfin (hw.cons λ _ h=>h.cons λ _ h=>h.cons λ _ h=>h.drop.drop)
theorem ZmU {l m:List Int} (hp:l.Perm m) (h:m.Pairwise λ a b=>a<b):Zgg l=m:=by
 have tr:∀ a b c:Int,decide (a<=b)=true->decide (b<=c)=true->decide (a<=c)=true:=λ a b c h1 h2=>by simp only [decide_eq_true_eq] at *;omega
 have to:∀ a b:Int,(decide (a<=b)||decide (b<=a))=true:=λ a b=>by simp only [Bool.or_eq_true,decide_eq_true_eq];omega
 exact List.Perm.eq_of_pairwise (λ a b _ _ h1 h2=>by simp only [decide_eq_true_eq] at h1 h2;omega) (List.pairwise_mergeSort tr to l) (h.imp λ hab=>by simp only [decide_eq_true_eq];omega) ((List.mergeSort_perm l _).trans hp)
theorem ZwW {b:ZE} {fs:List FE} {xs:List BE} (hl:Za1 b fs xs):(xs.map bkV).map (·.1)=b.L.map Bk.id:=by
 rw [<-hl.bk,List.map_map,List.map_map];rfl
theorem ZuN {b:ZE} {fs:List FE} {xs:List BE} (hl:Za1 b fs xs):((fs.map flV).map (·.1)).Perm (b.fl.map Pl.n):=by
 have:=hl.fl.map Pl.n;rw [List.map_map] at this ⊢;exact this
theorem Zm0 {b:ZE} (k:Core b):(b.L.map Bk.id).Pairwise λ a b=>a<b:=List.pairwise_map.2 k.ids
theorem ZkC {b:ZE} (k:Core b):(b.fl.map Pl.n).Pairwise λ a b=>a<b:=List.pairwise_map.2 k.nums
theorem Zxr {l:List Int} (h:l.Pairwise λ a b=>a<b):l.Nodup:=h.imp λ hab=>by omega
theorem Zh2 {m:Nat} {b:ZE} {fs:List FE} {xs:List BE} {K:Sl->World->Prop} (k:Core b) (hl:Za1 b fs xs) (hw:Sat R (MapAt m (xs.map bkV)::Hs) w)
  (kk:∀ s w',Sat R (Own s 3 (Zc (b.L.map Bk.id))::MapAt m (xs.map bkV)::Hs) w'->K s w'):
  nC 66 #[.map (some m)] w λ e w1=>∃ t:Value,e=.returned t/\nC 61 #[t] w1 λ e w2=>∃ t:Sl,e=.returned (.slice t.a t.len t.cap)/\K t w2:=by
 have hk:=ZwW hl;obtain ⟨l,c,hs,hst,hp⟩:=MapAt.iff.1 hw;obtain ⟨D0,hown,hsz,hperm⟩:=Ze8 hs hst (by rw [hk];exact Zxr (Zm0 k)) (λ i hi=>by
  rw [hk] at hi;obtain ⟨x,hx,rfl⟩:=List.mem_map.1 hi;have:=(k.each x hx).id;have:=k.next;omega) (by rw [List.length_map,ZnE hl];have:=k.many;omega) hp.at
 refine (callsIn_wide.1 (Tryz.maps_Keys_66 (some m) w)).mono ?_;rintro _ _ ⟨rfl,rfl⟩;refine ⟨_,rfl,?_⟩;refine (callsIn_wide.1 (Tryz.slices_Sorted_keys_61_66 m _ D0 _ w hown (by unfold maxLen;omega) (by omega))).mono ?_;rintro _ w' ⟨v,ss,rfl,hS,hrow,hnil,hb⟩;have hw1:Sat R (MapAt m (xs.map bkV)::Hs) (w.alloc (.cells #[.map (some m)] 78)):=(Sat.alloc _ hw).drop;obtain ⟨s,rfl,h3⟩:=Sat.ownsRow hw1 hb hrow;refine ⟨s,rfl,kk s _ ?_⟩;have e:=ZmU (List.Perm.of_eq hk) (Zm0 k);rw [<-Zd1 (hperm ss hS)] at e;rw [<-e];exact h3
theorem Zh1 {m:Nat} {b:ZE} {fs:List FE} {xs:List BE} {K:Sl->World->Prop} (k:Core b) (hl:Za1 b fs xs) (hw:Sat R (MapAt m (fs.map flV)::Hs) w)
  (kk:∀ s w',Sat R (Own s 3 (Zc (b.fl.map Pl.n))::MapAt m (fs.map flV)::Hs) w'->K s w'):
  nC 62 #[.map (some m)] w λ e w1=>∃ t:Value,e=.returned t/\nC 61 #[t] w1 λ e w2=>∃ t:Sl,e=.returned (.slice t.a t.len t.cap)/\K t w2:=by
 have hk:=ZuN hl;obtain ⟨l,c,hs,hst,hp⟩:=MapAt.iff.1 hw;obtain ⟨D0,hown,hsz,hperm⟩:=Ze8 hs hst (hk.nodup_iff.2 (Zxr (ZkC k))) (λ i hi=>by
  obtain ⟨x,hx,rfl⟩:=List.mem_map.1 (hk.mem_iff.1 hi);have:=(k.good x hx).num;show -1000000000<=x.r.num/\x.r.num<=1000000000;omega) (by rw [List.length_map,Zrj hl];have:=k.few;omega) hp.at
 refine (callsIn_wide.1 (Tryz.maps_Keys_62 (some m) w)).mono ?_;rintro _ _ ⟨rfl,rfl⟩;refine ⟨_,rfl,?_⟩;refine (callsIn_wide.1 (Tryz.slices_Sorted_keys_61_62 m _ D0 _ w hown (by unfold maxLen;omega) (by omega))).mono ?_;rintro _ w' ⟨v,ss,rfl,hS,hrow,hnil,hb⟩;have hw1:Sat R (MapAt m (fs.map flV)::Hs) (w.alloc (.cells #[.map (some m)] 77)):=(Sat.alloc _ hw).drop;obtain ⟨s,rfl,h3⟩:=Sat.ownsRow hw1 hb hrow;refine ⟨s,rfl,kk s _ ?_⟩;have e:=ZmU hk (ZkC k);rw [<-Zd1 (hperm ss hS)] at e;rw [<-e];exact h3
theorem ZtE {g1 g2:FuncId} {m:Nat} {K:Sl->World->Prop} {E1 E2:Ending->World->Prop}
  (h:Calls prog g1 #[.map (some m)] w λ e w1=>∃ t:Value,e=.returned t/\Calls prog g2 #[t] w1 λ e w2=>∃ t:Sl,e=.returned (.slice t.a t.len t.cap)/\K t w2):
  Calls prog g1 #[.map (some m)] w λ e w1=>(∃ t:Value,(e=.returned t)/\Calls prog g2 #[t] w1 λ e w2=>(∃ t:Sl,(e=.returned (.slice t.a t.len t.cap))/\K t w2)\/E2 e w2)\/E1 e w1:=by
 refine h.mono ?_;rintro _ w ⟨t,rfl,h⟩;refine .inl ⟨t,rfl,h.mono ?_⟩;rintro _ w ⟨t,rfl,h⟩;exact .inl ⟨t,rfl,h⟩
theorem Zql {p:Nat} {b:ZE} {n:Int} (k:Core b) (hn:n∈b.fl.map Pl.n) (hw:Sat R (Zo p b::Hs) w):
  Zk prog 103 #[nP p,nI n] w λ v w'=>v=.tuple #[]/\Sat R (Zo p (Zy n b)::Hs) w':=by
 obtain ⟨pl,hpl,hpn⟩:=List.mem_map.1 hn;obtain ⟨m1,m2,fs,xs,hl,hw⟩:=Sat.book.1 hw;refine (ZdC k hl ((ZdV k).2 ⟨hpl,hpn⟩) hw).use ?_;clear hw;rintro _ w ⟨rfl,fs',xs',hl',h1,h2,hw⟩;refine ⟨_,rfl,rfl,Sat.book.2 ⟨m1,m2,fs',xs',hl',?_⟩⟩;rw [h1,h2];exact hw
structure ExpI (b:ZE) (t:Int) (j:Nat) (b':ZE):Prop where
 res:Zb6 b t=Zc2 (b.L.drop j) b'
 core:Core b'
 now:b'.now=t
 left:∀ x∈b.L.drop j,x∈b'.L
structure Zz9 (ns:List Int) (t:Int) (B:ZE) (j:Nat) (b':ZE):Prop where
 res:Zbn ns B=Zbn (ns.drop j) b'
 core:Core b'
 now:b'.now=t
 nums:b'.fl.map Pl.n=ns
theorem Zo0 {p:Nat} {b:ZE} {c:Cm} {sg sp:Sl} (k:Core b) (hr:Z5 c) (hw:Sat R (Zo p b::Hs) w):
  Zcg prog 41 #[nP p,.agg #[nI c.kind,.string c.pnr,nI c.flt,nI c.cls,nI c.many,nI c.time,.float .f64 c.sc,.string c.lab,nI c.rows,.slice sg.a sg.len sg.cap,.slice sp.a sp.len sp.cap]] w
   (λ ch w'=>∃ e,ch=ZiA e/\Zay b c=(b,Z1 e)/\Sat R (Zo p b::Hs) w')
   (λ v w'=>∃ sl sb:Sl,v=.agg (rpV (Zay b c).2 sl sb).toArray/\Sat R (Own sl 3 (Zc (Zay b c).2.left)::Own sb 9 ((Zay b c).2.labs.map Value.string)::Zo p (Zay b c).1::Hs) w'):=by
 apply Zyc
 suffices H:∀ (X:List PanicEntry->World->Prop) (K:nK),(∀ e w',Zay b c=(b,Z1 e)->Sat R (Zo p b::Hs) w'->X (ZiA e) w')->
   (∀ w',¬ c.time<b.now->Sat R (Zo p (Zay b c).1::Hs) w'->K (.agg (rpV ⟨0,emS,0,0,0,0,c.time,[],[]⟩ Zn Zn).toArray) w')->B41 (some ⟨p,0,none⟩) c.kind c.pnr c.flt c.cls c.many c.time c.sc c.lab c.rows sg sp X K w from
  H _ _ (λ e w' h1 h2=>⟨e,rfl,h1,h2⟩) (λ w' h1 h2=>by
   have e:(Zay b c).2=⟨0,emS,0,0,0,0,c.time,[],[]⟩:=by unfold Zay;rw [if_neg h1]
   rw [e];exact ⟨Zn,Zn,rfl,Own.nil (Own.nil h2)⟩)
 intro X K hX hK;have htm:=hr.time;obtain ⟨m1,m2,fs,xs,hl,hw⟩:=Sat.book.1 hw;refine Za hw λ b3 w hw=>Za hw λ b4 w hw=>?_;have hw:Sat R (pts p (Zf b m1 m2)::MapAt m1 (fs.map flV)::MapAt m2 (xs.map bkV)::Zg fs::Zh xs::Zp b4::cmC b3 c sg sp::Hs) w:=by
  have hw:Sat R (Zp b4::cmC b3 c sg sp::pts p (Zf b m1 m2)::MapAt m1 (fs.map flV)::MapAt m2 (xs.map bkV)::Zg fs::Zh xs::Hs) w:=hw;exact hw.arr
 refine Zq hw λ w hw=>⟨c.time,oS,Zb.mk rfl ⟨b.now,oS,?_⟩⟩;refine ZbL (λ h=>.inl ⟨rfl,hw,?_⟩) (λ h=>.inr ⟨_,rfl,hX 7 w ?_ ((Sat.book.2 ⟨m1,m2,fs,xs,hl,hw⟩).cons λ _ h=>h.drop.drop)⟩)
 rotate_left
 ·have:=of_decide_eq_false h
  unfold Zay;rw [if_pos (by omega)]
 have ht:¬ c.time<b.now:=by have:=of_decide_eq_true h;omega
 have hclock:(Zay b c).1=Zbn (b.fl.map Pl.n) (Zb6 b c.time):=by unfold Zay;rw [if_neg ht]
 refine ⟨c.time,oA hw,Zb.mk rfl ?_⟩;rw [Zs];refine sRu hw λ w hw=>?_;have k1:=ZjN k htm;obtain ⟨b1,hb1⟩:∃ b1,b1={ b with now:=c.time }:=⟨_,rfl⟩;have hw:Sat R (pts p (Zf b1 m1 m2)::MapAt m1 (fs.map flV)::MapAt m2 (xs.map bkV)::Zg fs::Zh xs::Zp b4::cmC b3 c sg sp::Hs) w:=by
  rw [hb1];exact hw.re (pts p (Zf { b with now:=c.time } m1 m2))
 have hl1:Za1 b1 fs xs:=by rw [hb1];exact ⟨hl.fl,hl.bk⟩
 rw [<-hb1] at k1;have hL1:b1.L=b.L:=by rw [hb1]
 refine Zb.mk rfl ⟨some m2,oA hw,?_⟩;have hw:Sat R (MapAt m2 (xs.map bkV)::pts p (Zf b1 m1 m2)::MapAt m1 (fs.map flV)::Zg fs::Zh xs::Zp b4::cmC b3 c sg sp::Hs) w:=hw.arr;refine ZtE (Zh2 k1 hl1 hw ?_);clear hw;intro s w hw;have hw:Sat R (Own s 3 (Zc (b.L.map Bk.id))::Zo p b1::Zp b4::cmC b3 c sg sp::Hs) w:=by
  rw [hL1] at hw;refine hw.cons λ _ hw=>Sat.book.2 ⟨m1,m2,fs,xs,hl1,?_⟩;exact hw.arr
 obtain ⟨ids,hids⟩:∃ ids,ids=b.L.map Bk.id:=⟨_,rfl⟩;have hil:ids.length=b.L.length:=by rw [hids,List.length_map]
 rw [<-hids] at hw;have hLm:=k.many;refine ⟨λ t w=>∃ (j:Nat) (b':ZE),t=j/\j<=b.L.length/\ExpI b c.time j b'/\Sat R (Own s 3 (Zc ids)::Zo p b'::Zp b4::cmC b3 c sg sp::Hs) w,λ t _=>b.L.length - t.toNat,⟨0,b1,rfl,Nat.zero_le _,⟨by rw [hb1];rfl,k1,by rw [hb1],λ x hx=>by rw [hL1];exact hx⟩,hw⟩,?_⟩;clear hw;rintro _ _ w ⟨j,b',rfl,hj,hi,hw⟩;have hsl:=Own.len hw;rw [List.length_map,hil] at hsl;refine Br.d (λ hlt=>?_) (λ hge=>?_)
 ·have hjl:j<b.L.length:=by omega
  obtain ⟨x,hx⟩:∃ x,x=b.L[j]:=⟨_,rfl⟩;have hdrop:b.L.drop j=x::b.L.drop (j + 1):=by rw [hx];exact List.drop_eq_getElem_cons hjl
  have hget:∀ h:j<ids.length,ids[j]=x.id:=λ h=>by subst hids;rw [List.getElem_map,hx]
  refine Own.ix hw (eqS hw) j rfl (by omega) ?_;rw [hget];obtain ⟨m1,m2,fs,xs,hl,hw⟩:=Sat.book.1 hw.swap;have hxL:x∈b'.L:=hi.left x (by rw [hdrop];simp);obtain ⟨pl,hat⟩:=hi.core.at_of hxL;obtain ⟨A,f,q,C,rfl,hm⟩:=Zdm hl hi.core.nums hat;obtain ⟨A2,a,C2,rfl,hbm⟩:=Zfs hl hi.core.ids hxL;obtain ⟨MF,hMF⟩:∃ M,M=(A++(f,q,pl)::C).map flV:=⟨_,rfl⟩;obtain ⟨MB,hMB⟩:∃ M,M=(A2++(a,x)::C2).map bkV:=⟨_,rfl⟩;have hgetf:ZH x.flt MF=some (.agg #[nP f,nP q]):=by rw [hMF];exact Zix hm
  have hgetb:ZH x.id MB=some (nP a):=by rw [hMB];exact Zlp hbm
  rw [<-hMF,<-hMB] at hw;have hw:Sat R (Zg (A++(f,q,pl)::C)::Zh (A2++(a,x)::C2)::pts p (Zf b' m1 m2)::MapAt m1 MF::MapAt m2 MB::Own s 3 (Zc ids)::Zp b4::cmC b3 c sg sp::Hs) w:=hw.arr;have hw:=ZbE.1 hw;have hw:Sat R (Zh (A2++(a,x)::C2)::Ze f pl.r::ZN q pl.q::Zg (A++C)::pts p (Zf b' m1 m2)::MapAt m1 MF::MapAt m2 MB::Own s 3 (Zc ids)::Zp b4::cmC b3 c sg sp::Hs) w:=hw.arr;have hw:=ZcC.1 hw;have hw:Sat R (Ze f pl.r::ZN q pl.q::pts a (Zv x)::pts p (Zf b' m1 m2)::MapAt m1 MF::MapAt m2 MB::Zg (A++C)::Zh (A2++C2)::Own s 3 (Zc ids)::Zp b4::cmC b3 c sg sp::Hs) w:=hw.arr;refine Zb.mk rfl ⟨some m2,oA hw,some ⟨a,0,none⟩,λ w' e=>?_,?_⟩
  ·rw [show w'=w from e]
   have hm1:Sat R (MapAt m2 MB::Ze f pl.r::ZN q pl.q::pts a (Zv x)::pts p (Zf b' m1 m2)::MapAt m1 MF::Zg (A++C)::Zh (A2++C2)::Own s 3 (Zc ids)::Zp b4::cmC b3 c sg sp::Hs) w:=hw.arr;have:=MapAt.look ZtS hm1 x.id false;rw [hgetb] at this;exact this
  refine ⟨λ t w=>t=old b'.now x/\Sat R (Ze f pl.r::ZN q pl.q::pts a (Zv x)::pts p (Zf b' m1 m2)::MapAt m1 MF::MapAt m2 MB::Zg (A++C)::Zh (A2++C2)::Own s 3 (Zc ids)::Zp b4::cmC b3 c sg sp::Hs) w,?_,?_⟩
  ·refine Zq hw λ w hw=>Zb.mk rfl ⟨x.state,oS,Br.e (λ h1=>?_) (λ h1=>?_)⟩
   ·refine Zb.mk rfl ⟨x.till,oS,Zb.mk rfl ⟨b'.now,oS,?_,hw⟩⟩
    unfold old;rw [decide_eq_true h1,Bool.true_and]
   ·refine ⟨?_,hw⟩
    unfold old;rw [decide_eq_false h1,Bool.false_and]
  clear hw;rintro _ _ w ⟨rfl,hw⟩;have hexp:∀ b2,(if old b'.now x then ZcS b' x else b')=b2->Zb6 b c.time=Zc2 (b.L.drop (j + 1)) b2:=λ b2 e=>by
   rw [hi.res,hdrop,<-e];rfl
  have hwr:wI ((j:Int) + 1)=((j + 1:Nat):Int):=by rw [Zd];omega
  rw [hwr];cases hold:old b'.now x with
  |false=>
   rw [hold] at hexp;refine Br.f rfl ⟨⟨j + 1,b',rfl,hjl,⟨hexp _ rfl,hi.core,hi.now,λ y hy=>hi.left y (by rw [hdrop];exact List.mem_cons_of_mem _ hy)⟩,?_⟩,by dsimp only;omega⟩;have hw:=Zd9 hl hMF hMB hw;exact hw.swap
  |true=>
   rw [hold] at hexp;have hst:x.state=1:=by
    unfold old at hold;simp only [Bool.and_eq_true,decide_eq_true_eq] at hold;exact hold.1
   refine Br.t rfl ?_;refine Zr (Sat R [pts p (Zf b' m1 m2),pts a (Zv x),MapAt m1 MF,VC.tru]) hw (λ w hw=>?_) λ w hw=>?_
   ·exact (hw.arr (Hs':=pts p (Zf b' m1 m2)::pts a (Zv x)::MapAt m1 MF::Ze f pl.r::ZN q pl.q::MapAt m2 MB::Zg (A++C)::Zh (A2++C2)::Own s 3 (Zc ids)::Zp b4::cmC b3 c sg sp::Hs)).cons λ _ h=>h.cons λ _ h=>h.restTru2
   refine Zb.mk rfl ⟨some m1,oS,Zb.mk rfl ⟨x.flt,oS,some ⟨f,0,none⟩,some ⟨q,0,none⟩,λ w' h=>?_,?_⟩⟩
   ·have hm1:Sat R (MapAt m1 MF::pts p (Zf b' m1 m2)::pts a (Zv x)::[VC.tru]) w':=Sat.arr h
    have:=MapAt.look Ztz hm1 x.flt false;rw [hgetf] at this;exact this
   refine (ZkY hw).u λ w hw=>?_;refine .inl ⟨_,rfl,?_,Zb.mk rfl ⟨some m2,oA hw,?_⟩⟩
   ·exact (hw.arr (Hs':=pts p (Zf b' m1 m2)::pts a (Zv x)::MapAt m1 MF::Ze f (ZaX pl.r x.id).1::ZN q pl.q::MapAt m2 MB::Zg (A++C)::Zh (A2++C2)::Own s 3 (Zc ids)::Zp b4::cmC b3 c sg sp::Hs)).cons λ _ h=>h.cons λ _ h=>h.restTru2
   have hw:Sat R (Ze f (Zdu x.id pl).r::ZN q (Zdu x.id pl).q::pts a (Zv x)::pts p (Zf (ZcS b' x) m1 m2)::MapAt m1 MF::MapAt m2 MB::Zg (A++C)::Zh (A2++C2)::Own s 3 (Zc ids)::Zp b4::cmC b3 c sg sp::Hs) w:=hw;have hw:Sat R (MapAt m2 MB::Ze f (Zdu x.id pl).r::ZN q (Zdu x.id pl).q::pts a (Zv x)::pts p (Zf (ZcS b' x) m1 m2)::MapAt m1 MF::Zg (A++C)::Zh (A2++C2)::Own s 3 (Zc ids)::Zp b4::cmC b3 c sg sp::Hs) w:=hw.arr;refine MapAt.del ZtS hw x.id λ w hw=>?_;rw [hMB,ZrO hbm] at hw;have hn2:(Zdu x.id pl).n=x.flt:=(Zdl (r:=pl.r) (o:=x.id)).1.trans hm.num;have hl2:Za1 (ZcS b' x) (A++(f,q,Zdu x.id pl)::C) (A2++C2):=⟨hl.fset hm (Zdu x.id),hl.bdel hi.core.ids⟩;have hMF2:MF=(A++(f,q,Zdu x.id pl)::C).map flV:=by rw [hMF];exact ZeI hn2 hm.num
   have hlater:∀ y∈b.L.drop (j + 1),y.id≠x.id:=λ y hy=>by
    have h1:=k.ids.sublist (List.drop_sublist j b.L);rw [hdrop] at h1;have:=(List.pairwise_cons.1 h1).1 y hy;omega
   refine ⟨⟨j + 1,ZcS b' x,rfl,hjl,⟨hexp _ rfl,Zfo hi.core hxL (by omega),hi.now,λ y hy=>?_⟩,?_⟩,by dsimp only;omega⟩
   ·exact Zce.2 ⟨hi.left y (by rw [hdrop];exact List.mem_cons_of_mem _ hy),hlater y hy⟩
   ·have hw:Sat R (Ze f (Zdu x.id pl).r::ZN q (Zdu x.id pl).q::pts p (Zf (ZcS b' x) m1 m2)::MapAt m1 MF::MapAt m2 ((A2++C2).map bkV)::Zg (A++C)::Zh (A2++C2)::Own s 3 (Zc ids)::pts a (Zv x)::Zp b4::cmC b3 c sg sp::Hs) w:=hw.arr
    have hw:=Zbt hl2 hMF2 rfl hw;exact hw.swap.cons λ _ h=>h.cons λ _ h=>h.drop
 ·have hje:j=b.L.length:=by omega
  subst hje;have htk:Zb6 b c.time=b':=by rw [hi.res,List.drop_length];rfl
  obtain ⟨m1,m2,fs,xs,hl,hw⟩:=Sat.book.1 hw.swap;refine Zb.mk rfl ⟨some m1,oA hw,?_⟩;have hw:Sat R (MapAt m1 (fs.map flV)::pts p (Zf b' m1 m2)::MapAt m2 (xs.map bkV)::Zg fs::Zh xs::Own s 3 (Zc ids)::Zp b4::cmC b3 c sg sp::Hs) w:=hw.arr;refine ZtE (Zh1 hi.core hl hw ?_);clear hw;intro s2 w hw;obtain ⟨ns,hns⟩:∃ ns,ns=b'.fl.map Pl.n:=⟨_,rfl⟩;rw [<-hns] at hw;have hnl:ns.length<=8:=by rw [hns,List.length_map];exact hi.core.few
  have hkeys:=(ZgH k htm).2.2.2.2;rw [htk,<-hns] at hkeys;rw [<-hkeys,htk] at hclock;have hw:Sat R (Own s2 3 (Zc ns)::Zo p b'::Own s 3 (Zc ids)::Zp b4::cmC b3 c sg sp::Hs) w:=by
   refine hw.cons λ _ hw=>Sat.book.2 ⟨m1,m2,fs,xs,hl,?_⟩;exact hw.arr
  refine ⟨λ t w=>∃ (j:Nat) (b2:ZE),t=j/\j<=ns.length/\Zz9 ns c.time b' j b2/\Sat R (Own s2 3 (Zc ns)::Zo p b2::Own s 3 (Zc ids)::Zp b4::cmC b3 c sg sp::Hs) w,λ t _=>ns.length - t.toNat,⟨0,b',rfl,Nat.zero_le _,⟨rfl,hi.core,hi.now,hns.symm⟩,hw⟩,?_⟩;clear hw;rintro _ _ w ⟨j,b2,rfl,hj,hi2,hw⟩;have hsl2:=Own.len hw;rw [List.length_map] at hsl2;refine Br.d (λ hlt=>?_) (λ hge=>?_)
  ·have hjl:j<ns.length:=by omega
   obtain ⟨n,hn⟩:∃ n,n=ns[j]:=⟨_,rfl⟩;have hdrop:ns.drop j=n::ns.drop (j + 1):=by rw [hn];exact List.drop_eq_getElem_cons hjl
   refine Own.ix hw (eqS hw) j rfl hjl ?_;rw [<-hn];have hwr:wI ((j:Int) + 1)=((j + 1:Nat):Int):=by rw [Zd];omega
   rw [hwr];refine (Zql hi2.core (by rw [hi2.nums,hn];exact List.getElem_mem hjl) hw.swap).u λ w hw=>?_;have hok:=Zbb (n:=n) hi2.core;refine .inl ⟨rfl,⟨j + 1,Zy n b2,rfl,hjl,⟨?_,hok.1,hok.2.1.now.trans hi2.now,hok.2.1.keys.trans hi2.nums⟩,hw.swap⟩,by dsimp only;omega⟩;rw [hi2.res,hdrop];rfl
  ·have hje:j=ns.length:=by omega
   subst hje;have hfin:Zbn ns b'=b2:=by rw [hi2.res,List.drop_length];rfl
   rw [hfin] at hclock;obtain ⟨m1,m2,fs,xs,hl,hw⟩:=Sat.book.1 hw.swap;refine Zb.mk rfl ⟨b2.now,oA hw,?_⟩;rw [hi2.now];have hw:Sat R (Zp b4::pts p (Zf b2 m1 m2)::MapAt m1 (fs.map flV)::MapAt m2 (xs.map bkV)::Zg fs::Zh xs::Own s2 3 (Zc ns)::Own s 3 (Zc ids)::cmC b3 c sg sp::Hs) w:=hw.arr;refine sRu hw λ w hw=>?_;have hw:=hw.re (rpC b4 ⟨0,emS,0,0,0,0,c.time,[],[]⟩ Zn Zn);refine ⟨_,_,_,_,_,_,_,Zn,Zn,oA hw,hK w ht ?_⟩;rw [hclock];exact (Sat.book.2 ⟨m1,m2,fs,xs,hl,hw.drop⟩).cons λ _ h=>h.drop.drop.drop
abbrev cmA (c:Cm) (sg sp:Sl):Value:=.agg #[nI c.kind,.string c.pnr,nI c.flt,nI c.cls,nI c.many,nI c.time,.float .f64 c.sc,.string c.lab,nI c.rows,.slice sg.a sg.len sg.cap,.slice sp.a sp.len sp.cap]
abbrev Zyu (b4:Nat) (K:nK) (w : nW):Prop:=
 ∃ u:Int,∃ u1:ByteArray,∃ u2:Int,∃ u3:Int,∃ u4:Int,∃ u5:Int,∃ u6:Int,∃ u7:Sl,∃ u8:Sl,(At (λ w'=>w'=w) ⟨b4,0,none⟩ [nI u,.string u1,nI u2,nI u3,nI u4,nI u5,nI u6,.slice u7.a u7.len u7.cap,.slice u8.a u8.len u8.cap])/\
  K (.agg #[nI u,.string u1,nI u2,nI u3,nI u4,nI u5,nI u6,.slice u7.a u7.len u7.cap,.slice u8.a u8.len u8.cap]) w
theorem ZzM {b4:Nat} {r:Rp} {sl sb:Sl} {K:Value->World->Prop} (hw:Sat R (rpC b4 r sl sb::Hs) w) (k:K (.agg (rpV r sl sb).toArray) w):Zyu b4 K w:=
 ⟨_,_,_,_,_,_,_,sl,sb,oA hw,k⟩
theorem Zi1 {b4:Nat} {r r0:Rp} {sl sb l0 b0:Sl} {K:Value->World->Prop} (hw:Sat R (rpC b4 r0 l0 b0::Hs) w) (k:∀ w',Sat R Hs w'->K (.agg (rpV r sl sb).toArray) w'):
  ∃ t0:Int,∃ t1:ByteArray,∃ t2:Int,∃ t3:Int,∃ t4:Int,∃ t5:Int,∃ t6:Int,∃ t7:Sl,∃ t8:Sl,(Ending.returned (.agg (rpV r sl sb).toArray)=.returned (.agg #[nI t0,.string t1,nI t2,nI t3,nI t4,nI t5,nI t6,.slice t7.a t7.len t7.cap,.slice t8.a t8.len t8.cap]))/\
   ∃ w_6:World,((Instr.storeAt 33 (.pointer ((some ⟨b4,0,none⟩))) (.agg #[nI t0,.string t1,nI t2,nI t3,nI t4,nI t5,nI t6,.slice t7.a t7.len t7.cap,.slice t8.a t8.len t8.cap])).run prog w=.ok () w_6)/\
    Zad prog 36 [.pointer ((some ⟨b4,0,none⟩))] .returning (Zyu b4 K) w_6:=by
 refine ⟨_,_,_,_,_,_,_,sl,sb,rfl,?_⟩;refine sRu hw λ w hw=>?_;have hw:=hw.re (rpC b4 r sl sb);exact Zmw (ZzM hw (k w hw.drop))
theorem ZbY {b4:Nat} {r0:Rp} {l0 b0:Sl} {e:Int} {K:Value->World->Prop} (hw:Sat R (rpC b4 r0 l0 b0::Hs) w) (k:∀ w',Sat R Hs w'->K (.agg (rpV (Z1 e) Zn Zn).toArray) w'):
  Zad prog 36 [.pointer ((some ⟨b4,0,none⟩))] (.panicking (ZiA e)) (Zyu b4 K) w:=
 ZrF hw λ w hw=>ZzM hw (k w hw.drop)
theorem Zcm {b4:Nat} (hw:Sat R (Zp b4::Hs) w):Sat R (rpC b4 ⟨0,emS,0,0,0,0,0,[],[]⟩ Zn Zn::Hs) w:=hw
def ZnM (p a:Nat) (b:ZE) (x:Bk) (R:Cx) (Hs:List HP) (w : nW):Prop:=∃ (m1 m2:Nat) (fs:List FE) (A2 C2:List BE),Za1 b fs (A2++(a,x)::C2)/\Zr8 A2 C2 x/\
 Sat R (pts p (Zf b m1 m2)::MapAt m1 (fs.map flV)::MapAt m2 ((A2++(a,x)::C2).map bkV)::Zg fs::Zh (A2++(a,x)::C2)::Hs) w
theorem Zim {p:Nat} {b:ZE} {s:ByteArray} (k:Core b) (hw:Sat R (Zo p b::Hs) w):
  Zcg prog 43 #[nP p,.string s] w
   (λ ch w'=>∃ e,ch=ZiA e/\ZaY b s=(none,e)/\Sat R (Zo p b::Hs) w')
   (λ v w'=>∃ a x,v=nP a/\ZaY b s=(some x,0)/\x∈b.L/\ZnM p a b x R Hs w'):=by
 obtain ⟨m1,m2,fs,xs,hl,hw⟩:=Sat.book.1 hw;have hw:Sat R (pts p (Zf b m1 m2)::MapAt m2 (xs.map bkV)::MapAt m1 (fs.map flV)::Zg fs::Zh xs::Hs) w:=hw.arr;refine (Zmx hw).use ?_ ?_
 ·clear hw
  rintro _ w ⟨⟨v1,h0,hg,rfl⟩,hw⟩;refine .inl ⟨_,rfl,?_⟩;cases hbk:b.bk (ZaZ (ZQ s)).1 with
  |none=>rw [(Zmz hl).2 hbk] at hg;cases hg
  |some x=>
   have hx:=(ZiJ k).1 hbk;obtain ⟨A2,a,C2,rfl,hbm⟩:=Zfs hl k.ids hx.1;have:=Zlp (a:=a) hbm;rw [hx.2,hg] at this;simp only [Option.some.injEq,Value.pointer.injEq] at this;subst this;refine ⟨a,x,rfl,?_,hx.1,m1,m2,fs,A2,C2,hl,hbm,?_⟩
   ·unfold ZaY
    rw [if_neg (λ h=>h h0),hbk]
   ·exact hw.arr
 ·clear hw
  rintro _ w ⟨⟨e,rfl,he⟩,hw⟩;refine .inr ⟨_,rfl,e,rfl,?_,Sat.book.2 ⟨m1,m2,fs,xs,hl,?_⟩⟩
  ·rcases he with ⟨h0,rfl⟩|⟨h0,rfl,hg⟩
   ·unfold ZaY
    rw [if_pos h0]
   ·unfold ZaY
    rw [if_neg (λ h=>h h0),(Zmz hl).1 hg]
  ·exact hw.arr
theorem ZnM.close {p a:Nat} {b:ZE} {x:Bk} (h:ZnM p a b x R Hs w):Sat R (Zo p b::Hs) w:=by
 obtain ⟨m1,m2,fs,A2,C2,hl,_,hw⟩:=h;exact Sat.book.2 ⟨m1,m2,fs,_,hl,hw⟩
theorem Zpr {p a:Nat} {b:ZE} {x:Bk} (k:Core b) (h:ZnM p a b x R Hs w):
  Zk prog 53 #[nP p,nP a] w λ v w'=>∃ sl sb:Sl,v=.agg (rpV (ZaB b x) sl sb).toArray/\
   Sat R (Own sl 3 (Zc (ZaB b x).left)::Own sb 9 ((ZaB b x).labs.map Value.string)::Zo p b::Hs) w':=by
 obtain ⟨m1,m2,fs,A2,C2,hl,hbm,hw⟩:=h;have hxL:x∈b.L:=by rw [<-hl.bk];exact List.mem_map.2 ⟨(a,x),by simp,rfl⟩
 have hnx:=k.next;have hbk:=(k.each x hxL).id;obtain ⟨pl,hat⟩:=k.at_of hxL;obtain ⟨A,f,q,C,rfl,hm⟩:=Zdm hl k.nums hat;have htell:ZaB b x=ZaH pl x:=by unfold ZaB;rw [hat]
 rw [htell];obtain ⟨MF,hMF⟩:∃ M,M=(A++(f,q,pl)::C).map flV:=⟨_,rfl⟩;obtain ⟨MB,hMB⟩:∃ M,M=(A2++(a,x)::C2).map bkV:=⟨_,rfl⟩;rw [<-hMF,<-hMB] at hw;have hw:Sat R (Zg (A++(f,q,pl)::C)::Zh (A2++(a,x)::C2)::pts p (Zf b m1 m2)::MapAt m1 MF::MapAt m2 MB::Hs) w:=hw.arr;have hw:=ZbE.1 hw;have hw:Sat R (Zh (A2++(a,x)::C2)::Ze f pl.r::ZN q pl.q::Zg (A++C)::pts p (Zf b m1 m2)::MapAt m1 MF::MapAt m2 MB::Hs) w:=hw.arr;have hw:=ZcC.1 hw;have hw:Sat R (pts p (Zf b m1 m2)::MapAt m1 MF::pts a (Zv x)::Ze f pl.r::ZN q pl.q::MapAt m2 MB::Zg (A++C)::Zh (A2++C2)::Hs) w:=hw.arr;rw [hMF] at hw;refine (ZeP (by omega) hm hw).use ?_;clear hw;rintro _ w ⟨sl,sb,rfl,hw⟩;refine ⟨_,rfl,sl,sb,rfl,?_⟩;refine hw.cons λ _ hw=>hw.cons λ _ hw=>?_;rw [<-hMF] at hw;have hw:Sat _ (Ze f pl.r::ZN q pl.q::pts a (Zv x)::pts p (Zf b m1 m2)::MapAt m1 MF::MapAt m2 MB::Zg (A++C)::Zh (A2++C2)::Hs) w:=hw.arr;exact Zd9 hl hMF hMB hw
theorem Zkm {p:Nat} {b:ZE} {c:Cm} {sg sp:Sl} (k:Core b) (hg:RoI R sg c.grps) (hgl:c.grps.length<=17592186043904) (hp:sp.len=c.parts.length) (hw:Sat R (Zo p b::Hs) w):
  Zk prog 16 #[nP p,cmA c sg sp] w
   λ v w'=>∃ sl sb:Sl,v=.agg (rpV (ZaT b c) sl sb).toArray/\Sat R (Own sl 3 (Zc (ZaT b c).left)::Own sb 9 ((ZaT b c).labs.map Value.string)::Zo p b::Hs) w':=by
 apply Zyk
 suffices H:∀ K:nK,(∀ sl sb w',Sat R (Own sl 3 (Zc (ZaT b c).left)::Own sb 9 ((ZaT b c).labs.map Value.string)::Zo p b::Hs) w'->K (.agg (rpV (ZaT b c) sl sb).toArray) w')->B16 (some ⟨p,0,none⟩) c.kind c.pnr c.flt c.cls c.many c.time c.sc c.lab c.rows sg sp K w from
  H _ (λ sl sb w' h=>⟨sl,sb,rfl,h⟩)
 intro K hK;have hKe:∀ e w',ZaT b c=Z1 e->Sat R (Zo p b::Hs) w'->K (.agg (rpV (Z1 e) Zn Zn).toArray) w':=λ e w' he hw=>by
  have:=hK Zn Zn w';rw [he] at this;exact this (Own.nil (Own.nil hw))
 refine Za hw λ b3 w hw=>Za hw λ b4 w hw=>?_;have hw:Sat R (Zp b4::cmC b3 c sg sp::Zo p b::Hs) w:=hw;refine ⟨λ w=>(Z5 c/\c.kind=9)/\Sat R (Zp b4::cmC b3 c sg sp::Zo p b::Hs) w,?_,?_⟩
 ·refine ⟨c.kind,c.pnr,c.flt,c.cls,c.many,c.time,c.sc,c.lab,c.rows,sg,sp,oA hw,?_⟩
  refine (ZeM hg hgl hp hw).u λ w hw=>?_;refine .inl ⟨_,rfl,Br.d (λ hr=>?_) (λ hr=>?_)⟩
  ·refine ⟨c.kind,oA hw,?_⟩
   refine ZbL (λ h=>.inl ⟨rfl,⟨hr,by simpa using h⟩,hw⟩) (λ h=>.inr ⟨_,rfl,ZbY (Zcm hw) λ w hw=>hKe 1 w ?_ hw.drop⟩);unfold ZaT;rw [if_pos (.inr (by simpa using h))]
  ·refine ZbL (λ h=>by cases h) (λ h=>.inr ⟨_,rfl,ZbY (Zcm hw) λ w hw=>hKe 1 w ?_ hw.drop⟩)
   unfold ZaT;rw [if_pos (.inl hr)]
 clear hw;rintro _ w ⟨hr,hw⟩;have hno:¬ (¬ Z5 c\/c.kind≠9):=λ h=>h.elim (λ h=>h hr.1) (λ h=>h hr.2);refine ⟨c.pnr,oA hw,Br.sne (λ hs=>?_) (λ hs=>?_)⟩
 ·refine ⟨c.pnr,oA hw,?_⟩
  have hs':c.pnr≠emS:=hs;have hshow:∀ y,ZaY b c.pnr=y->ZaT b c=(match y with|(none,e)=>Z1 e|(some x,_)=>ZaB b x):=λ y hy=>by
   unfold ZaT;rw [if_neg hno,if_pos hs',hy];obtain ⟨o,e⟩:=y;cases o<;>rfl
  have hw:Sat R (Zo p b::Zp b4::cmC b3 c sg sp::Hs) w:=hw.arr;refine (Zim k hw).use ?_ ?_
  ·clear hw
   rintro _ w ⟨a,x,rfl,hn,hxL,hw⟩;have hsh:=hshow _ hn;refine .inl ⟨_,rfl,?_⟩;refine (Zpr k hw).use ?_;clear hw;rintro _ w ⟨sl,sb,rfl,hw⟩;refine .inl ?_;have hw:Sat R (Zp b4::Own sl 3 (Zc (ZaB b x).left)::Own sb 9 ((ZaB b x).labs.map Value.string)::Zo p b::cmC b3 c sg sp::Hs) w:=hw.arr;refine Zi1 (Zcm hw) λ w hw=>?_;have:=hK sl sb w;rw [hsh] at this;exact this (hw.cons λ _ h=>h.cons λ _ h=>h.cons λ _ h=>h.drop)
  ·clear hw
   rintro _ w ⟨e,rfl,hn,hw⟩;have hw:Sat R (Zp b4::Zo p b::cmC b3 c sg sp::Hs) w:=hw.swap;exact .inr ⟨_,rfl,ZbY (Zcm hw) λ w hw=>hKe e w (hshow _ hn) (hw.cons λ _ h=>h.drop)⟩
 ·have hs':¬ c.pnr≠emS:=λ h=>h hs
  have hshow:∀ y,b.at c.flt=y->ZaT b c=(match y with|none=>Z1 2|some p=>⟨0,emS,0,c.flt,0,(p.q.length:Int),0,Zj p.r,[]⟩):=λ y hy=>by
   unfold ZaT;rw [if_neg hno,if_neg hs',hy];cases y<;>rfl
  refine ⟨c.flt,oA hw,?_⟩;have hw:Sat R (Zo p b::Zp b4::cmC b3 c sg sp::Hs) w:=hw.arr;obtain ⟨m1,m2,fs,xs,hl,hw⟩:=Sat.book.1 hw;refine (ZjX hw).use ?_ ?_
  ·clear hw
   rintro _ w ⟨⟨v1,v2,hgm,rfl⟩,hw⟩;obtain ⟨A,f,q,C,pl,rfl,hm,hat,hv⟩:=ZjB hl k hgm;simp only [Value.agg.injEq,Array.mk.injEq,List.cons.injEq,Value.pointer.injEq,and_true] at hv;obtain ⟨rfl,rfl⟩:=hv;have hsh:=hshow _ hat;have hpl:=Z9 hat;have hqok:=k.qok pl hpl.1;obtain ⟨MF,hMF⟩:∃ M,M=(A++(f,q,pl)::C).map flV:=⟨_,rfl⟩;obtain ⟨MB,hMB⟩:∃ M,M=xs.map bkV:=⟨_,rfl⟩;rw [<-hMF,<-hMB] at hw;have hw:Sat R (Zg (A++(f,q,pl)::C)::cmC b3 c sg sp::Zp b4::pts p (Zf b m1 m2)::MapAt m1 MF::MapAt m2 MB::Zh xs::Hs) w:=hw.arr;have hw:=ZbE.1 hw;refine .inl ⟨_,_,rfl,?_⟩;refine Za hw λ b5 w hw=>?_;refine sRu hw λ w hw=>?_;have hw:=hw.re (fqC b5 f q);have toS:∀ {A:List HP} {R:Cx} {w:World},Sat R (cmC b3 c sg sp::fqC b5 f q::A) w->Sat R [cmC b3 c sg sp,fqC b5 f q,VC.tru] w:=λ h=>h.cons λ _ h=>h.restTru2;refine Zr (Sat R [cmC b3 c sg sp,fqC b5 f q,VC.tru]) hw (λ w hw=>?_) λ w hw=>?_
   ·exact toS (hw.arr (Hs':=cmC b3 c sg sp::fqC b5 f q::Ze f pl.r::ZN q pl.q::Zg (A++C)::Zp b4::pts p (Zf b m1 m2)::MapAt m1 MF::MapAt m2 MB::Zh xs::Hs))
   refine ⟨c.flt,oS,some ⟨f,0,none⟩,oS,some ⟨q,0,none⟩,oS,?_⟩;refine (Zcv hw.swap).u1 λ sl w hw=>?_;refine .inl ⟨sl,rfl,?_,?_⟩
   ·exact toS (hw.arr (Hs':=cmC b3 c sg sp::fqC b5 f q::Own sl 3 (Zc (Zj pl.r))::Ze f pl.r::ZN q pl.q::Zg (A++C)::Zp b4::pts p (Zf b m1 m2)::MapAt m1 MF::MapAt m2 MB::Zh xs::Hs))
   have hw:Sat R (ZN q pl.q::Own sl 3 (Zc (Zj pl.r))::Ze f pl.r::Zg (A++C)::cmC b3 c sg sp::fqC b5 f q::Zp b4::pts p (Zf b m1 m2)::MapAt m1 MF::MapAt m2 MB::Zh xs::Hs) w:=hw.arr;refine (Zqd (by have:=hqok.len;omega) hw).u1 λ t w hw=>?_;have htl:=Zl.len hw;rw [List.length_map] at htl;have hw:=hw.drop;refine .inl ⟨t,rfl,?_,?_⟩
   ·exact toS (hw.arr (Hs':=cmC b3 c sg sp::fqC b5 f q::ZN q pl.q::Own sl 3 (Zc (Zj pl.r))::Ze f pl.r::Zg (A++C)::Zp b4::pts p (Zf b m1 m2)::MapAt m1 MF::MapAt m2 MB::Zh xs::Hs))
   rw [htl];have hw:Sat R (Zp b4::Own sl 3 (Zc (Zj pl.r))::Ze f pl.r::ZN q pl.q::pts p (Zf b m1 m2)::MapAt m1 MF::MapAt m2 MB::Zg (A++C)::Zh xs::cmC b3 c sg sp::fqC b5 f q::Hs) w:=hw.arr;refine sRu hw λ w hw=>?_;have hw:=hw.re (rpC b4 ⟨0,emS,0,c.flt,0,(pl.q.length:Int),0,Zj pl.r,[]⟩ sl Zn);refine Zmw (ZzM hw ?_);have:=hK sl Zn w;rw [hsh] at this;refine this ?_;refine hw.drop.cons λ _ hw=>Own.nil ?_;exact (Zbt hl hMF hMB hw).cons λ _ h=>h.drop.drop
  ·clear hw
   rintro _ w ⟨rfl,hno2,hw⟩;have hw:Sat R (Zp b4::cmC b3 c sg sp::pts p (Zf b m1 m2)::MapAt m1 (fs.map flV)::MapAt m2 (xs.map bkV)::Zg fs::Zh xs::Hs) w:=hw.arr;refine .inr ⟨_,rfl,ZbY (Zcm hw) λ w hw=>hKe 2 w (hshow _ ((Zhr hl).1 hno2)) (Sat.book.2 ⟨m1,m2,fs,xs,hl,hw.drop⟩)⟩
theorem Zc9 {g:FuncId} {ars:Array Value} {p b3 b4:Nat} {b nb:ZE} {c:Cm} {res:Rp} {sg sp:Sl} {K:Value->World->Prop}
  (h:Zcg prog g ars w (λ ch w'=>∃ e,ch=ZiA e/\(nb,res)=(b,Z1 e)/\Sat R (Zo p b::Zp b4::cmC b3 c sg sp::Hs) w')
   (λ v w'=>∃ sl sb:Sl,v=.agg (rpV res sl sb).toArray/\Sat R (Own sl 3 (Zc res.left)::Own sb 9 (res.labs.map Value.string)::Zo p nb::Zp b4::cmC b3 c sg sp::Hs) w'))
  (hK:∀ sl sb w',Sat R (Own sl 3 (Zc res.left)::Own sb 9 (res.labs.map Value.string)::Zo p nb::Hs) w'->K (.agg (rpV res sl sb).toArray) w'):
  Calls prog g ars w λ e w_5=>
   (∃ t0:Int,∃ t1:ByteArray,∃ t2:Int,∃ t3:Int,∃ t4:Int,∃ t5:Int,∃ t6:Int,∃ t7:Sl,∃ t8:Sl,(e=.returned (.agg #[nI t0,.string t1,nI t2,nI t3,nI t4,nI t5,nI t6,.slice t7.a t7.len t7.cap,.slice t8.a t8.len t8.cap]))/\
    ∃ w_6:World,((Instr.storeAt 33 (.pointer ((some ⟨b4,0,none⟩))) (.agg #[nI t0,.string t1,nI t2,nI t3,nI t4,nI t5,nI t6,.slice t7.a t7.len t7.cap,.slice t8.a t8.len t8.cap])).run prog w_5=.ok () w_6)/\
    Zad prog 36 [.pointer ((some ⟨b4,0,none⟩))] .returning (λ w_7=>Zyu b4 K w_7) w_6)\/
   (∃ ch:List PanicEntry,(e=.panicked ch)/\Zad prog 36 [.pointer ((some ⟨b4,0,none⟩))] (.panicking ch) (λ w_8=>Zyu b4 K w_8) w_5):=by
 refine h.use ?_ ?_
 ·rintro _ w ⟨sl,sb,rfl,hw⟩
  have hw:Sat R (Zp b4::Own sl 3 (Zc res.left)::Own sb 9 (res.labs.map Value.string)::Zo p nb::cmC b3 c sg sp::Hs) w:=hw.arr;exact .inl (Zi1 (Zcm hw) λ w hw=>hK sl sb w (hw.cons λ _ h=>h.cons λ _ h=>h.cons λ _ h=>h.drop))
 ·rintro _ w ⟨e,rfl,he,hw⟩
  have h1:=congrArg Prod.fst he;have h2:=congrArg Prod.snd he;dsimp only at h1 h2;subst h1 h2;exact .inr ⟨_,rfl,ZbY (Zcm hw.swap) λ w hw=>hK Zn Zn w (Own.nil (Own.nil (hw.cons λ _ h=>h.drop)))⟩
theorem Zo7 {p:Nat} {b:ZE} {c:Cm} {sg sp:Sl} (k:ZaA b) (hsc:c.sc<18446744073709551616) (hg:RoI R sg c.grps) (hgl:c.grps.length<=17592186043904) (hp:SlR R.m sp (Zj2 c.parts)) (hw:Sat R (Zo p b::Hs) w):
  Zk prog 12 #[nP p,cmA c sg sp] w
   λ v w'=>∃ sl sb:Sl,v=.agg (rpV (ZG b c).2 sl sb).toArray/\Sat R (Own sl 3 (Zc (ZG b c).2.left)::Own sb 9 ((ZG b c).2.labs.map Value.string)::Zo p (ZG b c).1::Hs) w':=by
 have hplen:sp.len=c.parts.length:=by have:=hp.len;simpa using this
 apply ZtR
 suffices H:∀ K:nK,(∀ sl sb w',Sat R (Own sl 3 (Zc (ZG b c).2.left)::Own sb 9 ((ZG b c).2.labs.map Value.string)::Zo p (ZG b c).1::Hs) w'->K (.agg (rpV (ZG b c).2 sl sb).toArray) w')->B12 (some ⟨p,0,none⟩) c.kind c.pnr c.flt c.cls c.many c.time c.sc c.lab c.rows sg sp K w from
  H _ (λ sl sb w' h=>⟨sl,sb,rfl,h⟩)
 intro K hK;refine Za hw λ b3 w hw=>Za hw λ b4 w hw=>?_;have hw:Sat R (Zp b4::cmC b3 c sg sp::Zo p b::Hs) w:=hw;refine ⟨c.kind,c.pnr,c.flt,c.cls,c.many,c.time,c.sc,c.lab,c.rows,sg,sp,oA hw,?_⟩;refine (ZeM hg hgl hplen hw).u λ w hw=>?_;refine .inl ⟨_,rfl,ZbL (λ h=>.inl ⟨rfl,?_⟩) (λ h=>.inr ⟨_,rfl,?_⟩)⟩
 rotate_left
 ·have hr:¬ Z5 c:=of_decide_eq_false h
  have e:ZG b c=(b,Z1 1):=by unfold ZG;rw [if_pos hr]
  rw [e] at hK;exact ZbY (Zcm hw) λ w hw=>hK Zn Zn w (Own.nil (Own.nil hw.drop))
 have hr:Z5 c:=of_decide_eq_true h;have hrr:¬ ¬ Z5 c:=λ h=>h hr;have hw:Sat R (Zo p b::Zp b4::cmC b3 c sg sp::Hs) w:=hw.arr;refine ⟨c.kind,oA hw,Br.e (λ h1=>?_) (λ h1=>?_)⟩
 ·refine ⟨c.kind,c.pnr,c.flt,c.cls,c.many,c.time,c.sc,c.lab,c.rows,sg,sp,oA hw,?_⟩
  have e:ZG b c=Zbc b c:=by unfold ZG;rw [if_neg hrr,if_pos h1]
  rw [e] at hK;refine Zc9 (b:=b) (nb:=(Zbc b c).1) (res:=(Zbc b c).2) (c:=c) (p:=p) (b3:=b3) (sg:=sg) (sp:=sp) ?_ hK;refine (ZiI (by have:=k.core.few;omega) hg hp hw).use ?_ ?_
  ·rintro _ w ⟨he,sl,rfl,hw⟩
   refine .inl ⟨_,rfl,sl,Zn,?_⟩;rw [he];exact ⟨rfl,hw.cons λ _ h=>Own.nil h⟩
  ·rintro _ w ⟨e,rfl,he,hw⟩
   exact .inr ⟨_,rfl,e,rfl,he,hw⟩
 refine ⟨λ t w=>t=decide (c.kind=2\/c.kind=7)/\Sat R (Zo p b::Zp b4::cmC b3 c sg sp::Hs) w,?_,?_⟩
 ·refine Br.e (λ h2=>⟨?_,hw⟩) (λ h2=>⟨?_,hw⟩)
  ·rw [decide_eq_true (.inl h2),h2];rfl
  ·by_cases h7:c.kind=7
   ·rw [decide_eq_true (.inr h7),h7];rfl
   ·rw [decide_eq_false (by omega)]
    exact beq_eq_false_iff_ne.2 h7
 clear hw;rintro _ _ w ⟨rfl,hw⟩;refine Br.d (λ h27=>?_) (λ h27=>?_)
 ·refine ⟨c.kind,c.pnr,c.flt,c.cls,c.many,c.time,c.sc,c.lab,c.rows,sg,sp,oA hw,?_⟩
  rcases h27 with h2|h7
  ·have e:ZG b c=Zbe b c:=by unfold ZG;rw [if_neg hrr,if_neg h1,if_pos h2]
   rw [e] at hK;exact Zc9 (b:=b) (nb:=(Zbe b c).1) (res:=(Zbe b c).2) (c:=c) (p:=p) (Zr2 h2 k.core hr hw) hK
  ·have e:ZG b c=ZaF b c:=by unfold ZG;rw [if_neg hrr,if_neg h1,if_neg (by omega),if_pos h7]
   rw [e] at hK;exact Zc9 (b:=b) (nb:=(ZaF b c).1) (res:=(ZaF b c).2) (c:=c) (p:=p) (Zr1 h7 k hr hsc hw) hK
 refine Br.e (λ h8=>?_) (λ h8=>Br.e (λ h9=>?_) (λ h9=>?_))
 ·refine ⟨c.kind,c.pnr,c.flt,c.cls,c.many,c.time,c.sc,c.lab,c.rows,sg,sp,oA hw,?_⟩
  have e:ZG b c=Zay b c:=by unfold ZG;rw [if_neg hrr,if_neg h1,if_neg (by omega),if_neg (by omega),if_pos h8]
  rw [e] at hK;exact Zc9 (b:=b) (nb:=(Zay b c).1) (res:=(Zay b c).2) (c:=c) (p:=p) (Zo0 k.core hr hw) hK
 ·refine ⟨c.kind,c.pnr,c.flt,c.cls,c.many,c.time,c.sc,c.lab,c.rows,sg,sp,oA hw,?_⟩
  have e:ZG b c=(b,ZaT b c):=by unfold ZG;rw [if_neg hrr,if_neg h1,if_neg (by omega),if_neg (by omega),if_neg h8,if_pos h9]
  rw [e] at hK;refine Zc9 (b:=b) (nb:=b) (res:=ZaT b c) (c:=c) (p:=p) (b3:=b3) (sg:=sg) (sp:=sp) ?_ hK;refine (Zkm k.core hg hgl hplen hw).use ?_;rintro _ w ⟨sl,sb,rfl,hw⟩;exact .inl ⟨_,rfl,sl,sb,rfl,hw⟩
 ·have hap:∀ y,ZaY b c.pnr=y->ZG b c=(match y with|(none,e)=>(b,Z1 e)|(some x,_)=>ZdD b x c):=λ y hy=>by
   unfold ZG;rw [if_neg hrr,if_neg h1,if_neg (by omega),if_neg (by omega),if_neg h8,if_neg h9,hy];obtain ⟨o,e⟩:=y;cases o<;>rfl
  have hk36:c.kind=3\/c.kind=4\/c.kind=5\/c.kind=6:=by have:=hr.kind;omega
  have toS:∀ {A:List HP} {R:Cx} {w:World},Sat R (cmC b3 c sg sp::A) w->Sat R [cmC b3 c sg sp,VC.tru] w:=λ h=>h.restTru2;refine Zr (Sat R [cmC b3 c sg sp,VC.tru]) hw (λ w hw=>?_) λ w hw=>?_
  ·exact toS (hw.arr (Hs':=cmC b3 c sg sp::Zo p b::Zp b4::Hs))
  refine ⟨c.pnr,oS,c.kind,c.pnr,c.flt,c.cls,c.many,c.time,c.sc,c.lab,c.rows,sg,sp,oS,?_⟩;refine (Zim k.core hw).use ?_ ?_
  ·clear hw
   rintro _ w ⟨a,x,rfl,hn,hxL,hop⟩;have e:=hap _ hn;rw [e] at hK;refine .inl ⟨_,rfl,?_,?_⟩
   ·exact toS (hop.close.arr (Hs':=cmC b3 c sg sp::Zo p b::Zp b4::Hs))
   obtain ⟨m1,m2,fs,A2,C2,hl,hbm,hw⟩:=hop;refine (ZsP hk36 k.core (by have:=hr.lab;omega) hl hbm hw).use ?_ ?_
   ·clear hw
    rintro _ w ⟨sl,sb,rfl,hw⟩;have hS:=toS (hw.arr (Hs':=cmC b3 c sg sp::Own sl 3 (Zc (ZdD b x c).2.left)::Own sb 9 ((ZdD b x c).2.labs.map Value.string)::Zo p (ZdD b x c).1::Zp b4::Hs));have hw:Sat R (Zp b4::Own sl 3 (Zc (ZdD b x c).2.left)::Own sb 9 ((ZdD b x c).2.labs.map Value.string)::Zo p (ZdD b x c).1::cmC b3 c sg sp::Hs) w:=hw.arr;refine .inl ?_;obtain ⟨t0,t1,t2,t3,t4,t5,t6,t7,t8,he,h⟩:=Zi1 (r:=(ZdD b x c).2) (sl:=sl) (sb:=sb) (K:=K) (Zcm hw) λ w hw=>hK sl sb w (hw.cons λ _ h=>h.cons λ _ h=>h.cons λ _ h=>h.drop);exact ⟨t0,t1,t2,t3,t4,t5,t6,t7,t8,he,hS,h⟩
   ·clear hw
    rintro _ w ⟨e,rfl,he,hw⟩;dsimp only at hK;rw [he] at hK;exact .inr ⟨_,rfl,ZbY (Zcm hw.swap) λ w hw=>hK Zn Zn w (Own.nil (Own.nil (hw.cons λ _ h=>h.drop)))⟩
  ·clear hw
   rintro _ w ⟨e,rfl,hn,hw⟩;have e2:=hap _ hn;rw [e2] at hK;exact .inr ⟨_,rfl,ZbY (Zcm hw.swap) λ w hw=>hK Zn Zn w (Own.nil (Own.nil (hw.cons λ _ h=>h.drop)))⟩
end
section
open Go Go.VC Go.ChangeShapes Go.WideShapes Go.ChangeAt Go.RowKit
variable {H:Type} {enc:TypeId × Value->H} {W:World} {r:Reach} {b0:Nat} {v:Value} {d:DataW H} {p:List MemPlace}
structure Zxb (R:Cx) (s:Sl) (cs:List CmS):Prop where
 rows:RoN 11 R s (cs.map Zu4)
 each:∀ c∈cs,ZAd c.1/\RoI R c.2.1 c.1.grps/\SlR R.m c.2.2 (Zj2 c.1.parts)
set_option maxRecDepth 100000 in
theorem Zu3 (hv:Value.okWide Tryz.prog W r b0 22 v) (h:DataW.Trod enc Tryz.prog W 0 (λ _=>true) true 22 v d p):
  ∃ (s:Sl) (cs:List CmS),v=.slice s.a s.len s.cap/\Zxb (Cx.of W) s cs:=by
 obtain ⟨a,n,c,rfl⟩:=okWide_slice Tryz.underlying22 hv;obtain ⟨x,hx,ho⟩:=Zxe (d:=8) (u:=.sl Zz2) (by kernel_rfl) h;cases x<;>simp only [Tr.Ok] at ho;rename_i s xs;have ho:Tr.Ok (Cx.of W) (.sl Zz2) (.sl s xs):=by unfold Tr.Ok;exact ho
 obtain ⟨cs,h1,_,h3⟩:=ZlF (λ z:CmS=>Zu4 z) (λ c=>ZAd c.1/\RoI (Cx.of W) c.2.1 c.1.grps/\SlR (Cx.of W).m c.2.2 (Zj2 c.1.parts)) ho λ x hx=>by
  obtain ⟨c,sg,sp,e,h1,h2,h3⟩:=Ztl hx;exact ⟨(c,sg,sp),e,h1,h2,h3⟩
 have e:[Value.slice s.a s.len s.cap]=[Value.slice a n c]:=by simpa [Tr.cells,Value.cells] using hx
 have e:=(List.cons.inj e).1;simp only [Value.slice.injEq] at e;obtain ⟨rfl,rfl,rfl⟩:=e;exact ⟨s,cs,rfl,h1,h3⟩
end
section
open Go Go.VC Tryz
open Classical
variable {R:Cx} {Hs Rest:List HP} {w:World}
theorem Zt4 {k:Nat} (h:k<31):ZgN[k]? =some (UInt8.ofNat (ZeR.getD k 0).toNat)/\((UInt8.ofNat (ZeR.getD k 0).toNat).toNat:Int)=ZeR.getD k 0:=by
 have:=Zgm (d:=(k:Int)) (by omega);unfold ZcI at this;rwa [Int.toNat_natCast] at this
theorem ZbC {l:List Int} {k:Nat} (h:k<l.length):l.getD k 0=l[k]:=by
 rw [List.getD_eq_getElem?_getD,List.getElem?_eq_getElem h];rfl
theorem Ztn {s:ByteArray} {k:Nat} (hk:k<s.size):s[k]? =some (s.get! k):=by
 rw [getElem?_pos s k hk];obtain ⟨a⟩:=s;exact congrArg some (getElem!_pos a k hk).symm
theorem Zj6 {c:Int} (hw:Sat R Hs w):Zk prog 193 #[.int .u8 c] w λ v w'=>v=nI (Zz c)/\Sat R Hs w':=by
 apply ZvS;refine ⟨λ i w=>∃ k:Nat,i=k/\k<=31/\(∀ j,j<k->ZeR.getD j 0≠c)/\Sat R Hs w,λ i _=>(31 - i).toNat,⟨0,rfl,by omega,λ j hj=>by omega,hw⟩,?_⟩;clear hw;rintro _ _ w ⟨k,rfl,hk,hno,hw⟩;refine Br.d (λ h=>?_) (λ h=>?_)
 ·have hk31:k<31:=by omega
  obtain ⟨g1,g2⟩:=Zt4 hk31;refine ⟨_,by omega,by rw [Int.toNat_natCast];exact g1,?_⟩;rw [g2];refine Br.e (λ he=>?_) (λ he=>?_)
  ·refine ⟨?_,hw⟩
   have hkl:k<ZeR.length:=hk31;have:=(ZdY c 0 ZeR).1 k hkl (λ j hj=>by rw [<-ZbC];exact hno j hj) (by rw [<-ZbC];exact he);unfold Zz;rw [this,Nat.zero_add]
  ·rw [Zd]
   refine ⟨⟨k + 1,by omega,by omega,λ j hj=>?_,hw⟩,by dsimp only;omega⟩;rcases (by omega:j<k\/j=k) with h1|rfl
   ·exact hno j h1
   ·exact he
 ·refine ⟨?_,hw⟩
  have:=(ZdY c 0 ZeR).2 λ x hx=>by
   obtain ⟨j,hj,rfl⟩:=List.mem_iff_getElem.1 hx;rw [<-ZbC];exact hno j (by rw [Zkl] at hj;omega)
  unfold Zz;rw [this]
abbrev Zsb (b:Nat) (l:List Int):HP:=pts b (.cells (Zc l).toArray 248 (0,0))
theorem ZhZ {a b c d e f:Int} (ha:0<=a/\a<100) (hb:0<=b/\b<100) (hc:0<=c/\c<100) (hd:0<=d/\d<100) (he:0<=e/\e<100) (hf:0<=f/\f<100) (hw:Sat R Hs w):
  Zk prog 194 #[.agg (Zc [a,b,c,d,e,f]).toArray] w λ v w'=>v=nI (Zb9 2 [a,b,c,d,e] + f)/\Sat R Hs w':=by
 apply ZvR;refine Za hw λ p w hw=>?_;have hw:Sat R (Zsb p [a,b,c,d,e,f]::Hs) w:=hw;refine ⟨a,by rw [Zs];exact oA hw,b,by rw [Zs];exact oA hw,c,by rw [Zs];exact oA hw,
  d,by rw [Zs];exact oA hw,e,by rw [Zs];exact oA hw,f,by rw [Zs];exact oA hw,?_,hw.drop⟩
 rw [Zd (x:=2 * a),Zd (x:=3 * b),Zd (x:=4 * c),Zd (x:=5 * d),Zd (x:=6 * e)];rw [Zd (x:=2 * a + 3 * b)];rw [Zd (x:=2 * a + 3 * b + 4 * c)];rw [Zd (x:=2 * a + 3 * b + 4 * c + 5 * d)];rw [Zd (x:=2 * a + 3 * b + 4 * c + 5 * d + 6 * e)];rw [Zd (x:=2 * a + 3 * b + 4 * c + 5 * d + 6 * e + f)]
 congr 1
 simp only [Zb9];omega
def Zqp (l:List Int) (k:Nat):List Int:=l.take k++List.replicate (6 - k) 0
theorem Zm5 {l:List Int} {k:Nat} (hl:l.length=6) (hk:k<=6):(Zqp l k).length=6:=by
 unfold Zqp;rw [List.length_append,List.length_take,List.length_replicate];omega
theorem ZsH:∀ {l:List Int} {k:Nat},l.length=6->k<6->(Zqp l k).set k (l.getD k 0)=Zqp l (k + 1)
 |[_,_,_,_,_,_],0,_,_=>rfl
 |[_,_,_,_,_,_],1,_,_=>rfl
 |[_,_,_,_,_,_],2,_,_=>rfl
 |[_,_,_,_,_,_],3,_,_=>rfl
 |[_,_,_,_,_,_],4,_,_=>rfl
 |[_,_,_,_,_,_],5,_,_=>rfl
theorem ZsI:∀ {l:List Int} {k:Nat},l.length=6->k<6->(Zqp l (k + 1)).getD k 0=l.getD k 0
 |[_,_,_,_,_,_],0,_,_=>rfl
 |[_,_,_,_,_,_],1,_,_=>rfl
 |[_,_,_,_,_,_],2,_,_=>rfl
 |[_,_,_,_,_,_],3,_,_=>rfl
 |[_,_,_,_,_,_],4,_,_=>rfl
 |[_,_,_,_,_,_],5,_,_=>rfl
theorem ZqJ {l:List Int} {k:Nat} (hk:k<5) (hl:l.length=6):Zjg (l.take (k + 1))=Zjg (l.take k) * 31 + l.getD k 0:=by
 rw [List.take_add_one,List.getElem?_eq_getElem (by omega:k<l.length),ZbC (by omega)];exact Znh _ _
theorem Zkt {s:ByteArray} (hw:Sat R Hs w):Zk prog 116 #[.string s] w λ v w'=>v=.tuple #[nI (ZaZ (ZQ s)).1,nI (ZaZ (ZQ s)).2]/\Sat R Hs w':=by
 apply ZwF
 suffices H:∀ K:nK,(∀ w',Sat R Hs w'->K (.tuple #[nI (ZaZ (ZQ s)).1,nI (ZaZ (ZQ s)).2]) w')->B116 s K w from H _ λ w' h=>⟨rfl,h⟩
 intro K hK;have hbl:=Zc7 s;have hget:∀ k,k<s.size->s[k]? =some (s.get! k)/\((s.get! k).toNat:Int)=(ZQ s).getD k 0:=λ k hk=>by
  refine ⟨?_,?_⟩
  ·exact Ztn hk
  ·rw [Zll hk,ZbC (by omega)]
 obtain ⟨bs,hbs⟩:∃ bs,bs=ZQ s:=⟨_,rfl⟩;rw [<-hbs] at hK hbl hget;refine Br.ne (λ h=>?_) (λ h=>?_)
 ·have:=hK w hw
  unfold ZaZ at this;rw [if_pos (.inl (by omega))] at this;exact this
 have hsz:s.size=6:=by omega
 have hl6:bs.length=6:=by omega
 obtain ⟨ws,hws⟩:∃ ws,ws=bs.map Zz:=⟨_,rfl⟩;have hw6:ws.length=6:=by rw [hws,List.length_map,hl6]
 have hwsk:∀ k,k<6->ws.getD k 0=Zz (bs.getD k 0):=λ k hk=>by
  rw [ZbC (by omega),ZbC (by omega)];subst hws;rw [List.getElem_map]
 have hwb:∀ x∈ws,x<31:=λ x hx=>by
  rw [hws] at hx;obtain ⟨c,_,rfl⟩:=List.mem_map.1 hx;have:=ZiP c;omega
 refine Za hw λ p w hw=>?_;have hw:Sat R (Zsb p (Zqp ws 0)::Hs) w:=hw;refine ⟨λ n i w=>∃ k:Nat,i=k/\k<=6/\(∀ d∈ws.take k,0<=d)/\n=Zjg (ws.take (min k 5))/\Sat R (Zsb p (Zqp ws k)::Hs) w,λ _ i _=>(6 - i).toNat,⟨0,rfl,by omega,by simp,by simp [Zjg],hw⟩,?_⟩;clear hw;rintro _ _ _ w ⟨k,rfl,hk,hpos,rfl,hw⟩;refine Br.d (λ h=>?_) (λ h=>?_)
 ·have hk6:k<6:=by omega
  obtain ⟨g1,g2⟩:=hget k (by omega);refine ⟨_,by omega,by rw [Int.toNat_natCast];exact g1,?_⟩;rw [g2];refine (Zj6 hw).u λ w hw=>?_;refine ⟨_,rfl,Rng.mk (by omega) (by omega) ?_⟩;rw [Int.toNat_natCast,<-hwsk k hk6];refine Zet (by kernel_rfl) hw (by rw [Zm5 hw6 (by omega)];exact hk6) λ w hw=>?_;rw [ZsH hw6 hk6] at hw;have hat:At (λ w'=>w'=w) (Addr.add ⟨p,0,none⟩ k) [nI (ws.getD k 0)]:=by
   have hk':k<(Zqp ws (k + 1)).length:=by rw [Zm5 hw6 (by omega)];exact hk6
   have:=At.ints (b:=p) (xs:=Zqp ws (k + 1)) (eqS hw) hk';rwa [<-ZbC,ZsI hw6 hk6] at this
  refine Rng.mk (by omega) (by omega) ⟨_,hat,?_⟩;have hin:ws.getD k 0∈ws:=by rw [ZbC (by omega)];exact List.getElem_mem _
  have hlt:=hwb _ hin;refine Br.d (λ hneg=>?_) (λ hneg=>?_)
  ·have:=hK w hw.drop
   rw [Zng] at this
   ·exact this
   ·refine ⟨bs.getD k 0,by rw [ZbC (by omega)];exact List.getElem_mem _,?_⟩
    rw [<-hwsk k hk6];exact hneg
  have hpos':∀ d∈ws.take (k + 1),0<=d:=λ d hd=>by
   rw [List.take_add_one,List.getElem?_eq_getElem (by omega:k<ws.length)] at hd;rcases List.mem_append.1 hd with hd|hd
   ·exact hpos d hd
   ·simp at hd;rw [hd,<-ZbC];omega
  refine Br.d (λ h5=>?_) (λ h5=>?_)
  ·have hk5:k<5:=by omega
   refine Rng.mk (by omega) (by omega) ⟨_,hat,?_⟩;rw [show min k 5=k by omega];have hb:0<=Zjg (ws.take k)/\Zjg (ws.take k)<31 ^ 4:=by
    have h1:=ZqK (l:=ws.take k) λ d hd=>⟨hpos d hd,hwb d (List.mem_of_mem_take hd)⟩;rw [List.length_take,show min k ws.length=k by omega] at h1;have h2:=p31 hk5;exact ⟨h1.1,by have:=h1.2;omega⟩
   have hd0:0<=ws.getD k 0:=by omega
   have hbb:Zjg (ws.take k)<923521:=by have:=hb.2;omega
   rw [Zd (x:=Zjg (ws.take k) * 31),Zd (x:=Zjg (ws.take k) * 31 + ws.getD k 0),Zd (x:=(k:Int) + 1),<-ZqJ hk5 hw6];exact ⟨⟨k + 1,by omega,by omega,hpos',by rw [show min (k + 1) 5=k + 1 by omega],hw⟩,by dsimp only;omega⟩
  ·rw [Zd (x:=(k:Int) + 1)]
   exact ⟨⟨k + 1,by omega,by omega,hpos',by rw [show min (k + 1) 5=min k 5 by omega],hw⟩,by dsimp only;omega⟩
 ·have hk6:k=6:=by omega
  subst hk6;have hpad:Zqp ws 6=ws:=by
   unfold Zqp;rw [List.take_of_length_le (by omega)];simp
  rw [hpad] at hw;rw [List.take_of_length_le (by omega:ws.length<=6)] at hpos
  match ws,hw6,hws,hpos,hwb,hw with
  |[a,b,c,d,e,f],_,hws,hpos,hwb,hw=>
   refine ⟨Zc [a,b,c,d,e,f],rfl,oA hw,?_⟩;have B:∀ x∈[a,b,c,d,e,f],0<=x/\x<100:=λ x hx=>⟨hpos x hx,by have:=hwb x hx;omega⟩;refine (ZhZ (B a (by simp)) (B b (by simp)) (B c (by simp)) (B d (by simp)) (B e (by simp)) (B f (by simp)) hw).u λ w hw=>?_;have h5:(bs.take 5).map Zz=[a,b,c,d,e]:=by
    rw [List.map_take,<-hws];rfl
   have hf5:Zz (bs.getD 5 0)=f:=by
    rw [<-hwsk 5 (by omega)];rfl
   have hneg:¬ (bs.length≠6\/∃ c∈bs,Zz c<0):=by
    rintro (h|⟨x,hx,h⟩)
    ·exact h hl6
    ·have:Zz x∈[a,b,c,d,e,f]:=by rw [hws];exact List.mem_map.2 ⟨x,hx,rfl⟩
     have:=hpos _ this;omega
   have hsum:0<=Zb9 2 [a,b,c,d,e] + f:=by
    have h1:=B a (by simp);have h2:=B b (by simp);have h3:=B c (by simp);have h4:=B d (by simp);have h5:=B e (by simp);have h6:=B f (by simp);simp only [Zb9];omega
   have hloc:ZaZ bs=if (Zb9 2 [a,b,c,d,e] + f) % 31≠0 then (0,6) else (Zjg [a,b,c,d,e],0):=by
    unfold ZaZ;rw [if_neg hneg,h5,hf5]
   rw [hloc] at hK;refine ⟨_,rfl,?_⟩;rw [Int.tmod_eq_emod_of_nonneg hsum];refine Br.ne (λ h0=>?_) (λ h0=>?_)
   ·have:=hK w hw.drop
    rw [if_pos h0] at this;exact this
   ·have:=hK w hw.drop
    rw [if_neg (λ h=>h h0)] at this;exact this
theorem Zo1 {p:Nat} {b:ZE} (hw:Sat R (Zo p b::Hs) w):Zk prog 15 #[nP p] w λ v w'=>v=nI b.now/\Sat R (Zo p b::Hs) w':=by
 apply Zyl;obtain ⟨m1,m2,fs,xs,hl,hw⟩:=Sat.book.1 hw;exact Zb.mk rfl ⟨b.now,oA hw,rfl,Sat.book.2 ⟨m1,m2,fs,xs,hl,hw⟩⟩
theorem Zys {l:Sl} {cs:List CmS} {k p:Nat} {b:ZE} (hr:Zxb R l cs) (hm:∀ c∈cs.take 400,¬ Zpd c) (hk:k<400) (hkl:k<cs.length) (ok:ZaA b) (hw:Sat R (Zo p b::Hs) w):
  Zk prog 12 #[nP p,cmA cs[k].1 cs[k].2.1 cs[k].2.2] w
   λ v w'=>∃ sl sb:Sl,v=.agg (rpV (ZG b cs[k].1).2 sl sb).toArray/\ZaA (ZG b cs[k].1).1/\Sat R (Own sl 3 (Zc (ZG b cs[k].1).2.left)::Own sb 9 ((ZG b cs[k].1).2.labs.map Value.string)::Zo p (ZG b cs[k].1).1::Hs) w':=by
 obtain ⟨f,g,h⟩:=hr.each cs[k] (List.getElem_mem hkl);have hmk:=hm cs[k] (List.mem_take_iff_getElem.2 ⟨k,by omega,rfl⟩);have hgl:=g.len;unfold Zpd at hmk;refine (Zo7 ok f.sc g (by omega) h hw).mono ?_;rintro _ w ⟨sl,sb,rfl,hw⟩;exact ⟨sl,sb,rfl,Zna ok f.sc,hw⟩
end
end Go.Proofs.YtlplemdmegpoeaaGreatDoor




namespace Go.Proofs.YtlplemdmegpoeaaGreatDoor
section
open Go Go.VC Tryz
open Classical
variable {R:Cx} {Hs Rest:List HP} {w:World}
theorem _root_.Go.VC.At.vals {S:World->Prop} {b:Nat} {vs:List Value} {T:TypeId} {fr:Nat × Nat} (hS:∀ w,S w->Sat R Hs w)
  [t:ZcT b Hs (.cells vs.toArray T fr) Rest] {i:Nat} (hi:i<vs.length):At S (Addr.add ⟨b,0,none⟩ i) [vs[i]]:=by
 rw [Zs];refine At.own hS ?_;rw [Nat.zero_add,List.drop_eq_getElem_cons hi];exact ⟨rfl,trivial⟩
def wtN (x:Wt):List Nat:=[x.id.toNat,x.cls.toNat,x.many.toNat,x.time.toNat,ZqX x.sc]
def ZhQ (l:List Nat):List Int:=(l.map ZeO).flatten
theorem Zxc (x:Wt):wtB x=ZhQ (wtN x):=by
 simp [wtB,ZhQ,wtN,Zi,ZzY]
theorem Zii {l:List Nat} {j:Nat} (hj:j<l.length):ZhQ (l.take (j + 1))=ZhQ (l.take j)++ZeO l[j]:=by
 unfold ZhQ;rw [List.take_add_one,List.getElem?_eq_getElem hj,List.map_append,List.flatten_append];simp
theorem ZkQ {l:List Nat} (h:∀ x∈l,x<18446744073709551616):(ZhQ l).length<=9 * l.length:=ZbF λ x hx=>Zbd (h x hx)
theorem Zts {x:Wt} (h:x.Ok) (hf:x.sc<18446744073709551616):∀ y∈wtN x,y<18446744073709551616:=by
 obtain ⟨h1,h2,h3,h4⟩:=h;intro y hy;simp only [wtN,List.mem_cons,List.not_mem_nil,or_false] at hy;have:=ZtF hf;omega
theorem Zc1 {α β:Type} {f:α->List β} {l:List α} {j:Nat} (hj:j<l.length):((l.take (j + 1)).map f).flatten=((l.take j).map f).flatten++f l[j]:=by
 rw [List.take_add_one,List.getElem?_eq_getElem hj,List.map_append,List.flatten_append];simp
theorem Zqc {q:Nat} {l:List Wt} (hq:QOk l) (hw:Sat R (ZN q l::Hs) w):
  Zk prog 65 #[nP q] w λ v w'=>∃ t:Sl,v=.slice t.a t.len t.cap/\Sat R (Own t 5 (b8 (qB l))::ZN q l::Hs) w':=by
 apply ZxQ
 suffices H:∀ K:nK,(∀ (t:Sl) w',Sat R (Own t 5 (b8 (qB l))::ZN q l::Hs) w'->K (.slice t.a t.len t.cap) w')->B65 (some ⟨q,0,none⟩) K w from H _ λ t w' h=>⟨t,rfl,h⟩
 intro K hK;have hlen:=hq.len;obtain ⟨s,hw⟩:=Sat.qu.1 hw;have hsl:=Zl.len hw.swap;rw [List.length_map] at hsl;refine Zb.mk rfl ⟨s,oA hw,?_⟩;rw [Zar];refine (Zct (by omega) hw).u1 λ t0 w hw=>?_;refine ⟨t0,rfl,Zb.mk rfl ⟨s,oA hw,?_⟩⟩;have e0:ZeO s.len=Zi [(l.length:Int)]:=by rw [hsl];simp [Zi]
 rw [e0] at hw;refine ⟨λ t i w=>∃ k:Nat,i=k/\k<=l.length/\Sat R (Own t 5 (b8 (Zi [(l.length:Int)]++((l.take k).map wtB).flatten))::pts q (ZaC s)::Zl 5 s wtT (l.map wtV)::Hs) w,
  λ _ i _=>l.length - i.toNat,⟨0,rfl,by omega,by simpa using hw⟩,?_⟩
 clear hw;rintro _ t _ w ⟨k,rfl,hk,hw⟩;refine Br.d (λ h=>?_) (λ h=>?_)
 ·have hk2:k<l.length:=by omega
  have hx:=List.getElem_mem hk2;have hok:=hq.ok _ hx;have hfl:=hq.fl _ hx;have hu:=Zts hok hfl;obtain ⟨h1,h2,h3,h4⟩:=id hok;refine (Zl.readsM (n:=5) (s:=s) (T:=wtT) (rows:=l.map wtV) hw (eqS hw)).rngM (E:=l) (g:=wtV) hk2 λ a _ he=>?_;refine ⟨_,_,_,_,_,he.z (by exact ⟨rfl,rfl,rfl,rfl,rfl,trivial⟩),?_⟩;refine Za hw λ b2 w hw=>?_;refine sRu hw λ w hw=>?_;have hw:=hw.re (wtC b2 l[k]);refine Za7 hw λ w hw=>?_;refine ⟨l[k].id,oS,l[k].cls,oS,l[k].many,oS,l[k].time,oS,l[k].sc,oS,?_⟩;refine (Zs1 hfl hw).u λ w hw=>?_;refine ⟨_,rfl,hw,?_⟩;rw [Zar (x:=l[k].id),Zar (x:=l[k].cls),Zar (x:=l[k].many),Zar (x:=l[k].time)];refine Za hw λ b5 w hw=>⟨hw.absorb,?_⟩;obtain ⟨us,hus⟩:∃ us,us=wtN l[k]:=⟨_,rfl⟩;have hul:us.length=5:=by rw [hus];rfl
  have hw:Sat R (pts b5 (.cells (us.map λ n=>Value.int .u64 (n:Nat)).toArray 141 (0,0))::wtC b2 l[k]::Own t 5 (b8 (Zi [(l.length:Int)]++((l.take k).map wtB).flatten))::pts q (ZaC s)::Zl 5 s wtT (l.map wtV)::Hs) w:=by
   have e:([.int .u64 l[k].id,.int .u64 l[k].cls,.int .u64 l[k].many,.int .u64 l[k].time,.int .u64 ((ZqX l[k].sc:Nat):Int)]:List Value)=us.map λ n=>Value.int .u64 (n:Nat):=by
    subst hus;simp only [wtN,List.map_cons,List.map_nil,Int.toNat_of_nonneg h2.1,Int.toNat_of_nonneg h4.1,Int.toNat_of_nonneg (show 0<=l[k].id by omega),Int.toNat_of_nonneg (show 0<=l[k].many by omega)]
   rw [<-e];exact hw.cons λ _ h=>h.drop
  rw [<-hus] at hu;have hblen:=ZbF (l:=l.take k) (code:=wtB) (m:=45) λ w hw=>Zlz (hq.ok w (List.mem_of_mem_take hw)) (hq.fl w (List.mem_of_mem_take hw));rw [List.length_take] at hblen;have h0:=ZJ (x:=(l.length:Int)) (by omega);obtain ⟨bs,hbs⟩:∃ bs,bs=Zi [(l.length:Int)]++((l.take k).map wtB).flatten:=⟨_,rfl⟩;have hbl:bs.length<=10000:=by rw [hbs,List.length_append];omega
  rw [<-hbs] at hw;refine ⟨λ t i w=>∃ j:Nat,i=j/\j<=5/\Sat R (Own t 5 (b8 (bs++ZhQ (us.take j)))::pts b5 (.cells (us.map λ n=>Value.int .u64 (n:Nat)).toArray 141 (0,0))::wtC b2 l[k]::pts q (ZaC s)::Zl 5 s wtT (l.map wtV)::Hs) w,
   λ _ i _=>5 - i.toNat,⟨0,rfl,by omega,?_⟩,?_⟩
  ·have hw:Sat R (Own t 5 (b8 bs)::pts b5 (.cells (us.map λ n=>Value.int .u64 (n:Nat)).toArray 141 (0,0))::wtC b2 l[k]::pts q (ZaC s)::Zl 5 s wtT (l.map wtV)::Hs) w:=hw.arr
   simpa [ZhQ] using hw
  clear hw;rintro _ t _ w ⟨j,rfl,hj,hw⟩;refine Br.d (λ hj5=>?_) (λ hj5=>?_)
  ·have hj2:j<us.length:=by omega
   have hul2:=ZkQ (l:=us.take j) λ x hx=>hu x (List.mem_of_mem_take hx);rw [List.length_take] at hul2;have huj:=hu _ (List.getElem_mem hj2);refine Rng.mk (by omega) (by omega) ⟨((us[j]:Nat):Int),?_,?_⟩
   ·have hjm:j<(us.map λ n=>Value.int .u64 (n:Nat)).length:=by rw [List.length_map];exact hj2
    have:=At.vals (b:=b5) (vs:=us.map λ n=>Value.int .u64 (n:Nat)) (eqS hw) hjm;rw [List.getElem_map] at this;exact this
   refine (Zct huj hw).u1 λ t1 w hw=>?_;refine ⟨t1,rfl,?_⟩;have hnb:=Zbd huj;refine Zaz ZhK (s:=t) (n:=1099511627790) underlying47 hw.swap (by rw [List.length_append];omega) (by omega) (by omega) λ s2 w hw=>?_;have hw:=hw.cons λ _ h=>h.drop;rw [Zd (x:=(j:Int) + 1)];refine ⟨⟨j + 1,by omega,by omega,?_⟩,by dsimp only;omega⟩;rw [Zii hj2,<-List.append_assoc];exact hw
  ·rw [List.take_of_length_le (by omega:us.length<=j),hus,<-Zxc,hbs,List.append_assoc,<-Zc1 hk2] at hw
   rw [Zd (x:=(k:Int) + 1)];exact ⟨⟨k + 1,by omega,by omega,hw.cons λ _ h=>h.drop.drop⟩,by dsimp only;omega⟩
 ·rw [List.take_of_length_le (by omega:l.length<=k)] at hw
  exact hK t w (hw.cons λ _ h=>Sat.qu.2 ⟨s,h⟩)
theorem nn3s {a b c:Int} (h0:0<=a) (h1:0<=b) (h2:0<=c):Zi ([a,b,c].map nn)=Zi [a]++(Zi [b]++Zi [c]):=by
 show Zi [nn a,nn b,nn c]=_;rw [ZhR h0,ZhR h1,ZhR h2,Zdi a,Zdi b]
theorem nn6s {a b c d e f:Int} (h0:0<=a) (h1:0<=b) (h2:0<=c) (h3:0<=d) (h4:0<=e) (h5:0<=f):Zi ([a,b,c,d,e,f].map nn)=Zi [a]++(Zi [b]++(Zi [c]++(Zi [d]++(Zi [e]++Zi [f])))):=by
 show Zi [nn a,nn b,nn c,nn d,nn e,nn f]=_;rw [ZhR h0,ZhR h1,ZhR h2,ZhR h3,ZhR h4,ZhR h5,Zdi a,Zdi b,Zdi c,Zdi d,Zdi e]
theorem Zj3 {p:Nat} {s:Sl} {d bs:List Int} {T:TypeId} (hl:bs.length + d.length<=1099511627776) (hd:d.length<=1099511627776) (hw:Sat R (Own s T (b8 d)::WrB p bs::Hs) w):
  Zk prog 63 #[nP p,.slice s.a s.len s.cap] w λ v w'=>v=.tuple #[]/\Sat R (WrB p (bs++Zca d)::Hs) w':=by
 obtain ⟨R1,e1,g1,hw⟩:=Own.leak hw;refine (ZnN hl hd (g1.ro) hw).mono ?_;rintro _ w ⟨rfl,hw⟩;exact ⟨rfl,e1.back hw⟩
theorem Zo2 {p:Nat} {b:ZE} (k:Core b) (hw:Sat R (Zo p b::Hs) w):
  Zk prog 18 #[nP p] w λ v w'=>∃ t:Sl,v=.slice t.a t.len t.cap/\Sat R (Own t 5 (b8 (Zdy b))::Zo p b::Hs) w':=by
 apply Zyi
 suffices H:∀ K:nK,(∀ (t:Sl) w',Sat R (Own t 5 (b8 (Zdy b))::Zo p b::Hs) w'->K (.slice t.a t.len t.cap) w')->B18 (some ⟨p,0,none⟩) K w from H _ λ t w' h=>⟨t,rfl,h⟩
 intro K hK;have k1:=k.now;have k2:=k.next;have k3:=k.few;have k4:=k.many;have a1:=ZJ (x:=b.now) (by omega);have a2:=ZJ (x:=b.next) (by omega);have a3:=ZJ (x:=(b.fl.length:Int)) (by omega);have a4:=ZJ (x:=(b.L.length:Int)) (by omega);have a5:∀ j,(((b.fl.take j).map plB).flatten).length<=304000:=λ j=>by
  have:=ZbF (l:=b.fl.take j) (code:=plB) (m:=38000) λ p hp=>ZlZ (k.good p (List.mem_of_mem_take hp)) (k.qok p (List.mem_of_mem_take hp));rw [List.length_take] at this;omega
 have a6:∀ j,(((b.L.take j).map bkB).flatten).length<=16200:=λ j=>by
  have:=ZbF (l:=b.L.take j) (code:=bkB) (m:=54) λ x hx=>ZjV k2.2 (k.each x (List.mem_of_mem_take hx));rw [List.length_take] at this;omega
 obtain ⟨m1,m2,fs,xs,hl,hw⟩:=Sat.book.1 hw;have hfl:=Zrj hl;have hbl:=ZnE hl;refine Za hw λ pw w hw=>?_;have hw:Sat R (WrB pw []::pts p (Zf b m1 m2)::MapAt m1 (fs.map flV)::MapAt m2 (xs.map bkV)::Zg fs::Zh xs::Hs) w:=Sat.wrB.2 ⟨Zn,(Own.nil hw).swap⟩;have toS:∀ {A:List HP} {R:Cx} {w:World},Sat R (pts p (Zf b m1 m2)::MapAt m1 (fs.map flV)::A) w->Sat R [pts p (Zf b m1 m2),MapAt m1 (fs.map flV),VC.tru] w:=λ h=>h.cons λ _ h=>h.restTru2;refine Zr (Sat R [pts p (Zf b m1 m2),MapAt m1 (fs.map flV),VC.tru]) hw (λ w hw=>?_) λ w hw=>?_
 ·exact toS (hw.arr (Hs':=pts p (Zf b m1 m2)::MapAt m1 (fs.map flV)::WrB pw []::MapAt m2 (xs.map bkV)::Zg fs::Zh xs::Hs))
 refine Zb.mk rfl ⟨b.now,oS,Zb.mk rfl ⟨b.next,oS,Zb.mk rfl ⟨some m1,oS,((fs.map flV).length:Int),λ w' h=>MapAt.len (by kernel_rfl) h.swap,?_⟩⟩⟩;rw [List.length_map,hfl];refine Za hw λ b26 w hw=>⟨?_,?_⟩
 ·exact toS (hw.arr (Hs':=pts p (Zf b m1 m2)::MapAt m1 (fs.map flV)::pts b26 (.cells #[nI b.now,nI b.next,nI (b.fl.length:Int)] 3 (0,0))::WrB pw []::MapAt m2 (xs.map bkV)::Zg fs::Zh xs::Hs))
 refine (ZgF (xs:=[b.now,b.next,(b.fl.length:Int)]) rfl (by simp;omega) (by simp) hw).u λ w hw=>?_;refine ⟨rfl,?_,?_⟩
 ·exact toS (hw.arr (Hs':=pts p (Zf b m1 m2)::MapAt m1 (fs.map flV)::WrB pw ([]++Zi ([b.now,b.next,(b.fl.length:Int)].map nn))::MapAt m2 (xs.map bkV)::Zg fs::Zh xs::Hs))
 rw [nn3s (by omega) (by omega) (by omega),List.nil_append] at hw;obtain ⟨h0,hh0⟩:∃ h,h=Zi [b.now]++(Zi [b.next]++Zi [(b.fl.length:Int)]):=⟨_,rfl⟩;have hl0:h0.length<=27:=by rw [hh0];simp only [List.length_append];omega
 rw [<-hh0] at hw;have hw:Sat R (pts p (Zf b m1 m2)::MapAt m1 (fs.map flV)::WrB pw h0::MapAt m2 (xs.map bkV)::Zg fs::Zh xs::Hs) w:=hw.arr;refine Zb.mk rfl ⟨some m1,oA hw,?_⟩;refine Zh1 k hl hw.swap ?_;clear hw;intro s w hw;have hsl:=Own.len hw;rw [List.length_map,List.length_map] at hsl;obtain ⟨MF,hMF⟩:∃ M,M=fs.map flV:=⟨_,rfl⟩;obtain ⟨MB,hMB⟩:∃ M,M=xs.map bkV:=⟨_,rfl⟩;obtain ⟨nums,hnums⟩:∃ n,n=b.fl.map Pl.n:=⟨_,rfl⟩;have hnl:nums.length=b.fl.length:=by rw [hnums,List.length_map]
 rw [<-hMF,<-hMB,<-hnums] at hw;have hw:Sat R (WrB pw h0::Own s 3 (Zc nums)::pts p (Zf b m1 m2)::MapAt m1 MF::MapAt m2 MB::Zg fs::Zh xs::Hs) w:=hw.arr;refine ⟨λ i w=>∃ j:Nat,i=j/\j<=b.fl.length/\Sat R (WrB pw (h0++((b.fl.take j).map plB).flatten)::Own s 3 (Zc nums)::pts p (Zf b m1 m2)::MapAt m1 MF::MapAt m2 MB::Zg fs::Zh xs::Hs) w,
  λ i _=>b.fl.length - i.toNat,⟨0,rfl,by omega,by simpa using hw⟩,?_⟩
 clear hw;rintro _ _ w ⟨j,rfl,hj,hw⟩;have hla:=a5 j;refine Br.d (λ h=>?_) (λ h=>?_)
 ·have hj2:j<b.fl.length:=by omega
  obtain ⟨pl,hpl⟩:∃ pl,pl=b.fl[j]:=⟨_,rfl⟩;have hmem:pl∈b.fl:=by rw [hpl];exact List.getElem_mem _
  have hat:b.at pl.n=some pl:=(ZdV k).2 ⟨hmem,rfl⟩;have hnj:nums[j]'(by omega)=pl.n:=by subst hnums;rw [List.getElem_map,hpl]
  have hg:=k.good pl hmem;have hq:=k.qok pl hmem;have e1:=ZfG hg;have e2:=Zqg hq;have hw2:Sat R (Own s 3 (Zc nums)::WrB pw (h0++((b.fl.take j).map plB).flatten)::pts p (Zf b m1 m2)::MapAt m1 MF::MapAt m2 MB::Zg fs::Zh xs::Hs) w:=hw.swap;refine Own.ix hw2 (eqS hw2) j rfl (by omega) ?_;rw [hnj];refine Zb.mk rfl ⟨some m1,oA hw,?_⟩;obtain ⟨A,f,q,C,hfs,hm⟩:=Zdm hl k.nums hat;have hgm:ZH pl.n MF=some (.agg #[nP f,nP q]):=by rw [hMF,hfs];exact Zix hm
  refine ⟨some ⟨f,0,none⟩,some ⟨q,0,none⟩,λ w' e=>?_,?_⟩
  ·rw [show w'=w from e]
   have hm1:Sat R (MapAt m1 MF::WrB pw (h0++((b.fl.take j).map plB).flatten)::Own s 3 (Zc nums)::pts p (Zf b m1 m2)::MapAt m2 MB::Zg fs::Zh xs::Hs) w:=hw.arr;have:=MapAt.look Ztz hm1 pl.n false;rw [hgm] at this;exact this
  clear hw2;refine Za hw λ b6 w hw=>?_;refine sRu hw λ w hw=>?_;have hw:=hw.re (fqC b6 f q);rw [hfs] at hw;have hw:Sat R (Zg (A++(f,q,pl)::C)::fqC b6 f q::WrB pw (h0++((b.fl.take j).map plB).flatten)::Own s 3 (Zc nums)::pts p (Zf b m1 m2)::MapAt m1 MF::MapAt m2 MB::Zh xs::Hs) w:=hw.arr;have hw:=ZbE.1 hw;refine ⟨some ⟨f,0,none⟩,oA hw,?_⟩;refine (Zl6 hw).u1 λ t1 w hw=>?_;refine ⟨t1,rfl,?_⟩;have hw:Sat R (Own t1 5 (b8 (Zby pl.r))::WrB pw (h0++((b.fl.take j).map plB).flatten)::ZN q pl.q::Ze f pl.r::Zg (A++C)::fqC b6 f q::Own s 3 (Zc nums)::pts p (Zf b m1 m2)::MapAt m1 MF::MapAt m2 MB::Zh xs::Hs) w:=hw.arr;refine (Zj3 (by rw [List.length_append];omega) (by omega) hw).u λ w hw=>?_;refine ⟨rfl,some ⟨q,0,none⟩,oA hw,?_⟩;refine (Zqc hq hw.swap).u1 λ t2 w hw=>?_;refine ⟨t2,rfl,?_⟩;have e3:=Zdv (d:=Zby pl.r) (by omega);have hw:Sat R (Own t2 5 (b8 (qB pl.q))::WrB pw (h0++((b.fl.take j).map plB).flatten++Zca (Zby pl.r))::ZN q pl.q::Ze f pl.r::Zg (A++C)::fqC b6 f q::Own s 3 (Zc nums)::pts p (Zf b m1 m2)::MapAt m1 MF::MapAt m2 MB::Zh xs::Hs) w:=hw.arr;refine (Zj3 (by simp only [List.length_append];omega) (by omega) hw).u λ w hw=>?_;rw [Zd (x:=(j:Int) + 1)];refine ⟨rfl,⟨j + 1,by omega,by omega,?_⟩,by dsimp only;omega⟩;have ebs:h0++((b.fl.take j).map plB).flatten++Zca (Zby pl.r)++Zca (qB pl.q)=h0++((b.fl.take (j + 1)).map plB).flatten:=by
   rw [Zc1 hj2,<-hpl];unfold plB;simp only [List.append_assoc]
  rw [ebs] at hw;have hw:Sat R (Ze f pl.r::ZN q pl.q::Zg (A++C)::WrB pw (h0++((b.fl.take (j + 1)).map plB).flatten)::fqC b6 f q::Own s 3 (Zc nums)::pts p (Zf b m1 m2)::MapAt m1 MF::MapAt m2 MB::Zh xs::Hs) w:=hw.arr;have hw:=ZbE.2 hw;rw [<-hfs] at hw;have hw:Sat R (fqC b6 f q::WrB pw (h0++((b.fl.take (j + 1)).map plB).flatten)::Own s 3 (Zc nums)::pts p (Zf b m1 m2)::MapAt m1 MF::MapAt m2 MB::Zg fs::Zh xs::Hs) w:=hw.arr;exact hw.drop
 ·have hjf:j=b.fl.length:=by omega
  rw [hjf,List.take_length] at hw;have a50:=a5 b.fl.length;rw [List.take_length] at a50;refine Zb.mk rfl ⟨some m2,oA hw,(MB.length:Int),λ w' e=>?_,?_⟩
  ·rw [show w'=w from e]
   have hm2:Sat R (MapAt m2 MB::WrB pw (h0++(b.fl.map plB).flatten)::Own s 3 (Zc nums)::pts p (Zf b m1 m2)::MapAt m1 MF::Zg fs::Zh xs::Hs) w:=hw.arr;exact MapAt.len (by kernel_rfl) hm2
  rw [show MB.length=b.L.length by rw [hMB,List.length_map,hbl]];refine Za hw λ b62 w hw=>?_;refine (ZgF (xs:=[(b.L.length:Int)]) rfl (by simp;omega) (by simp only [List.length_append,List.length_cons,List.length_nil];omega) hw).u λ w hw=>?_;rw [nn1 (by omega)] at hw;obtain ⟨h1,hh1⟩:∃ h,h=h0++(b.fl.map plB).flatten++Zi [(b.L.length:Int)]:=⟨_,rfl⟩;have hl1:h1.length<=305000:=by rw [hh1];simp only [List.length_append];omega
  rw [<-hh1] at hw;refine ⟨rfl,Zb.mk rfl ⟨some m2,oA hw,?_⟩⟩;have hw:Sat R (MapAt m2 MB::WrB pw h1::pts p (Zf b m1 m2)::MapAt m1 MF::Zg fs::Zh xs::Own s 3 (Zc nums)::Hs) w:=hw.arr;rw [hMB] at hw;refine Zh2 k hl hw ?_;clear hw;intro s2 w hw;have hsl2:=Own.len hw;rw [List.length_map,List.length_map] at hsl2;obtain ⟨ids,hids⟩:∃ n,n=b.L.map Bk.id:=⟨_,rfl⟩;have hil:ids.length=b.L.length:=by rw [hids,List.length_map]
  rw [<-hMB,<-hids] at hw;have hw:Sat R (WrB pw h1::Own s2 3 (Zc ids)::pts p (Zf b m1 m2)::MapAt m1 MF::MapAt m2 MB::Zg fs::Zh xs::Hs) w:=by
   have h:Sat R (Own s 3 (Zc nums)::WrB pw h1::Own s2 3 (Zc ids)::pts p (Zf b m1 m2)::MapAt m1 MF::MapAt m2 MB::Zg fs::Zh xs::Hs) w:=hw.arr;exact h.drop
  refine ⟨λ i w=>∃ j:Nat,i=j/\j<=b.L.length/\Sat R (WrB pw (h1++((b.L.take j).map bkB).flatten)::Own s2 3 (Zc ids)::pts p (Zf b m1 m2)::MapAt m1 MF::MapAt m2 MB::Zg fs::Zh xs::Hs) w,
   λ i _=>b.L.length - i.toNat,⟨0,rfl,by omega,by simpa using hw⟩,?_⟩
  clear hw;rintro _ _ w ⟨j,rfl,hj,hw⟩;have hlb:=a6 j;refine Br.d (λ h=>?_) (λ h=>?_)
  ·have hj2:j<b.L.length:=by omega
   obtain ⟨x,hx⟩:∃ x,x=b.L[j]:=⟨_,rfl⟩;have hmem:x∈b.L:=by rw [hx];exact List.getElem_mem _
   have hnj:ids[j]'(by omega)=x.id:=by subst hids;rw [List.getElem_map,hx]
   obtain ⟨A,a,C,hxs,hm⟩:=Zfs hl k.ids hmem;have hgm:ZH x.id MB=some (nP a):=by rw [hMB,hxs];exact Zlp hm
   have ke:=k.each x hmem;have x1:=ke.id;have x2:=ke.flt;have x3:=ke.cls;have x4:=ke.many;have x5:=ke.state;have x6:=ke.till;have hw2:Sat R (Own s2 3 (Zc ids)::WrB pw (h1++((b.L.take j).map bkB).flatten)::pts p (Zf b m1 m2)::MapAt m1 MF::MapAt m2 MB::Zg fs::Zh xs::Hs) w:=hw.swap;refine Own.ix hw2 (eqS hw2) j rfl (by omega) ?_;rw [hnj];refine Zb.mk rfl ⟨some m2,oA hw,?_⟩;refine ⟨some ⟨a,0,none⟩,λ w' e=>?_,?_⟩
   ·rw [show w'=w from e]
    have hm1:Sat R (MapAt m2 MB::WrB pw (h1++((b.L.take j).map bkB).flatten)::Own s2 3 (Zc ids)::pts p (Zf b m1 m2)::MapAt m1 MF::Zg fs::Zh xs::Hs) w:=hw.arr;have:=MapAt.look ZtS hm1 x.id false;rw [hgm] at this;exact this
   clear hw2;rw [hxs] at hw;have hw:Sat R (Zh (A++(a,x)::C)::WrB pw (h1++((b.L.take j).map bkB).flatten)::Own s2 3 (Zc ids)::pts p (Zf b m1 m2)::MapAt m1 MF::MapAt m2 MB::Zg fs::Hs) w:=hw.arr;have hw:=ZcC.1 hw;have toS2:∀ {A:List HP} {R:Cx} {w:World},Sat R (pts a (Zv x)::A) w->Sat R [pts a (Zv x),VC.tru] w:=λ h=>h.restTru2;refine Zr (Sat R [pts a (Zv x),VC.tru]) hw (λ w hw=>toS2 hw) λ w hw=>?_;refine Zb.mk rfl ⟨x.flt,oS,Zb.mk rfl ⟨x.cls,oS,Zb.mk rfl ⟨x.many,oS,Zb.mk rfl ⟨x.state,oS,Zb.mk rfl ⟨x.till,oS,?_⟩⟩⟩⟩⟩;have hw:Sat R (WrB pw (h1++((b.L.take j).map bkB).flatten)::pts a (Zv x)::Zh (A++C)::Own s2 3 (Zc ids)::pts p (Zf b m1 m2)::MapAt m1 MF::MapAt m2 MB::Zg fs::Hs) w:=hw.arr;refine Za hw λ b103 w hw=>?_;refine (ZgF (xs:=[x.id,x.flt,x.cls,x.many,x.state,x.till]) rfl (by simp;omega) (by simp only [List.length_append,List.length_cons,List.length_nil];omega) hw).u λ w hw=>?_;rw [nn6s (by omega) (by omega) (by omega) (by omega) (by omega) (by omega)] at hw;have ebs:h1++((b.L.take j).map bkB).flatten++(Zi [x.id]++(Zi [x.flt]++(Zi [x.cls]++(Zi [x.many]++(Zi [x.state]++Zi [x.till])))))=h1++((b.L.take (j + 1)).map bkB).flatten:=by
    rw [Zc1 hj2,<-hx,List.append_assoc];rfl
   rw [ebs] at hw;rw [Zd (x:=(j:Int) + 1)];have hw:Sat R (pts a (Zv x)::Zh (A++C)::WrB pw (h1++((b.L.take (j + 1)).map bkB).flatten)::Own s2 3 (Zc ids)::pts p (Zf b m1 m2)::MapAt m1 MF::MapAt m2 MB::Zg fs::Hs) w:=hw.arr;refine ⟨rfl,toS2 hw,⟨j + 1,by omega,by omega,?_⟩,by dsimp only;omega⟩;have hw:=ZcC.2 hw;rw [<-hxs] at hw;exact hw.arr
  ·have hjf:j=b.L.length:=by omega
   rw [hjf,List.take_length] at hw;obtain ⟨t,hw⟩:=Sat.wrB.1 hw;refine ⟨t,oA hw,hK t w ?_⟩;have e:h1++(b.L.map bkB).flatten=Zdy b:=by
    rw [hh1,hh0];unfold Zdy;simp only [List.append_assoc]
   rw [e] at hw;rw [hMF,hMB] at hw;have hw:=hw.drop;refine hw.cons λ _ h=>Sat.book.2 ⟨m1,m2,fs,xs,hl,h.drop⟩
theorem ZjO {t:Sl} {bs:List Int} {T:TypeId} (hl:bs.length<=9223372036854775807) (hw:Sat R Hs w) [tk:ZfA (Own t T (b8 bs)) Hs Rest]:∀ w',(λ w'=>w'=w) w'->(convert 47 9 (.slice t.a t.len t.cap)).run prog w'=.ok (.string (VC.strOf bs)) w':=λ w' e=>by
 rw [show w'=w from e]
 obtain ⟨_,q1,_,hw1,_⟩:=Own.lend (hw.perm tk.perm) (by rw [List.length_map];exact hl);exact ZjP underlying47 underlying5 underlying9 hw1 q1
end
end Go.Proofs.YtlplemdmegpoeaaGreatDoor






namespace Go.Proofs.YtlplemdmegpoeaaGreatDoor
section
open Go Go.VC Tryz
open Classical
variable {R:Cx} {Hs Rest:List HP} {w:World}
abbrev Z7 (s:Sl):Obj:=.cells [.slice s.a s.len s.cap].toArray 109 (0,0)
abbrev waT:TypeId:=168
def Za4 (q:Nat) (l:List Wt):HP:=exs λ s:Sl=>ZhI [pts q (Z7 s),Zl 5 s waT (l.map wtV)]
theorem Sat.rqu {q:Nat} {l:List Wt}:Sat R (Za4 q l::Hs) w↔∃ s:Sl,Sat R (pts q (Z7 s)::Zl 5 s waT (l.map wtV)::Hs) w:=by
 unfold Za4;rw [Sat.exs];exact ⟨λ⟨s,h⟩=>⟨s,Sat.star.1 h⟩,λ⟨s,h⟩=>⟨s,Sat.star.2 h⟩⟩
theorem Zkv {x:Wt} (hw:Sat R Hs w):Zk prog 189 #[wtA x] w λ v w'=>v=.bool (decide x.Ok)/\Sat R Hs w':=by
 apply ZvW
 suffices H:∀ K:nK,(∀ w',Sat R Hs w'->K (.bool (decide x.Ok)) w')->B189 x.id x.cls x.many x.time x.sc K w from H _ λ w' h=>⟨rfl,h⟩
 intro K hK;refine Za hw λ b w hw=>?_;have hw:Sat R (wtD b x::Hs) w:=hw;have no:¬ x.Ok->K (.bool false) w:=λ h=>by have:=hK w hw.drop;rwa [decide_eq_false h] at this
 unfold Wt.Ok at no;refine ⟨x.id,oA hw,Br.d (λ h1=>?_) (λ h=>no λ h2=>h (by omega))⟩;refine ⟨x.id,oA hw,Br.d (λ h3=>?_) (λ h=>no λ h2=>h (by omega))⟩;refine ⟨x.cls,oA hw,Br.d (λ h4=>?_) (λ h=>no λ h2=>h (by omega))⟩;refine ⟨x.cls,oA hw,Br.d (λ h5=>?_) (λ h=>no λ h2=>h (by omega))⟩;refine ⟨x.many,oA hw,Br.d (λ h6=>?_) (λ h=>no λ h2=>h (by omega))⟩;refine ⟨x.many,oA hw,Br.d (λ h7=>?_) (λ h=>no λ h2=>h (by omega))⟩;refine ⟨x.time,oA hw,Br.d (λ h8=>?_) (λ h=>no λ h2=>h (by omega))⟩;refine ⟨x.time,oA hw,?_⟩;have:=hK w hw.drop;have e:decide x.Ok=decide (x.time<=1099511627776):=by
  refine decide_eq_decide.2 ?_;unfold Wt.Ok;omega
 rwa [e] at this
theorem Zkx {a b:Wt} (hw:Sat R Hs w):Zk prog 191 #[wtA a,wtA b] w λ v w'=>v=.bool (a.ahead b)/\Sat R Hs w':=by
 apply ZvU
 suffices H:∀ K:nK,(∀ w',Sat R Hs w'->K (.bool (a.ahead b)) w')->B191 a.id a.cls a.many a.time a.sc b.id b.cls b.many b.time b.sc K w from H _ λ w' h=>⟨rfl,h⟩
 intro K hK;refine Za hw λ p w hw=>Za hw λ q w hw=>?_;have hw:Sat R (wtD q b::wtD p a::Hs) w:=hw;refine ⟨a.sc,oA hw,b.sc,oA hw,?_⟩;refine (Zn7 hw).u λ w hw=>?_;have hk:=λ {v:Bool} (h:a.ahead b=v)=>(show K (.bool v) w by rw [<-h];exact hK w hw.drop.drop);refine ⟨_,rfl,Br.ne (λ h0=>?_) (λ h0=>?_)⟩
 ·refine hk ?_
  have hne:¬ kvF a.sc=kvF b.sc:=λ e=>h0 (by unfold ZeA;rw [if_neg (by omega),if_pos e]);unfold Wt.ahead;rw [if_neg hne];refine decide_eq_decide.2 ?_;unfold ZeA;rw [if_neg hne];split<;>omega
 ·have he:kvF a.sc=kvF b.sc:=by
   unfold ZeA at h0;split at h0
   ·omega
   ·split at h0
    ·assumption
    ·omega
  unfold Wt.ahead at hk;rw [if_pos he] at hk;refine ⟨a.time,oA hw,b.time,oA hw,Br.ne (λ h1=>?_) (λ h1=>?_)⟩
  ·exact ⟨a.time,oA hw,b.time,oA hw,hk (by rw [if_neg h1])⟩
  ·exact ⟨a.id,oA hw,b.id,oA hw,hk (by rw [if_pos h1])⟩
theorem Zf5 {q:Nat} {l:List Wt} {id:Int} (hl:l.length<=1000000000) (hw:Sat R (Za4 q l::Hs) w):
  Zk prog 190 #[nP q,nI id] w λ v w'=>(∃ i:Int,v=nI i/\((i=-1/\ZdN id l=false)\/∃ k:Nat,i=k/\∃ (hk:k<l.length),l[k].id=id/\ZdN id (l.take k)=false))/\Sat R (Za4 q l::Hs) w':=by
 obtain ⟨s,hw⟩:=Sat.rqu.1 hw;have hlen:=Zl.len hw.swap;rw [List.length_map] at hlen;apply ZvV;refine ⟨λ i w=>∃ j:Nat,i=j/\j<=l.length/\ZdN id (l.take j)=false/\Sat R (pts q (Z7 s)::Zl 5 s waT (l.map wtV)::Hs) w,λ i _=>l.length - i.toNat,⟨0,rfl,by omega,by simp [ZdN],hw⟩,?_⟩;clear hw;rintro _ _ w ⟨j,rfl,hj,hn,hw⟩;refine Zb.mk rfl ⟨s,oA hw,Br.d (λ h=>?_) (λ h=>?_)⟩
 ·have hj2:j<l.length:=by omega
  refine Zb.mk rfl ⟨s,oA hw,?_⟩;have hw2:=hw.swap;refine (Zl.reads hw2 (S:=λ w'=>w'=w) (Hs':=pts q (Z7 s)::Hs) (λ w' e=>by rw [e];exact hw2)).rngM (E:=l) (g:=wtV) hj2 λ a _ he=>⟨l[j].id,he.zz (by exact ⟨rfl,trivial⟩),?_⟩;refine Br.e (λ h1=>⟨⟨j,rfl,.inr ⟨j,rfl,hj2,h1,hn⟩⟩,Sat.rqu.2 ⟨s,hw⟩⟩) (λ h1=>?_);rw [Zd (x:=(j:Int) + 1)];refine ⟨⟨j + 1,by omega,by omega,?_,hw⟩,by dsimp only;omega⟩;unfold ZdN at hn ⊢;rw [List.take_add_one,List.getElem?_eq_getElem hj2,List.any_append,hn];simp [h1]
 ·rw [List.take_of_length_le (by omega)] at hn
  exact ⟨⟨-1,rfl,.inl ⟨rfl,hn⟩⟩,Sat.rqu.2 ⟨s,hw⟩⟩
theorem Zjr {x:Wt}:∀ {l:List Wt} {k:Nat},k<=l.length->(∀ i (hi:i<l.length),i<k->l[i].ahead x=true)->(∀ h:k<l.length,l[k].ahead x=false)->Zis x l=l.take k++x::l.drop k
 |[],k,hk,_,_=>by simp at hk;subst hk;rfl
 |a::l,0,_,_,h2=>by
  have:=h2 (by simp);rw [Zcx,if_neg (by simpa using this)];rfl
 |a::l,k + 1,hk,h1,h2=>by
  have:=h1 0 (by simp) (by omega);rw [Zcx,if_pos (by simpa using this),Zjr (l:=l) (k:=k) (by simpa using hk) (λ i hi hik=>h1 (i + 1) (by simpa using hi) (by omega)) (λ h=>h2 (by simpa using h))];rfl
theorem ZmJ (l:List Wt) (k:Nat):ZR ((l.map wtV).take k).flatten=true:=by rw [<-List.map_take];exact ZiN _
theorem ZmK (l:List Wt) (k:Nat):ZR ((l.map wtV).drop k).flatten=true:=by rw [<-List.map_drop];exact ZiN _
theorem Zn9 {q:Nat} {l:List Wt} {x:Wt} (hq:l.length<=1000) (hw:Sat R (Za4 q l::Hs) w):
  Zk prog 112 #[nP q,wtA x] w λ v w'=>v=nI (Zcd l x).2/\Sat R (Za4 q (Zcd l x).1::Hs) w':=by
 apply ZwJ
 suffices H:∀ K:nK,(∀ w',Sat R (Za4 q (Zcd l x).1::Hs) w'->K (nI (Zcd l x).2) w')->B112 (some ⟨q,0,none⟩) x.id x.cls x.many x.time x.sc K w from H _ λ w' h=>⟨rfl,h⟩
 intro K hK;refine Za hw λ b w hw=>?_;have hw:Sat R (wtD b x::Za4 q l::Hs) w:=hw;refine ⟨x.id,x.cls,x.many,x.time,x.sc,oA hw,?_⟩;refine (Zkv hw).u λ w hw=>?_;refine ⟨_,rfl,Br.nd (λ h0=>?_) (λ h0=>?_)⟩
 ·rw [show Zcd l x=(l,1) by unfold Zcd;rw [if_pos h0]] at hK;exact hK w hw.drop
 have n0:¬ ¬ x.Ok:=λ h=>h h0;refine ⟨x.id,oA hw,?_⟩;refine (Zf5 (by omega) hw.swap).use ?_;clear hw;rintro _ w ⟨⟨i,rfl,hi⟩,hw⟩;refine ⟨i,rfl,Br.d (λ h1=>?_) (λ h1=>?_)⟩
 ·have hh:ZdN x.id l=true:=by
   rcases hi with ⟨rfl,_⟩|⟨k,rfl,hk,e,_⟩
   ·omega
   ·exact Zfb.2 ⟨_,List.getElem_mem hk,e⟩
  rw [show Zcd l x=(l,7) by unfold Zcd;rw [if_neg n0,if_pos hh]] at hK;exact hK w (hw.cons λ _ h=>h.drop)
 have hh:¬ ZdN x.id l=true:=by
  rcases hi with ⟨_,h⟩|⟨k,rfl,_,_,_⟩
  ·rw [h];simp
  ·omega
 obtain ⟨s,hw⟩:=Sat.rqu.1 hw;have hlen:=Zl.len hw.swap;rw [List.length_map] at hlen;have hcap:=Zl.cap (by omega) hw.swap;refine Zb.mk rfl ⟨s,oA hw,Br.d (λ h2=>?_) (λ h2=>?_)⟩
 ·rw [show Zcd l x=(l,3) by unfold Zcd;rw [if_neg n0,if_neg hh,if_pos (by omega)]] at hK
  exact hK w (Sat.rqu.2 ⟨s,hw.cons λ _ h=>h.cons λ _ h=>h.drop⟩)
 rw [show Zcd l x=(Zis x l,0) by unfold Zcd;rw [if_neg n0,if_neg hh,if_neg (by omega)]] at hK;have hw:Sat R (Zl 5 s waT (l.map wtV)::pts q (Z7 s)::wtD b x::Hs) w:=hw.swap;refine ⟨λ at6 w=>∃ k:Nat,at6=k/\k<=l.length/\Zis x l=l.take k++x::l.drop k/\Sat R (Zl 5 s waT (l.map wtV)::pts q (Z7 s)::wtD b x::Hs) w,?_,?_⟩
 ·refine ⟨λ at6 w=>∃ k:Nat,at6=k/\k<=l.length/\(∀ i (hi:i<l.length),i<k->l[i].ahead x=true)/\Sat R (Zl 5 s waT (l.map wtV)::pts q (Z7 s)::wtD b x::Hs) w,λ at6 _=>l.length - at6.toNat,⟨0,rfl,by omega,λ i _ hi=>by omega,hw⟩,?_⟩
  clear hw;rintro _ _ w ⟨k,rfl,hk,hlt,hw⟩;refine Zq hw λ w hw=>?_;refine Zb.mk rfl ⟨s,oS,Br.d (λ h5=>?_) (λ h5=>⟨k,rfl,hk,Zjr hk hlt (λ h=>by omega),hw⟩)⟩;have hk2:k<l.length:=by omega
  refine Zb.mk rfl ⟨s,oS,?_⟩;refine (Zl.reads hw (S:=Sat R (Zl 5 s waT (l.map wtV)::pts q (Z7 s)::wtD b x::Hs)) (λ _ h=>h)).rngM (E:=l) (g:=wtV) hk2 λ a _ he=>?_;refine ⟨_,_,_,_,_,he.z (by exact ⟨rfl,rfl,rfl,rfl,rfl,trivial⟩),x.id,x.cls,x.many,x.time,x.sc,oS,?_⟩;refine (Zkx (a:=l[k]) (b:=x) hw).u λ w hw=>?_;refine ⟨_,rfl,hw,Br.mk (λ h6=>?_) (λ h6=>⟨k,rfl,hk,Zjr hk hlt (λ _=>h6),hw⟩)⟩;rw [Zd (x:=(k:Int) + 1)];refine ⟨⟨k + 1,by omega,by omega,λ i hi hik=>?_,hw⟩,by dsimp only;omega⟩;by_cases hik2:i=k
  ·subst hik2;exact h6
  ·exact hlt i hi (by omega)
 clear hw;rintro _ _ w ⟨k,rfl,hk,hins,hw⟩;obtain ⟨R',hro,⟨xh,hx⟩,hw,back⟩:=Zl.lend hw;have hml:(l.map wtV).length=l.length:=List.length_map ..;refine Za hw λ b5 w hw=>Zb.mk rfl ⟨s,oA hw,by omega,by omega,?_⟩;refine Zbg (b:=b5) (ys:=(l.map wtV).take k) Zw8 hw (Zdq ⟨_,underlying100⟩ hw (hro.take (h:=k) (by omega) s.cap) (ZmJ l k)) hro.wid.take (by rw [List.length_take];omega) (by rw [List.length_take];omega) λ s1 w hw=>?_;refine ⟨x.id,x.cls,x.many,x.time,x.sc,oA hw,?_⟩;refine Zd7 (x:=wtV x) Zw8 hw rfl rfl (by rw [List.length_take];omega) (by rw [List.length_take];omega) λ s2 w hw=>?_;refine Zb.mk rfl ⟨s,oA hw,by omega,by omega,?_⟩;have hsub:=hro.sub (l:=k) (h:=s.len) (m:=s.cap) (by omega) (by omega) (by omega);rw [List.take_of_length_le (show (l.map wtV).length<=s.len by omega)] at hsub;refine Z4 (ys:=(l.map wtV).drop k) Zw8 hw (Zdq ⟨_,underlying100⟩ hw hsub (ZmK l k)) hro.wid.drop (by simp only [List.length_append,List.length_take,List.length_drop,List.length_singleton];omega) (by simp only [List.length_append,List.length_take,List.length_drop,List.length_singleton];omega) λ s3 w hw=>Zb.mk rfl ?_;have hw:=back hw;have hw:Sat R (pts q (Z7 s)::Zl 5 s3 waT ((l.map wtV).take k++[wtV x]++(l.map wtV).drop k)::Zl 5 s waT (l.map wtV)::wtD b x::Hs) w:=hw.arr;refine sRu hw λ w hw=>?_;have hw:=hw.re (pts q (Z7 s3));have e:(l.map wtV).take k++[wtV x]++(l.map wtV).drop k=(Zis x l).map wtV:=by
  rw [hins,<-List.map_take,<-List.map_drop];simp
 rw [e] at hw;exact hK w (Sat.rqu.2 ⟨s3,hw.cons λ _ h=>h.cons λ _ h=>h.drop.drop⟩)
theorem ZeT {q:Nat} {l:List Wt} {id:Int} (hq:l.length<=1000) (hw:Sat R (Za4 q l::Hs) w):
  Zk prog 118 #[nP q,nI id] w λ v w'=>v=nI (Zj0 l id).2/\Sat R (Za4 q (Zj0 l id).1::Hs) w':=by
 apply ZwD
 suffices H:∀ K:nK,(∀ w',Sat R (Za4 q (Zj0 l id).1::Hs) w'->K (nI (Zj0 l id).2) w')->B118 (some ⟨q,0,none⟩) id K w from H _ λ w' h=>⟨rfl,h⟩
 intro K hK;refine (Zf5 (by omega) hw).use ?_;clear hw;rintro _ w ⟨⟨i,rfl,hi⟩,hw⟩;refine ⟨i,rfl,Br.d (λ h1=>?_) (λ h1=>?_)⟩
 ·have hh:¬ ZdN id l=true:=by
   rcases hi with ⟨_,h⟩|⟨k,rfl,_,_,_⟩
   ·rw [h];simp
   ·omega
  rw [show Zj0 l id=(l,2) by unfold Zj0;rw [if_neg hh]] at hK;exact hK w hw
 obtain ⟨k,rfl,hk,hid,hno⟩:∃ k:Nat,i=k/\∃ (hk:k<l.length),l[k].id=id/\ZdN id (l.take k)=false:=by
  rcases hi with ⟨rfl,_⟩|h
  ·omega
  ·exact h
 obtain ⟨hh,hdel⟩:=Zmj hk hid hno;rw [show Zj0 l id=(Zfz id l,0) by unfold Zj0;rw [if_pos hh]] at hK;obtain ⟨s,hw⟩:=Sat.rqu.1 hw;have hlen:=Zl.len hw.swap;rw [List.length_map] at hlen;have hcap:=Zl.cap (by omega) hw.swap;have hml:(l.map wtV).length=l.length:=List.length_map ..;obtain ⟨R',hro,⟨xh,hx⟩,hw,back⟩:=Zl.lend hw.swap;refine Zr (Sat R' [pts q (Z7 s),VC.tru]) hw (λ w hw=>hw.restTru2) λ w hw=>?_;rw [Zd (x:=(k:Int) + 1),show ((k:Int) + 1).toNat=k + 1 by omega];refine Zb.mk rfl ⟨s,oS,by omega,by omega,Zb.mk rfl ⟨s,oS,by omega,by omega,?_⟩⟩;refine Za hw λ b5 w hw=>⟨hw.swap.restTru2,?_⟩;refine Zbg (b:=b5) (ys:=(l.map wtV).take k) Zw8 hw (Zdq ⟨_,underlying100⟩ hw (hro.take (h:=k) (by omega) s.cap) (ZmJ l k)) hro.wid.take (by rw [List.length_take];omega) (by rw [List.length_take];omega) λ s1 w hw=>⟨hw.swap.restTru2,?_⟩;have hsub:=hro.sub (l:=k + 1) (h:=s.len) (m:=s.cap) (by omega) (by omega) (by omega);rw [List.take_of_length_le (show (l.map wtV).length<=s.len by omega)] at hsub;refine Z4 (ys:=(l.map wtV).drop (k + 1)) Zw8 hw (Zdq ⟨_,underlying100⟩ hw hsub (ZmK l (k + 1))) hro.wid.drop (by simp only [List.length_take,List.length_drop];omega) (by simp only [List.length_take,List.length_drop];omega) λ s3 w hw=>⟨hw.swap.restTru2,Zb.mk rfl ?_⟩;have hw:=back hw;have hw:Sat R (pts q (Z7 s)::Zl 5 s3 waT ((l.map wtV).take k++(l.map wtV).drop (k + 1))::Zl 5 s waT (l.map wtV)::Hs) w:=hw.arr;refine sRu hw λ w hw=>?_;have hw:=hw.re (pts q (Z7 s3));have e:(l.map wtV).take k++(l.map wtV).drop (k + 1)=(Zfz id l).map wtV:=by
  rw [hdel,<-List.map_take,<-List.map_drop,List.map_append]
 rw [e] at hw;exact hK w (Sat.rqu.2 ⟨s3,hw.cons λ _ h=>h.cons λ _ h=>h.drop⟩)
theorem Zkw {q:Nat} {l:List Wt} {sl:Sl} {left:List Int} (hq:QOk l) (hL:RoI R sl left) (hw:Sat R (Za4 q l::Hs) w):
  Zk prog 192 #[nP q,.slice sl.a sl.len sl.cap] w λ v w'=>v=.tuple #[wtA ((Zae l left).getD Zaj),.bool (Zae l left).isSome]/\Sat R (Za4 q l::Hs) w':=by
 have hl:l.length<=1000000000:=by have:=hq.len;omega
 have hLl:=hL.len;obtain ⟨s,hw⟩:=Sat.rqu.1 hw;apply ZvT;refine Za hw λ b w hw=>?_;have hw:Sat R (Zl 5 s waT (l.map wtV)::pts q (Z7 s)::wtD b Zaj::Hs) w:=by
  have hw:Sat R (wtD b Zaj::pts q (Z7 s)::Zl 5 s waT (l.map wtV)::Hs) w:=hw;exact hw.arr
 have hlen:=Zl.len hw;rw [List.length_map] at hlen;have close:∀ {w x},Sat R (Zl 5 s waT (l.map wtV)::pts q (Z7 s)::wtD b x::Hs) w->Sat R (Za4 q l::Hs) w:=λ {w x} h=>by
  have h:Sat R (pts q (Z7 s)::Zl 5 s waT (l.map wtV)::wtD b x::Hs) w:=h.swap;exact Sat.rqu.2 ⟨s,h.cons λ _ h=>h.cons λ _ h=>h.drop⟩
 refine ⟨λ i w=>∃ j:Nat,i=j/\j<=l.length/\(l.take j).any (Zcf left)=false/\Sat R (Zl 5 s waT (l.map wtV)::pts q (Z7 s)::wtD b Zaj::Hs) w,λ i _=>l.length - i.toNat,⟨0,rfl,by omega,by simp,hw⟩,?_⟩;clear hw;rintro _ _ w ⟨j,rfl,hj,hn,hw⟩;refine Zb.mk rfl ⟨s,oA hw,Br.d (λ h=>?_) (λ h=>?_)⟩
 ·have hj2:j<l.length:=by omega
  have hx:=hq.ok l[j] (List.getElem_mem hj2);have next:Zcf left l[j]=false->(l.take (j + 1)).any (Zcf left)=false:=λ h=>by
   rw [List.take_add_one,List.getElem?_eq_getElem hj2,List.any_append,hn];simp [h]
  rw [Zd (x:=(j:Int) + 1)];refine Zb.mk rfl ⟨s,oA hw,?_⟩;refine (Zl.reads hw (eqS hw)).rngM (E:=l) (g:=wtV) hj2 λ a _ he=>?_;refine ⟨_,_,_,_,_,he.z (by exact ⟨rfl,rfl,rfl,rfl,rfl,trivial⟩),?_⟩;refine Za hw λ b2 w hw=>?_;refine sRu hw λ w hw=>?_;have hw:=hw.re (wtD b2 l[j]);refine Zq hw λ w hw=>?_;refine ⟨l[j].cls,oS,Br.d (λ h1=>?_) (λ h1=>⟨⟨j + 1,by omega,by omega,next (ZjC λ h=>h1 (by omega)),hw.drop⟩,by dsimp only;omega⟩)⟩;have hc:l[j].cls=(l[j].cls.toNat:Int):=by have:=hx.2.1.1;omega
  have hc2:l[j].cls.toNat<left.length:=by omega
  refine ⟨l[j].many,oS,l[j].cls,oS,?_⟩;refine Ro.ix hL (λ _ h=>h) l[j].cls.toNat hc hc2 ?_;refine Br.d (λ h2=>?_) (λ h2=>⟨⟨j + 1,by omega,by omega,next (ZjC λ h=>h2 ?_),hw.drop⟩,by dsimp only;omega⟩)
  ·have hf:Zcf left l[j]=true:=by
    unfold Zcf;rw [Bool.and_eq_true,decide_eq_true_iff,decide_eq_true_iff];refine ⟨by omega,?_⟩;rw [List.getD_eq_getElem?_getD,List.getElem?_eq_getElem hc2];exact h2
   refine ⟨l[j].id,l[j].cls,l[j].many,l[j].time,l[j].sc,oA hw,?_⟩;have hw:Sat R (wtD b Zaj::wtD b2 l[j]::Zl 5 s waT (l.map wtV)::pts q (Z7 s)::Hs) w:=hw.arr;refine ZK hw (by kernel_rfl) rfl (by simp [Value.cells,wtV]) λ w hw=>?_;have hw:=hw.re (wtD b l[j]);refine ⟨l[j].id,l[j].cls,l[j].many,l[j].time,l[j].sc,oA hw,?_⟩;have hw:Sat R (wtD b2 l[j]::Zl 5 s waT (l.map wtV)::pts q (Z7 s)::wtD b l[j]::Hs) w:=hw.arr;rw [ZgY hj2 hn hf];exact ⟨rfl,close hw.drop⟩
  ·have:=h.2
   rwa [List.getD_eq_getElem?_getD,List.getElem?_eq_getElem hc2] at this
 ·rw [List.take_of_length_le (by omega)] at hn
  have hw:Sat R (wtD b Zaj::Zl 5 s waT (l.map wtV)::pts q (Z7 s)::Hs) w:=hw.arr;refine ZK hw (by kernel_rfl) rfl (by simp [Value.cells,wtV]) λ w hw=>?_;have hw:=hw.re (wtD b Zaj);refine ⟨0,0,0,0,0,oA hw,?_⟩;rw [Zif hn];have hw:Sat R (Zl 5 s waT (l.map wtV)::pts q (Z7 s)::wtD b Zaj::Hs) w:=hw.arr;exact ⟨rfl,close hw⟩
theorem ZpF {n:Int}:∀ {k:Nat},k<5->(Zr9 k n++[0]).set (4 - k) (Zsa k n % 31)=Zr9 (k + 1) n++[0]
 |0,_=>rfl
 |1,_=>rfl
 |2,_=>rfl
 |3,_=>rfl
 |4,_=>rfl
theorem Zoe {n:Int} (hn:0<=n/\n<28629151) (hw:Sat R Hs w):Zk prog 124 #[nI n] w λ v w'=>v=.tuple #[.string (Zuy n),nI 0]/\Sat R Hs w':=by
 apply Zwx;refine ⟨λ w=>Sat R Hs w,Br.d (λ h=>by omega) (λ _=>Br.d (λ h=>by omega) (λ _=>hw)),?_⟩;clear hw;rintro _ w hw;refine Za hw λ p w hw=>?_;have hw:Sat R (Zsb p (Zr9 0 n++[0])::Hs) w:=hw;refine ⟨λ m i w=>∃ k:Nat,k<=5/\m=Zsa k n/\i=4 - (k:Int)/\Sat R (Zsb p (Zr9 k n++[0])::Hs) w,λ _ i _=>(i + 1).toNat,⟨0,by omega,rfl,rfl,hw⟩,?_⟩;clear hw;rintro _ _ _ w ⟨k,hk,rfl,rfl,hw⟩;refine Br.d (λ h=>?_) (λ h=>?_)
 ·have hk5:k<5:=by omega
  obtain ⟨s1,s2,s3,_⟩:=ZmR hn hk5;rw [Int.tmod_eq_emod_of_nonneg s1,Int.tdiv_eq_ediv_of_nonneg s1,Zd (x:=Zsa k n / 31),Zd (x:=4 - (k:Int) - 1)];refine Rng.mk (by omega) (by omega) ?_;rw [show (4 - (k:Int)).toNat=4 - k by omega];refine Zet (by kernel_rfl) hw (by rw [List.length_append,ZmS (by omega)];show 4 - k<5 + 1;omega) λ w hw=>?_;rw [ZpF hk5] at hw;exact ⟨⟨k + 1,by omega,s3.symm,by omega,hw⟩,by dsimp only;omega⟩
 have hk5:k=5:=by omega
 subst hk5;have hcd:=ZrE n;have hdg:=Zrq n;have hw:Sat R (Zsb p (ZbM n++[0])::Hs) w:=hw;refine ⟨λ w=>∃ j:Nat,(j:Int)<=Zph n/\Sat R (Zsb p (ZbM n++[(j:Int)])::Hs) w,λ w=>match w.cell? ⟨p,5,none⟩ with|some (.int _ x)=>(31 - x).toNat|_=>0,⟨0,hcd.1,hw⟩,?_⟩
 clear hw;rintro _ w ⟨j,hj,hw⟩;have hmu:∀ {w:World} {j:Nat},Sat R (Zsb p (ZbM n++[(j:Int)])::Hs) w->(match w.cell? ⟨p,5,none⟩ with|some (.int _ x)=>(31 - x).toNat|_=>0)=(31 - (j:Int)).toNat:=λ {w j} hw=>by
  rw [Zas hw.at 5];rfl
 have ws:Zb9 2 (ZbM n)=2 * (n / 923521 % 31) + (3 * (n / 29791 % 31) + (4 * (n / 961 % 31) + (5 * (n / 31 % 31) + 6 * (n % 31)))):=by
  simp only [ZbM,Zb9];omega
 refine ⟨Zc (ZbM n++[(j:Int)]),rfl,oA hw,?_⟩;have B:∀ d∈ZbM n,0<=d/\d<100:=λ d hd=>by have:=hdg d hd;omega
 have hs:=ZhZ (a:=n / 923521 % 31) (b:=n / 29791 % 31) (c:=n / 961 % 31) (d:=n / 31 % 31) (e:=n % 31) (f:=(j:Int)) (B _ (by simp [ZbM])) (B _ (by simp [ZbM])) (B _ (by simp [ZbM])) (B _ (by simp [ZbM])) (B _ (by simp [ZbM])) (by omega) hw;have hm0:=hmu hw;refine hs.use ?_;clear hw hs;rintro _ w2 ⟨rfl,hw⟩;have hws:Zb9 2 [n / 923521 % 31,n / 29791 % 31,n / 961 % 31,n / 31 % 31,n % 31]=Zb9 2 (ZbM n):=rfl;rw [hws];have hnn:0<=Zb9 2 (ZbM n) + (j:Int):=by rw [ws];omega
 refine ⟨_,rfl,?_⟩;rw [Int.tmod_eq_emod_of_nonneg hnn];refine Br.ne (λ h0=>?_) (λ h0=>?_)
 ·have hjc:(j:Int)≠Zph n:=λ e=>h0 (by rw [e];unfold Zph;omega)
  refine ⟨(j:Int),?_,?_⟩
  ·have:=At.ints (b:=p) (xs:=ZbM n++[(j:Int)]) (eqS hw) (i:=5) (by show 5<6;omega)
   exact this
  rw [Zd (x:=(j:Int) + 1)];refine Zet (i:=5) (l:=ZbM n++[(j:Int)]) (x:=(j:Int) + 1) (by kernel_rfl) hw (by show 5<6;omega) λ w hw=>?_;have hw:Sat R (Zsb p (ZbM n++[((j + 1:Nat):Int)])::Hs) w:=hw;refine ⟨⟨j + 1,by omega,hw⟩,?_⟩;have h3:(31 - ((j + 1:Nat):Int)).toNat<(31 - (j:Int)).toNat:=by omega
  exact Nat.lt_of_lt_of_eq (Nat.lt_of_le_of_lt (Nat.le_of_eq (hmu hw)) h3) hm0.symm
 have hjc:(j:Int)=Zph n:=by unfold Zph at hj ⊢;omega
 rw [hjc] at hw;obtain ⟨L,hL⟩:∃ L,L=ZbM n++[Zph n]:=⟨_,rfl⟩;have hL6:L.length=6:=by rw [hL];rfl
 have hLb:∀ d∈L,0<=d/\d<31:=λ d hd=>by
  rw [hL] at hd;rcases List.mem_append.1 hd with hd|hd
  ·exact hdg d hd
  ·rw [List.mem_singleton.1 hd];exact hcd
 rw [<-hL] at hw;refine ⟨λ t i w=>∃ k:Nat,i=k/\k<=6/\Sat R (Own t 5 (b8 ((L.take k).map ZcI))::Zsb p L::Hs) w,λ _ i _=>(6 - i).toNat,⟨0,rfl,by omega,Own.nil hw⟩,?_⟩;clear hw;rintro _ t _ w ⟨k,rfl,hk,hw⟩;refine Br.d (λ h=>?_) (λ h=>?_)
 ·have hk6:k<L.length:=by omega
  have hd:=hLb _ (List.getElem_mem hk6);obtain ⟨g1,g2⟩:=Zgm hd;refine Rng.mk (by omega) (by omega) ⟨L[k],?_,_,hd.1,g1,?_⟩
  ·rw [Int.toNat_natCast]
   exact At.ints (b:=p) (xs:=L) (eqS hw) hk6
  rw [g2];refine Zcp (x:=.int .u8 (ZcI L[k])) ZhK hw (Zea .u8 _) rfl (by rw [List.length_map,List.length_map,List.length_take];omega) (by rw [List.length_map,List.length_map,List.length_take];omega) λ t2 w hw=>?_;rw [Zd (x:=(k:Int) + 1)];refine ⟨⟨k + 1,by omega,by omega,?_⟩,by dsimp only;omega⟩;have e1:(L.take (k + 1)).map ZcI=(L.take k).map ZcI++[ZcI L[k]]:=by rw [List.take_add_one,List.getElem?_eq_getElem hk6,List.map_append];rfl
  rw [e1,b8,List.map_append];exact hw
 ·rw [List.take_of_length_le (by omega)] at hw
  have hlb:L.map ZcI=ZsY n:=by rw [hL];rfl
  rw [hlb] at hw;exact ⟨_,ZjO (t:=t) (T:=5) (bs:=ZsY n) (by rw [Zjh];omega) hw,rfl,hw.drop.drop⟩
theorem Zn8 {q:Nat} {l:List Wt} (hlen:l.length<=1000) (hok:∀ x∈l,x.Ok) (hfls:∀ x∈l,x.sc<18446744073709551616) (hw:Sat R (Za4 q l::Hs) w):
  Zk prog 70 #[nP q] w λ v w'=>∃ t:Sl,v=.slice t.a t.len t.cap/\Sat R (Own t 5 (b8 (qB l))::Za4 q l::Hs) w':=by
 apply ZxM
 suffices H:∀ K:nK,(∀ (t:Sl) w',Sat R (Own t 5 (b8 (qB l))::Za4 q l::Hs) w'->K (.slice t.a t.len t.cap) w')->B70 (some ⟨q,0,none⟩) K w from H _ λ t w' h=>⟨t,rfl,h⟩
 intro K hK;obtain ⟨s,hw⟩:=Sat.rqu.1 hw;have hsl:=Zl.len hw.swap;rw [List.length_map] at hsl;refine Zb.mk rfl ⟨s,oA hw,?_⟩;rw [Zar];refine (ZbX (by omega) hw).u1 λ t0 w hw=>?_;refine ⟨t0,rfl,?_⟩;have e0:ZeO s.len=Zi [(l.length:Int)]:=by rw [hsl];simp [Zi]
 rw [e0] at hw;refine ⟨λ t i w=>∃ k:Nat,i=k/\k<=l.length/\Sat R (Own t 5 (b8 (Zi [(l.length:Int)]++((l.take k).map wtB).flatten))::pts q (Z7 s)::Zl 5 s waT (l.map wtV)::Hs) w,
  λ _ i _=>l.length - i.toNat,⟨0,rfl,by omega,by simpa using hw⟩,?_⟩
 clear hw;rintro _ t _ w ⟨k,rfl,hk,hw⟩;refine Zb.mk rfl ⟨s,oA hw,Br.d (λ h=>?_) (λ h=>?_)⟩
 ·have hk2:k<l.length:=by omega
  have hx:=List.getElem_mem hk2;have hok1:=hok _ hx;have hfl:=hfls _ hx;have hu:=Zts hok1 hfl;obtain ⟨h1,h2,h3,h4⟩:=id hok1;refine Zb.mk rfl ⟨s,oA hw,?_⟩;refine (Zl.readsM (n:=5) (s:=s) (T:=waT) (rows:=l.map wtV) hw (eqS hw)).rngM (E:=l) (g:=wtV) hk2 λ a _ he=>?_;refine ⟨_,_,_,_,_,he.z (by exact ⟨rfl,rfl,rfl,rfl,rfl,trivial⟩),?_⟩;refine Za hw λ b2 w hw=>?_;refine sRu hw λ w hw=>?_;have hw:=hw.re (wtD b2 l[k]);refine Za7 hw λ w hw=>?_;refine ⟨l[k].id,oS,l[k].cls,oS,l[k].many,oS,l[k].time,oS,l[k].sc,oS,?_⟩;refine (ZpV hfl hw).u λ w hw=>?_;refine ⟨_,rfl,hw,?_⟩;rw [Zar (x:=l[k].id),Zar (x:=l[k].cls),Zar (x:=l[k].many),Zar (x:=l[k].time)];refine Za hw λ b5 w hw=>⟨hw.absorb,?_⟩;obtain ⟨us,hus⟩:∃ us,us=wtN l[k]:=⟨_,rfl⟩;have hul:us.length=5:=by rw [hus];rfl
  have hw:Sat R (pts b5 (.cells (us.map λ n=>Value.int .u64 (n:Nat)).toArray 141 (0,0))::wtD b2 l[k]::Own t 5 (b8 (Zi [(l.length:Int)]++((l.take k).map wtB).flatten))::pts q (Z7 s)::Zl 5 s waT (l.map wtV)::Hs) w:=by
   have e:([.int .u64 l[k].id,.int .u64 l[k].cls,.int .u64 l[k].many,.int .u64 l[k].time,.int .u64 ((ZqX l[k].sc:Nat):Int)]:List Value)=us.map λ n=>Value.int .u64 (n:Nat):=by
    subst hus;simp only [wtN,List.map_cons,List.map_nil,Int.toNat_of_nonneg h2.1,Int.toNat_of_nonneg h4.1,Int.toNat_of_nonneg (show 0<=l[k].id by omega),Int.toNat_of_nonneg (show 0<=l[k].many by omega)]
   rw [<-e];exact hw.cons λ _ h=>h.drop
  rw [<-hus] at hu;have hblen:=ZbF (l:=l.take k) (code:=wtB) (m:=45) λ w hw=>Zlz (hok w (List.mem_of_mem_take hw)) (hfls w (List.mem_of_mem_take hw));rw [List.length_take] at hblen;have h0:=ZJ (x:=(l.length:Int)) (by omega);obtain ⟨bs,hbs⟩:∃ bs,bs=Zi [(l.length:Int)]++((l.take k).map wtB).flatten:=⟨_,rfl⟩;have hbl:bs.length<=100000:=by rw [hbs,List.length_append];omega
  rw [<-hbs] at hw;refine ⟨λ t i w=>∃ j:Nat,i=j/\j<=5/\Sat R (Own t 5 (b8 (bs++ZhQ (us.take j)))::pts b5 (.cells (us.map λ n=>Value.int .u64 (n:Nat)).toArray 141 (0,0))::wtD b2 l[k]::pts q (Z7 s)::Zl 5 s waT (l.map wtV)::Hs) w,
   λ _ i _=>5 - i.toNat,⟨0,rfl,by omega,?_⟩,?_⟩
  ·have hw:Sat R (Own t 5 (b8 bs)::pts b5 (.cells (us.map λ n=>Value.int .u64 (n:Nat)).toArray 141 (0,0))::wtD b2 l[k]::pts q (Z7 s)::Zl 5 s waT (l.map wtV)::Hs) w:=hw.arr
   simpa [ZhQ] using hw
  clear hw;rintro _ t _ w ⟨j,rfl,hj,hw⟩;refine Br.d (λ hj5=>?_) (λ hj5=>?_)
  ·have hj2:j<us.length:=by omega
   have hul2:=ZkQ (l:=us.take j) λ x hx=>hu x (List.mem_of_mem_take hx);rw [List.length_take] at hul2;have huj:=hu _ (List.getElem_mem hj2);refine Rng.mk (by omega) (by omega) ⟨((us[j]:Nat):Int),?_,?_⟩
   ·have hjm:j<(us.map λ n=>Value.int .u64 (n:Nat)).length:=by rw [List.length_map];exact hj2
    have:=At.vals (b:=b5) (vs:=us.map λ n=>Value.int .u64 (n:Nat)) (eqS hw) hjm;rw [List.getElem_map] at this;exact this
   refine (ZbX huj hw).u1 λ t1 w hw=>?_;refine ⟨t1,rfl,?_⟩;have hnb:=Zbd huj;refine Zaz ZhK (s:=t) (n:=1099511627790) underlying47 hw.swap (by rw [List.length_append];omega) (by omega) (by omega) λ s2 w hw=>?_;have hw:=hw.cons λ _ h=>h.drop;rw [Zd (x:=(j:Int) + 1)];refine ⟨⟨j + 1,by omega,by omega,?_⟩,by dsimp only;omega⟩;rw [Zii hj2,<-List.append_assoc];exact hw
  ·rw [List.take_of_length_le (by omega:us.length<=j),hus,<-Zxc,hbs,List.append_assoc,<-Zc1 hk2] at hw
   rw [Zd (x:=(k:Int) + 1)];exact ⟨⟨k + 1,by omega,by omega,hw.cons λ _ h=>h.drop.drop⟩,by dsimp only;omega⟩
 ·rw [List.take_of_length_le (by omega:l.length<=k)] at hw
  exact hK t w (hw.cons λ _ h=>Sat.rqu.2 ⟨s,h⟩)
end
end Go.Proofs.YtlplemdmegpoeaaGreatDoor

namespace Go.Proofs.YtlplemdmegpoeaaGreatDoor
section
open Go Go.VC Tryz
open Classical
variable {R:Cx} {Hs Rest:List HP} {w:World}
abbrev plT:TypeId:=107
abbrev rkT:TypeId:=125
def Zag (e:FE):List Value:=[.pointer (some ⟨e.1,0,none⟩),.pointer (some ⟨e.2.1,0,none⟩)]
def rkV (x:Bk):List Value:=[nI x.id,nI x.flt,nI x.cls,nI x.many,nI x.state,nI x.till]
abbrev rkC (b:Nat) (x:Bk):HP:=pts b (.cells (rkV x).toArray rkT (0,0))
def ZzL (e:FE):HP:=ZhI [Zbi e.1 e.2.2.r,Za4 e.2.1 e.2.2.q]
def ZT (fs:List FE):HP:=ZhI (fs.map ZzL)
theorem Zd3 {A C:List FE} {f q:Nat} {p:Pl}:Sat R (ZT (A++(f,q,p)::C)::Hs) w↔Sat R (Zbi f p.r::Za4 q p.q::ZT (A++C)::Hs) w:=by
 unfold ZT;rw [List.map_append,List.map_cons,ZiV,List.map_append];exact Sat.star
abbrev ZC (now next:Int) (sf sb:Sl):Obj:=.cells [nI now,nI next,.slice sf.a sf.len sf.cap,.slice sb.a sb.len sb.cap].toArray 46 (0,0)
abbrev RBO (p:Nat) (now next:Int) (L:List Bk) (sf sb:Sl) (fs:List FE) (Hs:List HP):List HP:=pts p (ZC now next sf sb)::Zl 2 sf plT (fs.map Zag)::Zl 6 sb rkT (L.map rkV)::ZT fs::Hs
def Zm (p:Nat) (b:ZE):HP:=exs λ sf:Sl=>exs λ sb:Sl=>exs λ fs:List FE=>ZhI [pur ((fs.map λ e=>e.2.2)=b.fl),pts p (ZC b.now b.next sf sb),Zl 2 sf plT (fs.map Zag),Zl 6 sb rkT (b.L.map rkV),ZT fs]
theorem Sat.rbook {p:Nat} {b:ZE}:Sat R (Zm p b::Hs) w↔∃ sf sb fs,(fs.map λ e=>e.2.2)=b.fl/\Sat R (RBO p b.now b.next b.L sf sb fs Hs) w:=by
 unfold Zm;simp only [Sat.exs];constructor
 ·rintro ⟨sf,sb,fs,h⟩
  obtain ⟨h1,h2⟩:=Sat.pur.1 (Sat.star.1 h);exact ⟨sf,sb,fs,h1,h2⟩
 ·rintro ⟨sf,sb,fs,h1,h2⟩
  exact ⟨sf,sb,fs,Sat.star.2 (Sat.pur.2 ⟨h1,h2⟩)⟩
theorem Ztv {q:Nat} {r:RF} (hw:Sat R Hs w) [tk:ZfA (Zbi q r) Hs Rest]:At (λ w'=>w'=w) (Addr.add ⟨q,0,none⟩ 0) [nI r.num]:=by
 obtain ⟨sg,sl,s,ts,hl,hs⟩:=Sat.rf.1 (hw.perm tk.perm);have hs:=hs.take (pts q (Zx r sg sl s));rw [Zs];exact At.own (eqS hs) (by exact ⟨rfl,trivial⟩)
theorem ZjE {fs:List FE} {j:Nat} (hj:j<fs.length):∃ f q p,fs[j]=(f,q,p)/\fs=fs.take j++(f,q,p)::fs.drop (j + 1):=by
 refine ⟨fs[j].1,fs[j].2.1,fs[j].2.2,rfl,?_⟩;have h:=List.drop_eq_getElem_cons hj;have h2:=List.take_append_drop j fs;rw [h] at h2;exact h2.symm
theorem ZkE {p:Nat} {now next n:Int} {L:List Bk} {sf sb:Sl} {fs:List FE} (hl:fs.length<=1000000) (hw:Sat R (RBO p now next L sf sb fs Hs) w):
  Zk prog 58 #[nP p,nI n] w λ v w'=>(∃ i:Int,v=nI i/\((i=-1/\∀ e∈fs,e.2.2.n≠n)\/∃ k:Nat,i=k/\∃ hk:k<fs.length,fs[k].2.2.n=n))/\Sat R (RBO p now next L sf sb fs Hs) w':=by
 have hlen:=Zl.len (Sat.swap hw);rw [List.length_map] at hlen;apply ZxV;refine ⟨λ i w=>∃ j:Nat,i=j/\j<=fs.length/\(∀ e∈fs.take j,e.2.2.n≠n)/\Sat R (RBO p now next L sf sb fs Hs) w,λ i _=>fs.length - i.toNat,⟨0,rfl,by omega,by simp,hw⟩,?_⟩;clear hw;rintro _ _ w ⟨j,rfl,hj,hn,hw⟩;refine Zb.mk rfl ⟨sf,oA hw,Br.d (λ h=>?_) (λ h=>?_)⟩
 ·have hj2:j<fs.length:=by omega
  obtain ⟨f,q,pl,he,hsp⟩:=ZjE hj2;refine Zb.mk rfl ⟨sf,oA hw,?_⟩;refine (Zl.readsM (n:=2) (s:=sf) (T:=plT) (rows:=fs.map Zag) hw (eqS hw)).rngM (E:=fs) (g:=Zag) hj2 λ a _ hr=>?_;refine ⟨some ⟨f,0,none⟩,hr.zz (by rw [he];exact ⟨rfl,trivial⟩),Zb.mk rfl ⟨pl.r.num,?_,?_⟩⟩
  ·have h2:Sat R (ZT fs::pts p (ZC now next sf sb)::Zl 2 sf plT (fs.map Zag)::Zl 6 sb rkT (L.map rkV)::Hs) w:=hw.arr
   rw [hsp] at h2;exact Ztv (Zd3.1 h2)
  refine Br.e (λ h1=>⟨⟨j,rfl,.inr ⟨j,rfl,hj2,by rw [he];exact h1⟩⟩,hw⟩) (λ h1=>?_);rw [Zd];refine ⟨⟨j + 1,by omega,by omega,λ e hm=>?_,hw⟩,by dsimp only;omega⟩;rw [List.take_add_one,List.getElem?_eq_getElem hj2] at hm;rcases List.mem_append.1 hm with hm|hm
  ·exact hn e hm
  ·have hm2:e=fs[j]:=by simpa using hm
   rw [hm2,he];exact h1
 ·rw [List.take_of_length_le (by omega)] at hn
  exact ⟨⟨-1,rfl,.inl ⟨rfl,hn⟩⟩,hw⟩
theorem ZxB {fs:List FE} {k:Nat} (hk:k<fs.length):fs=fs.take k++(fs[k].1,fs[k].2.1,fs[k].2.2)::fs.drop (k + 1):=by
 have h:=List.drop_eq_getElem_cons hk;have h2:=List.take_append_drop k fs;rw [h] at h2;exact h2.symm
abbrev RBR (p:Nat) (now next:Int) (L:List Bk) (sf sb:Sl) (fs:List FE) (k:Nat) (Hs:List HP):List HP:=ZT (fs.take k++fs.drop (k + 1))::pts p (ZC now next sf sb)::Zl 2 sf plT (fs.map Zag)::Zl 6 sb rkT (L.map rkV)::Hs
theorem RBO.fl {p:Nat} {now next:Int} {L:List Bk} {sf sb:Sl} {fs:List FE} {k:Nat} (hk:k<fs.length):Sat R (RBO p now next L sf sb fs Hs) w↔Sat R (Zbi fs[k].1 fs[k].2.2.r::Za4 fs[k].2.1 fs[k].2.2.q::RBR p now next L sf sb fs k Hs) w:=by
 have e:ZT fs=ZT (fs.take k++(fs[k].1,fs[k].2.1,fs[k].2.2)::fs.drop (k + 1)):=congrArg ZT (ZxB hk);constructor
 ·intro hw
  have h2:Sat R (ZT fs::pts p (ZC now next sf sb)::Zl 2 sf plT (fs.map Zag)::Zl 6 sb rkT (L.map rkV)::Hs) w:=Sat.arr (Hs:=RBO p now next L sf sb fs Hs) hw;rw [e] at h2;exact Zd3.1 h2
 ·intro hw
  have h2:=Zd3.2 hw;rw [<-e] at h2;exact Sat.arr (Hs:=ZT fs::pts p (ZC now next sf sb)::Zl 2 sf plT (fs.map Zag)::Zl 6 sb rkT (L.map rkV)::Hs) h2
theorem ZxA {S:World->Prop} {p:Nat} {now next:Int} {L:List Bk} {sf sb:Sl} {fs:List FE} {k:Nat} (hS:∀ w,S w->Sat R (RBO p now next L sf sb fs Hs) w) (hk:k<fs.length):At S (Addr.add ⟨fs[k].1,0,none⟩ 0) [nI fs[k].2.2.n]:=
 λ w' hs i v hv=>(Ztv (r:=fs[k].2.2.r) ((RBO.fl hk).1 (hS w' hs))) w' rfl i v hv
theorem RBO.lens {p:Nat} {now next:Int} {L:List Bk} {sf sb:Sl} {fs:List FE} (hw:Sat R (RBO p now next L sf sb fs Hs) w):sf.len=fs.length/\sb.len=L.length:=by
 have h1:=Zl.len (Sat.swap hw);have h2:Sat R (Zl 6 sb rkT (L.map rkV)::pts p (ZC now next sf sb)::Zl 2 sf plT (fs.map Zag)::ZT fs::Hs) w:=Sat.arr (Hs:=RBO p now next L sf sb fs Hs) hw;have h3:=Zl.len h2;rw [List.length_map] at h1 h3;exact ⟨h1,h3⟩
theorem Zz0:ElN prog 43 43 plT 2 16:=⟨underlying43,⟨_,underlying43⟩,by kernel_rfl⟩
theorem ZyF:ElN prog 44 44 rkT 6 48:=⟨underlying44,⟨_,underlying44⟩,by kernel_rfl⟩
end
section
open Go Go.VC Tryz
open Classical
variable {R:Cx} {Hs Rest:List HP} {w:World} {p:Nat} {now next:Int} {L:List Bk} {sf sb:Sl} {fs:List FE}
theorem ZeX {id:Int} (hl:L.length<=1000000) (hw:Sat R (RBO p now next L sf sb fs Hs) w):
  Zk prog 117 #[nP p,nI id] w λ v w'=>(∃ i:Int,v=nI i/\((i=-1/\∀ x∈L,x.id≠id)\/∃ k:Nat,i=k/\∃ hk:k<L.length,L[k].id=id))/\Sat R (RBO p now next L sf sb fs Hs) w':=by
 apply ZwE;have hsb:=(RBO.lens hw).2;refine ⟨λ i w=>∃ j:Nat,i=j/\j<=L.length/\(∀ x∈L.take j,x.id≠id)/\Sat R (RBO p now next L sf sb fs Hs) w,λ i _=>L.length - i.toNat,⟨0,rfl,by omega,by simp,hw⟩,?_⟩;clear hw;rintro _ _ w ⟨j,rfl,hj,hno,hw⟩;refine Zb.mk rfl ⟨sb,oA hw,Br.d (λ h=>?_) (λ h=>?_)⟩
 ·have hj2:j<L.length:=by omega
  refine Zb.mk rfl ⟨sb,oA hw,?_⟩;refine (Zl.readsM (n:=6) (s:=sb) (T:=rkT) (rows:=L.map rkV) hw (eqS hw)).rngM (E:=L) (g:=rkV) hj2 λ a _ he=>?_;refine ⟨L[j].id,he.zz (by exact ⟨rfl,trivial⟩),Br.e (λ h1=>?_) (λ h1=>?_)⟩
  ·exact ⟨⟨j,rfl,.inr ⟨j,rfl,hj2,h1⟩⟩,hw⟩
  ·rw [Zd]
   refine ⟨⟨j + 1,by omega,by omega,λ x hx=>?_,hw⟩,by dsimp only;omega⟩;rw [List.take_add_one,List.getElem?_eq_getElem hj2] at hx;rcases List.mem_append.1 hx with hx|hx
   ·exact hno x hx
   ·rw [show x=L[j] by simpa using hx];exact h1
 ·rw [List.take_of_length_le (by omega)] at hno
  exact ⟨⟨-1,rfl,.inl ⟨rfl,hno⟩⟩,hw⟩
theorem Zib (hw:Sat R (RBO p now next L sf sb fs Hs) w):
  Zk prog 110 #[nP p] w λ v w'=>v=.bool (decide (300<=L.length\/28629151<=next))/\Sat R (RBO p now next L sf sb fs Hs) w':=by
 apply ZwL;have hsb:=(RBO.lens hw).2;refine Zb.mk rfl ⟨sb,oA hw,?_⟩
 with_reducible refine Br.d (λ h=>?_) (λ h=>?_)
 ·exact ⟨by rw [decide_eq_true (.inl (by omega))],hw⟩
 ·refine Zb.mk rfl ⟨next,oA hw,?_,hw⟩
  congr 1
  exact decide_eq_decide.2 ⟨λ h=>.inr h,λ h2=>h2.resolve_left (by omega)⟩
theorem ZpW (l:List Bk):ZR (l.map rkV).flatten=true:=by
 unfold ZR;rw [List.all_eq_true];intro v hv;obtain ⟨r,h1,h2⟩:=List.mem_flatten.1 hv;obtain ⟨x,_,rfl⟩:=List.mem_map.1 h1;simp only [rkV,List.mem_cons,List.not_mem_nil,or_false] at h2;rcases h2 with rfl|rfl|rfl|rfl|rfl|rfl<;>rfl
theorem Zsv (l:List Bk) (k:Nat):ZR ((l.map rkV).take k).flatten=true:=by
 rw [<-List.map_take];exact ZpW _
theorem Zsw (l:List Bk) (k:Nat):ZR ((l.map rkV).drop k).flatten=true:=by
 rw [<-List.map_drop];exact ZpW _
theorem Zkz {k:Nat} (hl:L.length<=1000000) (hk:k<L.length) (hw:Sat R (RBO p now next L sf sb fs Hs) w):
  Zk prog 115 #[nP p,nI k] w λ v w'=>v=.tuple #[]/\∃ sb',Sat R (RBO p now next (L.take k++L.drop (k + 1)) sf sb' fs Hs) w':=by
 apply ZwG
 suffices H:∀ K:nK,(∀ sb' w',Sat R (RBO p now next (L.take k++L.drop (k + 1)) sf sb' fs Hs) w'->K (.tuple #[]) w')->B115 (some ⟨p,0,none⟩) k K w from H _ λ sb' w' h=>⟨rfl,sb',h⟩
 intro K hK;have hlen:=(RBO.lens hw).2;have hw:Sat R (Zl 6 sb rkT (L.map rkV)::pts p (ZC now next sf sb)::Zl 2 sf plT (fs.map Zag)::ZT fs::Hs) w:=hw.arr;have hcap:=Zl.cap (by omega) hw;have hml:(L.map rkV).length=L.length:=List.length_map ..;obtain ⟨R',hro,⟨xh,hx⟩,hw,back⟩:=Zl.lend hw;refine Zr (Sat R' [pts p (ZC now next sf sb),VC.tru]) hw (λ w hw=>hw.restTru2) λ w hw=>?_;rw [Zd (x:=(k:Int) + 1),show ((k:Int) + 1).toNat=k + 1 by omega];refine Zb.mk rfl ⟨sb,oS,by omega,by omega,Zb.mk rfl ⟨sb,oS,by omega,by omega,?_⟩⟩;refine Za hw λ b5 w hw=>⟨hw.swap.restTru2,?_⟩;refine Zbg (b:=b5) (ys:=(L.map rkV).take k) ZyF hw (Zdq ⟨_,underlying44⟩ hw (hro.take (h:=k) (by omega) sb.cap) (Zsv L k)) hro.wid.take (by rw [List.length_take];omega) (by rw [List.length_take];omega) λ s1 w hw=>⟨hw.swap.restTru2,?_⟩;have hsub:=hro.sub (l:=k + 1) (h:=sb.len) (m:=sb.cap) (by omega) (by omega) (by omega);rw [List.take_of_length_le (show (L.map rkV).length<=sb.len by omega)] at hsub;refine Z4 (ys:=(L.map rkV).drop (k + 1)) ZyF hw (Zdq ⟨_,underlying44⟩ hw hsub (Zsw L (k + 1))) hro.wid.drop (by simp only [List.length_take,List.length_drop];omega) (by simp only [List.length_take,List.length_drop];omega) λ s3 w hw=>⟨hw.swap.restTru2,Zb.mk rfl ?_⟩;have hw:=back hw;have hw:Sat R (pts p (ZC now next sf sb)::Zl 6 s3 rkT ((L.map rkV).take k++(L.map rkV).drop (k + 1))::Zl 6 sb rkT (L.map rkV)::Zl 2 sf plT (fs.map Zag)::ZT fs::Hs) w:=hw.arr;refine sRu hw λ w hw=>?_;have hw:=hw.re (pts p (ZC now next sf s3));have e:(L.map rkV).take k++(L.map rkV).drop (k + 1)=(L.take k++L.drop (k + 1)).map rkV:=by
  rw [<-List.map_take,<-List.map_drop,List.map_append]
 rw [e] at hw;have hw:Sat R (Zl 6 sb rkT (L.map rkV)::RBO p now next (L.take k++L.drop (k + 1)) sf s3 fs Hs) w:=hw.arr;exact hK s3 w hw.drop
theorem Zq1 {k:Nat} (h:Zbu Bk.id L) (hk:k<L.length):Zjp Bk.id L[k].id L=L.take k++L.drop (k + 1):=by
 have e:L=L.take k++L[k]::L.drop (k + 1):=by
  conv=>lhs;rw [<-List.take_append_drop k L,List.drop_eq_getElem_cons hk]
 have h1:∀ x∈L.take k++L.drop (k + 1),x.id≠L[k].id:=by
  intro x hx;have hn:(L.take k++L[k]::L.drop (k + 1)).Pairwise λ a b=>a.id<b.id:=by rw [<-e];exact h
  rw [List.pairwise_append,List.pairwise_cons] at hn;obtain ⟨_,⟨n2,_⟩,n3⟩:=hn;rcases List.mem_append.1 hx with hx|hx
  ·have:=n3 x hx _ List.mem_cons_self;omega
  ·have:=n2 x hx;omega
 unfold Zjp;generalize hx:L[k]=x at *
 conv=>lhs;rw [e]
 rw [List.filter_append,List.filter_cons,if_neg (by simp),<-List.filter_append];exact List.filter_eq_self.2 λ y hy=>by simpa using h1 y hy
theorem ZgS {b:ZE} {s:ByteArray} (k:Core b) (hw:Sat R (RBO p b.now b.next b.L sf sb fs Hs) w):
  Zk prog 51 #[nP p,.string s] w λ v w'=>(∃ i e:Int,v=.tuple #[nI i,nI e]/\((e≠0/\ZaY b s=(none,e))\/(e=0/\∃ k:Nat,i=k/\∃ hk:k<b.L.length,ZaY b s=(some b.L[k],0))))/\Sat R (RBO p b.now b.next b.L sf sb fs Hs) w':=by
 have hm:=k.many;apply Zx2
 suffices H:∀ K:nK,(∀ (i e:Int) w',((e≠0/\ZaY b s=(none,e))\/(e=0/\∃ k:Nat,i=k/\∃ hk:k<b.L.length,ZaY b s=(some b.L[k],0)))->Sat R (RBO p b.now b.next b.L sf sb fs Hs) w'->K (.tuple #[nI i,nI e]) w')->B51 (some ⟨p,0,none⟩) s K w from H _ λ i e w' h h2=>⟨⟨i,e,rfl,h⟩,h2⟩
 intro K hK;refine (Zkt (s:=s) hw).u λ w hw=>?_;refine ⟨_,_,rfl,Br.ne (λ h=>?_) (λ h=>?_)⟩
 ·exact hK _ _ _ (.inl ⟨h,by unfold ZaY;rw [if_pos h]⟩) hw
 refine (ZeX (id:=(ZaZ (ZQ s)).1) (by omega) hw).use ?_;clear hw;rintro _ w ⟨⟨i,rfl,hi⟩,hw⟩;refine ⟨i,rfl,Br.d (λ h2=>?_) (λ h2=>?_)⟩
 ·refine hK _ _ _ (.inl ⟨by omega,?_⟩) hw
  have hno:∀ x∈b.L,x.id≠(ZaZ (ZQ s)).1:=by
   rcases hi with ⟨_,h3⟩|⟨k,rfl,_⟩
   ·exact h3
   ·omega
  unfold ZaY;rw [if_neg (by omega)];have:b.bk (ZaZ (ZQ s)).1=none:=by
   cases hb:b.bk (ZaZ (ZQ s)).1 with
   |none=>rfl
   |some x=>exact absurd ((ZiJ k).1 hb).2 (hno x ((ZiJ k).1 hb).1)
  rw [this]
 ·obtain ⟨j,rfl,hj,hid⟩:∃ j:Nat,i=j/\∃ hj:j<b.L.length,b.L[j].id=(ZaZ (ZQ s)).1:=by
   rcases hi with ⟨rfl,_⟩|h3
   ·omega
   ·exact h3
  refine hK _ _ _ (.inr ⟨rfl,j,rfl,hj,?_⟩) hw;unfold ZaY;rw [if_neg (by omega),(ZiJ k).2 ⟨List.getElem_mem hj,hid⟩]
theorem ZaR {b4:Nat} {r0 r:Rp} {sl0 sb0 sl sb:Sl} {K:Int->ByteArray->Int->Int->Int->Int->Int->Sl->Sl->World->Prop} (hw:Sat R (rpC b4 r0 sl0 sb0::Hs) w) (k:∀ w',Sat R Hs w'->K r.code r.pnr r.state r.flt r.cls r.many r.time sl sb w'):
  ∃ w_6:World,((Instr.storeAt 33 (.pointer ((some ⟨b4,0,none⟩))) (.agg #[nI r.code,.string r.pnr,nI r.state,nI r.flt,nI r.cls,nI r.many,nI r.time,.slice sl.a sl.len sl.cap,.slice sb.a sb.len sb.cap])).run prog w=.ok () w_6)/\
  ∃ u:Int,∃ u_1:ByteArray,∃ u_2:Int,∃ u_3:Int,∃ u_4:Int,∃ u_5:Int,∃ u_6:Int,∃ u_7:Sl,∃ u_8:Sl,(At (λ w'=>w'=w_6) ⟨b4,0,none⟩ [nI u,.string u_1,nI u_2,nI u_3,nI u_4,nI u_5,nI u_6,.slice u_7.a u_7.len u_7.cap,.slice u_8.a u_8.len u_8.cap])/\
  K u u_1 u_2 u_3 u_4 u_5 u_6 u_7 u_8 w_6:=by
 refine sRu hw λ w hw=>?_;have hw:=hw.re (rpC b4 r sl sb);exact ⟨r.code,r.pnr,r.state,r.flt,r.cls,r.many,r.time,sl,sb,oA hw,k _ hw.drop⟩
end
section
open Go Go.VC Tryz
open Classical
variable {R:Cx} {Hs Rest:List HP} {w:World}
theorem Sat.two {A B:HP} {R1 R2:List HP} (hw:Sat R Hs w) [a:ZfA A Hs R1] [b:ZfA B R1 R2]:Sat R [A,B,VC.tru] w:=
 (hw.perm a.perm).cons λ _ h=>(h.perm b.perm).restTru2
theorem ZcY {f:Nat} {r:RF} (g:ZaP r) (hw:Sat R (Zbi f r::Hs) w):
  Zk prog 59 #[nP f] w λ v w'=>∃ t:Sl,v=.slice t.a t.len t.cap/\Sat R (Own t 3 (Zc (Zj r))::Zbi f r::Hs) w':=
 ZlP (by have:=g.len.1;omega) (by have:=Zb1 g;omega) g.hcls hw
end
section
open Go Go.VC Tryz
open Classical
variable {R:Cx} {Hs Rest:List HP} {w:World} {p:Nat} {now next:Int} {L:List Bk} {sf sb:Sl} {fs:List FE}
abbrev Zdg (b f q:Nat):HP:=pts b (.cells [nP f,nP q].toArray plT (0,0))
abbrev RBM (p:Nat) (now next:Int) (L:List Bk) (sf sb:Sl) (M:List (List Value)) (A C:List FE) (f q:Nat) (pl:Pl) (Hs:List HP):List HP:=
 Zbi f pl.r::Za4 q pl.q::ZT (A++C)::pts p (ZC now next sf sb)::Zl 2 sf plT M::Zl 6 sb rkT (L.map rkV)::Hs
theorem RBM.iff {A C:List FE} {f q:Nat} {pl:Pl} {M:List (List Value)} (hM:(A++(f,q,pl)::C).map Zag=M):Sat R (RBO p now next L sf sb (A++(f,q,pl)::C) Hs) w↔Sat R (RBM p now next L sf sb M A C f q pl Hs) w:=by
 rw [<-hM];constructor
 ·intro h
  have h:Sat R (ZT (A++(f,q,pl)::C)::pts p (ZC now next sf sb)::Zl 2 sf plT ((A++(f,q,pl)::C).map Zag)::Zl 6 sb rkT (L.map rkV)::Hs) w:=h.arr;have h:=Zd3.1 h;exact h
 ·intro h
  have h:Sat R (ZT (A++(f,q,pl)::C)::pts p (ZC now next sf sb)::Zl 2 sf plT ((A++(f,q,pl)::C).map Zag)::Zl 6 sb rkT (L.map rkV)::Hs) w:=Zd3.2 h;exact h.arr
theorem ZoI {f:Nat} {r:RF} {o:Int} (g:ZaP r) (hw:Sat R (Zbi f r::Hs) w):
  Zk prog 125 #[nP f,nI o] w λ v w'=>∃ t:Sl,v=.slice t.a t.len t.cap/\Sat R (Own t 9 ((ZY r o).map Value.string)::Zbi f r::Hs) w':=
 ZiZ (by have:=g.len.1;omega) g.hgrps g.hseats hw
theorem Zku {q:Nat} {l:List Wt} (hw:Sat R Hs w) [tk:ZfA (Za4 q l) Hs Rest]:ZfI q w=l.length:=by
 obtain ⟨s,hw⟩:=Sat.rqu.1 (hw.perm tk.perm);have h:=Zl.len hw.swap;rw [List.length_map] at h;unfold ZfI;rw [hw.at];exact h
theorem ZfF {Rest2:List HP} {q:Nat} {l:List Wt} {t:Sl} {left:List Int} (hq:QOk l) (hl:left.length<=9223372036854775807) (hw:Sat R Hs w) [tk:ZfA (Own t 3 (Zc left)) Hs Rest] [tk2:ZfA (Za4 q l) Rest Rest2]:
  Zk prog 192 #[nP q,.slice t.a t.len t.cap] w λ v w'=>v=.tuple #[wtA ((Zae l left).getD Zaj),.bool (Zae l left).isSome]/\Sat R (Za4 q l::Rest2) w':=by
 obtain ⟨R1,e1,g1,hw⟩:=Own.leak (hw.perm tk.perm);refine (Zkw hq (g1.ro) (hw.perm tk2.perm)).mono ?_;rintro _ w ⟨rfl,hw⟩;exact ⟨rfl,e1.back hw⟩
structure RPm (n:Int) (b:ZE) (A C:List FE) (f q:Nat) (j:Nat) (b':ZE) (pl:Pl):Prop where
 prom:Zy n b=ZgZ j n b'
 len:pl.q.length<j
 core:Core b'
 here:b'.at n=some pl
 now:b'.now=b.now
 next:b'.next=b.next
 fl:(A++(f,q,pl)::C).map (λ e=>e.2.2)=b'.fl
theorem Zhs {A C:List FE} {f q:Nat} {pl:Pl} {b:ZE} {g:Pl->Pl} {n:Int} (k:Core b) (h:(A++(f,q,pl)::C).map (λ e=>e.2.2)=b.fl) (hn:pl.n=n):(A++(f,q,g pl)::C).map (λ e=>e.2.2)=Zdb Pl.n n g b.fl:=by
 have hr:=k.nums;rw [<-h] at hr ⊢;simp only [List.map_append,List.map_cons] at hr ⊢;rw [Zjm hn hr]
theorem ZrQ {L:List Bk} {k:Nat} {g:Bk->Bk} (h:Zbu Bk.id L) (hk:k<L.length):Zdb Bk.id L[k].id g L=L.set k (g L[k]):=by
 have e:L=L.take k++L[k]::L.drop (k + 1):=by
  conv=>lhs;rw [<-List.take_append_drop k L,List.drop_eq_getElem_cons hk]
 have h2:Zbu Bk.id (L.take k++L[k]::L.drop (k + 1)):=by rw [<-e];exact h
 rw [List.set_eq_take_append_cons_drop,if_pos hk];generalize hx:L[k]=x at *
 conv=>lhs;rw [e]
 exact Zjm rfl h2
theorem Zdf {b:ZE} {A C:List FE} {f q:Nat} {pl:Pl} (k:Core b) (hfl:(A++(f,q,pl)::C).map (λ e=>e.2.2)=b.fl) (hw:Sat R (RBO p b.now b.next b.L sf sb (A++(f,q,pl)::C) Hs) w):
  Zk prog 113 #[nP p,nI (A.length:Nat)] w λ v w'=>v=.tuple #[]/\∃ pl',(A++(f,q,pl')::C).map (λ e=>e.2.2)=(Zy pl.n b).fl/\Sat R (RBO p b.now b.next (Zy pl.n b).L sf sb (A++(f,q,pl')::C) Hs) w':=by
 obtain ⟨n,hn⟩:∃ n,n=pl.n:=⟨_,rfl⟩;obtain ⟨M,hM⟩:∃ M,M=(A++(f,q,pl)::C).map Zag:=⟨_,rfl⟩;have hMp:∀ pl',(A++(f,q,pl')::C).map Zag=M:=λ pl'=>by
  rw [hM,List.map_append,List.map_append,List.map_cons,List.map_cons];rfl
 have hm:=k.many;have hmem:pl∈b.fl:=by rw [<-hfl];simp
 rw [<-hn];have hat:b.at n=some pl:=(ZdV k).2 ⟨hmem,hn.symm⟩;apply ZwI
 suffices H:∀ K:nK,(∀ pl' w',(A++(f,q,pl')::C).map (λ e=>e.2.2)=(Zy n b).fl->Sat R (RBO p b.now b.next (Zy n b).L sf sb (A++(f,q,pl')::C) Hs) w'->K (.tuple #[]) w')->B113 (some ⟨p,0,none⟩) (A.length:Nat) K w from
  H _ λ pl' w' h h2=>⟨rfl,pl',h,h2⟩
 intro K hK;have hkA:A.length<(A++(f,q,pl)::C).length:=by simp
 refine Zb.mk rfl ⟨sf,oA hw,?_⟩;refine (Zl.readsM (n:=2) (s:=sf) (T:=plT) (rows:=(A++(f,q,pl)::C).map Zag) hw (eqS hw)).rngM (E:=A++(f,q,pl)::C) (g:=Zag) hkA λ a _ he=>?_;have hge:(A++(f,q,pl)::C)[A.length]=(f,q,pl):=by simp
 rw [hge] at he;refine ⟨some ⟨f,0,none⟩,some ⟨q,0,none⟩,he.z (by exact ⟨rfl,rfl,trivial⟩),?_⟩;refine Za hw λ b4 w hw=>?_;refine sRu hw λ w hw=>?_;have hw:=hw.re (Zdg b4 f q);have hw:Sat R (RBO p b.now b.next b.L sf sb (A++(f,q,pl)::C) (Zdg b4 f q::Hs)) w:=hw.arr;have hw:=(RBM.iff (hMp pl)).1 hw;refine ⟨λ w=>∃ j b' pl',RPm n b A C f q j b' pl'/\Sat R (RBM p b.now b.next b'.L sf sb M A C f q pl' (Zdg b4 f q::Hs)) w,λ w=>ZfI q w,
  ⟨201,b,pl,⟨rfl,by have:=(k.qok pl hmem).len;omega,k,hat,rfl,rfl,hfl⟩,hw⟩,?_⟩
 clear hw he;rintro _ w ⟨j,b',pl',hi,hw⟩;have hql:ZfI q w=pl'.q.length:=Zku hw;have hpl:=Z9 hi.here;have hg:=hi.core.good pl' hpl.1;have hqok:=hi.core.qok pl' hpl.1;have hl8:=ZcX hg;obtain ⟨j,rfl⟩:∃ i,j=i + 1:=⟨j - 1,by have:=hi.len;omega⟩;have hprom:=hi.prom;unfold ZgZ at hprom;rw [hi.here] at hprom;dsimp only at hprom;obtain ⟨x0,hx0⟩:∃ x,x=(Zae pl'.q (Zj pl'.r)).getD Zaj:=⟨_,rfl⟩;refine ⟨λ w5 is6 w=>∃ bw,w5=some ⟨bw,0,none⟩/\is6=(Zae pl'.q (Zj pl'.r)).isSome/\Sat R (RBM p b.now b.next b'.L sf sb M A C f q pl' (wtD bw x0::Zdg b4 f q::Hs)) w,?_,?_⟩
 ·have sx:∀ {w:World} {Hs Rest:List HP} [ZfA (Zdg b4 f q) Hs Rest],Sat R Hs w->Sat R [Zdg b4 f q,VC.tru] w:=λ {w Hs Rest} _ hw=>(hw.take (Zdg b4 f q)).restTru2
  refine Zr (Sat R [Zdg b4 f q,VC.tru]) hw (λ w hw=>sx hw) λ w hw=>?_;refine ⟨some ⟨q,0,none⟩,oS,some ⟨f,0,none⟩,oS,?_,?_⟩
  ·refine (ZcY hg hw).u1 λ sl w hw=>?_
   refine ⟨sl,rfl,sx hw,?_,?_⟩
   ·refine (ZfF hqok hl8 hw).u λ w hw=>?_
    refine ⟨_,_,_,_,_,_,rfl,sx hw,?_⟩;refine Za hw λ bw w hw=>⟨sx hw,?_⟩;have hw:=hw.re (wtD bw Zaj);refine ZK hw (by kernel_rfl) rfl (by simp [Value.cells,wtV]) λ w hw=>?_;rw [<-hx0] at hw;have hw:=hw.re (wtD bw x0);exact ⟨bw,rfl,rfl,hw.arr⟩
   ·refine Za hw λ bw w hw=>⟨sx hw,?_⟩
    have hw:=hw.re (wtD bw Zaj);refine (ZfF hqok hl8 hw).u λ w hw=>?_;refine ⟨_,_,_,_,_,_,rfl,sx hw,?_⟩;have hw:Sat R (wtD bw Zaj::RBM p b.now b.next b'.L sf sb M A C f q pl' (Zdg b4 f q::Hs)) w:=hw.arr;refine ZK hw (by kernel_rfl) rfl (by simp [Value.cells,wtV]) λ w hw=>?_;rw [<-hx0] at hw;have hw:=hw.re (wtD bw x0);exact ⟨bw,rfl,rfl,hw.arr⟩
  ·refine Za hw λ bw w hw=>⟨sx hw,?_⟩
   have hw:=hw.re (wtD bw Zaj);refine (ZcY hg hw.swap).u1 λ sl w hw=>?_;refine ⟨sl,rfl,sx hw,?_⟩;refine (ZfF hqok hl8 hw).u λ w hw=>?_;refine ⟨_,_,_,_,_,_,rfl,sx hw,?_⟩;have hw:Sat R (wtD bw Zaj::RBM p b.now b.next b'.L sf sb M A C f q pl' (Zdg b4 f q::Hs)) w:=hw.arr;refine ZK hw (by kernel_rfl) rfl (by simp [Value.cells,wtV]) λ w hw=>?_;rw [<-hx0] at hw;have hw:=hw.re (wtD bw x0);exact ⟨bw,rfl,rfl,hw.arr⟩
 clear hw;rintro _ _ _ w ⟨bw,rfl,rfl,hw⟩;cases hf:Zae pl'.q (Zj pl'.r) with
 |none=>
  rw [hf] at hprom;dsimp only at hprom;refine Br.t rfl (hK pl' w (by rw [hprom];exact hi.fl) ?_);rw [hprom];have hw:=(RBM.iff (hMp pl')).2 hw;have hw:Sat R (wtD bw x0::Zdg b4 f q::RBO p b.now b.next b'.L sf sb (A++(f,q,pl')::C) Hs) w:=hw.arr;exact hw.drop.drop
 |some x=>
  rw [hf] at hprom hx0;dsimp only [Option.getD_some] at hprom hx0;rw [hx0] at hw;obtain ⟨hx,hfit,htk⟩:=Zgz hi.core hpl.1 hf;obtain ⟨y,hyL,hyid,hyf,hys,hyc,hym⟩:=hi.core.waits hpl.1 hx;have hhas:ZdN x.id pl'.q=true:=Zfb.2 ⟨x,hx,rfl⟩;have hrem:Zj0 pl'.q x.id=(Zfz x.id pl'.q,0):=by unfold Zj0;rw [if_pos hhas]
  have hdl:=ZjK hhas;have hm':=hi.core.many;have hbl:=Zb1 hg;have hgl:=hg.len.1;refine Br.f rfl ⟨some ⟨q,0,none⟩,oA hw,Zb.mk rfl ⟨x.id,oA hw,?_⟩⟩;refine (ZeT (by have:=hqok.len;omega) hw.swap).u λ w hw=>?_;rw [hrem] at hw ⊢;refine ⟨_,rfl,some ⟨f,0,none⟩,oA hw,Zb.mk rfl ⟨x.id,oA hw,Zb.mk rfl ⟨x.cls,oA hw,Zb.mk rfl ⟨x.many,oA hw,?_⟩⟩⟩⟩;refine (ZgR (by omega) (by omega) hg.hcls hw.swap).u λ w hw=>?_;refine ⟨_,rfl,?_⟩;have hcore:Core (Ze3 b' n x):=ZhB hi.core hpl.1 hpl.2 hf;have hat2:(Ze3 b' n x).at n=some (Zer x pl'):=Zl4 hi.core hi.here;have hw:Sat R (RBM p b.now b.next b'.L sf sb M A C f q (Zer x pl') (wtD bw x::Zdg b4 f q::Hs)) w:=hw;have hw:=(RBM.iff (hMp (Zer x pl'))).2 hw;have hlen:=(RBO.lens hw).2;have sx:∀ {w:World},Sat R (RBO p b.now b.next b'.L sf sb (A++(f,q,Zer x pl')::C) (wtD bw x::Zdg b4 f q::Hs)) w->Sat R [pts p (ZC b.now b.next sf sb),wtD bw x,VC.tru] w:=λ hw=>Sat.two hw;refine Zr (Sat R [pts p (ZC b.now b.next sf sb),wtD bw x,VC.tru]) hw (λ w hw=>sx hw) λ w hw=>?_;refine Zb.mk rfl ⟨sb,oS,Zb.mk rfl ⟨x.id,oS,?_⟩⟩;refine (ZeX (id:=x.id) (by omega) hw).use ?_;clear hw;rintro _ w ⟨⟨i,rfl,hi2⟩,hw⟩;obtain ⟨k2,rfl,hk2,hid⟩:∃ k2:Nat,i=k2/\∃ hk:k2<b'.L.length,b'.L[k2].id=x.id:=by
   rcases hi2 with ⟨_,h⟩|h
   ·exact absurd hyid (h y hyL)
   ·exact h
  refine ⟨_,rfl,sx hw,?_⟩;have hrd:=Zl.readsM (n:=6) (s:=sb) (T:=rkT) (rows:=b'.L.map rkV) hw (eqS hw);refine hrd.rngM (E:=b'.L) (g:=rkV) hk2 λ a ha _=>?_;refine Zl.storeM (n:=6) (s:=sb) (T:=rkT) (E:=b'.L) (g:=rkV) 4 (Zdo b'.L[k2]) hw ha hk2 (by kernel_rfl) rfl (by simp [Value.cells]) rfl λ w hw=>?_;have hset:b'.L.set k2 (Zdo b'.L[k2])=(Ze3 b' n x).L:=by
   show _=Zdb Bk.id x.id Zdo b'.L;rw [<-hid,ZrQ hi.core.ids hk2]
  rw [hset] at hw;have hw:Sat R (wtD bw x::RBO p b.now b.next (Ze3 b' n x).L sf sb (A++(f,q,Zer x pl')::C) (Zdg b4 f q::Hs)) w:=hw.arr;have hw:=(RBM.iff (hMp (Zer x pl'))).1 hw.drop;have hql2:ZfI q w=(Zer x pl').q.length:=Zku hw;refine ⟨⟨j,Ze3 b' n x,Zer x pl',⟨hprom,by have:=hi.len;show (Zfz x.id pl'.q).length<j;omega,hcore,hat2,hi.now,hi.next,Zhs hi.core hi.fl hpl.2⟩,hw⟩,?_⟩;show ZfI q w<ZfI q _;rw [hql,hql2];show (Zfz x.id pl'.q).length<_;omega
end
end Go.Proofs.YtlplemdmegpoeaaGreatDoor
