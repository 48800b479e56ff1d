/- A log on a disk: what opening leaves there, whatever stood there; plain. No program. Condition: none. -/
import Derived.Test.YtkfedbncmfnpnaaGreatDoorB6
import Derived.Test.YtkfedbncmfnpnaaGreatDoorB5
set_option linter.unusedVariables false
set_option linter.unusedSimpArgs false
namespace Go.Proofs.YtkfedbncmfnpnaaGreatDoor
section
open Go Go.VC Tryz
theorem Zp5 {l b:List Int} (hb:∀ x∈l,0<=x/\x<256) (h:first l=some b):ZP b=l.take (8 + b.length):=by
 obtain ⟨h1,h2,h3,h4⟩:=ZcP h;have hv:=ZcD (l:=l.take 4) (acc:=0) (by omega) λ x hx=>hb x (List.mem_of_mem_take hx);have e:=ZmV hb (by omega) (n:=(ZbR 0 (l.take 4)).toNat) (by omega);rw [h] at e;split at e
 ·rename_i hc
  have h5:=hc.2.2;rw [<-h4,<-h3] at h5;exact h5
 ·cases e
theorem Zjf:∀ (n:Nat) (l:List Int),l.length<=n->(∀ x∈l,0<=x/\x<256)->Zbu (scan l)=l.take (Zo (scan l)):=λ n=>by
 induction n with
 |zero=>
  intro l hl _;have:l=[]:=List.length_eq_zero_iff.1 (by omega);subst this;rw [Zbm ZhC];rfl
 |succ n ih=>
  intro l hl hb;cases hf:first l with
  |none=>rw [Zbm hf];simp [Zbu,Zo]
  |some b=>
   obtain ⟨h1,_,_,_⟩:=ZcP hf;rw [Zdn hf,Zbz,ZJ,ih (l.drop (8 + b.length)) (by simp;omega) (λ x hx=>hb x (List.mem_of_mem_drop hx)),Zp5 hb hf];exact (List.take_add ..).symm
theorem Zh4 {l:List Int} (hb:∀ x∈l,0<=x/\x<256) {a c:List (List Int)} (h:scan l=a++c):l.take (Zo a)=Zbu a:=by
 have hp:=Zjf _ l (Nat.le_refl _) hb;rw [h,Zfv,Zgo] at hp;have h2:=congrArg (List.take (Zo a)) hp;rw [List.take_take,Nat.min_eq_left (by omega)] at h2;rw [<-h2,<-Zao,List.take_left]
theorem Zqr {α:Type}:∀ {l:List α} (h:0<l.length),l=l[0]::l.tail
 |_::_,_=>rfl
structure Zxx (rd:Nat->List Int) (prev:Option Nat) (g:Lg) (segs:List Sg) (nums:List Nat) (ld:Ld) (cs:List Sc):Prop where
 ch:Z8 prev g cs ld.g
 rd':∀ c∈cs,rd c.num=c.bytes
 sg:ld.segs=segs++cs.map Sc.sg
 am:(ld.amiss=none/\ld.behind=[]/\nums=cs.map (·.num))\/(∃ s,ld.amiss=some s/\s.size=0/\nums=cs.map (·.num)++s.num::ld.behind)
structure Zxw (rd:Nat->List Int) (prev:Option Nat) (g:Lg) (segs:List Sg) (nums:List Nat) (ld:Ld) (cs:List Sc) (c:Sc) (s:Sg):Prop where
 ch:Z8 prev g (cs++[c]) ld.g
 rd':∀ x∈cs,rd x.num=x.bytes
 sg:ld.segs=segs++cs.map Sc.sg++[⟨c.num,c.next,(rd c.num).length⟩]
 am:ld.amiss=some s
 n:s.num=c.num
 z:s.size=c.bytes.length
 tk:(rd c.num).take c.bytes.length=c.bytes
 nums:nums=cs.map (·.num)++c.num::ld.behind
theorem Zru {rd:Nat->List Int} (hb:∀ n,∀ x∈rd n,0<=x/\x<256) (hs:∀ n,∀ b∈scan (rd n),ZbV b):∀ {nums:List Nat} {prev:Option Nat} {g:Lg} {segs:List Sg},(∀ n∈nums,1<=n/\n<100000000)->(prev=none->g.l=[])->
  (∃ cs,Zxx rd prev g segs nums (Zaq rd prev g segs nums) cs)\/(∃ cs c s,Zxw rd prev g segs nums (Zaq rd prev g segs nums) cs c s):=λ {nums}=>by
 induction nums with
 |nil=>intro prev g segs _ _;unfold Zaq;exact .inl ⟨[],.nil,λ _ h=>(by cases h),by simp,.inl ⟨rfl,rfl,rfl⟩⟩
 |cons n rest ih=>
  intro prev g segs hn hg;have hn0:=hn n (List.mem_cons_self ..);by_cases h1:nxt rd prev n=0\/(prev≠none/\nxt rd prev n≠g.last + 1)
  ·rw [ZaO h1]
   exact .inl ⟨[],.nil,λ _ h=>(by cases h),by simp,.inr ⟨_,rfl,rfl,rfl⟩⟩
  ·have hx0:nxt rd prev n≠0:=λ h=>h1 (.inl h)
   have hnx:=Zpz (prev:=prev) (hb n) λ b hb'=>(hs n b hb').2;have hor:prev=none\/prev.map (· + 1)=some n:=by
    apply Classical.byContradiction;intro hno;refine hx0 ?_;unfold nxt ZR;split
    ·rfl
    ·rw [if_neg hno]
   have hpos:0<(scan (rd n)).length:=by
    cases hsc:scan (rd n) with
    |nil=>exact absurd (by unfold nxt ZR;rw [hsc]) hx0
    |cons a l=>simp
   have hhead:(scan (rd n))[0]=hdB n (nxt rd prev n):=by
    have e:nxt rd prev n=ZeT ((scan (rd n))[0]) n:=Zdr hpos hor;rw [e];exact Zjz (hs n _ (List.getElem_mem _)).2 (by rw [<-e];exact hx0)
   have hsc:scan (rd n)=hdB n (nxt rd prev n)::(scan (rd n)).tail:=by
    rw [<-hhead];exact Zqr hpos
   have ok:∀ {a c:List (List Int)},(scan (rd n)).tail=a++c->(⟨n,nxt rd prev n,a⟩:Sc).Ok:=λ {a c} h=>⟨hn0.1,by simp only;omega,by simp only;omega,hnx.2,λ b hb'=>hs n b (by rw [hsc,h];simp [hb'])⟩;obtain ⟨g1,hg1⟩:∃ g1:Lg,(if prev=none then (⟨nxt rd prev n - 1,g.l⟩:Lg) else g)=g1:=⟨_,rfl⟩
   have chain:∀ {a:List (List Int)} {g2 g3:Lg} {cs:List Sc},(⟨n,nxt rd prev n,a⟩:Sc).Ok->Zea g1 a=some g2->Z8 (some n) g2 cs g3->Z8 prev g (⟨n,nxt rd prev n,a⟩::cs) g3:=λ {a g2 g3 cs} ho hr hc=>by
    cases prev with
    |none=>
     rw [if_pos rfl,hg rfl] at hg1;rw [<-hg1] at hr;exact .first ho (hg rfl) hr hc
    |some q=>
     rw [if_neg (by simp)] at hg1;rw [<-hg1] at hr;have hq:q + 1=n:=by
      rcases hor with h|h
      ·cases h
      ·simpa using h
     have hx:nxt rd (some q) n=g.last + 1:=Classical.byContradiction λ h=>h1 (.inr ⟨by simp,h⟩);exact .more ho hq.symm hx hr hc
   have hcb:∀ a:List (List Int),(⟨n,nxt rd prev n,a⟩:Sc).bytes=Zbu (hdB n (nxt rd prev n)::a):=λ _=>rfl;rcases hr:Zfu g1 (ZH n (nxt rd prev n)).length (scan (rd n)).tail with ⟨g2,o⟩;cases o with
   |some d=>
    rw [ZbB h1 hg1 hr];obtain ⟨a,x,c,hac,hra,hd⟩:=Zji hr;have hbl:((⟨n,nxt rd prev n,a⟩:Sc).bytes.length:Int)=d:=by
     rw [hcb,Zao,ZJ,hd];unfold ZH;rw [ZK];omega
    refine .inr ⟨[],⟨n,nxt rd prev n,a⟩,⟨n,nxt rd prev n,d⟩,chain (ok hac) hra .nil,λ _ h=>(by cases h),by simp,rfl,rfl,hbl.symm,?_,rfl⟩;rw [hcb,Zao];exact Zh4 (hb n) (a:=hdB n (nxt rd prev n)::a) (c:=x::c) (by rw [hsc,hac];rfl)
   |none=>
    have hrr:=Zo4 hr;have ho:=ok (a:=(scan (rd n)).tail) (c:=[]) (by simp);by_cases he:Zo (scan (rd n))=(rd n).length
    ·rw [ZbA h1 hg1 hr he]
     have hrd:rd n=(⟨n,nxt rd prev n,(scan (rd n)).tail⟩:Sc).bytes:=by
      rw [hcb,<-hsc,Zjf _ (rd n) (Nat.le_refl _) (hb n),he,List.take_length]
     have hsg:(⟨n,nxt rd prev n,(rd n).length⟩:Sg)=(⟨n,nxt rd prev n,(scan (rd n)).tail⟩:Sc).sg:=by
      unfold Sc.sg;rw [<-hrd]
     rcases ih (prev:=some n) (g:=g2) (segs:=segs++[⟨n,nxt rd prev n,(rd n).length⟩]) (λ m hm=>hn m (List.mem_cons_of_mem _ hm)) (λ h=>by cases h) with ⟨cs,h⟩|⟨cs,c,s,h⟩
     ·refine .inl ⟨⟨n,nxt rd prev n,(scan (rd n)).tail⟩::cs,chain ho hrr h.ch,λ c hc=>?_,by rw [h.sg,hsg];simp,?_⟩
      ·rcases List.mem_cons.1 hc with rfl|hc
       ·exact hrd
       ·exact h.rd' c hc
      ·rcases h.am with ⟨a1,a2,a3⟩|⟨s,a1,a2,a3⟩
       ·exact .inl ⟨a1,a2,congrArg (List.cons n) a3⟩
       ·exact .inr ⟨s,a1,a2,congrArg (List.cons n) a3⟩
     ·refine .inr ⟨⟨n,nxt rd prev n,(scan (rd n)).tail⟩::cs,c,s,chain ho hrr h.ch,λ c hc=>?_,by rw [h.sg,hsg];simp,h.am,h.n,h.z,h.tk,congrArg (List.cons n) h.nums⟩
      rcases List.mem_cons.1 hc with rfl|hc
      ·exact hrd
      ·exact h.rd' c hc
    ·rw [Zci h1 hg1 hr he]
     refine .inr ⟨[],⟨n,nxt rd prev n,(scan (rd n)).tail⟩,_,chain ho hrr .nil,λ _ h=>(by cases h),by simp,rfl,rfl,?_,?_,rfl⟩
     ·rw [hcb,<-hsc,Zao]
     ·rw [hcb,<-hsc,Zao]
      exact (Zjf _ (rd n) (Nat.le_refl _) (hb n)).symm
theorem ZdM {st:DS} (u:Uni st.fs) {k:ByteArray} (h:(Zi st k).2=0):Zw k (Zi st k).1.fs=none:=by
 rw [Zfm h];exact ZaP k u
theorem Zpa {st:DS} (u:Uni st.fs) {k kt:ByteArray} {f:Fl} (hne:k≠kt) (hk:Zw k st.fs=some f) (h:(ZY st k kt).2=0):Zw kt (ZY st k kt).1.fs=some f/\Zw k (ZY st k kt).1.fs=none:=by
 obtain ⟨_,e⟩:=Zc7 h;have e:ZY st k kt=Zan k kt (chg st (Zm k && Zm kt)).1:=e;have hf:=(Zbp st (Zm k && Zm kt)).1;rw [e];unfold Zan;rw [hf,hk];simp only;rw [if_neg hne];simp only;have u2:Uni (Zaa kt st.fs):=Zdc u kt;have u3:Uni (Zaa k (Zaa kt st.fs)):=Zdc u2 k;have n1:Zw kt (Zaa k (Zaa kt st.fs))=none:=by rw [ZaA (Ne.symm hne)];exact ZaP kt u
 have n2:Zw k (Zaa k (Zaa kt st.fs))=none:=ZaP k u2;constructor
 ·rw [ZbL n1,ZmS]
 ·rw [ZbL n2]
  unfold Zw;rw [if_neg (by rw [Zl8 hne];simp)];rfl
theorem Zqt {st:DS} {ok:Bool} (h:(chg st ok).2=0):st.off=false/\(chg st ok).1.off=false:=by
 have ho:st.off=false:=by
  cases ho:st.off with
  |false=>rfl
  |true=>
   unfold chg at h;cases ok
   ·simp at h
   ·simp [ho] at h
 refine ⟨ho,?_⟩;unfold chg at h ⊢;split
 ·exact ho
 split
 ·exact ho
 split
 ·rename_i h1 h2 h3
  rw [if_neg h1,if_neg h2,if_pos h3] at h;simp at h
 ·exact ho
theorem ZnQ {st:DS} {k:ByteArray} (h:(Zi st k).2=0):(Zi st k).1.off=false:=by
 obtain ⟨h1,e⟩:=Zc7 (g:=ZX k) h;have e:Zi st k=ZX k (chg st (Zm k)).1:=e;rw [e];unfold ZX;split
 ·exact (Zqt h1).2
 ·exact (Zqt h1).2
end
section
open Go Go.VC Tryz
variable {a b:DS}
abbrev Any:Lg->Prop:=λ _=>True
theorem Zqv {p:Option Nat} {g g':Lg} (h:Z8 p g [] g'):g'=g:=by cases h;rfl
theorem Zp6 {x:WSt} {st:DS} {av:List Sc} {c:Sc} (i:Inv st) (ch:Z8 none ⟨0,[]⟩ (av++[c]) x.g) (sg:x.segs=(av++[c]).map Sc.sg) (get:∀ s∈av++[c],Zw (Za s.num) st.fs=some ⟨s.bytes,s.bytes.length⟩)
  (only:∀ q,Zw q st.fs≠none->∃ s∈av++[c],q=Za s.num):Zav x st Any av c c.bytes.length:=by
 refine ⟨⟨i,λ s hs=>get s (List.mem_append_left _ hs),get c (by simp),only⟩,ch,sg,?_,λ _ _ _ _ _=>trivial⟩;have e:c.bytes=ZH c.num c.next++Zbu c.bs:=by unfold Sc.bytes Sc.recs;rw [Zbz];rfl
 rw [e,List.length_append];exact Nat.le_add_right _ _
theorem ZbX {x:DS × Int} {f:DS->DS × Int} (h:(Z3 x f).2=0):x.2=0/\(f x.1).2=0/\Z3 x f=f x.1:=by
 by_cases hx:x.2=0
 ·rw [ZB hx] at h ⊢;exact ⟨hx,h,rfl⟩
 ·rw [Zx hx] at h;exact absurd h hx
theorem ZeZ:∀ {ns:List Nat} {st:DS},Uni st.fs->(ZF st ns).2=0->(∀ n∈ns,Zw (Za n) (ZF st ns).1.fs=none)/\∀ k,(∀ n∈ns,k≠Za n)->Zw k (ZF st ns).1.fs=Zw k st.fs
 |[],st,_,_=>⟨λ _ h=>(by cases h),λ _ _=>rfl⟩
 |n::ns,st,u,h=>by
  have e:ZF st (n::ns)=Z3 (Zi st (Za n)) λ st=>ZF st ns:=rfl;rw [e] at h ⊢;obtain ⟨h1,h2,h3⟩:=ZbX h;rw [h3];have u2:Uni (Zi st (Za n)).1.fs:=by rw [Zfm h1];exact Zdc u _
  obtain ⟨g1,g2⟩:=ZeZ u2 h2;refine ⟨λ m hm=>?_,λ k hk=>?_⟩
  ·by_cases hmn:Za m∈ns.map Za
   ·obtain ⟨m2,hm2,e⟩:=List.mem_map.1 hmn
    rw [<-e];exact g1 m2 hm2
   ·rcases List.mem_cons.1 hm with rfl|hm
    ·rw [g2 _ λ q hq he=>hmn (by rw [he];exact List.mem_map_of_mem hq)]
     exact ZdM u h1
    ·exact absurd (List.mem_map_of_mem hm) hmn
  ·rw [g2 k λ q hq=>hk q (List.mem_cons_of_mem _ hq),ZaH (hk n (List.mem_cons_self ..))]
theorem ZmK {fs:Fs} {n:Nat}:n∈ZN (Zr fs)↔(1<=n/\n<100000000)/\Zw (Za n) fs≠none:=by
 unfold ZN;rw [List.mem_filter,List.mem_map];constructor
 ·rintro ⟨⟨k,hk,rfl⟩,h2⟩
  have h2:=of_decide_eq_true h2;refine ⟨⟨h2,ZdP⟩,λ hn=>?_⟩;rw [<-ZfY h2] at hn;exact ZcL.2 hn hk
 ·rintro ⟨⟨h1,h2⟩,h3⟩
  refine ⟨⟨Za n,Classical.byContradiction λ h=>h3 (ZcL.1 h),ZgI h2⟩,decide_eq_true h1⟩
theorem ZpQ {x:WSt} {st:DS} (i:Inv st) (he:∀ q,Zw q st.fs=none) (h:(Zae st 1 1).2=0) (hg:x.g=⟨0,[]⟩) (hs:x.segs=[⟨1,1,(ZH 1 1).length⟩]):∃ av c k,Zav x (Zae st 1 1).1 Any av c k/\c.num<=1:=by
 unfold Zae at h ⊢;obtain ⟨h1,h2,h3⟩:=ZbX h;rw [h3];have hbc:(⟨1,1,[]⟩:Sc).bytes=ZH 1 1:=by unfold Sc.bytes Sc.recs;rw [Zcf];rfl
 refine ⟨[],⟨1,1,[]⟩,_,Zp6 (Za1 (Z7 i _ _) _) ?_ ?_ (λ s hs=>?_) λ q hq=>?_,Nat.le_refl _⟩
 ·rw [hg]
  exact .first ⟨by simp,by simp,by simp,by simp,λ _ h=>(by cases h)⟩ rfl rfl .nil
 ·rw [hs];simp [Sc.sg,hbc]
 ·simp only [List.nil_append,List.mem_singleton] at hs
  subst hs;rw [Zdl (ZdF (he _) h1) h2,hbc]
 ·refine ⟨⟨1,1,[]⟩,by simp,Classical.byContradiction λ hne=>hq ?_⟩
  rw [Zcb hne,ZaY hne];exact he q
theorem Zpw {lim:Int} {B:Nat} (r:Rel a b) (hby:Zb9 a.fs) (hs:∀ k f,Zw k a.fs=some f->f.sure=f.b.length) (hn:∀ k,Zw k a.fs≠none->k=Zh\/∃ n,1<=n/\n<=B/\k=Za n) (hB1:1<=B) (hB2:B<=99999999) (h:oE a=0):
  ∃ av c k,Zav ⟨lim,(Zz a).g,(Zz a).segs,false⟩ (oD a) Any av c k/\c.num<=B:=by
 have ho:a.off=false:=by
  cases ho:a.off with
  |false=>rfl
  |true=>unfold oE at h;rw [if_pos ho] at h;cases h
 have eE:(recoverD a).2=0:=by unfold oE at h;rw [if_neg (by rw [ho];simp)] at h;exact h
 have eD:oD a=(recoverD a).1:=by unfold oD;rw [if_neg (by rw [ho];simp)]
 rw [eD];rw [ZcG] at eE ⊢;obtain ⟨z1,z2,z3⟩:=ZbX eE;rw [z3];obtain ⟨y1,y2,y3⟩:=ZbX z1;rw [y3] at z2 ⊢;obtain ⟨w1,w2,w3⟩:=ZbX y1;rw [w3] at z2 y2 ⊢;clear z1 z3 y1 y3 w3 eE h eD;obtain ⟨a1,ha1⟩:∃ a1,a1=(x0D a).1:=⟨_,rfl⟩;have hlda:Zj a1=Zj a:=by rw [ha1];exact r.load_x0 w1
 have i1:Inv a1:=by rw [ha1];exact ZrR r.inv
 have get1:∀ k,k≠Zh->Zw k a1.fs=Zw k a.fs:=λ k hk=>by
  rw [ha1];unfold x0D;split
  ·exact ZaH hk
  ·rfl
 have get0:Zw Zh a1.fs=none:=by
  rw [ha1];unfold x0D at w1 ⊢;split
  ·rename_i hs;rw [if_pos hs] at w1;exact ZdM r.inv.uni w1
  ·rename_i hs;exact ZcL.1 hs
 obtain ⟨b1,r1⟩:∃ b1,Rel a1 b1:=by
  rw [ha1];unfold x0D;split
  ·exact ⟨_,(r.unlink Zh).1⟩
  ·exact ⟨b,r⟩
 rw [<-ha1] at w2 y2 z2 ⊢;have hby1:Zb9 a1.fs:=by rw [ha1];exact Zsj hby
 clear w1 ha1;obtain ⟨rd,hrd⟩:∃ rd:Nat->List Int,rd=λ n=>(ZC a (Za n)).1:=⟨_,rfl⟩;obtain ⟨nums,hnums⟩:∃ n,n=ZN (Zr a.fs):=⟨_,rfl⟩;have hnm:∀ n,n∈nums↔(1<=n/\n<100000000)/\Zw (Za n) a.fs≠none:=λ n=>by rw [hnums];exact ZmK
 have hnB:∀ n∈nums,n<=B:=λ n h=>by
  obtain ⟨h1,h2⟩:=(hnm n).1 h;rcases hn _ h2 with h3|⟨m,hm1,hm2,h3⟩
  ·exact absurd h3 (ZO n)
  ·rw [ZdN h1.2 (by omega) h3];exact hm2
 have hfile:∀ n∈nums,Zw (Za n) a.fs=some ⟨rd n,(rd n).length⟩:=λ n h=>by
  obtain ⟨f,hf⟩:=Option.ne_none_iff_exists'.1 ((hnm n).1 h).2;have e:rd n=f.b:=by rw [hrd];simp only;rw [Zcd ho (Z5 n) hf]
  rw [hf,e,<-hs _ f hf]
 have hrb:∀ n,∀ x∈rd n,0<=x/\x<256:=λ n=>by rw [hrd];exact ZhT hby _
 have hsb:∀ n,∀ b∈scan (rd n),ZbV b:=λ n b hb=>by
  obtain ⟨h1,h2⟩:=ZgE _ (rd n) (Nat.le_refl _) b hb;exact ⟨h1,λ x hx=>hrb n x (h2 x hx)⟩
 have hload:Zj a=Zaq rd none ⟨0,[]⟩ [] nums:=by subst hrd hnums;rfl
 have hrise:nums.Pairwise (·<·):=by rw [hnums];exact r.rise
 -- what opening leaves, by what is kept
 have fin:∀ {st:DS} {cs:List Sc} {segs:List Sg},Inv st->cs≠[]->Z8 none ⟨0,[]⟩ cs (Zj a).g->segs=cs.map Sc.sg->(∀ c∈cs,c.num∈nums)->(∀ c∈cs,Zw (Za c.num) st.fs=some ⟨c.bytes,c.bytes.length⟩)->
   (∀ q,Zw q st.fs≠none->∃ c∈cs,q=Za c.num)->∃ av c k,Zav ⟨lim,(Zj a).g,segs,false⟩ st Any av c k/\c.num<=B:=λ {st cs segs} i hne ch hsg hm hg hq=>by
  obtain ⟨av,c,rfl⟩:∃ av c,cs=av++[c]:=by
   rcases List.eq_nil_or_concat cs with h0|⟨av,c,h0⟩
   ·exact absurd h0 hne
   ·exact ⟨av,c,by rw [h0,List.concat_eq_append]⟩
  exact ⟨av,c,_,Zp6 i ch hsg hg hq,hnB _ (hm c (by simp))⟩
 have hog:(Zz a).g=(Zj a).g:=rfl;rw [hog];rcases Zru hrb hsb (nums:=nums) (prev:=none) (g:=⟨0,[]⟩) (segs:=[]) (λ n h=>((hnm n).1 h).1) (λ _=>rfl) with ⟨cs,hA⟩|⟨cs,c,s,hC⟩
 ·rw [<-hload] at hA
  have hsegs:(Zj a).segs=cs.map Sc.sg:=by rw [hA.sg];rfl
  -- the disk behind f1 and the unlinking: just the segments that were found
  have key:∀ {st:DS},Inv st->(f3D (Zj a) st).2=0->(∀ c∈cs,c.num∈nums)->(∀ c∈cs,Zw (Za c.num) st.fs=some ⟨c.bytes,c.bytes.length⟩)->(∀ q,Zw q st.fs≠none->∃ c∈cs,q=Za c.num)->
    ((Zj a).segs≠[]->(Zz a).segs=(Zj a).segs)->∃ av c k,Zav ⟨lim,(Zj a).g,(Zz a).segs,false⟩ (f3D (Zj a) st).1 Any av c k/\c.num<=B:=λ {st} i h3 hm hg hq hos=>by
   by_cases hcs:cs=[]
   ·subst hcs
    have hs0:(Zj a).segs=[]:=hsegs;have ef:f3D (Zj a) st=Zae st 1 1:=if_pos hs0;rw [ef] at h3 ⊢;have hg0:(Zj a).g=⟨0,[]⟩:=Zqv hA.ch;have hos1:(Zz a).segs=[⟨1,1,(ZH 1 1).length⟩]:=by unfold Zz;simp only;rw [if_pos hs0]
    obtain ⟨av,c,k,f,hc⟩:=ZpQ (x:=⟨lim,(Zj a).g,(Zz a).segs,false⟩) i (λ q=>Classical.byContradiction λ h=>by obtain ⟨c,hc,_⟩:=hq q h;cases hc) h3 hg0 hos1;exact ⟨av,c,k,f,by omega⟩
   ·have hs0:(Zj a).segs≠[]:=by rw [hsegs];simpa using hcs
    have ef:f3D (Zj a) st=(st,0):=if_neg hs0;rw [ef];exact fin i hcs hA.ch (by rw [hos hs0,hsegs]) hm hg hq
  have hfc:∀ c∈cs,c.num∈nums->Zw (Za c.num) a1.fs=some ⟨c.bytes,c.bytes.length⟩:=λ c hc hm=>by
   rw [get1 _ (ZO _),hfile _ hm,hA.rd' c hc]
  have hq1:∀ q,Zw q a1.fs≠none->∃ n∈nums,q=Za n:=λ q hq=>by
   have hqs:q≠Zh:=λ he=>hq (by rw [he];exact get0);rw [get1 q hqs] at hq;rcases hn q hq with h3|⟨m,hm1,hm2,h3⟩
   ·exact absurd h3 hqs
   ·exact ⟨m,(hnm m).2 ⟨⟨hm1,by omega⟩,by rw [<-h3];exact hq⟩,h3⟩
  rcases hA.am with ⟨am,hbh,hnu⟩|⟨s,am,hz,hnu⟩
  ·have ef1:f1D (Zj a) a1=(a1,0):=by unfold f1D;rw [am]
   rw [ef1] at y2 z2 ⊢;rw [hbh] at z2 y2 ⊢;have hm:∀ c∈cs,c.num∈nums:=λ c hc=>by rw [hnu];exact List.mem_map_of_mem hc
   refine key (st:=a1) i1 z2 hm (λ c hc=>hfc c hc (hm c hc)) (λ q hq=>?_) λ h0=>?_
   ·obtain ⟨n,hnn,e⟩:=hq1 q hq
    rw [hnu] at hnn;obtain ⟨c,hc,rfl⟩:=List.mem_map.1 hnn;exact ⟨c,hc,e⟩
   ·unfold Zz;simp only;rw [if_neg h0,am]
  ·have ef1:f1D (Zj a) a1=Zi a1 (Za s.num):=by
    have e1:f1D (Zj a) a1=ZaS a1 (Zj a).segs s:=by unfold f1D;rw [am]
    have e2:ZaS a1 (Zj a1).segs s=Zes a1 s.num s.size:=ZgL r1 (by rw [hlda];exact am);rw [e1,<-hlda,e2];exact if_pos hz
   rw [ef1] at w2 y2 z2 ⊢;have i2:Inv (Zi a1 (Za s.num)).1:=Zba i1 _;obtain ⟨g1,g2⟩:=ZeZ i2.uni y2;have hnd:(cs.map (·.num)++s.num::(Zj a).behind).Nodup:=by rw [<-hnu];exact hrise.imp λ h=>Nat.ne_of_lt h
   rw [List.nodup_append] at hnd;obtain ⟨_,_,hdis⟩:=hnd;have hm:∀ c∈cs,c.num∈nums:=λ c hc=>by rw [hnu];exact List.mem_append_left _ (List.mem_map_of_mem hc)
   have hbd:∀ n∈nums,n<100000000:=λ n h=>((hnm n).1 h).1.2;have hne:∀ c∈cs,∀ n∈s.num::(Zj a).behind,Za c.num≠Za n:=λ c hc n hnn he=>by
    have:=ZdN (hbd _ (hm c hc)) (hbd n (by rw [hnu];exact List.mem_append_right _ hnn)) he;exact hdis c.num (List.mem_map_of_mem hc) n hnn this
   refine key (Zef i2) z2 hm (λ c hc=>?_) (λ q hq=>?_) λ h0=>?_
   ·rw [g2 _ λ n hnn=>hne c hc n (List.mem_cons_of_mem _ hnn),ZaH (hne c hc s.num (List.mem_cons_self ..))]
    exact hfc c hc (hm c hc)
   ·have hqb:∀ n∈(Zj a).behind,q≠Za n:=λ n hnn he=>hq (by rw [he];exact g1 n hnn)
    rw [g2 q hqb] at hq;have hqs:q≠Za s.num:=λ he=>hq (by rw [he];exact ZdM i1.uni w2);rw [ZaH hqs] at hq;obtain ⟨n,hnn,e⟩:=hq1 q hq;rw [hnu] at hnn;rcases List.mem_append.1 hnn with hnn|hnn
    ·obtain ⟨c,hc,rfl⟩:=List.mem_map.1 hnn
     exact ⟨c,hc,e⟩
    ·rcases List.mem_cons.1 hnn with rfl|hnn
     ·exact absurd e hqs
     ·exact absurd e (hqb n hnn)
   ·have hin:ZcN (Zj a).segs s.num=false:=by
     obtain ⟨h1,_⟩:=Zgb (rd:=rd) (prev:=none) (g:=⟨0,[]⟩) (segs:=[]) hrise (λ _ h=>by cases h) s (by rw [<-hload];exact am);rw [<-hload] at h1;exact h1.2 hz
    unfold Zz;simp only;rw [if_neg h0,am];simp only;unfold Zc5;rw [if_pos (.inr hin)]
 ·rw [<-hload] at hC
  have hsegs:(Zj a).segs=cs.map Sc.sg++[⟨c.num,c.next,(rd c.num).length⟩]:=by rw [hC.sg];rfl
  have hs0:(Zj a).segs≠[]:=by rw [hsegs];simp
  have hcpos:0<c.bytes.length:=by
   have e:c.bytes=ZH c.num c.next++Zbu c.bs:=by unfold Sc.bytes Sc.recs;rw [Zbz];rfl
   rw [e,List.length_append];unfold ZH;rw [ZK];omega
  have hz0:¬ s.size=0:=by rw [hC.z];omega
  have hnu:=hC.nums;have hm:∀ x∈cs++[c],x.num∈nums:=λ x hx=>by
   rw [hnu];rcases List.mem_append.1 hx with hx|hx
   ·exact List.mem_append_left _ (List.mem_map_of_mem hx)
   ·rw [List.mem_singleton.1 hx];simp
  have hcm:=hm c (by simp);have hrdc:(ZC a1 (Za c.num)).1=rd c.num:=by
   have:Zj a1=Zj a:=hlda;rw [hrd];simp only;rw [Zcd ho (Z5 _) (hfile _ hcm)];cases ho1:a1.off with
   |false=>rw [Zcd ho1 (Z5 _) ((get1 _ (ZO _)).trans (hfile _ hcm))]
   |true=>
    exfalso;have e1:f1D (Zj a) a1=ZaS a1 (Zj a).segs s:=by unfold f1D;rw [hC.am]
    have e2:ZaS a1 (Zj a1).segs s=Zes a1 s.num s.size:=ZgL r1 (by rw [hlda];exact hC.am);rw [e1,<-hlda,e2] at w2;unfold Zes at w2;have hro:(ZC a1 (Za s.num)).2=5:=by unfold ZC;rw [ho1];rfl
    rw [if_neg hz0,if_pos (by rw [hro];decide),hro] at w2;cases w2
  have ef1:f1D (Zj a) a1=Z3 (Z3 (Zk a1 Zh c.bytes) λ st=>ZA st Zh) λ st=>ZY st Zh (Za c.num):=by
   have e1:f1D (Zj a) a1=ZaS a1 (Zj a).segs s:=by unfold f1D;rw [hC.am]
   have e2:ZaS a1 (Zj a1).segs s=Zes a1 s.num s.size:=ZgL r1 (by rw [hlda];exact hC.am);rw [e1,<-hlda,e2] at w2 ⊢;unfold Zes at w2 ⊢;rw [if_neg hz0] at w2 ⊢;by_cases he:(ZC a1 (Za s.num)).2≠0
   ·rw [if_pos he] at w2;exact absurd w2 he
   ·rw [if_neg he,hC.n,hC.z,hrdc]
    have htk:(rd c.num).take (c.bytes.length:Int).toNat=c.bytes:=by rw [Int.toNat_natCast];exact hC.tk
    rw [htk]
  rw [ef1] at w2 y2 z2 ⊢;obtain ⟨v1,v2,v3⟩:=ZbX w2;rw [v3] at y2 z2 ⊢;obtain ⟨u1,u2,u3⟩:=ZbX v1;rw [u3] at v2 y2 z2 ⊢;clear v3 u3 w2 v1;have hsA:=ZdF get0 u1;have hsS:=Zdl hsA u2;have iS:Inv (ZA (Zk a1 Zh c.bytes).1 Zh).1:=Za1 (Z7 i1 _ _) _;have hnes:Zh≠Za c.num:=λ he=>ZO _ he.symm;obtain ⟨k1,k2⟩:=Zpa iS.uni hnes hsS v2;have i2:Inv (ZY (ZA (Zk a1 Zh c.bytes).1 Zh).1 Zh (Za c.num)).1:=Zf1 iS _ _;obtain ⟨g1,g2⟩:=ZeZ i2.uni y2;have ef3:f3D (Zj a)=λ st=>(st,0):=by funext st;exact if_neg hs0
  rw [ef3];have hnd:(cs.map (·.num)++c.num::(Zj a).behind).Nodup:=by rw [<-hnu];exact hrise.imp λ h=>Nat.ne_of_lt h
  rw [List.nodup_append] at hnd;obtain ⟨_,hnd2,hdis⟩:=hnd;have hbd:∀ n∈nums,n<100000000:=λ n h=>((hnm n).1 h).1.2;have hbm:∀ n∈(Zj a).behind,n∈nums:=λ n h=>by rw [hnu];exact List.mem_append_right _ (List.mem_cons_of_mem _ h)
  have hcb:∀ n∈(Zj a).behind,Za c.num≠Za n:=λ n h he=>by
   have:=ZdN (hbd _ hcm) (hbd n (hbm n h)) he;rw [List.nodup_cons] at hnd2;exact hnd2.1 (by rw [this];exact h)
  have hxb:∀ x∈cs,(∀ n∈(Zj a).behind,Za x.num≠Za n)/\Za x.num≠Za c.num:=λ x hx=>by
   have hxm:=hm x (List.mem_append_left _ hx);refine ⟨λ n h he=>?_,λ he=>?_⟩
   ·exact hdis x.num (List.mem_map_of_mem hx) n (List.mem_cons_of_mem _ h) (ZdN (hbd _ hxm) (hbd n (hbm n h)) he)
   ·exact hdis x.num (List.mem_map_of_mem hx) c.num (List.mem_cons_self ..) (ZdN (hbd _ hxm) (hbd _ hcm) he)
  have hos:(Zz a).segs=(cs++[c]).map Sc.sg:=by
   have hin:¬ (s.next=0\/ZcN (Zj a).segs s.num=false):=λ h=>by
    obtain ⟨h1,h2⟩:=Zgb (rd:=rd) (prev:=none) (g:=⟨0,[]⟩) (segs:=[]) hrise (λ _ h=>by cases h) s (by rw [<-hload];exact hC.am);rw [<-hload] at h1;exact hz0 (h.elim h2 h1.1)
   unfold Zz;simp only;rw [if_neg hs0,hC.am];simp only;unfold Zc5;rw [if_neg hin,hsegs,Zem,hC.z,List.map_append];rfl
  refine fin (Zef i2) (by simp) hC.ch hos hm (λ x hx=>?_) λ q hq=>?_
  ·rcases List.mem_append.1 hx with hx|hx
   ·obtain ⟨h1,h2⟩:=hxb x hx
    rw [g2 _ h1,Zf2 (ZO _) h2,Zcb (ZO _),ZaY (ZO _),get1 _ (ZO _),hfile _ (hm x (List.mem_append_left _ hx)),hC.rd' x hx]
   ·rw [List.mem_singleton.1 hx,g2 _ hcb,k1]
  ·by_cases hqc:q=Za c.num
   ·exact ⟨c,by simp,hqc⟩
   have hqb:∀ n∈(Zj a).behind,q≠Za n:=λ n hnn he=>hq (by rw [he];exact g1 n hnn);rw [g2 q hqb] at hq;have hqs:q≠Zh:=λ he=>hq (by rw [he];exact k2);rw [Zf2 hqs hqc,Zcb hqs,ZaY hqs,get1 q hqs] at hq;rcases hn q hq with h3|⟨m,hm1,hm2,h3⟩
   ·exact absurd h3 hqs
   ·have hmm:m∈nums:=(hnm m).2 ⟨⟨hm1,by omega⟩,by rw [<-h3];exact hq⟩
    rw [hnu] at hmm;rcases List.mem_append.1 hmm with hmm|hmm
    ·obtain ⟨x,hx,rfl⟩:=List.mem_map.1 hmm
     exact ⟨x,List.mem_append_left _ hx,h3⟩
    ·rcases List.mem_cons.1 hmm with rfl|hmm
     ·exact absurd h3 hqc
     ·exact absurd h3 (hqb m hmm)
end
section
open Go Go.VC Tryz
variable {x:WSt} {st a b:DS} {K:Nat}
def Zed (st:DS) (K:Nat):Prop:=∀ q,Zw q st.fs≠none->q=Zh\/∃ n,1<=n/\n<=K/\q=Za n
theorem Zed.mono {J:Nat} (h:Zed st K) (hk:K<=J):Zed st J:=λ q hq=>(h q hq).imp id λ⟨n,h1,h2,h3⟩=>⟨n,h1,by omega,h3⟩
theorem Zf7 {st':DS} (h:Zed st K) {k:ByteArray} (hk:k=Zh\/∃ n,1<=n/\n<=K/\k=Za n) (hg:∀ q,q≠k->Zw q st'.fs=Zw q st.fs):Zed st' K:=λ q hq=>by
 by_cases hqk:q=k
 ·rw [hqk];exact hk
 ·rw [hg q hqk] at hq;exact h q hq
theorem Zkw (h:Zed st K) {n:Nat} (h1:1<=n) (h2:n<=K) (xs:List Int):Zed (Zk st (Za n) xs).1 K:=Zf7 h (.inr ⟨n,h1,h2,rfl⟩) λ q hq=>ZaY hq
theorem ZlE (h:Zed st K) {n:Nat} (h1:1<=n) (h2:n<=K):Zed (ZA st (Za n)).1 K:=Zf7 h (.inr ⟨n,h1,h2,rfl⟩) λ q hq=>Zcb hq
theorem ZpC (h:Zed st K) {n:Nat} (h1:1<=n) (h2:n<=K):Zed (Zi st (Za n)).1 K:=Zf7 h (.inr ⟨n,h1,h2,rfl⟩) λ q hq=>ZaH hq
theorem ZpD {y:DS × Int} {f:DS->DS × Int} (hy:Zed y.1 K) (hf:∀ st,Zed st K->Zed (f st).1 K):Zed (Z3 y f).1 K:=by
 unfold Z3;split
 ·exact hf _ hy
 ·exact hy
theorem ZpE (h:Zed st K) {n:Nat} (h1:1<=n) (h2:n<=K) (next:Int):Zed (Zae st n next).1 K:=ZpD (Zkw h h1 h2 _) λ _ h=>ZlE h h1 h2
theorem Zxe {st':DS} (h:Zed st K) (e:st'.fs=st.fs):Zed st' K:=by unfold Zed;rw [e];exact h
theorem Zrp (h:Zed st K) (keep:List Int):Zed (ZaM st keep) K:=λ q hq=>h q (Zhz (Za8 _ _ _) hq)
theorem Zgx {k:ByteArray}:∀ (ks:List ByteArray) (keep:List Int) {fs:Fs} {f:Fl},k∈ks->(∀ f0,Zw k fs=some f0->f0.sure<=f0.b.length)->Zw k (Zak ks keep fs)=some f->f.sure=f.b.length
 |[],_,_,_,h,_,_=>by cases h
 |y::ks,keep,fs,f,h,hs,hf=>by
  rw [Zak] at hf;by_cases hk:k=y
  ·subst hk
   cases hg:Zw k fs with
   |none=>
    have hn:Zw k (ZdJ k (ZcS keep.head?) fs)=none:=by
     refine Z2 ?_;rw [Za6];exact ZQ hg
    have hn2:Zw k (Zak ks keep.tail (ZdJ k (ZcS keep.head?) fs))=none:=by
     refine Z2 ?_;rw [Za8];exact ZQ hn
    rw [hn2] at hf;cases hf
   |some f0=>
    have h1:=ZdW (g:=ZcS keep.head?) hg;have hst:=ZfX keep.head? f0 (hs f0 hg);have h2:ZcS keep.head? f0=⟨(ZcS keep.head? f0).b,(ZcS keep.head? f0).b.length⟩:=by
     unfold ZcS
     congr 1
     simp only [List.length_take];omega
    rw [h2] at h1;rw [Zgi ks keep.tail h1] at hf;rw [<-Option.some.inj hf]
  ·rcases List.mem_cons.1 h with h|h
   ·exact absurd h hk
   ·exact Zgx ks keep.tail h (λ f0 h0=>hs f0 (by rw [Zb4 hk] at h0;exact h0)) hf
theorem ZgU:∀ (ns:List Nat) (st:DS),(ZF st ns).1.fs.length<=st.fs.length
 |[],_=>Nat.le_refl _
 |n::ns,st=>by
  unfold ZF;have h2:=ZbW st (Za n);by_cases hz:(Zi st (Za n)).2=0
  ·rw [ZB hz];have:=ZgU ns (Zi st (Za n)).1;omega
  ·rw [Zx hz];exact h2
theorem ZpK (P:DS->Prop) (st:DS) (sg:List Sg) (s:Sg) (h:P st) (hu:∀ st,P st->P (Zi st (Za s.num)).1) (ha:∀ st,P st->∀ xs,(∀ y∈xs,y∈(ZC st (Za s.num)).1)->P (Zk st Zh xs).1) (hs:∀ st,P st->P (ZA st Zh).1) (hr:∀ st,P st->P (ZY st Zh (Za s.num)).1):P (ZaS st sg s).1:=by
 have th:∀ {y:DS × Int} {f:DS->DS × Int},P y.1->(∀ st,P st->P (f st).1)->P (Z3 y f).1:=λ hy hf=>by
  unfold Z3;split
  ·exact hf _ hy
  ·exact hy
 unfold ZaS;split
 ·exact hu _ h
 split
 ·exact h
 ·exact th (th (ha _ h _ λ y hy=>List.mem_of_mem_take hy) λ st h=>hs st h) λ st h=>hr st h
theorem Zgm (P:DS->Prop) (hu:∀ st n,P st->P (Zi st (Za n)).1):∀ (ns:List Nat) (st:DS),P st->P (ZF st ns).1
 |[],_,h=>h
 |n::ns,st,h=>by
  unfold ZF Z3;split
  ·exact Zgm P hu ns _ (hu _ _ h)
  ·exact hu _ _ h
theorem Zks (P:DS->Prop) (h:P a) (hx:∀ st,P st->P (Zi st Zh).1) (hu:∀ st n,P st->P (Zi st (Za n)).1) (ha:∀ st n,P st->∀ xs,(∀ y∈xs,y∈(ZC st (Za n)).1)->P (Zk st Zh xs).1) (hs:∀ st,P st->P (ZA st Zh).1)
  (hr:∀ st n,1<=n->n<100000000->(∃ s,(Zj a).amiss=some s/\s.num=n)->P st->P (ZY st Zh (Za n)).1) (hm:∀ st,P st->P (Zae st 1 1).1):P (oD a):=by
 have th:∀ {y:DS × Int} {f:DS->DS × Int},P y.1->(∀ st,P st->P (f st).1)->P (Z3 y f).1:=λ hy hf=>by
  unfold Z3;split
  ·exact hf _ hy
  ·exact hy
 unfold oD;split
 ·exact h
 rw [ZcG];refine th (th (th ?_ λ st h=>?_) λ st h=>Zgm P hu _ _ h) λ st h=>?_
 ·unfold x0D;split
  ·exact hx _ h
  ·exact h
 ·unfold f1D;split
  ·rename_i s hsm
   obtain ⟨h1,h2⟩:=(Zhv a).1 s hsm;exact ZpK P _ _ s h (λ st h=>hu st _ h) (λ st h xs hxs=>ha st s.num h xs hxs) hs λ st h=>hr st s.num h1 h2 ⟨s,hsm,rfl⟩ h
  ·exact h
 ·unfold f3D;split
  ·exact hm _ h
  ·exact h
theorem Zpx (hby:Zb9 a.fs):Zb9 (oD a).fs:=Zks (λ st=>Zb9 st.fs) hby (λ _ h=>ZdE h _) (λ _ _ h=>ZdE h _) (λ st n h xs hxs=>Zey h _ λ y hy=>ZhT h _ y (hxs y hy)) (λ _ h=>Zgj h _) (λ _ _ _ _ _ h=>ZqE h _ _) (λ _ h=>ZqF h (by omega) (by omega))
theorem Zpv (h:Zed a K) (hK:1<=K):Zed (oD a) K:=by
 refine Zks (λ st=>Zed st K) h (λ _ h=>Zf7 h (.inl rfl) λ q hq=>ZaH hq) (λ st n h q hq=>?_) (λ _ _ h _ _=>Zf7 h (.inl rfl) λ q hq=>ZaY hq) (λ _ h=>Zf7 h (.inl rfl) λ q hq=>Zcb hq) (λ st n h1 h2 hs h q hq=>?_) (λ _ h=>ZpE h (by omega) hK 1)
 ·by_cases hqn:q=Za n
  ·rw [hqn] at hq ⊢
   refine h _ λ hn=>hq ?_;have hk:Za n ∉ st.fs.map (·.1):=ZQ hn;by_cases hz:(Zi st (Za n)).2=0
   ·rw [Zfm hz];exact Z2 λ hm=>hk ((Zbd _ _).map _|>.subset hm)
   ·rw [Znn hz];exact hn
  ·rw [ZaH hqn] at hq;exact h q hq
 ·obtain ⟨s,hs,rfl⟩:=hs
  by_cases hqn:q=Za s.num
  ·obtain ⟨m1,m2⟩:=Zht (rd:=λ n=>(ZC a (Za n)).1) (nums:=ZN (Zr a.fs)) (prev:=none) (g:=⟨0,[]⟩) (segs:=[])
   obtain ⟨_,hg⟩:=ZmK.1 (m1 s hs);rcases ‹Zed a K› _ hg with h3|⟨m,hm1,hm2,h3⟩
   ·exact absurd h3 (ZO _)
   ·exact .inr ⟨m,hm1,hm2,by rw [hqn];exact h3⟩
  ·by_cases hqs:q=Zh
   ·exact .inl hqs
   ·rw [Zf2 hqs hqn] at hq;exact h q hq
theorem ZmG:(oD a).fs.length<=a.fs.length + 3:=by
 have hmd:∀ (st:DS) (sg:List Sg) (s:Sg),(ZaS st sg s).1.fs.length<=st.fs.length + 2:=λ st sg s=>by
  unfold ZaS;split
  ·have:=ZbW st (Za s.num);omega
  split
  ·simp
  ·generalize (ZC st (Za s.num)).1.take s.size.toNat=bb
   have h1:=Zb7 st Zh bb;have h2:=Zcu (Zk st Zh bb).1 Zh;have h3:=Zir (ZA (Zk st Zh bb).1 Zh).1 Zh (Za s.num);by_cases hA:(Zk st Zh bb).2=0
   ·rw [ZB hA]
    by_cases hB:(ZA (Zk st Zh bb).1 Zh).2=0
    ·rw [ZB hB];omega
    ·rw [Zx hB];omega
   ·rw [Zx hA,Zx hA];omega
 have hthen:∀ (y:DS × Int) (f:DS->DS × Int) (n m:Nat),y.1.fs.length<=n->(∀ st,(f st).1.fs.length<=st.fs.length + m)->(Z3 y f).1.fs.length<=n + m:=λ y f n m h1 h2=>by
  unfold Z3;split
  ·have:=h2 y.1;omega
  ·omega
 unfold oD;split
 ·omega
 rw [ZcG];refine Nat.le_trans (hthen _ _ (a.fs.length + 2) 1 (hthen _ _ (a.fs.length + 2) 0 (hthen _ _ a.fs.length 2 (ZrQ a) λ st=>?_) λ st=>ZgU _ st) λ st=>?_) (by omega)
 ·unfold f1D;split
  ·exact hmd _ _ _
  ·simp
 ·unfold f3D;split
  ·exact Zju _ _ _
  ·simp
theorem Zgy {g g':Lg} {b:List Int} (h:ZV g b=some g') (hl:g.last<=1099511627776) (hb:∀ y∈b,0<=y/\y<256):g'.last<=1099511627776:=by
 unfold ZV Zau at h;simp only at h;have hb0:=ZaF (most:=3) (rd:=⟨b,false⟩) hb;have hv:=Zap (most:=1099511627777) hb0 (by omega);split at h
 ·unfold addR at h
  simp only at h;split at h
  ·rename_i hc
   obtain rfl:=Option.some.inj h;unfold Lg.last at *;simp only [List.length_append,List.length_cons,List.length_nil];omega
  ·cases h
 split at h
 ·unfold ZoI at h
  simp only at h;split at h
  ·obtain rfl:=Option.some.inj h
   rw [Zgg];split<;>omega
  ·cases h
 split at h
 ·unfold Zd4 at h
  simp only at h;split at h
  ·obtain rfl:=Option.some.inj h
   unfold Lg.last;simp only [List.length_nil];omega
  ·cases h
 ·cases h
theorem Zf0:∀ {l:List (List Int)} {g g':Lg},Zea g l=some g'->g.last<=1099511627776->(∀ b∈l,ZbV b)->g'.last<=1099511627776
 |[],g,g',h,hl,_=>by cases h;exact hl
 |y::ys,g,g',h,hl,hb=>by
  unfold Zea at h;cases hc:ZV g y with
  |none=>rw [hc] at h;cases h
  |some g1=>
   rw [hc] at h;exact Zf0 h (Zgy hc hl (hb y (List.mem_cons_self ..)).2) λ b hb'=>hb b (List.mem_cons_of_mem _ hb')
theorem Zl5 {cs:List Sc}:∀ {p:Option Nat} {g g':Lg},Z8 p g cs g'->g.last<=1099511627776->g'.last<=1099511627776:=by
 induction cs with
 |nil=>intro p g g' h hl;cases h;exact hl
 |cons c cs ih=>
  intro p g g' h hl;cases h with
  |first ho _ hr hc=>exact ih hc (Zf0 hr (by have:=ho.x1;unfold Lg.last;simp only [List.length_nil];omega) ho.bs)
  |more ho _ _ hr hc=>exact ih hc (Zf0 hr hl ho.bs)
theorem Zjh:∀ {l:List (List Int)} {g g':Lg},Zea g l=some g'->(0<=g.base/\g.base<=1099511627776)->(∀ b∈l,ZbV b)->(0<=g'.base/\g'.base<=1099511627776)/\g'.l.length<=g.l.length + l.length
 |[],g,g',h,hg,_=>by cases h;exact ⟨hg,by simp⟩
 |y::ys,g,g',h,hg,hb=>by
  unfold Zea at h;cases hc:ZV g y with
  |none=>rw [hc] at h;cases h
  |some g1=>
   rw [hc] at h;obtain ⟨b0,b1,bl⟩:=ZfP hc hg (hb y (List.mem_cons_self ..)).2;obtain ⟨h1,h2⟩:=Zjh h ⟨b0,b1⟩ λ b hb'=>hb b (List.mem_cons_of_mem _ hb');exact ⟨h1,by simp;omega⟩
theorem ZkW {cs:List Sc} {N:Nat}:∀ {p:Option Nat} {g g':Lg},Z8 p g cs g'->(0<=g.base/\g.base<=1099511627776)->(∀ c∈cs,c.bs.length<=N)->(0<=g'.base/\g'.base<=1099511627776)/\g'.l.length<=g.l.length + cs.length * N:=by
 induction cs with
 |nil=>intro p g g' h hg _;cases h;exact ⟨hg,by simp⟩
 |cons c cs ih=>
  intro p g g' h hg hN;have hc0:=hN c (List.mem_cons_self ..);have hm:(c::cs).length * N=N + cs.length * N:=by rw [List.length_cons,Nat.succ_mul,Nat.add_comm]
  cases h with
  |first ho hl hr hc=>
   obtain ⟨h1,h2⟩:=Zjh hr (by have:=ho.x0;have:=ho.x1;simp only;omega) ho.bs;obtain ⟨h3,h4⟩:=ih hc h1 λ c hc=>hN c (List.mem_cons_of_mem _ hc);simp only [List.length_nil] at h2;exact ⟨h3,by omega⟩
  |more ho _ _ hr hc=>
   obtain ⟨h1,h2⟩:=Zjh hr hg ho.bs;obtain ⟨h3,h4⟩:=ih hc h1 λ c hc=>hN c (List.mem_cons_of_mem _ hc);exact ⟨h3,by omega⟩
theorem Zlm:∀ {l:List (List Int)} {g g':Lg},Zea g l=some g'->(∀ e∈g.l,EyB e)->(∀ b∈l,ZbV b)->∀ e∈g'.l,EyB e
 |[],g,g',h,hg,_=>by cases h;exact hg
 |y::ys,g,g',h,hg,hb=>by
  unfold Zea at h;cases hc:ZV g y with
  |none=>rw [hc] at h;cases h
  |some g1=>
   rw [hc] at h;exact Zlm h (ZhR hc hg (hb y (List.mem_cons_self ..)).2) λ b hb'=>hb b (List.mem_cons_of_mem _ hb')
theorem Zna {cs:List Sc}:∀ {p:Option Nat} {g g':Lg},Z8 p g cs g'->(∀ e∈g.l,EyB e)->∀ e∈g'.l,EyB e:=by
 induction cs with
 |nil=>intro p g g' h hg;cases h;exact hg
 |cons c cs ih=>
  intro p g g' h hg;cases h with
  |first ho _ hr hc=>exact ih hc (Zlm hr (λ e h=>by cases h) ho.bs)
  |more ho _ _ hr hc=>exact ih hc (Zlm hr hg ho.bs)
end
section
open Go Go.VC Tryz
variable {x:WSt} {st a b:DS} {K:Nat}
structure SW (x:WSt) (st:DS) (K:Nat):Prop where
 lb:LB x st K
 ey:∀ e∈x.g.l,EyB e
 nm:Zed st K
 fw:x.brk=true\/(x.brk=false/\∃ av c k,Zav x st Any av c k/\c.num<=K)
theorem SW.mono {J:Nat} (h:SW x st K) (hk:K<=J):SW x st J:=⟨h.lb.mono hk,h.ey,h.nm.mono hk,h.fw.imp id λ⟨h0,av,c,k,f,hc⟩=>⟨h0,av,c,k,f,by omega⟩⟩
theorem SW.fs {st':DS} (h:SW x st K) (i:Inv st') (e:st'.fs=st.fs):SW x st' K:=
 ⟨⟨h.lb.wbk,i,by rw [e];exact h.lb.by',by rw [e];exact h.lb.files,h.lb.last⟩,h.ey,Zxe h.nm e,h.fw.imp id λ⟨h0,av,c,k,f,hc⟩=>⟨h0,av,c,k,⟨f.o.fs i e,f.ch,f.sg,f.hk,f.mem⟩,hc⟩⟩
theorem Zav.num1 {M:Lg->Prop} {av:List Sc} {c:Sc} {k:Nat} (f:Zav x st M av c k):1<=c.num/\(Zu x.segs).num=c.num:=⟨(f.ch.ok c (by simp)).n0,by rw [f.tail];rfl⟩
theorem Zav.lt {M:Lg->Prop} {av:List Sc} {c:Sc} {k:Nat} (f:Zav x st M av c k):∀ s∈av,s.num<c.num:=λ s hs=>by
 have hn:=f.ch.nums.2;rw [List.pairwise_append] at hn;exact hn.2.2 s hs c (List.mem_singleton.2 rfl)
structure SR (r:(DS × Int) × WSt) (K:Nat):Prop where
 lb:LB r.2 r.1.1 K
 ey:∀ e∈r.2.g.l,EyB e
 nm:Zed r.1.1 K
 fw:r.1.2=0->∃ av c k,Zav r.2 r.1.1 Any av c k/\c.num<=K
theorem SR.mono {r:(DS × Int) × WSt} {J:Nat} (h:SR r K) (hk:K<=J):SR r J:=⟨h.lb.mono hk,h.ey,h.nm.mono hk,λ h0=>let ⟨av,c,k,f,hc⟩:=h.fw h0;⟨av,c,k,f,by omega⟩⟩
theorem SR.does {r:(DS × Int) × WSt} (h:SR r K):SW (ZbS r).2 (ZbS r).1.1 K:=by
 refine ⟨h.lb.does,h.ey,h.nm,?_⟩;by_cases hz:r.1.2=0
 ·obtain ⟨av,c,k,f,hc⟩:=h.fw hz
  exact .inr ⟨by show (r.1.2 !=0)=false;rw [hz];rfl,av,c,k,⟨f.o,f.ch,f.sg,f.hk,f.mem⟩,hc⟩
 ·exact .inl (by show (r.1.2 !=0)=true;simp [hz])
variable {av:List Sc} {c:Sc} {k:Nat}
theorem Zsw (h:Zed st K) (f:Zav x st Any av c k) (hc:c.num + 1<=K):Zed (ZU x st).1 K:=by
 obtain ⟨h1,h2⟩:=f.num1;unfold ZU;split
 ·rw [h2]
  exact ZpD (ZlE h h1 (by omega)) λ _ h=>ZpE h (by omega) hc _
 ·exact h
theorem ZrZ (h:Zed st K) {x:WSt} (h1:1<=(Zu x.segs).num) (h2:(Zu x.segs).num<=K) (bs:List Int) (g:Lg):Zed (Zbq x st bs g).1.1 K:=by
 unfold Zbq;split<;>exact Zkw h h1 h2 _
theorem ZrT (lb:LB x st K) (ey:∀ e∈x.g.l,EyB e) (nm:Zed st K) (f:Zav x st Any av c k) (hc:c.num<=K) (hK:K<=90000) {e:Ey} (ho:e.Ok) (hb:∀ y∈e.dt,0<=y/\y<256) (hi:e.ix=x.g.last + 1):SR (Zbx x st e) (K + 2):=by
 have h0:0<=x.g.last:=by have:=lb.wbk.b0;unfold Lg.last;omega
 obtain ⟨f1,_,_,_⟩:=f.add (by omega) h0 ho hb hi trivial;obtain ⟨r1,_,_⟩:=f.roll (by omega) h0 lb.last;have hr:=Zsw (nm.mono (show K<=K + 2 by omega)) f (by omega);refine ⟨lb.add ho hb hi (by omega),?_,?_,λ hz=>?_⟩
 ·rcases Zsc x st e with hg|hg
  ·rw [hg]
   intro y hy;rcases List.mem_append.1 hy with hy|hy
   ·exact ey y hy
   ·rw [List.mem_singleton.1 hy];exact ⟨ho.d1,hb⟩
  ·rw [hg];exact ey
 ·unfold Zbx
  split
  ·exact hr
  ·rename_i hz
   obtain ⟨av',c',k',f',hc'⟩:=r1 (Classical.not_not.1 hz);obtain ⟨q1,q2⟩:=f'.num1;refine ZrZ hr ?_ ?_ _ _
   ·rw [q2];exact q1
   ·rw [q2];omega
 ·obtain ⟨av',c',k',f',hc'⟩:=f1 hz
  exact ⟨av',c',k',f',by omega⟩
theorem ZoX:∀ {l:List Ey} {x:WSt} {st:DS} {K:Nat} {av:List Sc} {c:Sc} {k:Nat},LB x st K->(∀ e∈x.g.l,EyB e)->Zed st K->Zav x st Any av c k->c.num<=K->K + 2 * l.length<=90000->ZoL (x.g.last + 1) l->SR (ZdG x st l) (K + 2 * l.length)
 |[],x,st,K,av,c,k,lb,ey,nm,f,hc,_,_=>⟨lb,ey,nm,λ _=>⟨av,c,k,f,hc⟩⟩
 |e::l,x,st,K,av,c,k,lb,ey,nm,f,hc,hK,hl=>by
  simp only [List.length_cons] at hK ⊢;have hek:=hl.ok e (List.mem_cons_self ..);have h1:=hl.fol 0 (by simp);simp only [List.getElem_cons_zero] at h1;have s1:=ZrT lb ey nm f hc (by omega) hek.1 hek.2 (by omega);unfold ZdG;by_cases h:(Zbx x st e).1.2≠0
  ·rw [if_pos h];exact s1.mono (by omega)
  ·rw [if_neg h]
   have hz:=Classical.not_not.1 h;have hg:=Zme hz;have hl2:=(ZoL.app (a:=[e]) (b:=l) hl).2;have hlast:(Zbx x st e).2.g.last=x.g.last + 1:=by rw [hg];unfold Lg.last;simp;omega
   obtain ⟨av',c',k',f',hc'⟩:=s1.fw hz;exact (ZoX s1.lb s1.ey s1.nm f' hc' (by omega) (by rw [hlast];simpa using hl2)).mono (by omega)
theorem ZoU (h:SW x st K) {l:List Ey} (hby:∀ e∈l,∀ y∈e.dt,0<=y/\y<256) (hK:K + 2 * l.length<=90000):SW (ZaD x st l).2 (ZaD x st l).1.1 (K + 2 * l.length):=by
 unfold ZaD;split
 ·exact h.mono (by omega)
 rename_i hb;split
 ·exact h.mono (by omega)
 split
 ·exact h.mono (by omega)
 rename_i h1 h2;rcases h.fw with ht|⟨_,av,c,k,f,hc⟩
 ·exact absurd ht hb
 ·exact SR.does (ZoX h.lb h.ey h.nm f hc hK ⟨λ e he=>⟨Classical.not_not.1 h1 e he,hby e he⟩,Classical.not_not.1 h2⟩)
theorem ZrS (h:SW x st K) (hb:¬ x.brk=true) {bs:List Int} {g:Lg} (ho:ZbV bs) (hg:ZV x.g bs=some g):SR (Zbq x st (ZP bs) g) (K + 1):=by
 rcases h.fw with ht|⟨_,av,c,k,f,hc⟩
 ·exact absurd ht hb
 have hbd:=ZfP hg ⟨h.lb.wbk.b0,h.lb.wbk.b1⟩ ho.2;have hl1:=h.lb.wbk.l1;obtain ⟨p1,p2⟩:=f.num1;obtain ⟨f1,_,_⟩:=f.put ho hg trivial;refine ⟨h.lb.put1 ho ⟨hbd.1,hbd.2.1,by omega⟩ (Zgy hg h.lb.last ho.2),?_,ZrZ (h.nm.mono (by omega)) (by rw [p2];exact p1) (by rw [p2];omega) _ _,λ hz=>⟨av,_,k,f1 hz,by simp only;omega⟩⟩;rcases Zpk x st (ZP bs) g with e|e
 ·rw [e];exact ZhR hg h.ey ho.2
 ·rw [e];exact h.ey
theorem Zuq (h:SW x st K) (n:Int):SW (ZgM x st n).2 (ZgM x st n).1.1 (K + 1):=by
 have h0:=h.lb.wbk.b0;have h1:=h.lb.last;unfold ZgM;split
 ·exact h.mono (by omega)
 rename_i hb;split
 ·exact h.mono (by omega)
 split
 ·exact h.mono (by omega)
 rename_i h2 h3;refine SR.does (ZrS h hb (Zqn (by omega)) ?_);rw [Zoz (by omega) (by omega)];unfold Zfe;rw [if_neg (by omega),if_pos (by omega)]
theorem Zq5 (h:SW x st K) (n:Int):SW (Zbn x st n).2 (Zbn x st n).1.1 (K + 1):=by
 unfold Zbn;split
 ·exact h.mono (by omega)
 rename_i hb;split
 ·exact h.mono (by omega)
 rename_i h2;exact SR.does (ZrS h hb (Zo9 (by omega)) (Zoy (by omega) (by omega)))
theorem Zsm (h:SW x st K):SW (ZgZ x st).2 (ZgZ x st).1.1 K:=by
 unfold ZgZ;split
 ·exact h
 rename_i hb;rcases h.fw with ht|⟨_,av,c,k,f,hc⟩
 ·exact absurd ht hb
 obtain ⟨p1,p2⟩:=f.num1;obtain ⟨f1,_⟩:=f.sync;refine SR.does (r:=(ZA st (Za (Zu x.segs).num),x)) ⟨⟨h.lb.wbk,Za1 h.lb.inv _,Zgj h.lb.by' _,by have:=h.lb.files;have:=Zcu st (Za (Zu x.segs).num);simp only;omega,h.lb.last⟩,h.ey,ZlE h.nm (by rw [p2];exact p1) (by rw [p2];exact hc),λ hz=>?_⟩;simp only at hz ⊢;rw [p2] at hz ⊢;exact ⟨av,c,_,(f1 hz).mono λ _ _=>trivial,hc⟩
theorem OnD.perm {g:Lg} (o:OnD st av c k) (hc:Z8 none ⟨0,[]⟩ (av++[c]) g):st.fs.Perm (ZdO (fOf st) (av++[c])):=by
 have hu:=Zfr (f:=fOf st) hc.nums.2 λ c hm=>(ZbO hc c hm).2;refine Ze8 o.inv.uni hu λ q=>?_;rcases hg:Zw q (ZdO (fOf st) (av++[c])) with _|v
 ·rcases hk:Zw q st.fs with _|v
  ·rfl
  ·exfalso
   obtain ⟨c',hm,rfl⟩:=o.only q (by rw [hk];simp);have:=Zb5 hu (List.mem_map_of_mem (f:=λ c=>(Za c.num,fOf st c)) hm);rw [hg] at this;cases this
 ·obtain ⟨x,y,hxy,_⟩:=ZI hg
  have hm:(q,v)∈ZdO (fOf st) (av++[c]):=by rw [hxy];simp
  obtain ⟨c',hmc,he⟩:=List.mem_map.1 hm;cases he;unfold fOf;rcases List.mem_append.1 hmc with hmc|hmc
  ·rw [o.old c' hmc];rfl
  ·rw [List.mem_singleton.1 hmc,o.last];rfl
theorem Zav.few {M:Lg->Prop} (f:Zav x st M av c k):∀ s∈av++[c],s.bs.length<=2097152:=λ s hs=>by
 have h1:=f.sizes s hs;have h2:=f.o.inv.r1;have h3:=Zb3 s.recs;have e:s.bytes.length=Zo s.recs:=Zao _;have e2:s.recs.length=s.bs.length + 1:=rfl;omega
theorem Zqf {c0:Sc} {lim:Int} (f:Zav x st Any (c0::av) c k) (h:(Zi st (Za c0.num)).2=0):
  Zav ⟨lim,(Zj (Zi st (Za c0.num)).1).g,(Zj (Zi st (Za c0.num)).1).segs,false⟩ (Zi st (Za c0.num)).1 Any av c k/\(Zj (Zi st (Za c0.num)).1).g.last=x.g.last:=by
 have hn:=f.ch.nums.2;have hbd:=ZbO f.ch;have hne:∀ s∈av++[c],Za s.num≠Za c0.num:=λ s hs he=>by
  rw [List.cons_append,List.pairwise_cons] at hn;have h1:=hn.1 s hs;have h2:=ZdN (hbd s (by rw [List.cons_append];exact List.mem_cons_of_mem _ hs)).2 (hbd c0 (by simp)).2 he;omega
 have i':=Zba f.o.inv (Za c0.num);have o':OnD (Zi st (Za c0.num)).1 av c k:=by
  refine ⟨i',λ s hs=>?_,?_,λ q hq=>?_⟩
  ·rw [ZaH (hne s (List.mem_append_left _ hs))];exact f.o.old s (List.mem_cons_of_mem _ hs)
  ·rw [ZaH (hne c (by simp))];exact f.o.last
  ·have hq0:q≠Za c0.num:=λ he=>hq (by rw [he];exact ZdM f.o.inv.uni h)
   rw [ZaH hq0] at hq;obtain ⟨s,hs,e⟩:=f.o.only q hq;rw [List.cons_append] at hs;rcases List.mem_cons.1 hs with rfl|hs
   ·exact absurd e hq0
   ·exact ⟨s,hs,e⟩
 obtain ⟨h2,hch,hl⟩:∃ h2,Z8 none ⟨0,[]⟩ (av++[c]) h2/\h2.last=x.g.last:=by
  have hc:=f.ch;rw [List.cons_append] at hc;cases hav:av++[c] with
  |nil=>simp at hav
  |cons d ds=>
   rw [hav] at hc;exact hc.tail
 have hf:∀ s∈av++[c],(fOf (Zi st (Za c0.num)).1 s).b=s.bytes:=λ s hs=>by
  unfold fOf;rcases List.mem_append.1 hs with hs|hs
  ·rw [o'.old s hs];rfl
  ·rw [List.mem_singleton.1 hs,o'.last];rfl
 have hld:=Zn8 (ZnQ h) (o'.perm hch) hf hch;rw [hld];exact ⟨⟨o',hch,rfl,f.hk,λ _ _ _ _ _=>trivial⟩,hl⟩
theorem Zmu (h:SW x st K) (hb:x.brk=false) (hK:K<=40000) (hc:1<x.segs.length):(1<=(x.segs.getD 0 ⟨0,0,0⟩).num/\(x.segs.getD 0 ⟨0,0,0⟩).num<=K)/\
  ((Zi st (Za (x.segs.getD 0 ⟨0,0,0⟩).num)).2≠0->SW { x with brk:=true } (Zi st (Za (x.segs.getD 0 ⟨0,0,0⟩).num)).1 K)/\
  ((Zi st (Za (x.segs.getD 0 ⟨0,0,0⟩).num)).2=0->SW { x with g:=(Zj (Zi st (Za (x.segs.getD 0 ⟨0,0,0⟩).num)).1).g,segs:=(Zj (Zi st (Za (x.segs.getD 0 ⟨0,0,0⟩).num)).1).segs } (Zi st (Za (x.segs.getD 0 ⟨0,0,0⟩).num)).1 K/\
   (Zj (Zi st (Za (x.segs.getD 0 ⟨0,0,0⟩).num)).1).segs.length + 1=x.segs.length):=by
 rcases h.fw with ht|⟨_,av,c,k,f,hcK⟩
 ·rw [hb] at ht;cases ht
 obtain ⟨c0,av',rfl⟩:∃ c0 av',av=c0::av':=by
  cases av with
  |nil=>have:=f.sg;rw [this] at hc;simp at hc
  |cons c0 av'=>exact ⟨c0,av',rfl⟩
 have hs0:(x.segs.getD 0 ⟨0,0,0⟩).num=c0.num:=by rw [f.sg];rfl
 have hc0:1<=c0.num/\c0.num<=K:=by
  have:=(f.ch.ok c0 (by simp)).n0;have:=f.lt c0 (List.mem_cons_self ..);omega
 have nm':=ZpC h.nm hc0.1 hc0.2;have iu:=Zba h.lb.inv (Za c0.num);have bu:=ZdE h.lb.by' (Za c0.num)
 have lu:=ZbW st (Za c0.num);have hfi:=h.lb.files;rw [hs0];refine ⟨hc0,λ _=>⟨⟨⟨h.lb.wbk.b0,h.lb.wbk.b1,h.lb.wbk.l1,h.lb.wbk.s0,h.lb.wbk.s1,h.lb.wbk.n1⟩,iu,bu,by omega,h.lb.last⟩,h.ey,nm',.inl rfl⟩,λ hz=>?_⟩;obtain ⟨f',hl⟩:=Zqf (lim:=x.lim) f hz;have hcl:=ZkW f'.ch ⟨by simp,by simp⟩ f'.few;have hsegl:(av'++[c]).length<=K + 1:=by
  have hp:=(f'.o.perm f'.ch).length_eq;rw [List.length_map] at hp;omega
 have hsg:=f'.sg;simp only at hsg;refine ⟨⟨⟨⟨hcl.1.1,hcl.1.2,?_,?_,?_,λ s hs=>?_⟩,iu,bu,by omega,by show (Zj (Zi st (Za c0.num)).1).g.last<=_;rw [hl];exact h.lb.last⟩,Zna f'.ch (λ e h=>by cases h),nm',.inr ⟨hb,av',c,k,⟨f'.o,f'.ch,f'.sg,f'.hk,f'.mem⟩,hcK⟩⟩,?_⟩
 ·have h2:=hcl.2
  simp only [List.length_nil,Nat.zero_add] at h2;have h3:(av'++[c]).length * 2097152<=(K + 1) * 2097152:=Nat.mul_le_mul_right _ hsegl;show (Zj (Zi st (Za c0.num)).1).g.l.length<=_;have h4:(Zj (Zi st (Za c0.num)).1).g.l.length<=(av'++[c]).length * 2097152:=h2;have h5:(K + 1) * 2097152<=40001 * 2097152:=Nat.mul_le_mul_right _ (by omega);omega
 ·show 0<(Zj (Zi st (Za c0.num)).1).segs.length
  rw [hsg];simp
 ·show (Zj (Zi st (Za c0.num)).1).segs.length<=_
  rw [hsg,List.length_map];omega
 ·have hs:s∈(Zj (Zi st (Za c0.num)).1).segs:=hs
  rw [hsg] at hs;obtain ⟨q,hq,rfl⟩:=List.mem_map.1 hs;have hsz:=f'.sizes q hq;have hr1:=iu.r1;have hqK:q.num<=K:=by
   rcases List.mem_append.1 hq with hq|hq
   ·have:=f'.lt q hq;omega
   ·rw [List.mem_singleton.1 hq];exact hcK
  exact ⟨by show q.num<=_;omega,by show (0:Int)<=q.bytes.length;omega,by show (q.bytes.length:Int)<=_;omega⟩
 ·rw [hsg,f.sg,List.length_map,List.length_map];simp
theorem Zmt (hK:K<=40000) (before:Int):∀ (n:Nat) {x:WSt} {st:DS},SW x st K->x.brk=false->SW (ZcV n x st before).2 (ZcV n x st before).1.1 K
 |0,x,st,h,_=>h
 |n + 1,x,st,h,hb=>by
  unfold ZcV;split
  ·rename_i hc
   obtain ⟨_,h2,h3⟩:=Zmu h hb hK hc.1;split
   ·rename_i hz;exact h2 hz
   ·rename_i hz;exact Zmt hK before n (h3 (Classical.not_not.1 hz)).1 hb
  ·exact h
theorem Zso (h:SW x st K) (hK:K<=40000) (before:Int):SW (Zdy x st before).2 (Zdy x st before).1.1 K:=by
 unfold Zdy;split
 ·exact h
 rename_i hb;split
 ·exact h
 ·exact Zmt hK before _ h (by simpa using hb)
theorem Zsn {lim:Int} (r:Rel a b) (hby:Zb9 a.fs) (hs:∀ k f,Zw k a.fs=some f->f.sure=f.b.length) (nm:Zed a K) (hK1:1<=K) (hK2:K<=30000) (hfl:a.fs.length + 2<=K) (h:oE a=0) (hl:(Zz a).g.l.length<=100000000000):
  SW ⟨lim,(Zz a).g,(Zz a).segs,false⟩ (oD a) K:=by
 obtain ⟨av,c,k,f,hc⟩:=Zpw (lim:=lim) r hby hs nm hK1 (by omega) h;have i:=f.o.inv;have hlen:=ZmG (a:=a);have hcl:=ZkW f.ch ⟨by simp,by simp⟩ f.few;have hp:=(f.o.perm f.ch).length_eq;rw [List.length_map] at hp;refine ⟨⟨⟨hcl.1.1,hcl.1.2,by show (Zz a).g.l.length<=_;omega,?_,?_,λ s hs=>?_⟩,i,Zpx hby,by omega,Zl5 f.ch (by simp [Lg.last])⟩,Zna f.ch (λ e h=>by cases h),Zpv nm hK1,.inr ⟨rfl,av,c,k,f,hc⟩⟩
 ·have:=f.sg;simp only at this ⊢;rw [this];simp
 ·have:=f.sg;simp only at this ⊢;rw [this,List.length_map];omega
 ·have hsg:=f.sg
  simp only at hsg hs;rw [hsg] at hs;obtain ⟨q,hq,rfl⟩:=List.mem_map.1 hs;have hsz:=f.sizes q hq;have hr1:=i.r1;have hqK:q.num<=K:=by
   rcases List.mem_append.1 hq with hq|hq
   ·have:=f.lt q hq;omega
   ·rw [List.mem_singleton.1 hq];exact hc
  exact ⟨by show q.num<=_;omega,by show (0:Int)<=q.bytes.length;omega,by show (q.bytes.length:Int)<=_;omega⟩
end
section
open Go Go.VC Tryz
variable {R R':Cx} {Hs Rest Rest2:List HP} {w:World} {p d K:Nat} {x:WSt} {s sg sh:Sl} {ds:List DE4} {a b:DS}
def ZoK (R:Cx) (Hs:List HP) (p d:Nat) (r:(DS × Int) × WSt) (v:Value) (w:World):Prop:=
 ∃ R' s sg sh ds b',R.Ext R'/\v=.int .i64 r.1.2/\DsR R' ds/\erE ds=r.2.g.l/\Rel r.1.1 b'/\Sat R' (UX p d r.2 s sg sh ds b' Hs) w
theorem Zhy (segs:List Sg) (n:Nat):(Zbh segs n).map (·.num)=segs.map (·.num)/\(Zbh segs n).map (·.next)=segs.map (·.next):=Zgn _ _
theorem Zk7 {x':WSt} (h1:x'.lim=x.lim) (h2:x'.g.base=x.g.base) (h3:x'.brk=x.brk) (h4:x'.segs.map (·.num)=x.segs.map (·.num)) (h5:x'.segs.map (·.next)=x.segs.map (·.next)) (hw:Sat R (UX p d x s sg sh ds b Hs) w):Sat R (UX p d x' s sg sh ds b Hs) w:=by
 unfold UX US Zb8 Zaf;rw [h1,h2,h3,h4,h5];exact hw
theorem LB.tailn (h:LB x a K) (hK:K<=90000):(Zu x.segs).num<100000000:=by have:=h.wbk.tail;omega
theorem Zmo (h:0<x.segs.length):((x.segs.map (·.num)).map λ n:Nat=>(n:Int))[x.segs.length - 1]'(by simp;omega)=((Zu x.segs).num:Int):=by
 simp only [List.getElem_map];unfold Zu;rw [List.getD_eq_getElem?_getD,List.getElem?_eq_getElem (by omega)];rfl
theorem ZaN (h0:0<x.segs.length) (hn:(Zu x.segs).num<100000000) (hl:x.segs.length<=1000000) {Hs:List HP} (hw:Sat R Hs w) [t1:Zmf (pts p (Zp d x.lim x.g.base s sg sh x.brk)) Hs Rest] [t2:Zmf (Zb8 sg x.segs) Hs Rest2]:
  Zq prog 117 #[.pointer (some ⟨p,0,none⟩)] w λ v w'=>v=.string (Za (Zu x.segs).num)/\Sat R Hs w':=by
 have hsl:sg.len=x.segs.length:=by
  have:=Own.len (Sat.perm t2.perm hw);simpa using this
 have hwp:=Sat.perm t1.perm hw;apply ZtU;have hS:∀ w',Sat R Hs w'->Sat R (pts p (Zp d x.lim x.g.base s sg sh x.brk)::Rest) w':=λ w' h=>Sat.perm t1.perm h;refine Zv hw λ w hw=>Zb.mk rfl ⟨sg,At.own hS (by exact ⟨rfl,trivial⟩),Zb.mk rfl ⟨sg,At.own hS (by exact ⟨rfl,trivial⟩),?_⟩⟩;have ix:IntKind.i64.wrap ((sg.len:Int) - 1)=((x.segs.length - 1:Nat):Int):=by rw [Zg (by omega) (by omega)];omega
 rw [ix];have hw2:Sat R (Zb8 sg x.segs::Rest2) w:=Sat.perm t2.perm hw;refine Own.ix hw2 (λ w' h=>Sat.perm t2.perm h) (x.segs.length - 1) rfl (by simp;omega) ?_;rw [Zmo h0];refine (ZaX hn hw).use ?_;rintro _ w ⟨rfl,hw⟩;exact ⟨_,rfl,hw,rfl,hw⟩
theorem ZcH (e:Int) (hw:Sat R (UX p d x s sg sh ds b Hs) w):Zq prog 116 #[.pointer (some ⟨p,0,none⟩),.int .i64 e] w λ v w'=>v=.int .i64 e/\Sat R (UX p d { x with brk:=if e=0 then x.brk else true } s sg sh ds b Hs) w':=by
 apply ZtV;refine Br.ne (λ h=>?_) (λ h=>⟨rfl,by rw [if_pos h];exact hw⟩);rw [if_neg h];refine Zb.mk rfl ?_;refine Zc hw (by kernel_rfl) rfl (by simp [Value.cells,Zn]) λ w hw=>?_;exact ⟨rfl,hw.re (pts p (Zp d x.lim x.g.base s sg sh true))⟩
theorem ZnI (r:Rel a b) (h:SW x a K) (hK:K<=40000) (hd:DsR R ds) (he:erE ds=x.g.l) (hw:Sat R (UX p d x s sg sh ds b Hs) w):
  Zq prog 72 #[.pointer (some ⟨p,0,none⟩)] w (ZoK R Hs p d (ZgZ x a)):=by
 have h0:=h.lb.wbk.s0;have h1:=h.lb.wbk.s1;have hf:=h.lb.files;have hlb:=r.len;apply Zve;refine Zb.mk rfl ⟨x.brk,At.own (eqS hw) (by exact ⟨rfl,trivial⟩),Br.mk (λ hb=>?_) (λ hb=>?_)⟩
 ·have e:ZgZ x a=((a,8),x):=by unfold ZgZ;rw [if_pos hb]
  rw [e];exact ⟨R,s,sg,sh,ds,b,.refl,rfl,hd,he,r,hw⟩
 have e:ZgZ x a=ZbS (ZA a (Za (Zu x.segs).num),x):=by unfold ZgZ;rw [if_neg (by simp [hb])]
 rw [e];obtain ⟨rs,es⟩:=r.sync (Za (Zu x.segs).num);refine Zs (λ w=>∃ k,Sat R [pts p (Zp d x.lim x.g.base s sg sh k),VC.tru] w) hw (λ w hw=>⟨x.brk,hw.k1⟩) λ w hw=>Zb.mk rfl ⟨some ⟨d,0,none⟩,λ w h i v hv=>?_,?_⟩
 ·obtain ⟨k,h⟩:=h
  exact (At.own (S:=λ w'=>w'=w) (eqS h) (by exact ⟨rfl,trivial⟩)) w rfl i v hv
 refine (ZaN (x:=x) (p:=p) (d:=d) (s:=s) (sg:=sg) (sh:=sh) h0 (h.lb.tailn (by omega)) (by omega) hw).use ?_;clear hw;rintro _ w ⟨rfl,hw⟩;refine ⟨_,rfl,⟨x.brk,hw.k1⟩,?_⟩;have hw:Sat R (Zy d b::pts p (Zp d x.lim x.g.base s sg sh x.brk)::ZL s ds::Zb8 sg x.segs::Zaf sh x.segs::Hs) w:=hw.arr;refine (Zdm r.invR (by omega) (ZaI _) hw).use ?_;clear hw;rintro _ w ⟨rfl,hw⟩;rw [<-es];have hw:Sat R (UX p d x s sg sh ds (ZA b (Za (Zu x.segs).num)).1 Hs) w:=hw.arr;refine ⟨_,rfl,(ZcH _ hw).use ?_⟩;clear hw;rintro _ w ⟨rfl,hw⟩;refine ⟨_,rfl,⟨if (ZA a (Za (Zu x.segs).num)).2=0 then x.brk else true,hw.k1⟩,R,s,sg,sh,ds,_,.refl,rfl,hd,he,rs,?_⟩
 have eb:(if (ZA a (Za (Zu x.segs).num)).2=0 then x.brk else true)=((ZA a (Za (Zu x.segs).num)).2 !=0):=by
  rw [hb];by_cases hz:(ZA a (Za (Zu x.segs).num)).2=0
  ·rw [if_pos hz,hz];rfl
  ·rw [if_neg hz];simp [hz]
 rw [eb] at hw;exact hw
theorem Zlz (next:Int) (r:Rel a b) (h:SW x a K) (hK:K<=40000) (hd:DsR R ds) (he:erE ds=x.g.l) (hw:Sat R (UX p d x s sg sh ds b Hs) w):
  Zq prog 71 #[.pointer (some ⟨p,0,none⟩),.int .i64 next] w (ZoK R Hs p d (Zbn x a next)):=by
 have h0:=h.lb.wbk.s0;have h1:=h.lb.wbk.s1;have hf:=h.lb.files;have hlb:=r.len;apply Zvf
 suffices H:∀ K:Value->World->Prop,(∀ v w',ZoK R Hs p d (Zbn x a next) v w'->K v w')->B71 (some ⟨p,0,none⟩) next K w from H _ λ _ _ h=>h
 intro Q hQ;refine Zb.mk rfl ⟨x.brk,At.own (eqS hw) (by exact ⟨rfl,trivial⟩),Br.mk (λ hb=>?_) (λ hb=>?_)⟩
 ·have e:Zbn x a next=((a,8),x):=by unfold Zbn;rw [if_pos hb]
  rw [e] at hQ;exact hQ _ _ ⟨R,s,sg,sh,ds,b,.refl,rfl,hd,he,r,hw⟩
 have hnb:¬ x.brk=true:=by simp [hb]
 have arg:(next<1\/next>1099511627776)->∀ {w:World},Sat R (UX p d x s sg sh ds b Hs) w->Q (.int .i64 1) w:=λ hc {w} hw=>by
  have e:Zbn x a next=((a,1),x):=by unfold Zbn;rw [if_neg hnb,if_pos hc]
  rw [e] at hQ;exact hQ _ _ ⟨R,s,sg,sh,ds,b,.refl,rfl,hd,he,r,hw⟩
 refine ⟨λ w=>(1<=next/\next<=1099511627776)/\Sat R (UX p d x s sg sh ds b Hs) w,Br.d (λ h=>arg (.inl h) hw) (λ h=>Br.d (λ h2=>arg (.inr h2) hw) (λ h2=>⟨⟨by omega,by omega⟩,hw⟩)),?_⟩;clear hw;rintro _ w ⟨⟨hn0,hn1⟩,hw⟩;have e:Zbn x a next=ZbS (Zbq x a (ZP (Zd8 next)) ⟨next - 1,[]⟩):=by unfold Zbn;rw [if_neg hnb,if_neg (by omega)]
 rw [e] at hQ;have hrl:=Zo9 (i:=next) (by omega);have hrbl:(ZP (Zd8 next)).length<=100000:=by rw [ZK];have:=hrl.1;omega
 obtain ⟨ra,ea⟩:=r.append (Za (Zu x.segs).num) (ZP (Zd8 next));refine Zs (Sat R [pts p (Zp d x.lim x.g.base s sg sh x.brk),VC.tru]) hw (λ w hw=>hw.k1) λ w hw=>Zb.mk rfl ⟨_,At.own Ze (by exact ⟨rfl,trivial⟩),?_⟩;refine ⟨?_,?_⟩
 focus
  refine (ZaN (x:=x) (p:=p) (d:=d) (s:=s) (sg:=sg) (sh:=sh) h0 (h.lb.tailn (by omega)) (by omega) hw).use ?_;clear hw;rintro _ w ⟨rfl,hw⟩;refine ⟨_,rfl,hw.k1,Zd hw λ b3 w hw=>⟨hw.k1,?_⟩⟩;obtain ⟨hc3,hw⟩:=Sat.lend.1 hw;refine (Zby (t:=none) (sd:=⟨none,0,0⟩) (xs:=[3,next]) (sl:=⟨some ⟨b3,0,none⟩,2,2⟩) (λ x hx=>by simp at hx;omega) (by simp) (λ d h=>by cases h) (Zdo (by simp) rfl hc3) hw).use ?_;clear hw;rintro _ w ⟨te,rfl,hw⟩;have hw:=(Sat.lend.2 ⟨hc3,hw⟩).drop;refine ⟨te,rfl,hw.k1,?_⟩
 rotate_left 1
 focus
  refine Zd hw λ b3 w hw=>⟨hw.k1,?_⟩;refine (ZaN (x:=x) (p:=p) (d:=d) (s:=s) (sg:=sg) (sh:=sh) h0 (h.lb.tailn (by omega)) (by omega) hw).use ?_;clear hw;rintro _ w ⟨rfl,hw⟩;refine ⟨_,rfl,hw.k1,?_⟩;obtain ⟨hc3,hw⟩:=Sat.lend.1 hw;refine (Zby (t:=none) (sd:=⟨none,0,0⟩) (xs:=[3,next]) (sl:=⟨some ⟨b3,0,none⟩,2,2⟩) (λ x hx=>by simp at hx;omega) (by simp) (λ d h=>by cases h) (Zdo (by simp) rfl hc3) hw).use ?_;clear hw;rintro _ w ⟨te,rfl,hw⟩;have hw:=(Sat.lend.2 ⟨hc3,hw⟩).drop;refine ⟨te,rfl,hw.k1,?_⟩
 all_goals
  rw [ZmX] at hw;obtain ⟨R1,hr1,_,hw,back⟩:=Own.lend hw (by rw [List.length_map];omega);have hw:Sat R1 (Zy d b::pts p (Zp d x.lim x.g.base s sg sh x.brk)::ZL s ds::Zb8 sg x.segs::Zaf sh x.segs::Hs) w:=hw.arr;refine (ZbD r.invR (by omega) (ZaI _) hr1 (by omega) hw).use ?_;clear hw;rintro _ w ⟨rfl,hw⟩;have hw:=(back hw).drop;rw [<-ea];have hw:Sat R (UX p d x s sg sh ds (ZW b (Za (Zu x.segs).num) (ZP (Zd8 next))).1 Hs) w:=hw.arr;refine ⟨_,rfl,Br.ne (λ hz=>?_) (λ hz=>?_)⟩
  ·refine (ZcH _ hw).use ?_
   clear hw;rintro _ w ⟨rfl,hw⟩;rw [if_neg hz] at hw;have ep:Zbq x a (ZP (Zd8 next)) ⟨next - 1,[]⟩=(Zk a (Za (Zu x.segs).num) (ZP (Zd8 next)),x):=by unfold Zbq;rw [if_neg hz]
   have ed:ZbS (Zbq x a (ZP (Zd8 next)) ⟨next - 1,[]⟩)=(Zk a (Za (Zu x.segs).num) (ZP (Zd8 next)),{ x with brk:=true }):=by rw [ep];unfold ZbS;simp [hz]
   rw [ed] at hQ;exact ⟨_,rfl,hQ _ _ ⟨R,s,sg,sh,ds,_,.refl,rfl,hd,he,ra,hw⟩⟩
  ·have ep:Zbq x a (ZP (Zd8 next)) ⟨next - 1,[]⟩=(Zk a (Za (Zu x.segs).num) (ZP (Zd8 next)),{ x with segs:=Zbh x.segs (ZP (Zd8 next)).length,g:=⟨next - 1,[]⟩ }):=by unfold Zbq;rw [if_pos hz]
   have ed:ZbS (Zbq x a (ZP (Zd8 next)) ⟨next - 1,[]⟩)=(Zk a (Za (Zu x.segs).num) (ZP (Zd8 next)),{ x with segs:=Zbh x.segs (ZP (Zd8 next)).length,g:=⟨next - 1,[]⟩,brk:=false }):=by rw [ep];unfold ZbS;simp [hz]
   rw [ed] at hQ;refine Zb.mk rfl ?_;rw [Zg (by omega) (by omega)];refine Zc hw (by kernel_rfl) rfl (by simp [Value.cells,Zn]) λ w hw=>?_;have hw:=hw.re (pts p (Zp d x.lim (next - 1) ⟨none,0,0⟩ sg sh x.brk));obtain ⟨q1,q2⟩:=Zhy x.segs (ZP (Zd8 next)).length;have hw:Sat R (UX p d { x with g:=⟨next - 1,[]⟩ } ⟨none,0,0⟩ sg sh [] (ZW b (Za (Zu x.segs).num) (ZP (Zd8 next))).1 Hs) w:=hw.cons λ _ h=>ZM.nil h.drop;have hw:=Zk7 (x:={ x with g:=⟨next - 1,[]⟩ }) (x':={ x with segs:=Zbh x.segs (ZP (Zd8 next)).length,g:=⟨next - 1,[]⟩,brk:=false }) rfl rfl hb.symm q1 q2 hw;have hQ':=hQ (.int .i64 0) w ⟨R,⟨none,0,0⟩,sg,sh,[],_,.refl,by rw [show (Zk a (Za (Zu x.segs).num) (ZP (Zd8 next))).2=0 from hz],.nil,rfl,ra,hw⟩
   exact hQ'
theorem Zpi (from':Int) (r:Rel a b) (h:SW x a K) (hK:K<=40000) (hd:DsR R ds) (he:erE ds=x.g.l) (hw:Sat R (UX p d x s sg sh ds b Hs) w):
  Zq prog 70 #[.pointer (some ⟨p,0,none⟩),.int .i64 from'] w (ZoK R Hs p d (ZgM x a from')):=by
 have h0:=h.lb.wbk.s0;have h1:=h.lb.wbk.s1;have hf:=h.lb.files;have hb0:=h.lb.wbk.b0;have hb1:=h.lb.wbk.b1;have hl1:=h.lb.wbk.l1;have hlx:=h.lb.last;have hlb:=r.len;have hsl:=(UX.slen hw).1;have hdl:ds.length=x.g.l.length:=by rw [<-he,List.length_map]
 have hlast:=ZlL he;apply Zvg
 suffices H:∀ K:Value->World->Prop,(∀ v w',ZoK R Hs p d (ZgM x a from') v w'->K v w')->B70 (some ⟨p,0,none⟩) from' K w from H _ λ _ _ h=>h
 intro Q hQ;refine Zb.mk rfl ⟨x.brk,At.own (eqS hw) (by exact ⟨rfl,trivial⟩),Br.mk (λ hb=>?_) (λ hb=>?_)⟩
 ·have e:ZgM x a from'=((a,8),x):=by unfold ZgM;rw [if_pos hb]
  rw [e] at hQ;exact hQ _ _ ⟨R,s,sg,sh,ds,b,.refl,rfl,hd,he,r,hw⟩
 have hnb:¬ x.brk=true:=by simp [hb]
 have arg:(from'<=x.g.base\/from'>x.g.last + 1)->∀ {w:World},Sat R (UX p d x s sg sh ds b Hs) w->Q (.int .i64 7) w:=λ hc {w} hw=>by
  have e:ZgM x a from'=((a,7),x):=by unfold ZgM;rw [if_neg hnb,if_pos hc]
  rw [e] at hQ;exact hQ _ _ ⟨R,s,sg,sh,ds,b,.refl,rfl,hd,he,r,hw⟩
 refine ⟨λ w=>(x.g.base<from'/\from'<=x.g.last + 1)/\Sat R (UX p d x s sg sh ds b Hs) w,?_,?_⟩
 ·refine Zb.mk rfl ⟨x.g.base,At.own (eqS hw) (by exact ⟨rfl,trivial⟩),Br.d (λ h=>arg (.inl h) hw) (λ h=>?_)⟩
  refine Zb.mk rfl ⟨x.g.base,s,At.own (eqS hw) (by exact ⟨rfl,rfl,trivial⟩),?_⟩;refine (Zam hb0 hb1 (by omega) hw).use ?_;clear hw;rintro _ w ⟨rfl,hw⟩;refine ⟨_,rfl,?_⟩;rw [Zg (by omega) (by omega)];exact Br.d (λ h2=>arg (.inr (by omega)) hw) (λ h2=>⟨⟨by omega,by omega⟩,hw⟩)
 clear hw;rintro _ w ⟨⟨hn0,hn1⟩,hw⟩;refine Zb.mk rfl ⟨x.g.base,s,At.own (eqS hw) (by exact ⟨rfl,rfl,trivial⟩),?_⟩;refine (Zam hb0 hb1 (by omega) hw).use ?_;clear hw;rintro _ w ⟨rfl,hw⟩;refine ⟨_,rfl,?_⟩;rw [Zg (x:=x.g.base + (s.len:Int) + 1) (by omega) (by omega)];refine Br.e (λ hz=>?_) (λ hz=>?_)
 ·have e:ZgM x a from'=((a,0),x):=by unfold ZgM;rw [if_neg hnb,if_neg (by omega),if_pos (by omega)]
  rw [e] at hQ;exact hQ _ _ ⟨R,s,sg,sh,ds,b,.refl,rfl,hd,he,r,hw⟩
 obtain ⟨o,ho⟩:∃ o:Nat,o=(from' - 1 - x.g.base).toNat:=⟨_,rfl⟩
 have e:ZgM x a from'=ZbS (Zbq x a (ZP (Zc8 from')) ⟨x.g.base,x.g.l.take o⟩):=by unfold ZgM;rw [if_neg hnb,if_neg (by omega),if_neg (by omega),ho]
 rw [e] at hQ;have hrl:=Zqn (i:=from') (by omega)
 have hrbl:(ZP (Zc8 from')).length<=100000:=by rw [ZK];have:=hrl.1;omega
 obtain ⟨ra,ea⟩:=r.append (Za (Zu x.segs).num) (ZP (Zc8 from'))
 refine Zs (Sat R [pts p (Zp d x.lim x.g.base s sg sh x.brk),VC.tru]) hw (λ w hw=>hw.k1) λ w hw=>Zb.mk rfl ⟨_,At.own Ze (by exact ⟨rfl,trivial⟩),?_⟩;refine ⟨?_,?_⟩
 focus
  refine (ZaN (x:=x) (p:=p) (d:=d) (s:=s) (sg:=sg) (sh:=sh) h0 (h.lb.tailn (by omega)) (by omega) hw).use ?_;clear hw;rintro _ w ⟨rfl,hw⟩;refine ⟨_,rfl,hw.k1,Zd hw λ b3 w hw=>⟨hw.k1,?_⟩⟩;obtain ⟨hc3,hw⟩:=Sat.lend.1 hw;refine (Zby (t:=none) (sd:=⟨none,0,0⟩) (xs:=[2,from']) (sl:=⟨some ⟨b3,0,none⟩,2,2⟩) (λ x hx=>by simp at hx;omega) (by simp) (λ d h=>by cases h) (Zdo (by simp) rfl hc3) hw).use ?_
  clear hw;rintro _ w ⟨te,rfl,hw⟩;have hw:=(Sat.lend.2 ⟨hc3,hw⟩).drop;refine ⟨te,rfl,hw.k1,?_⟩
 rotate_left 1
 focus
  refine Zd hw λ b3 w hw=>⟨hw.k1,?_⟩;refine (ZaN (x:=x) (p:=p) (d:=d) (s:=s) (sg:=sg) (sh:=sh) h0 (h.lb.tailn (by omega)) (by omega) hw).use ?_;clear hw;rintro _ w ⟨rfl,hw⟩;refine ⟨_,rfl,hw.k1,?_⟩;obtain ⟨hc3,hw⟩:=Sat.lend.1 hw;refine (Zby (t:=none) (sd:=⟨none,0,0⟩) (xs:=[2,from']) (sl:=⟨some ⟨b3,0,none⟩,2,2⟩) (λ x hx=>by simp at hx;omega) (by simp) (λ d h=>by cases h) (Zdo (by simp) rfl hc3) hw).use ?_
  clear hw;rintro _ w ⟨te,rfl,hw⟩;have hw:=(Sat.lend.2 ⟨hc3,hw⟩).drop;refine ⟨te,rfl,hw.k1,?_⟩
 all_goals
  rw [ZmZ] at hw;obtain ⟨R1,hr1,_,hw,back⟩:=Own.lend hw (by rw [List.length_map];omega);have hw:Sat R1 (Zy d b::pts p (Zp d x.lim x.g.base s sg sh x.brk)::ZL s ds::Zb8 sg x.segs::Zaf sh x.segs::Hs) w:=hw.arr;refine (ZbD r.invR (by omega) (ZaI _) hr1 (by omega) hw).use ?_;clear hw;rintro _ w ⟨rfl,hw⟩;have hw:=(back hw).drop;rw [<-ea];have hw:Sat R (UX p d x s sg sh ds (ZW b (Za (Zu x.segs).num) (ZP (Zc8 from'))).1 Hs) w:=hw.arr
  refine ⟨_,rfl,Br.ne (λ hz=>?_) (λ hz=>?_)⟩
  ·refine (ZcH _ hw).use ?_
   clear hw;rintro _ w ⟨rfl,hw⟩;rw [if_neg hz] at hw;have ep:Zbq x a (ZP (Zc8 from')) ⟨x.g.base,x.g.l.take o⟩=(Zk a (Za (Zu x.segs).num) (ZP (Zc8 from')),x):=by unfold Zbq;rw [if_neg hz]
   have ed:ZbS (Zbq x a (ZP (Zc8 from')) ⟨x.g.base,x.g.l.take o⟩)=(Zk a (Za (Zu x.segs).num) (ZP (Zc8 from')),{ x with brk:=true }):=by rw [ep];unfold ZbS;simp [hz]
   rw [ed] at hQ;exact ⟨_,rfl,hQ _ _ ⟨R,s,sg,sh,ds,_,.refl,rfl,hd,he,ra,hw⟩⟩
  ·have ep:Zbq x a (ZP (Zc8 from')) ⟨x.g.base,x.g.l.take o⟩=(Zk a (Za (Zu x.segs).num) (ZP (Zc8 from')),{ x with segs:=Zbh x.segs (ZP (Zc8 from')).length,g:=⟨x.g.base,x.g.l.take o⟩ }):=by unfold Zbq;rw [if_pos hz]
   have ed:ZbS (Zbq x a (ZP (Zc8 from')) ⟨x.g.base,x.g.l.take o⟩)=(Zk a (Za (Zu x.segs).num) (ZP (Zc8 from')),{ x with segs:=Zbh x.segs (ZP (Zc8 from')).length,g:=⟨x.g.base,x.g.l.take o⟩,brk:=false }):=by rw [ep];unfold ZbS;simp [hz]
   rw [ed] at hQ;have hcap:s.len<=s.cap:=by
    have h2:Sat R (ZL s ds::pts p (Zp d x.lim x.g.base s sg sh x.brk)::Zb8 sg x.segs::Zaf sh x.segs::Zy d (ZW b (Za (Zu x.segs).num) (ZP (Zc8 from'))).1::Hs) w:=hw.arr
    exact ZM.cap (by omega) h2
   have w1:IntKind.i64.wrap (IntKind.i64.wrap (from' - 1) - x.g.base)=(o:Int):=by rw [Zg (x:=from' - 1) (by omega) (by omega),Zg (by omega) (by omega)];omega
   refine Zs (Sat R [pts p (Zp d x.lim x.g.base s sg sh x.brk),VC.tru]) hw (λ w hw=>hw.k1) λ w hw=>Zb.mk rfl ⟨s,At.own Ze (by exact ⟨rfl,trivial⟩),Zb.mk rfl ⟨x.g.base,At.own Ze (by exact ⟨rfl,trivial⟩),?_⟩⟩;rw [w1];refine ⟨by omega,by omega,Zd hw λ b2 w hw=>⟨hw.k1,?_⟩⟩;have hw:Sat R (ZL s ds::pts b2 (.cells ([]:List Value).toArray 55 (0,0))::pts p (Zp d x.lim x.g.base s sg sh x.brk)::Zb8 sg x.segs::Zaf sh x.segs::Zy d (ZW b (Za (Zu x.segs).num) (ZP (Zc8 from'))).1::Hs) w:=hw.arr
   obtain ⟨R1,hr,⟨y,hy⟩,hw,back⟩:=ZM.lend hw;have hr2:=hr.take (h:=o) (by rw [List.length_map];omega) s.cap;rw [<-List.map_take] at hr2;have hs2:=Zg0 elE.hk hw hr2 (Zhl _);refine ZbP elE hw hs2 hr2.wid (by rw [List.length_map,List.length_take];omega) (by rw [List.length_map,List.length_take];omega) λ t w hw=>?_;have hw:=back hw;have hw:Sat R (pts p (Zp d x.lim x.g.base s sg sh x.brk)::ZL t (ds.take o)::ZL s ds::Zb8 sg x.segs::Zaf sh x.segs::Zy d (ZW b (Za (Zu x.segs).num) (ZP (Zc8 from'))).1::Hs) w:=hw.arr
   refine ⟨hw.k1,Zb.mk rfl ?_⟩;refine Zc hw (by kernel_rfl) rfl (by simp [Value.cells,Zn]) λ w hw=>?_;have hw:=hw.re (pts p (Zp d x.lim x.g.base t sg sh x.brk));obtain ⟨q1,q2⟩:=Zhy x.segs (ZP (Zc8 from')).length
   have hw:Sat R (UX p d x t sg sh (ds.take o) (ZW b (Za (Zu x.segs).num) (ZP (Zc8 from'))).1 Hs) w:=hw.cons λ _ h=>h.cons λ _ h=>h.drop
   have hw:=Zk7 (x:=x) (x':={ x with segs:=Zbh x.segs (ZP (Zc8 from')).length,g:=⟨x.g.base,x.g.l.take o⟩,brk:=false }) rfl rfl hb.symm q1 q2 hw
   have hQ':=hQ (.int .i64 0) w ⟨R,t,sg,sh,ds.take o,_,.refl,by rw [show (Zk a (Za (Zu x.segs).num) (ZP (Zc8 from'))).2=0 from hz],hd.take _,by show erE (ds.take o)=x.g.l.take o;rw [<-he];simp [erE],ra,hw⟩
   exact hQ'
def Zst (p:Nat) (w:World):Nat:=match (w.heap[p]? :Option Obj) with
 |some (Obj.cells l _ _)=>(match (l[4]? :Option Value) with
  |some (Value.slice _ n _)=>n
  |_=>0)
 |_=>0
theorem Zmz {lim base:Int} {brk:Bool} (hw:Sat R (pts p (Zp d lim base s sg sh brk)::Hs) w):Zst p w=sg.len:=by
 have h:=hw.at;unfold Zst;rw [h];rfl
theorem ZnK (before:Int) (hbb: -9223372036854775808<=before/\before<9223372036854775808) (r:Rel a b) (h:SW x a K) (hK:K<=30000) (hd:DsR R ds) (he:erE ds=x.g.l) (hw:Sat R (UX p d x s sg sh ds b Hs) w):
  Zq prog 73 #[.pointer (some ⟨p,0,none⟩),.int .i64 before] w (ZoK R Hs p d (Zdy x a before)):=by
 have hb0:=h.lb.wbk.b0;have hb1:=h.lb.wbk.b1;have hl1:=h.lb.wbk.l1;have hlx:=h.lb.last;have hsl:=(UX.slen hw).1;have hdl:ds.length=x.g.l.length:=by rw [<-he,List.length_map]
 have hlast:=ZlL he;apply Zvd
 suffices H:∀ K:Value->World->Prop,(∀ v w',ZoK R Hs p d (Zdy x a before) v w'->K v w')->B73 (some ⟨p,0,none⟩) before K w from H _ λ _ _ h=>h
 intro Q hQ;refine Zb.mk rfl ⟨x.brk,At.own (eqS hw) (by exact ⟨rfl,trivial⟩),Br.mk (λ hb=>?_) (λ hb=>?_)⟩
 ·have e:Zdy x a before=((a,8),x):=by unfold Zdy;rw [if_pos hb]
  rw [e] at hQ;exact hQ _ _ ⟨R,s,sg,sh,ds,b,.refl,rfl,hd,he,r,hw⟩
 have hnb:¬ x.brk=true:=by simp [hb]
 refine Zb.mk rfl ⟨x.g.base,s,At.own (eqS hw) (by exact ⟨rfl,rfl,trivial⟩),?_⟩;refine (Zam hb0 hb1 (by omega) hw).use ?_;clear hw;rintro _ w ⟨rfl,hw⟩;refine ⟨_,rfl,?_⟩;rw [Zg (x:=x.g.base + (s.len:Int) + 1) (by omega) (by omega)];refine Br.d (λ h2=>?_) (λ h2=>?_)
 ·have e:Zdy x a before=((a,7),x):=by unfold Zdy;rw [if_neg hnb,if_pos (by omega)]
  rw [e] at hQ;exact hQ _ _ ⟨R,s,sg,sh,ds,b,.refl,rfl,hd,he,r,hw⟩
 have ed:Zdy x a before=ZcV (a.fs.length + 1) x a before:=by unfold Zdy;rw [if_neg hnb,if_neg (by omega)]
 rw [ed] at hQ;refine ⟨λ w=>∃ (n:Nat) (R2:Cx) (x':WSt) (a' b':DS) (s sg sh:Sl) (ds:List DE4),R.Ext R2/\ZcV (a.fs.length + 1) x a before=ZcV n x' a' before/\a'.fs.length<n/\x'.brk=false/\SW x' a' K/\Rel a' b'/\DsR R2 ds/\erE ds=x'.g.l/\Sat R2 (UX p d x' s sg sh ds b' Hs) w,λ w=>Zst p w,
  ⟨a.fs.length + 1,R,x,a,b,s,sg,sh,ds,.refl,rfl,by omega,hb,h,r,hd,he,hw⟩,?_⟩
 clear hw hsl hdl hlast hb0 hb1 hl1 hlx h hd he r hb hnb h2;rintro _ w ⟨n,R2,x,a',b',s,sg,sh,ds,e2,hdr,hn,hb,h,r,hd,he,hw⟩;obtain ⟨n,rfl⟩:∃ m,n=m + 1:=⟨n - 1,by omega⟩;have hsgl:=(UX.slen hw).2;have hmu:=Zmz hw;have hs1:=h.lb.wbk.s1;have hshl:sh.len=x.segs.length:=by
  have h2:Sat R2 (Zaf sh x.segs::pts p (Zp d x.lim x.g.base s sg sh x.brk)::ZL s ds::Zb8 sg x.segs::Zy d b'::Hs) w:=hw.arr;have:=Own.len h2;simpa using this
 have stop:¬ (1<x.segs.length/\(x.segs.getD 1 ⟨0,0,0⟩).next<=before)->∀ {w:World},Sat R2 (UX p d x s sg sh ds b' Hs) w->Q (.int .i64 0) w:=λ hcon {w} hw=>by
  have e:ZcV (n + 1) x a' before=((a',0),x):=by unfold ZcV;rw [if_neg hcon]
  rw [hdr,e] at hQ;exact hQ _ _ ⟨R2,s,sg,sh,ds,b',e2,rfl,hd,he,r,hw⟩
 refine ⟨λ w=>(1<x.segs.length/\(x.segs.getD 1 ⟨0,0,0⟩).next<=before)/\Sat R2 (UX p d x s sg sh ds b' Hs) w,?_,?_⟩
 ·refine Zb.mk rfl ⟨sg,At.own (eqS hw) (by exact ⟨rfl,trivial⟩),Br.d (λ h1=>?_) (λ h1=>stop (λ hc=>by omega) hw)⟩
  have hlen:1<x.segs.length:=by omega
  refine Zb.mk rfl ⟨sh,At.own (eqS hw) (by exact ⟨rfl,trivial⟩),?_⟩;have hw2:Sat R2 (Zaf sh x.segs::pts p (Zp d x.lim x.g.base s sg sh x.brk)::ZL s ds::Zb8 sg x.segs::Zy d b'::Hs) w:=hw.arr;refine Own.ix hw2 (eqS hw2) 1 rfl (by simp;omega) ?_;have en:(x.segs.map (·.next))[1]'(by simp;omega)=(x.segs.getD 1 ⟨0,0,0⟩).next:=by
   rw [List.getElem_map,List.getD_eq_getElem?_getD,List.getElem?_eq_getElem hlen];rfl
  rw [en];exact Br.d (λ h2=>⟨⟨hlen,h2⟩,hw⟩) (λ h2=>stop (λ hc=>h2 hc.2) hw)
 clear hw stop;rintro _ w ⟨hcon,hw⟩;obtain ⟨hn1,hsw1,hsw2⟩:=Zmu h hb (by omega) hcon.1;obtain ⟨n0,hn0⟩:∃ m,m=(x.segs.getD 0 ⟨0,0,0⟩).num:=⟨_,rfl⟩;rw [<-hn0] at hn1 hsw1 hsw2;have hes:ZcV (n + 1) x a' before=if (Zi a' (Za n0)).2≠0 then (Zi a' (Za n0),{ x with brk:=true }) else ZcV n { x with g:=(Zj (Zi a' (Za n0)).1).g,segs:=(Zj (Zi a' (Za n0)).1).segs } (Zi a' (Za n0)).1 before:=by
  conv=>lhs;unfold ZcV
  rw [if_pos hcon,<-hn0]
 have hfl:=h.lb.files;have hlb:=r.len;obtain ⟨ru,eu⟩:=r.unlink (Za n0);refine Zs (Sat R2 [pts p (Zp d x.lim x.g.base s sg sh x.brk),Zb8 sg x.segs,VC.tru]) hw (λ w hw=>hw.k2) λ w hw=>Zb.mk rfl ⟨_,At.own Ze (by exact ⟨rfl,trivial⟩),Zb.mk rfl ⟨sg,At.own Ze (by exact ⟨rfl,trivial⟩),?_⟩⟩;have hw2:Sat R2 (Zb8 sg x.segs::pts p (Zp d x.lim x.g.base s sg sh x.brk)::ZL s ds::Zaf sh x.segs::Zy d b'::Hs) w:=hw.arr;refine Own.ix hw2 (Hs':=[pts p (Zp d x.lim x.g.base s sg sh x.brk),VC.tru]) (λ w h=>h.swap) 0 rfl (by simp;omega) ?_;have en:((x.segs.map (·.num)).map λ n:Nat=>(n:Int))[0]'(by simp;omega)=((n0:Nat):Int):=by
  rw [hn0];simp only [List.getElem_map];rw [List.getD_eq_getElem?_getD,List.getElem?_eq_getElem (by omega)];rfl
 rw [en];clear hw2;refine (ZaX (by omega) hw).use ?_;clear hw;rintro _ w ⟨rfl,hw⟩;refine ⟨_,rfl,hw.k2,?_⟩;have hw:Sat R2 (Zy d b'::pts p (Zp d x.lim x.g.base s sg sh x.brk)::ZL s ds::Zb8 sg x.segs::Zaf sh x.segs::Hs) w:=hw.arr;refine (ZcY r.invR (by omega) (ZaI _) hw).use ?_;clear hw;rintro _ w ⟨rfl,hw⟩;rw [<-eu];have hw:Sat R2 (UX p d x s sg sh ds (Zi b' (Za n0)).1 Hs) w:=hw.arr;refine ⟨_,rfl,hw.k2,Br.ne (λ hz=>?_) (λ hz=>?_)⟩
 ·refine (ZcH _ hw).use ?_
  clear hw;rintro _ w ⟨rfl,hw⟩;rw [if_neg hz] at hw;rw [hdr,hes,if_pos hz] at hQ;exact ⟨_,rfl,hQ _ _ ⟨R2,s,sg,sh,ds,_,e2,rfl,hd,he,ru,hw⟩⟩
 rw [if_neg (λ h=>h hz)] at hes;obtain ⟨hswn,hlen1⟩:=hsw2 hz;refine Zb.mk rfl ⟨sg,At.own (eqS hw) (by exact ⟨rfl,trivial⟩),by omega,by omega,Zb.mk rfl ?_⟩;refine Zc hw (by kernel_rfl) rfl (by simp [Value.cells,Zn]) λ w hw=>?_;have hw:=hw.re (pts p (Zp d x.lim x.g.base s (Z0 sg 1) sh x.brk));refine Zb.mk rfl ⟨sh,At.own (eqS hw) (by exact ⟨rfl,trivial⟩),by omega,by omega,Zb.mk rfl ?_⟩;refine Zc hw (by kernel_rfl) rfl (by simp [Value.cells,Zn]) λ w hw=>?_;have hw:=hw.re (pts p (Zp d x.lim x.g.base s (Z0 sg 1) (Z0 sh 1) x.brk));have hw:Sat R2 (pts p (Zp d x.lim x.g.base s (Z0 sg 1) (Z0 sh 1) x.brk)::Zy d (Zi b' (Za n0)).1::Hs) w:=hw.cons λ _ h=>h.drop.drop.drop;have hul:=ZbW a' (Za n0);have hulb:=ru.len;refine (Zhc ru.invR (ru.by_ (ZdE h.lb.by' _)) (by omega) ru.namesR hw).use ?_;clear hw;rintro _ w ⟨R3,base3,s3,ds3,sg3,sh3,bh,e3,hd3,rfl,hg3,_,_,_,_,_,hw⟩;rw [ru.load] at hg3 hw ⊢;have hw:Sat R3 (UX p d { x with g:=(Zj (Zi a' (Za n0)).1).g,segs:=(Zj (Zi a' (Za n0)).1).segs } s3 sg3 sh3 ds3 (Zi b' (Za n0)).1 Hs) w:=by
  have e:(Zj (Zi a' (Za n0)).1).g.base=base3:=by rw [<-hg3]
  unfold UX;simp only;rw [e];exact hw
 have hun:(Zi a' (Za n0)).1.fs.length + 1<=a'.fs.length:=ZgX hz;have hmu3:=Zmz hw;have hsgl3:=(UX.slen hw).2;simp only at hsgl3;refine ⟨_,_,bh,rfl,⟨n,R3,{ x with g:=(Zj (Zi a' (Za n0)).1).g,segs:=(Zj (Zi a' (Za n0)).1).segs },_,_,s3,sg3,sh3,ds3,e2.trans e3,by rw [hdr,hes],by omega,hb,hswn,ru,hd3,by show erE ds3=(Zj (Zi a' (Za n0)).1).g.l;rw [<-hg3],hw⟩,?_⟩;dsimp only;rw [hmu,hmu3,hsgl,hsgl3];omega
end
section
open Go Go.VC Tryz
variable {R R':Cx} {Hs Rest:List HP} {w:World} {p d K:Nat} {x:WSt} {s sg sh:Sl} {ds:List DE4} {a b:DS}
theorem ZrF {st:DS} (h:st.off=true):chg st true=(st,5):=by unfold chg;simp [h]
theorem ZiO {st:DS} {g:DS->DS × Int} (h:st.off=true):doing st true g=(st,5):=by
 unfold doing;rw [ZrF h];rfl
theorem ZrO {e:Ey} (h:a.off=true):Zbx x a e=((a,5),x):=by
 have hn:∀ n,Zm (Za n)=true:=Z5;have hs:∀ n,ZA a (Za n)=(a,5):=λ n=>by unfold ZA;rw [hn];exact ZiO h
 have ha:∀ n bs,Zk a (Za n) bs=(a,5):=λ n bs=>by unfold Zk;rw [hn];exact ZiO h
 by_cases hl:x.lim<=(Zu x.segs).size
 ·have h1:ZU x a=(a,5):=by unfold ZU;rw [if_pos hl,hs,Zx (by simp)]
  unfold Zbx;rw [h1,if_pos (by simp)]
 ·have h1:ZU x a=(a,0):=by unfold ZU;rw [if_neg hl]
  have h2:Zbb x 0=x.segs:=by unfold Zbb;rw [if_neg (λ h=>hl h.1)]
  unfold Zbx;rw [h1,if_neg (by simp),h2];unfold Zbq;rw [ha,if_neg (by simp)]
set_option maxHeartbeats 1000000 in
theorem Zo6 {av:List Sc} {c:Sc} {k:Nat} {e:DE4} (r:Rel a b) (h:LB x a K) (f:Zav x a Any av c k) (hc:c.num<=K) (hK:K<=40000) (hd:DsR R ds) (he:erE ds=x.g.l) (hok:e.2.Ok) (hes:SlR R.m e.1 (b8 e.2.dt)) (hby:∀ y∈e.2.dt,0<=y/\y<256) (hix:e.2.ix=x.g.last + 1)
  (hw:Sat R (UX p d x s sg sh ds b Hs) w):
  Zq prog 115 #[.pointer (some ⟨p,0,none⟩),ZsM e] w (ZoK R Hs p d (Zbx x a e.2)):=by
 have hb0:=h.wbk.b0;have hb1:=h.wbk.b1;have hl1:=h.wbk.l1;have hlx:=h.last;have h0:=h.wbk.s0;have h1:=h.wbk.s1;have hf:=h.files;have hlb:=r.len;have hix1:=hok.i1;have hdl1:=hok.d1;have hlast0:0<=x.g.last:=by unfold Lg.last;omega
 have hll:x.g.last=x.g.base + x.g.l.length:=rfl;have hdl:ds.length=x.g.l.length:=by rw [<-he,List.length_map]
 have hsl:=(UX.slen hw).1;have htl:=f.tail;have htn:(Zu x.segs).num=c.num:=by rw [htl];rfl
 have hts:(Zu x.segs).size=c.bytes.length:=by rw [htl];rfl
 obtain ⟨r1,_,_⟩:=f.roll (by omega) hlast0 hlx;apply ZtW
 suffices H:∀ K:Value->World->Prop,(∀ v w',ZoK R Hs p d (Zbx x a e.2) v w'->K v w')->B115 (some ⟨p,0,none⟩) e.2.ix e.2.tm e.2.kd e.1 K w from H _ λ _ _ h=>h
 intro Q hQ;refine Zd hw λ bx w hw=>?_;have hw:Sat R (UX p d x s sg sh ds b (pts bx (.cells (ZaU e).toArray 55 (0,0))::Hs)) w:=hw.arr;obtain ⟨x1,hx1⟩:∃ y:WSt,y={ x with segs:=Zbb x 0 }:=⟨_,rfl⟩;refine Zs (Sat R [pts p (Zp d x.lim x.g.base s sg sh x.brk),VC.tru]) hw (λ w hw=>hw.k1) λ w hw=>Zb.mk rfl ⟨_,At.own Ze (by exact ⟨rfl,trivial⟩),?_⟩;refine (ZaN (x:=x) (p:=p) (d:=d) (s:=s) (sg:=sg) (sh:=sh) h0 (h.tailn (by omega)) (by omega) hw).use ?_;clear hw;rintro _ w ⟨rfl,hw⟩;refine ⟨_,rfl,hw.k1,?_⟩;have hw:Sat R (Zy d b::pts p (Zp d x.lim x.g.base s sg sh x.brk)::ZL s ds::Zb8 sg x.segs::Zaf sh x.segs::pts bx (.cells (ZaU e).toArray 55 (0,0))::Hs) w:=hw.arr;refine (ZeJ r.invR (by omega) (ZaI _) hw).use ?_;clear hw;rintro _ w ⟨t,rfl,hw⟩;rw [<-r.read] at hw ⊢;refine ⟨t,_,rfl,?_⟩;cases hoff:a.off with
 |true=>
  have e5:(ZC a (Za (Zu x.segs).num)).2=5:=by unfold ZC;rw [hoff];rfl
  rw [e5];refine Br.ne (λ _=>?_) (λ h=>by cases h);have ea:=ZrO (x:=x) (e:=e.2) hoff;refine hQ _ _ ⟨R,s,sg,sh,ds,b,.refl,by rw [ea],hd,by rw [ea];exact he,by rw [ea];exact r,?_⟩;rw [ea];have hw:Sat R (UX p d x s sg sh ds b (pts bx (.cells (ZaU e).toArray 55 (0,0))::Hs)) w:=hw.drop.arr;exact Sat.arr (Sat.drop (show Sat R (pts bx (.cells (ZaU e).toArray 55 (0,0))::UX p d x s sg sh ds b Hs) w from hw.arr))
 |false=>
 have erd:ZC a (Za (Zu x.segs).num)=(c.bytes,0):=by rw [htn];exact Zcd hoff (Z5 _) f.o.last
 rw [erd] at hw ⊢;refine Br.ne (λ h=>absurd rfl h) (λ _=>?_);have htlen:t.len=c.bytes.length:=by have:=Own.len hw;simpa using this
 have hw:Sat R (UX p d x s sg sh ds b (pts bx (.cells (ZaU e).toArray 55 (0,0))::Hs)) w:=hw.drop.arr;refine ⟨λ w=>(ZU x a).2=0/\∃ (b':DS) (sg' sh':Sl),Rel (ZU x a).1 b'/\Sat R (UX p d x1 s sg' sh' ds b' (pts bx (.cells (ZaU e).toArray 55 (0,0))::Hs)) w,?_,?_⟩
 ·refine Zb.mk rfl ⟨x.lim,At.own (eqS hw) (by exact ⟨rfl,trivial⟩),Br.d (λ hl=>?_) (λ hl=>?_)⟩
  ·have hlim:x.lim<=(Zu x.segs).size:=by rw [hts,<-htlen];exact hl
   have er:ZU x a=Z3 (ZA a (Za (Zu x.segs).num)) λ st=>Zae st ((Zu x.segs).num + 1) (x.g.last + 1):=by unfold ZU;rw [if_pos hlim]
   have bad:∀ {q:DS × Int} {b':DS} {w:World},ZU x a=q->¬ q.2=0->Rel q.1 b'->Sat R (UX p d x s sg sh ds b' (pts bx (.cells (ZaU e).toArray 55 (0,0))::Hs)) w->Q (.int .i64 q.2) w:=λ {q b' w} hq hz hr hw=>by
    have ea:Zbx x a e.2=(q,x):=by unfold Zbx;rw [hq,if_pos hz]
    refine hQ _ _ ⟨R,s,sg,sh,ds,b',.refl,by rw [ea],hd,by rw [ea];exact he,by rw [ea];exact hr,?_⟩;rw [ea];exact Sat.arr (Sat.drop (show Sat R (pts bx (.cells (ZaU e).toArray 55 (0,0))::UX p d x s sg sh ds b' Hs) w from hw.arr))
   obtain ⟨rs,es⟩:=r.sync (Za (Zu x.segs).num);refine Zs (Sat R [pts p (Zp d x.lim x.g.base s sg sh x.brk),VC.tru]) hw (λ w hw=>hw.k1) λ w hw=>Zb.mk rfl ⟨_,At.own Ze (by exact ⟨rfl,trivial⟩),?_⟩;refine (ZaN (x:=x) (p:=p) (d:=d) (s:=s) (sg:=sg) (sh:=sh) h0 (h.tailn (by omega)) (by omega) hw).use ?_;clear hw;rintro _ w ⟨rfl,hw⟩;refine ⟨_,rfl,hw.k1,?_⟩;have hw:Sat R (Zy d b::pts p (Zp d x.lim x.g.base s sg sh x.brk)::ZL s ds::Zb8 sg x.segs::Zaf sh x.segs::pts bx (.cells (ZaU e).toArray 55 (0,0))::Hs) w:=hw.arr;refine (Zdm r.invR (by omega) (ZaI _) hw).use ?_;clear hw;rintro _ w ⟨rfl,hw⟩;rw [<-es];have hw:Sat R (UX p d x s sg sh ds (ZA b (Za (Zu x.segs).num)).1 (pts bx (.cells (ZaU e).toArray 55 (0,0))::Hs)) w:=hw.arr;refine ⟨_,rfl,Br.ne (λ hz=>bad (er.trans (Zx hz)) hz rs hw) (λ hz=>?_)⟩;have er2:=er.trans (ZB hz);have hsgl:=(UX.slen hw).2;refine Zs (Sat R [pts p (Zp d x.lim x.g.base s sg sh x.brk),Zb8 sg x.segs,VC.tru]) hw (λ w hw=>hw.k2) λ w hw=>Zb.mk rfl ⟨sg,At.own Ze (by exact ⟨rfl,trivial⟩),Zb.mk rfl ⟨sg,At.own Ze (by exact ⟨rfl,trivial⟩),?_⟩⟩;have ix:IntKind.i64.wrap ((sg.len:Int) - 1)=((x.segs.length - 1:Nat):Int):=by rw [Zg (by omega) (by omega)];omega
   rw [ix];have hw2:Sat R (Zb8 sg x.segs::pts p (Zp d x.lim x.g.base s sg sh x.brk)::ZL s ds::Zaf sh x.segs::Zy d (ZA b (Za (Zu x.segs).num)).1::pts bx (.cells (ZaU e).toArray 55 (0,0))::Hs) w:=hw.arr;refine Own.ix hw2 (Hs':=[pts p (Zp d x.lim x.g.base s sg sh x.brk),VC.tru]) (λ w h=>h.swap) (x.segs.length - 1) rfl (by simp;omega) ?_;rw [Zmo h0];clear hw2;refine Zb.mk rfl ⟨x.g.base,s,At.own (eqS hw) (by exact ⟨rfl,rfl,trivial⟩),?_⟩;refine (Zam hb0 hb1 (by omega) hw).use ?_;clear hw;rintro _ w ⟨rfl,hw⟩;refine ⟨_,rfl,hw.k2,?_⟩;rw [Zg (x:=((Zu x.segs).num:Int) + 1) (by omega) (by omega),Zg (x:=x.g.base + (s.len:Int) + 1) (by omega) (by omega),show ((Zu x.segs).num:Int) + 1=(((Zu x.segs).num + 1:Nat):Int) by omega,show x.g.base + (s.len:Int) + 1=x.g.last + 1 by omega];have hsy:=Zcu a (Za (Zu x.segs).num);refine (Zin rs (by omega) (by omega) (by omega) (by omega) (by omega) hw).use ?_;clear hw;rintro _ w ⟨_,b2,sg2,sh2,rfl,rfl,rm,hw⟩;refine ⟨_,rfl,Br.ne (λ hz2=>?_) (λ hz2=>⟨by rw [er2];exact hz2,b2,sg2,sh2,by rw [er2];exact rm,?_⟩)⟩
   ·have eb:ZcU x.segs ((Zu x.segs).num + 1) (x.g.last + 1) (Zae (ZA a (Za (Zu x.segs).num)).1 ((Zu x.segs).num + 1) (x.g.last + 1)).2=x.segs:=if_neg hz2
    rw [eb] at hw;have ea:Zbx x a e.2=(Zae (ZA a (Za (Zu x.segs).num)).1 ((Zu x.segs).num + 1) (x.g.last + 1),x):=by unfold Zbx;rw [er2,if_pos hz2]
    refine hQ _ _ ⟨R,s,sg2,sh2,ds,b2,.refl,by rw [ea],hd,by rw [ea];exact he,by rw [ea];exact rm,?_⟩;rw [ea];exact Sat.arr (Sat.drop (show Sat R (pts bx (.cells (ZaU e).toArray 55 (0,0))::UX p d x s sg2 sh2 ds b2 Hs) w from hw.arr))
   ·have eb:ZcU x.segs ((Zu x.segs).num + 1) (x.g.last + 1) (Zae (ZA a (Za (Zu x.segs).num)).1 ((Zu x.segs).num + 1) (x.g.last + 1)).2=Zbb x 0:=by
     unfold ZcU Zbb;rw [if_pos hz2,if_pos ⟨hlim,rfl⟩]
    rw [eb] at hw;rw [hx1];exact hw
  ·have hlim:¬ x.lim<=(Zu x.segs).size:=by rw [hts,<-htlen];exact hl
   have er:ZU x a=(a,0):=by unfold ZU;rw [if_neg hlim]
   have es:x1=x:=by rw [hx1];unfold Zbb;rw [if_neg (λ h=>hlim h.1)]
   exact ⟨by rw [er],b,sg,sh,by rw [er];exact r,by rw [es];exact hw⟩
 clear hw;rintro _ w ⟨hz,b2,sg2,sh2,rr,hw⟩;obtain ⟨av',c',k',f',hc'⟩:=r1 hz;rw [<-hx1] at f';have hx1b:x1.g=x.g/\x1.lim=x.lim/\x1.brk=x.brk:=by rw [hx1];exact ⟨rfl,rfl,rfl⟩
 have htn':(Zu x1.segs).num=c'.num:=by rw [f'.tail];rfl
 have h0':0<x1.segs.length:=by rw [f'.sg];simp
 have h1':x1.segs.length<=x.segs.length + 1:=by
  rw [hx1];unfold Zbb;simp only;split<;>simp
 have hrl:(ZU x a).1.fs.length<=a.fs.length + 1:=by
  unfold ZU;split
  ·have h2:=Zcu a (Za (Zu x.segs).num)
   by_cases hq:(ZA a (Za (Zu x.segs).num)).2=0
   ·rw [ZB hq];have:=Zju (ZA a (Za (Zu x.segs).num)).1 ((Zu x.segs).num + 1) (x.g.last + 1);omega
   ·rw [Zx hq];omega
  ·simp
 have hrlb:=rr.len;have hob:=ZfJ hok;have hrbl:(ZP (Zc6 e.2)).length<=100000:=by rw [ZK];omega
 obtain ⟨ra,ea⟩:=rr.append (Za (Zu x1.segs).num) (ZP (Zc6 e.2));have eadd:Zbx x a e.2=Zbq x1 (ZU x a).1 (ZP (Zc6 e.2)) ⟨x.g.base,x.g.l++[e.2]⟩:=by unfold Zbx;rw [if_neg (λ h=>h hz),hx1]
 rw [eadd] at hQ;refine Zs (Sat R [pts p (Zp d x1.lim x1.g.base s sg2 sh2 x1.brk),pts bx (.cells (ZaU e).toArray 55 (0,0)),VC.tru]) hw (λ w hw=>hw.k2) λ w hw=>Zb.mk rfl ⟨_,At.own Ze (by exact ⟨rfl,trivial⟩),_,At.own Ze (by exact ⟨rfl,trivial⟩),_,At.own Ze (by exact ⟨rfl,trivial⟩),_,At.own Ze (by exact ⟨rfl,trivial⟩),e.1,At.own Ze (by exact ⟨rfl,trivial⟩),?_⟩;refine ⟨?_,?_⟩
 focus
  refine (ZaN (x:=x1) (p:=p) (d:=d) (s:=s) (sg:=sg2) (sh:=sh2) h0' (by omega) (by omega) hw).use ?_;clear hw;rintro _ w ⟨rfl,hw⟩;refine ⟨_,rfl,hw.k2,Zd hw λ b3 w hw=>⟨hw.k2,?_⟩⟩;obtain ⟨hc3,hw⟩:=Sat.lend.1 hw;refine (Zby (t:=some e.2.dt) (sd:=e.1) (xs:=[1,e.2.ix,e.2.tm,e.2.kd]) (sl:=⟨some ⟨b3,0,none⟩,4,4⟩) (λ x hx=>by have:=hok.i0;have:=hok.t0;have:=hok.t1;have:=hok.k0;have:=hok.k1;simp at hx;omega) (by simp) (λ d h=>by cases h;exact ⟨SlR.ro (SlR.add hes) (by rw [List.length_map];omega),hdl1,hby⟩) (Zdo (by simp) rfl hc3) hw).use ?_;clear hw;rintro _ w ⟨te,rfl,hw⟩;have hw:=(Sat.lend.2 ⟨hc3,hw⟩).drop;refine ⟨te,rfl,hw.k2,?_⟩
 rotate_left 1
 focus
  refine Zd hw λ b3 w hw=>⟨hw.k2,?_⟩;refine (ZaN (x:=x1) (p:=p) (d:=d) (s:=s) (sg:=sg2) (sh:=sh2) h0' (by omega) (by omega) hw).use ?_;clear hw;rintro _ w ⟨rfl,hw⟩;refine ⟨_,rfl,hw.k2,?_⟩;obtain ⟨hc3,hw⟩:=Sat.lend.1 hw;refine (Zby (t:=some e.2.dt) (sd:=e.1) (xs:=[1,e.2.ix,e.2.tm,e.2.kd]) (sl:=⟨some ⟨b3,0,none⟩,4,4⟩) (λ x hx=>by have:=hok.i0;have:=hok.t0;have:=hok.t1;have:=hok.k0;have:=hok.k1;simp at hx;omega) (by simp) (λ d h=>by cases h;exact ⟨SlR.ro (SlR.add hes) (by rw [List.length_map];omega),hdl1,hby⟩) (Zdo (by simp) rfl hc3) hw).use ?_;clear hw;rintro _ w ⟨te,rfl,hw⟩;have hw:=(Sat.lend.2 ⟨hc3,hw⟩).drop;refine ⟨te,rfl,hw.k2,?_⟩
 all_goals
  rw [ZmY] at hw;obtain ⟨R1,hr1,_,hw,back⟩:=Own.lend hw (by rw [List.length_map];omega);have hw:Sat R1 (Zy d b2::pts p (Zp d x1.lim x1.g.base s sg2 sh2 x1.brk)::ZL s ds::Zb8 sg2 x1.segs::Zaf sh2 x1.segs::pts bx (.cells (ZaU e).toArray 55 (0,0))::Hs) w:=hw.arr;refine (ZbD rr.invR (by omega) (ZaI _) hr1 (by omega) hw).use ?_;clear hw;rintro _ w ⟨rfl,hw⟩;have hw:=(back hw).drop;rw [<-ea];have hw:Sat R (UX p d x1 s sg2 sh2 ds (ZW b2 (Za (Zu x1.segs).num) (ZP (Zc6 e.2))).1 (pts bx (.cells (ZaU e).toArray 55 (0,0))::Hs)) w:=hw.arr;refine ⟨_,rfl,Br.ne (λ hz3=>?_) (λ hz3=>?_)⟩
  ·have ep:Zbq x1 (ZU x a).1 (ZP (Zc6 e.2)) ⟨x.g.base,x.g.l++[e.2]⟩=(Zk (ZU x a).1 (Za (Zu x1.segs).num) (ZP (Zc6 e.2)),x1):=by unfold Zbq;rw [if_neg hz3]
   rw [ep] at hQ;exact hQ _ _ ⟨R,s,sg2,sh2,ds,_,.refl,rfl,hd,by rw [hx1b.1];exact he,ra,Sat.arr (Sat.drop (show Sat R (pts bx (.cells (ZaU e).toArray 55 (0,0))::UX p d x1 s sg2 sh2 ds (ZW b2 (Za (Zu x1.segs).num) (ZP (Zc6 e.2))).1 Hs) w from hw.arr))⟩
  ·have ep:Zbq x1 (ZU x a).1 (ZP (Zc6 e.2)) ⟨x.g.base,x.g.l++[e.2]⟩=(Zk (ZU x a).1 (Za (Zu x1.segs).num) (ZP (Zc6 e.2)),{ x1 with segs:=Zbh x1.segs (ZP (Zc6 e.2)).length,g:=⟨x.g.base,x.g.l++[e.2]⟩ }):=by unfold Zbq;rw [if_pos hz3]
   rw [ep] at hQ;refine Zd hw λ b4 w hw=>⟨e.1,At.own (eqS hw) (by exact ⟨rfl,trivial⟩),?_⟩;have hsr:=Zi9 underlying53 hw (SlR.ro hes (by rw [List.length_map];omega)) (Zep e.2.dt);refine ZeB Zh1 hw hsr (by rw [List.length_map];omega) (by rw [List.length_map];omega) λ t5 w hw=>?_;obtain ⟨R5,e5,ht5,hw⟩:=Own.leak hw;have hw:Sat R5 (pts bx (.cells (ZaU e).toArray 55 (0,0))::UX p d x1 s sg2 sh2 ds (ZW b2 (Za (Zu x1.segs).num) (ZP (Zc6 e.2))).1 Hs) w:=hw.arr;refine Zc hw (by kernel_rfl) rfl (by simp [Value.cells,Zn]) λ w hw=>?_;have hw:=hw.re (pts bx (.cells (ZaU (t5,e.2)).toArray 55 (0,0)));have hw:Sat R5 (UX p d x1 s sg2 sh2 ds (ZW b2 (Za (Zu x1.segs).num) (ZP (Zc6 e.2))).1 (pts bx (.cells (ZaU (t5,e.2)).toArray 55 (0,0))::Hs)) w:=hw.arr;refine Zs (Sat R5 [pts p (Zp d x1.lim x1.g.base s sg2 sh2 x1.brk),VC.tru]) hw (λ w hw=>hw.k1) λ w hw=>Zb.mk rfl ⟨s,At.own Ze (by exact ⟨rfl,trivial⟩),e.2.ix,e.2.tm,e.2.kd,t5,At.own (eqS hw) (by exact ⟨rfl,rfl,rfl,rfl,trivial⟩),Zd hw λ b5 w hw=>⟨hw.k1,?_⟩⟩;have hw:Sat R5 (pts bx (.cells (ZaU (t5,e.2)).toArray 55 (0,0))::pts b5 (.cells (ZaU (t5,e.2)).toArray 55 (0,0))::UX p d x1 s sg2 sh2 ds (ZW b2 (Za (Zu x1.segs).num) (ZP (Zc6 e.2))).1 Hs) w:=Sat.arr (show Sat R5 (pts b5 (.cells (ZaU (t5,e.2)).toArray 55 (0,0))::UX p d x1 s sg2 sh2 ds (ZW b2 (Za (Zu x1.segs).num) (ZP (Zc6 e.2))).1 (pts bx (.cells (ZaU (t5,e.2)).toArray 55 (0,0))::Hs)) w from hw)
   have hw:=hw.drop;have hw:Sat R5 (ZL s ds::pts b5 (.cells (ZaU (t5,e.2)).toArray 55 (0,0))::pts p (Zp d x1.lim x1.g.base s sg2 sh2 x1.brk)::Zb8 sg2 x1.segs::Zaf sh2 x1.segs::Zy d (ZW b2 (Za (Zu x1.segs).num) (ZP (Zc6 e.2))).1::Hs) w:=hw.arr;refine Zc2 elE (s:=s) (rows:=ds.map ZaU) (x:=ZaU (t5,e.2)) hw rfl rfl (by rw [List.length_map];omega) (by rw [List.length_map];omega) λ s2 w hw=>?_;have hw:Sat R5 (pts p (Zp d x1.lim x1.g.base s sg2 sh2 x1.brk)::ZL s2 (ds++[(t5,e.2)])::Zb8 sg2 x1.segs::Zaf sh2 x1.segs::Zy d (ZW b2 (Za (Zu x1.segs).num) (ZP (Zc6 e.2))).1::Hs) w:=by
    unfold ZL;rw [List.map_append];simp only [List.map_cons,List.map_nil];exact hw.arr
   refine Zb.mk rfl ?_;refine Zc hw (by kernel_rfl) rfl (by simp [Value.cells,Zn]) λ w hw=>?_;have hw:=hw.re (pts p (Zp d x1.lim x1.g.base s2 sg2 sh2 x1.brk));have hw:Sat R5 (UX p d x1 s2 sg2 sh2 (ds++[(t5,e.2)]) (ZW b2 (Za (Zu x1.segs).num) (ZP (Zc6 e.2))).1 Hs) w:=hw;obtain ⟨q1,q2⟩:=Zhy x1.segs (ZP (Zc6 e.2)).length;have hw:=Zk7 (x:=x1) (x':={ x1 with segs:=Zbh x1.segs (ZP (Zc6 e.2)).length,g:=⟨x.g.base,x.g.l++[e.2]⟩ }) rfl (show x.g.base=x1.g.base by rw [hx1b.1]) rfl q1 q2 hw;exact hQ (.int .i64 0) w ⟨R5,s2,sg2,sh2,ds++[(t5,e.2)],_,e5,by rw [show (Zk (ZU x a).1 (Za (Zu x1.segs).num) (ZP (Zc6 e.2))).2=0 from hz3],(hd.ext e5).app (.one ht5),by simp only [erE,List.map_append,List.map_cons,List.map_nil];rw [show ds.map (·.2)=x.g.l from he],ra,hw⟩
theorem Zkl {sl:Sl} {dl:List DE4} (r:Rel a b) (h:SW x a K) (hK:K + 2 * dl.length<=40000) (hd:DsR R ds) (he:erE ds=x.g.l) (hr:RoN 4 R sl (dl.map ZaU)) (hdl:DsR R dl) (hby:∀ e∈erE dl,∀ y∈e.dt,0<=y/\y<256)
  (hw:Sat R (UX p d x s sg sh ds b Hs) w):
  Zq prog 69 #[.pointer (some ⟨p,0,none⟩),.slice sl.a sl.len sl.cap] w (ZoK R Hs p d (ZaD x a (erE dl))):=by
 have hb0:=h.lb.wbk.b0;have hb1:=h.lb.wbk.b1;have hl1:=h.lb.wbk.l1;have hlx:=h.lb.last;have hll:x.g.last=x.g.base + x.g.l.length:=rfl;have hsl:sl.len=dl.length:=by have:=hr.len;simpa using this
 have hss:=(UX.slen hw).1;have hdl0:ds.length=x.g.l.length:=by rw [<-he,List.length_map]
 have hel:(erE dl).length=dl.length:=by simp
 apply Zvh
 suffices H:∀ K:Value->World->Prop,(∀ v w',ZoK R Hs p d (ZaD x a (erE dl)) v w'->K v w')->B69 (some ⟨p,0,none⟩) sl K w from H _ λ _ _ h=>h
 intro Q hQ;have out:∀ {n:Int} {w:World},ZaD x a (erE dl)=((a,n),x)->Sat R (UX p d x s sg sh ds b Hs) w->Q (.int .i64 n) w:=λ {n w} e hw=>by
  rw [e] at hQ;exact hQ _ _ ⟨R,s,sg,sh,ds,b,.refl,rfl,hd,he,r,hw⟩
 refine Zb.mk rfl ⟨x.brk,At.own (eqS hw) (by exact ⟨rfl,trivial⟩),Br.mk (λ hb=>out (by unfold ZaD;rw [if_pos hb]) hw) (λ hb=>?_)⟩;have hnb:¬ x.brk=true:=by simp [hb]
 have rr:∀ {R2:Cx} {S:World->Prop} {Hs':List HP},R.Ext R2->(∀ w,S w->Sat R2 Hs' w)->ReadsN 4 sl (dl.map ZaU) S:=λ e hS=>(e.roN hr).reads hS
 -- each is right
 refine ⟨λ i w=>∃ j:Nat,i=j/\j<=dl.length/\(∀ (m:Nat) (h:m<(erE dl).length),m<j->(erE dl)[m].Ok)/\Sat R (UX p d x s sg sh ds b Hs) w,λ i _=>dl.length - i.toNat,⟨0,rfl,by omega,λ m _ h=>by omega,hw⟩,?_⟩;clear hw;rintro _ _ w ⟨j,rfl,hj,hpre,hw⟩;refine Br.d (λ hc=>?_) (λ hc=>?_)
 ·have hjl:j<dl.length:=by omega
  have hej:=(hdl _ (List.getElem_mem hjl));refine (rr .refl (eqS hw)).rngM hjl λ _ _ el=>⟨dl[j].2.ix,dl[j].2.tm,dl[j].2.kd,dl[j].1,el.z (by exact ⟨rfl,rfl,rfl,rfl,trivial⟩),?_⟩;refine (Zj8 (e:=dl[j]) (by have:=hej.len;simpa using this) hw).use ?_;clear hw;rintro _ w ⟨rfl,hw⟩;refine ⟨_,rfl,Br.nb (λ h1=>?_) (λ h1=>?_)⟩
  ·have h1:=of_decide_eq_false h1
   exact out (by unfold ZaD;rw [if_neg hnb,if_pos (λ h2=>h1 (h2 _ (List.mem_map_of_mem (List.getElem_mem hjl))))]) hw
  ·have h1:=of_decide_eq_true h1
   refine ⟨⟨j + 1,by rw [Zg (by omega) (by omega)];omega,by omega,λ m hm hmj=>?_,hw⟩,by dsimp only;rw [Zg (by omega) (by omega)];omega⟩;by_cases hmj2:m<j
   ·exact hpre m hm hmj2
   ·have:m=j:=by omega
    subst this;simpa using h1
 have hok:∀ e∈erE dl,e.Ok:=λ e he=>by
  obtain ⟨m,hm,rfl⟩:=List.mem_iff_getElem.1 he;exact hpre m hm (by omega)
 clear hpre hc hj
 -- each follows
 refine ⟨λ i w=>∃ j:Nat,i=j/\j<=dl.length/\(∀ (m:Nat) (h:m<(erE dl).length),m<j->(erE dl)[m].ix=x.g.last + 1 + m)/\Sat R (UX p d x s sg sh ds b Hs) w,λ i _=>dl.length - i.toNat,⟨0,rfl,by omega,λ m _ h=>by omega,hw⟩,?_⟩;clear hw;rintro _ _ w ⟨j,rfl,hj,hpre,hw⟩;refine Br.d (λ hc=>?_) (λ hc=>?_)
 ·have hjl:j<dl.length:=by omega
  refine Zv hw λ w hw=>?_;refine (rr .refl Ze).rngM hjl λ _ _ el=>⟨dl[j].2.ix,el.zz (by exact ⟨rfl,trivial⟩),Zb.mk rfl ⟨x.g.base,s,At.own Ze (by exact ⟨rfl,rfl,trivial⟩),?_⟩⟩;refine (Zam hb0 hb1 (by omega) hw).use ?_;clear hw;rintro _ w ⟨rfl,hw⟩;refine ⟨_,rfl,hw,?_⟩;rw [Zg (x:=x.g.base + (s.len:Int) + 1) (by omega) (by omega),Zg (x:=x.g.base + (s.len:Int) + 1 + (j:Int)) (by omega) (by omega)];have hj2:j<(erE dl).length:=by omega
  have hej:(erE dl)[j].ix=dl[j].2.ix:=by simp
  refine Br.ne (λ h4=>out ?_ hw) (λ h4=>⟨⟨j + 1,by rw [Zg (by omega) (by omega)];omega,by omega,λ m hm hmj=>?_,hw⟩,by dsimp only;rw [Zg (by omega) (by omega)];omega⟩)
  ·unfold ZaD
   rw [if_neg hnb,if_neg (λ h=>h hok),if_pos];intro hf;have:=hf j hj2;exact h4 (by omega)
  ·by_cases hmj2:m<j
   ·exact hpre m hm hmj2
   ·have:m=j:=by omega
    subst this;omega
 have hf:ZhX (x.g.last + 1) (erE dl):=λ m hm=>hpre m hm (by omega);clear hpre hc hj;have ec:ZaD x a (erE dl)=ZbS (ZdG x a (erE dl)):=by unfold ZaD;rw [if_neg hnb,if_neg (λ h=>h hok),if_neg (λ h=>h hf)]
 rw [ec] at hQ;clear out;have hes:ZoL (x.g.last + 1) (erE dl):=⟨λ e he=>⟨hok e he,hby e he⟩,hf⟩;obtain ⟨av,c,k,f,hck⟩:∃ av c k,Zav x a Any av c k/\c.num<=K:=by
  rcases h.fw with ht|⟨_,h2⟩
  ·exact absurd ht hnb
  ·exact h2
 -- one by one
 refine ⟨λ i w=>∃ (j:Nat) (R2:Cx) (x':WSt) (a' b':DS) (s sg sh:Sl) (ds:List DE4),i=j/\j<=dl.length/\R.Ext R2/\ZdG x a (erE dl)=ZdG x' a' ((erE dl).drop j)/\SR ((a',0),x') (K + 2 * j)/\x'.brk=false/\x'.g.last=x.g.last + j/\Rel a' b'/\DsR R2 ds/\erE ds=x'.g.l/\Sat R2 (UX p d x' s sg sh ds b' Hs) w,λ i _=>dl.length - i.toNat,
  ⟨0,R,x,a,b,s,sg,sh,ds,rfl,by omega,.refl,rfl,⟨h.lb,h.ey,h.nm,λ _=>⟨av,c,k,f,hck⟩⟩,hb,by omega,r,hd,he,hw⟩,?_⟩
 clear hw hss hdl0 hb0 hb1 hl1 hlx hll f hd he r h;rintro _ _ w ⟨j,R2,x',a',b',s,sg,sh,ds,rfl,hj,e2,had,sr,hb',hlast,r,hd,he,hw⟩;refine Br.d (λ hc=>?_) (λ hc=>?_)
 ·have hjl:j<dl.length:=by omega
  have hj2:j<(erE dl).length:=by omega
  have hej:(erE dl)[j]=dl[j].2:=by simp
  obtain ⟨av,c,k,f,hck⟩:=sr.fw rfl;have hix:dl[j].2.ix=x'.g.last + 1:=by have:=hf j hj2;rw [hej] at this;omega
  have hokj:=hok _ (List.getElem_mem hj2);have hbyj:=hby _ (List.getElem_mem hj2);rw [hej] at hokj hbyj;have s1:=ZrT sr.lb sr.ey sr.nm f hck (by omega) hokj hbyj hix;have had2:ZdG x a (erE dl)=if (Zbx x' a' dl[j].2).1.2≠0 then Zbx x' a' dl[j].2 else ZdG (Zbx x' a' dl[j].2).2 (Zbx x' a' dl[j].2).1.1 ((erE dl).drop (j + 1)):=by rw [had,Zi0 hj2,hej]
  refine (rr e2 (eqS hw)).rngM hjl λ _ _ el=>⟨dl[j].2.ix,dl[j].2.tm,dl[j].2.kd,dl[j].1,el.z (by exact ⟨rfl,rfl,rfl,rfl,trivial⟩),?_⟩;refine (Zo6 (e:=dl[j]) r sr.lb f hck (by omega) hd he hokj (e2.slR (hdl _ (List.getElem_mem hjl))) hbyj hix hw).use ?_;clear hw;rintro _ w ⟨R3,s3,sg3,sh3,ds3,b3,e3,rfl,hd3,he3,r3,hw⟩;refine ⟨_,rfl,Br.ne (λ hz=>?_) (λ hz=>?_)⟩
  ·refine (ZcH _ hw).use ?_
   clear hw;rintro _ w ⟨rfl,hw⟩;rw [if_neg hz] at hw;refine ⟨_,rfl,?_⟩;rw [if_pos hz] at had2;rw [had2] at hQ;have eb:({ (Zbx x' a' dl[j].2).2 with brk:=true }:WSt)=(ZbS (Zbx x' a' dl[j].2)).2:=by unfold ZbS;simp [hz]
   rw [eb] at hw;exact hQ _ _ ⟨R3,s3,sg3,sh3,ds3,b3,e2.trans e3,rfl,hd3,he3,r3,hw⟩
  ·rw [if_neg (λ h=>h hz)] at had2
   have hg:=Zme hz;exact ⟨⟨j + 1,R3,_,_,b3,s3,sg3,sh3,ds3,by rw [Zg (by omega) (by omega)];omega,by omega,e2.trans e3,had2,⟨s1.lb.mono (by omega),s1.ey,s1.nm.mono (by omega),λ _=>by
    obtain ⟨av',c',k',f',hc'⟩:=s1.fw hz;exact ⟨av',c',k',f',by omega⟩⟩,by rw [ZjL.1];exact hb',by rw [hg];unfold Lg.last at hlast ⊢;simp only [List.length_append,List.length_cons,List.length_nil];omega,r3,hd3,he3,hw⟩,by dsimp only;rw [Zg (by omega) (by omega)];omega⟩
 ·have hjd:(erE dl).drop j=[]:=List.drop_eq_nil_of_le (by omega)
  rw [had,hjd] at hQ;have eb:(ZbS (ZdG x' a' [])).2=x':=by
   show ({ x' with brk:=(0:Int) !=0 }:WSt)=x';have:((0:Int) !=0)=x'.brk:=by rw [hb'];rfl
   rw [this]
  exact hQ _ _ ⟨R2,s,sg,sh,ds,b',e2,rfl,hd,by rw [eb];exact he,r,by rw [eb];exact hw⟩
end
section
open Go Go.VC Tryz
variable {R R':Cx} {Hs Rest:List HP} {w:World} {d q K:Nat} {a b:DS}
structure DW (a:DS) (K:Nat):Prop where
 by':Zb9 a.fs
 nm:Zed a K
 files:a.fs.length<=1 + K
theorem DW.mono {J:Nat} (h:DW a K) (hk:K<=J):DW a J:=⟨h.by',h.nm.mono hk,by have:=h.files;omega⟩
theorem SW.dw {x:WSt} (h:SW x a K):DW a K:=⟨h.lb.by',h.nm,h.lb.files⟩
def ZqS (a:DS):Prop:=∀ k f,Zw k a.fs=some f->f.sure=f.b.length
theorem Zos {keep:List Int} (i:Inv a):ZqS (ZaM a keep):=λ k f hf=>by
 refine Zgx (Zr a.fs) keep ?_ (λ f0 h0=>?_) hf
 ·exact Classical.byContradiction λ hn=>Zhz (Za8 _ _ _) (by rw [show (Zak (Zr a.fs) keep a.fs)=(ZaM a keep).fs from rfl,hf];simp) (ZcL.1 hn)
 ·obtain ⟨x,y,hxy,_⟩:=ZI h0
  exact i.sure (k,f0) (by rw [hxy];simp)
theorem DW.crash (h:DW a K) (keep:List Int):DW (ZaM a keep) K:=⟨ZqI h.by' keep,Zrp h.nm keep,by rw [Zqq];exact h.files⟩
theorem Ziv (a:DS) (lim:Int):Zaz a lim=if lim<32\/lim>65536 then 1 else oE a:=rfl
theorem ZmH (a:DS) (lim:Int):Zd9 a lim=if lim<32\/lim>65536 then a else oD a:=rfl
theorem DW.open' (h:DW a K) (hK:1<=K) (lim:Int):DW (Zd9 a lim) (K + 3):=by
 rw [ZmH];split
 ·exact h.mono (by omega)
 ·exact ⟨Zpx h.by',(Zpv h.nm hK).mono (by omega),by have:=ZmG (a:=a);have:=h.files;omega⟩
abbrev lC (bl:Nat) (x y:Int):HP:=pts bl (.cells [.int .i64 x,.int .i64 y].toArray 63 (0,0))
def LgS (R:Cx) (Hs:List HP) (d q p u:Nat) (K:Nat) (w:World):Prop:=
 ∃ (R':Cx) (a b:DS) (x:WSt) (s sg:Sl) (ds:List DE4) (s2 sg2 sh2:Sl) (ds2:List DE4),R.Ext R'/\Rel a b/\SW x a K/\DsR R' ds/\erE ds=x.g.l/\DsR R' ds2/\erE ds2=x.g.l/\Sat R' (WX p d x s sg ds a (UX u q x s2 sg2 sh2 ds2 b Hs)) w
def DkS (R:Cx) (Hs:List HP) (d q:Nat) (K:Nat) (w:World):Prop:=
 ∃ (R':Cx) (a b:DS),R.Ext R'/\Rel a b/\DW a K/\Sat R' (Zl d a::Zy q b::Hs) w
def OS (R:Cx) (Hs:List HP) (d q:Nat) (K:Nat) (p:Option Addr) (e:Int) (x:Option Addr) (f:Int) (w:World):Prop:=
 e=f/\((p=none/\x=none/\DkS R Hs d q K w)\/(∃ pb xb,p=some ⟨pb,0,none⟩/\x=some ⟨xb,0,none⟩/\LgS R Hs d q pb xb K w))
theorem LgS.mono {p u J:Nat} (h:LgS R Hs d q p u K w) (hk:K<=J):LgS R Hs d q p u J w:=
 let ⟨R',a,b,x,s,sg,ds,s2,sg2,sh2,ds2,h1,h2,h3,h4⟩:=h;⟨R',a,b,x,s,sg,ds,s2,sg2,sh2,ds2,h1,h2,h3.mono hk,h4⟩
theorem DkS.mono {J:Nat} (h:DkS R Hs d q K w) (hk:K<=J):DkS R Hs d q J w:=let ⟨R',a,b,h1,h2,h3,h4⟩:=h;⟨R',a,b,h1,h2,h3.mono hk,h4⟩
theorem OS.mono {J:Nat} {p x:Option Addr} {e f:Int} (h:OS R Hs d q K p e x f w) (hk:K<=J):OS R Hs d q J p e x f w:=
 ⟨h.1,h.2.imp (λ⟨a,b,c⟩=>⟨a,b,c.mono hk⟩) λ⟨a,b,c,e,f⟩=>⟨a,b,c,e,f.mono hk⟩⟩
theorem LgS.dk {p u:Nat} (h:LgS R Hs d q p u K w):DkS R Hs d q K w:=by
 obtain ⟨R',a,b,x,s,sg,ds,s2,sg2,sh2,ds2,h1,h2,h3,h4,h5,h6,h7,hw⟩:=h;have hw:Sat R' (pts p (Zt d x.lim x.g.base s sg x.brk)::ZL s ds::ZbE sg x.segs::pts u (Zp q x.lim x.g.base s2 sg2 sh2 x.brk)::ZL s2 ds2::Zb8 sg2 x.segs::Zaf sh2 x.segs::Zl d a::Zy q b::Hs) w:=hw.arr;exact ⟨R',a,b,h1,h2,h3.dw,hw.drop.drop.drop.drop.drop.drop.drop⟩
theorem Ziw {lim room:Int} {bl:Nat} (hp:Zec R) (r:Rel a b) (dw:DW a K) (hs:ZqS a) (hK1:1<=K) (hK2:K<=20000) (hw:Sat R (Zl d a::Zy q b::lC bl room lim::Hs) w) {Q:Option Addr->Int->Option Addr->Int->World->Prop} (hQ:∀ p e x f w,OS R (lC bl room lim::Hs) d q (K + 3) p e x f w->Q p e x f w):
  ∃ l1:Int,(At (λ w'=>w'=w) (Addr.add ⟨bl,0,none⟩ 1) [.int .i64 l1])/\Calls prog 13 #[.pointer (some ⟨d,0,none⟩),.int .i64 l1] w λ e1 w1=>
   ∃ p:Option Addr,∃ e:Int,(e1=.returned (.tuple #[.pointer p,.int .i64 e]))/\
   ∃ l2:Int,(At (λ w'=>w'=w1) (Addr.add ⟨bl,0,none⟩ 1) [.int .i64 l2])/\Calls prog 14 #[.pointer (some ⟨q,0,none⟩),.int .i64 l2] w1 λ e2 w2=>
   ∃ x:Option Addr,∃ f:Int,(e2=.returned (.tuple #[.pointer x,.int .i64 f]))/\Q p e x f w2:=by
 have hfl:=dw.files;refine ⟨lim,(by rw [Zf];exact At.own (eqS hw) (by exact ⟨rfl,trivial⟩)),(Zkr lim r.inv dw.by' (by omega) hp hw).use ?_⟩;clear hw;rintro _ w (⟨he,rfl,hw⟩|⟨he,R2,p,s,ds,sg,e2,hd,rfl,hel,g1,g2,g3,g4,hw⟩)
 ·refine ⟨_,_,rfl,lim,(by rw [Zf];exact At.own (eqS hw) (by exact ⟨rfl,trivial⟩)),(Zit lim r dw.by' (by omega) hw.swap).use ?_⟩
  clear hw;rintro _ w (⟨b',_,rfl,r',hw⟩|⟨he2,_⟩)
  ·exact ⟨_,_,rfl,hQ _ _ _ _ _ ⟨rfl,.inl ⟨rfl,rfl,R,_,b',.refl,r',dw.open' hK1 lim,hw.swap⟩⟩⟩
  ·exact absurd he2 he
 ·have hw:Sat R2 (Zy q b::WS p d lim (Zz a).g.base s sg false ds (Zz a).segs (Zd9 a lim) (lC bl room lim::Hs)) w:=hw.arr
  refine ⟨_,_,rfl,lim,(by rw [Zf];exact At.own (eqS hw) (by exact ⟨rfl,trivial⟩)),(Zit lim r dw.by' (by omega) hw).use ?_⟩;clear hw;rintro _ w (⟨b',he2,_⟩|⟨_,R3,u,s2,ds2,sg2,sh2,b',e3,hd2,rfl,hel2,r',g5,g6,g7,hw⟩)
  ·exact absurd he he2
  ·have hlim:¬ (lim<32\/lim>65536):=λ h=>by rw [Ziv,if_pos h] at he;cases he
   have hoE:oE a=0:=by rw [Ziv,if_neg hlim] at he;exact he
   have hoD:Zd9 a lim=oD a:=by rw [ZmH,if_neg hlim]
   have sw:=Zsn (lim:=lim) (K:=K + 3) r dw.by' hs (dw.nm.mono (by omega)) (by omega) (by omega) (by omega) hoE (by rw [<-hel,List.length_map];exact g3)
   rw [hoD] at r' hw;refine ⟨_,_,rfl,hQ _ _ _ _ _ ⟨rfl,.inr ⟨p,u,rfl,rfl,R3,_,b',⟨lim,(Zz a).g,(Zz a).segs,false⟩,s,sg,ds,s2,sg2,sh2,ds2,e2.trans e3,r',sw,hd.ext e3,hel,hd2,hel2,?_⟩⟩⟩;exact hw.arr
theorem ZsN {p u:Nat} {e:StE} (hp:Zec R) (hE:EsR R e.sl e.dl) (hn: -9223372036854775808<=e.n/\e.n<9223372036854775808) (hK:K + 2 * e.dl.length<=20000) (hw:LgS R Hs d q p u K w):
  Zq prog 32 #[.pointer (some ⟨d,0,none⟩),.pointer (some ⟨q,0,none⟩),.pointer (some ⟨p,0,none⟩),.pointer (some ⟨u,0,none⟩),.agg (stV e).toArray] w λ v w'=>v=.bool true/\LgS R Hs d q p u (K + 1 + 2 * e.dl.length) w':=by
 obtain ⟨R0,a,b,x,s,sg,ds,s2,sg2,sh2,ds2,e0,r,h,hd,he,hd2,he2,hw⟩:=hw;have hp:=hp.ext e0;have hE:=hE.ext e0;have hwb:=h.lb.wbk.wb (by omega);have hlx:=h.lb.last;have i:=h.lb.inv;have hfl:=h.lb.files;refine ZvR _ _ _ _ e.d e.n e.most e.sl e.sk _ w ?_
 suffices H:∀ Q:Value->World->Prop,(∀ w',LgS R Hs d q p u (K + 1 + 2 * e.dl.length) w'->Q (.bool true) w')->B32 (some ⟨d,0,none⟩) (some ⟨q,0,none⟩) (some ⟨p,0,none⟩) (some ⟨u,0,none⟩) e.d e.n e.most e.sl e.sk Q w from H _ λ w' h=>⟨rfl,h⟩
 intro Q hQ;refine Zd hw λ bs w hw=>?_;have hw:Sat R0 (WX p d x s sg ds a (UX u q x s2 sg2 sh2 ds2 b (stC bs e::Hs))) w:=hw.arr
 -- what both leave
 have fin:∀ {rr:(DS × Int) × WSt} {R2:Cx} {v:Value} {w:World},R0.Ext R2->SW rr.2 rr.1.1 (K + 1 + 2 * e.dl.length)->∀ {s sg:Sl} {ds:List DE4},DsR R2 ds->erE ds=rr.2.g.l->
   ZoK R2 (WX p d rr.2 s sg ds rr.1.1 (stC bs e::Hs)) u q rr v w->∃ t:Int,(Ending.returned v=.returned (.int .i64 t))/\Q (.bool (rr.1.2==t)) w:=λ {rr R2 v w} ex sw {s sg ds} hd he ⟨R3,s3,sg3,sh3,ds3,b3,e3,hv,hd3,he3,r3,hw⟩=>by
  refine ⟨_,by rw [hv],?_⟩;have:(rr.1.2==rr.1.2)=true:=by simp
  rw [this];have hw:Sat R3 (stC bs e::WX p d rr.2 s sg ds rr.1.1 (UX u q rr.2 s3 sg3 sh3 ds3 b3 Hs)) w:=hw.arr;exact hQ _ ⟨R3,_,b3,_,s,sg,ds,s3,sg3,sh3,ds3,(e0.trans ex).trans e3,r3,sw,hd.ext e3,he,hd3,he3,hw.drop⟩
 refine ⟨e.d,At.own (eqS hw) (by exact ⟨rfl,trivial⟩),Br.e (λ c0=>?_) (λ c0=>Br.e (λ c1=>?_) (λ c1=>Br.e (λ c2=>?_) (λ c2=>Br.e (λ c3=>?_) (λ c3=>Br.e (λ c4=>?_) (λ c4=>Br.e (λ c5=>?_) (λ c5=>Br.e (λ c6=>?_) (λ c6=>Br.e (λ c7=>?_) (λ c7=>?_))))))))⟩
 ·refine ⟨e.sl,At.own (eqS hw) (by exact ⟨rfl,trivial⟩),(ZkX (dl:=e.dl) h.lb.wbk (by omega) i hp hd he hE.rows hE.each hE.by' hw).use ?_⟩
  clear hw;rintro _ w ⟨R1,e1,rfl,s1,ds1,sg1,hd1,he1,hw⟩;have hw:Sat R1 (UX u q x s2 sg2 sh2 ds2 b (WX p d (ZaD x a (erE e.dl)).2 s1 sg1 ds1 (ZaD x a (erE e.dl)).1.1 (stC bs e::Hs))) w:=hw.arr;have hE1:=hE.ext e1;refine ⟨_,rfl,e.sl,At.own (eqS hw) (by exact ⟨rfl,trivial⟩),(Zkl (dl:=e.dl) r h (by omega) (hd2.ext e1) he2 hE1.rows hE1.each hE.by' hw).use ?_⟩;clear hw;rintro v w hu;have sw:=ZoU (l:=erE e.dl) h hE.by' (by rw [List.length_map];omega)
  rw [List.length_map] at sw;exact fin e1 (sw.mono (by omega)) hd1 he1 hu
 ·refine ⟨e.n,At.own (eqS hw) (by exact ⟨rfl,trivial⟩),(Zql hwb e.n hlx i hp hd he hw).use ?_⟩
  clear hw;rintro _ w ⟨R1,e1,rfl,s1,ds1,sg1,hd1,he1,hw⟩;have hw:Sat R1 (UX u q x s2 sg2 sh2 ds2 b (WX p d (ZgM x a e.n).2 s1 sg1 ds1 (ZgM x a e.n).1.1 (stC bs e::Hs))) w:=hw.arr;refine ⟨_,rfl,e.n,At.own (eqS hw) (by exact ⟨rfl,trivial⟩),(Zpi e.n r h (by omega) (hd2.ext e1) he2 hw).use ?_⟩;clear hw;rintro v w hu;exact fin e1 ((Zuq h e.n).mono (by omega)) hd1 he1 hu
 ·refine ⟨e.n,At.own (eqS hw) (by exact ⟨rfl,trivial⟩),(Zlr hwb e.n i hp hd he hw).use ?_⟩
  clear hw;rintro _ w ⟨R1,e1,rfl,s1,ds1,sg1,hd1,he1,hw⟩;have hw:Sat R1 (UX u q x s2 sg2 sh2 ds2 b (WX p d (Zbn x a e.n).2 s1 sg1 ds1 (Zbn x a e.n).1.1 (stC bs e::Hs))) w:=hw.arr;refine ⟨_,rfl,e.n,At.own (eqS hw) (by exact ⟨rfl,trivial⟩),(Zlz e.n r h (by omega) (hd2.ext e1) he2 hw).use ?_⟩;clear hw;rintro v w hu;exact fin e1 ((Zq5 h e.n).mono (by omega)) hd1 he1 hu
 ·refine (Znq hwb i hp hd he hw).use ?_
  clear hw;rintro _ w ⟨R1,e1,rfl,s1,ds1,sg1,hd1,he1,hw⟩;have hw:Sat R1 (UX u q x s2 sg2 sh2 ds2 b (WX p d (ZgZ x a).2 s1 sg1 ds1 (ZgZ x a).1.1 (stC bs e::Hs))) w:=hw.arr;refine ⟨_,rfl,(ZnI r h (by omega) (hd2.ext e1) he2 hw).use ?_⟩;clear hw;rintro v w hu;exact fin e1 ((Zsm h).mono (by omega)) hd1 he1 hu
 ·refine ⟨e.n,At.own (eqS hw) (by exact ⟨rfl,trivial⟩),(Zok hwb e.n i h.lb.by' (by omega) hp hd he hw).use ?_⟩
  clear hw;rintro _ w ⟨R1,e1,rfl,s1,ds1,sg1,hd1,he1,hw⟩;have hw:Sat R1 (UX u q x s2 sg2 sh2 ds2 b (WX p d (Zdy x a e.n).2 s1 sg1 ds1 (Zdy x a e.n).1.1 (stC bs e::Hs))) w:=hw.arr;refine ⟨_,rfl,e.n,At.own (eqS hw) (by exact ⟨rfl,trivial⟩),(ZnK e.n hn r h (by omega) (hd2.ext e1) he2 hw).use ?_⟩;clear hw;rintro v w hu;exact fin e1 ((Zso h (by omega) e.n).mono (by omega)) hd1 he1 hu
 ·have hdt:∀ y∈x.g.l,y.dt.length<=4096:=λ y hy=>(h.ey y hy).1
  refine ⟨e.n,At.own (eqS hw) (by exact ⟨rfl,trivial⟩),e.most,At.own (eqS hw) (by exact ⟨rfl,trivial⟩),(ZiH hwb.w0 e.n e.most hn (λ y hy=>by have:=hdt y hy;omega) hd he hw).use ?_⟩;clear hw;rintro _ w ⟨R1,t1,dt1,e1,rfl,hd1,g1,hw⟩;obtain ⟨R2,e2,hr1,hw⟩:=ZM.leak hw;have hw:Sat R2 (UX u q x s2 sg2 sh2 ds2 b (WX p d x s sg ds a (stC bs e::Hs))) w:=hw.arr;have e12:=e1.trans e2;refine ⟨t1,rfl,e.n,At.own (eqS hw) (by exact ⟨rfl,trivial⟩),e.most,At.own (eqS hw) (by exact ⟨rfl,trivial⟩),(Zkk hwb.w0 e.n e.most hn (hd2.ext e12) he2 hw).use ?_⟩;clear hw;rintro _ w ⟨t2,dt2,rfl,hdd2,g2,hw⟩;obtain ⟨R3,e3,hr2,hw⟩:=ZM.leak hw;have hsub:∀ y∈ZlR x e.n e.most,y∈x.g.l:=λ y hm=>by
   unfold ZlR at hm;split at hm
   ·cases hm
   ·exact List.mem_of_mem_drop (List.mem_of_mem_take hm)
  have hdt2:∀ y∈dt1,y.2.dt.length<=9223372036854775807:=λ y hy=>by
   have:=hdt _ (hsub y.2 (by rw [<-g1];exact List.mem_map_of_mem hy));omega
  have hl1:dt1.length<=200000000000:=by
   have h1:=congrArg List.length g1;rw [List.length_map] at h1;have h2:=hwb.l1;rw [h1];unfold ZlR;split
   ·simp
   ·rw [List.length_take,List.length_drop];omega
  refine ⟨t2,rfl,(Zg7 (e3.roN hr1) hr2 ((hd1.ext e2).ext e3) (hdd2.ext e3) (by rw [g1,g2]) (by omega) hdt2 hw).use ?_⟩;clear hw;rintro _ w ⟨rfl,hw⟩;have hw:Sat R3 (stC bs e::WX p d x s sg ds a (UX u q x s2 sg2 sh2 ds2 b Hs)) w:=hw.arr;exact ⟨_,rfl,hQ _ ⟨R3,a,b,x,s,sg,ds,s2,sg2,sh2,ds2,(e0.trans e12).trans e3,r,h.mono (by omega),hd.ext (e12.trans e3),he,hd2.ext (e12.trans e3),he2,hw.drop⟩⟩
 ·have hw:Sat R0 (Zl d a::pts p (Zt d x.lim x.g.base s sg x.brk)::ZL s ds::ZbE sg x.segs::UX u q x s2 sg2 sh2 ds2 b (stC bs e::Hs)) w:=hw.arr
  refine ⟨e.n,At.own (eqS hw) (by exact ⟨rfl,trivial⟩),(Zp7 e.n hw).use ?_⟩;clear hw;rintro _ w ⟨rfl,hw⟩;have r2:=r.setFail e.n hn.2;have hw:Sat R0 (Zy q b::Zl d { a with fail:=if e.n<0 then a.fail else e.n }::pts p (Zt d x.lim x.g.base s sg x.brk)::ZL s ds::ZbE sg x.segs::pts u (Zp q x.lim x.g.base s2 sg2 sh2 x.brk)::ZL s2 ds2::Zb8 sg2 x.segs::Zaf sh2 x.segs::stC bs e::Hs) w:=hw.arr
  refine ⟨_,rfl,e.n,At.own (eqS hw) (by exact ⟨rfl,trivial⟩),(Zoh e.n hw).use ?_⟩;clear hw;rintro _ w ⟨rfl,hw⟩;have hw:Sat R0 (stC bs e::WX p d x s sg ds { a with fail:=if e.n<0 then a.fail else e.n } (UX u q x s2 sg2 sh2 ds2 { b with fail:=if e.n<0 then b.fail else e.n } Hs)) w:=hw.arr
  exact ⟨_,rfl,hQ _ ⟨R0,_,_,x,s,sg,ds,s2,sg2,sh2,ds2,e0,r2,(h.fs r2.inv rfl).mono (by omega),hd,he,hd2,he2,hw.drop⟩⟩
 ·have hw:Sat R0 (Zl d a::pts p (Zt d x.lim x.g.base s sg x.brk)::ZL s ds::ZbE sg x.segs::UX u q x s2 sg2 sh2 ds2 b (stC bs e::Hs)) w:=hw.arr
  refine ⟨e.n,At.own (eqS hw) (by exact ⟨rfl,trivial⟩),(ZrL e.n hw).use ?_⟩;clear hw;rintro _ w ⟨rfl,hw⟩;have r2:=r.setArm e.n hn.2;have hw:Sat R0 (Zy q b::Zl d { a with arm:=if e.n<0 then a.arm else e.n }::pts p (Zt d x.lim x.g.base s sg x.brk)::ZL s ds::ZbE sg x.segs::pts u (Zp q x.lim x.g.base s2 sg2 sh2 x.brk)::ZL s2 ds2::Zb8 sg2 x.segs::Zaf sh2 x.segs::stC bs e::Hs) w:=hw.arr
  refine ⟨_,rfl,e.n,At.own (eqS hw) (by exact ⟨rfl,trivial⟩),(ZqL e.n hw).use ?_⟩;clear hw;rintro _ w ⟨rfl,hw⟩;have hw:Sat R0 (stC bs e::WX p d x s sg ds { a with arm:=if e.n<0 then a.arm else e.n } (UX u q x s2 sg2 sh2 ds2 { b with arm:=if e.n<0 then b.arm else e.n } Hs)) w:=hw.arr
  exact ⟨_,rfl,hQ _ ⟨R0,_,_,x,s,sg,ds,s2,sg2,sh2,ds2,e0,r2,(h.fs r2.inv rfl).mono (by omega),hd,he,hd2,he2,hw.drop⟩⟩
 ·have hw:Sat R0 (stC bs e::WX p d x s sg ds a (UX u q x s2 sg2 sh2 ds2 b Hs)) w:=hw.arr
  exact hQ _ ⟨R0,a,b,x,s,sg,ds,s2,sg2,sh2,ds2,e0,r,h.mono (by omega),hd,he,hd2,he2,hw.drop⟩
end
section
open Go Go.VC Tryz
variable {R R':Cx} {Hs Hs' Rest:List HP} {w:World} {d q K p u:Nat}
theorem ZsH {A:HP} (h:LgS R (A::Hs) d q p u K w):∃ (R':Cx) (Hs':List HP),R.Ext R'/\Sat R' (A::Hs') w:=by
 obtain ⟨R',a,b,x,s,sg,ds,s2,sg2,sh2,ds2,h1,h2,h3,h4,h5,h6,h7,hw⟩:=h;have hw:Sat R' (A::WX p d x s sg ds a (UX u q x s2 sg2 sh2 ds2 b Hs)) w:=hw.arr;exact ⟨R',_,h1,hw⟩
theorem ZsO {A:HP} (h:DkS R (A::Hs) d q K w):∃ (R':Cx) (Hs':List HP),R.Ext R'/\Sat R' (A::Hs') w:=by
 obtain ⟨R',a,b,h1,h2,h3,hw⟩:=h;have hw:Sat R' (A::Zl d a::Zy q b::Hs) w:=hw.arr;exact ⟨R',_,h1,hw⟩
theorem ZpT (f:∀ R w,Sat R Hs w->Sat R Hs' w) (h:LgS R Hs d q p u K w):LgS R Hs' d q p u K w:=by
 obtain ⟨R',a,b,x,s,sg,ds,s2,sg2,sh2,ds2,h1,h2,h3,h4,h5,h6,h7,hw⟩:=h;refine ⟨R',a,b,x,s,sg,ds,s2,sg2,sh2,ds2,h1,h2,h3,h4,h5,h6,h7,?_⟩;exact hw.cons λ _ h=>h.cons λ _ h=>h.cons λ _ h=>h.cons λ _ h=>h.cons λ _ h=>h.cons λ _ h=>h.cons λ _ h=>h.cons λ _ h=>h.cons λ _ h=>f _ _ h
theorem Zqg (f:∀ R w,Sat R Hs w->Sat R Hs' w) (h:DkS R Hs d q K w):DkS R Hs' d q K w:=by
 obtain ⟨R',a,b,h1,h2,h3,hw⟩:=h;exact ⟨R',a,b,h1,h2,h3,hw.cons λ _ h=>h.cons λ _ h=>f _ _ h⟩
variable {wp xp:Option Addr} {e f:Int}
theorem Zr4 {A:HP} (h:OS R (A::Hs) d q K wp e xp f w):∃ (R':Cx) (Hs':List HP),R.Ext R'/\Sat R' (A::Hs') w:=by
 rcases h.2 with ⟨_,_,h⟩|⟨_,_,_,_,h⟩
 ·exact ZsO h
 ·exact ZsH h
theorem Zuw (g:∀ R w,Sat R Hs w->Sat R Hs' w) (h:OS R Hs d q K wp e xp f w):OS R Hs' d q K wp e xp f w:=
 ⟨h.1,h.2.imp (λ⟨a,b,c⟩=>⟨a,b,Zqg g c⟩) λ⟨a,b,c,e,h⟩=>⟨a,b,c,e,ZpT g h⟩⟩
theorem Zuv {o:Obj} (h:OS R Hs d q K wp e xp f w) {F:Nat->World->Prop} (k:∀ b w',OS R (pts b o::Hs) d q K wp e xp f w'->F b w'):New o F w:=by
 obtain ⟨he,⟨h1,h2,R',a,b,g1,g2,g3,hw⟩|⟨h1,h2,h3,h4,R',a,b,x,s,sg,ds,s2,sg2,sh2,ds2,g1,g2,g3,g4,g5,g6,g7,hw⟩⟩:=h
 ·refine Zd hw λ bb w' hw=>k bb w' ⟨he,.inl ⟨h1,h2,R',a,b,g1,g2,g3,?_⟩⟩
  exact Sat.arr (show Sat R' (pts bb o::Zl d a::Zy q b::Hs) w' from hw)
 ·refine Zd hw λ bb w' hw=>k bb w' ⟨he,.inr ⟨h1,h2,h3,h4,R',a,b,x,s,sg,ds,s2,sg2,sh2,ds2,g1,g2,g3,g4,g5,g6,g7,?_⟩⟩
  exact Sat.arr (show Sat R' (pts bb o::WX h1 d x s sg ds a (UX h2 q x s2 sg2 sh2 ds2 b Hs)) w' from hw)
theorem Zrh {bs:Nat} {x:StE} (h:OS R (pts bs (.cells #[.int .i64 0,.int .i64 0,.int .i64 0,.slice none 0 0,.slice none 0 0] 43 (0,0))::Hs) d q K wp e xp f w) {F:World->Prop} (k:∀ w',OS R (stC bs x::Hs) d q K wp e xp f w'->F w'):
  ∃ w':World,((Instr.storeAt 43 (.pointer (some ⟨bs,0,none⟩)) (.agg #[.int .i64 x.d,.int .i64 x.n,.int .i64 x.most,.slice x.sl.a x.sl.len x.sl.cap,.slice x.sk.a x.sk.len x.sk.cap])).run prog w=.ok () w')/\F w':=by
 obtain ⟨he,⟨h1,h2,R',a,b,g1,g2,g3,hw⟩|⟨h1,h2,h3,h4,R',a,b,y,s,sg,ds,s2,sg2,sh2,ds2,g1,g2,g3,g4,g5,g6,g7,hw⟩⟩:=h
 ·have hw:Sat R' (pts bs (.cells #[.int .i64 0,.int .i64 0,.int .i64 0,.slice none 0 0,.slice none 0 0] 43 (0,0))::Zl d a::Zy q b::Hs) w:=hw.arr
  refine Zc hw (by kernel_rfl) rfl (by simp [Value.cells]) λ w hw=>k w ⟨he,.inl ⟨h1,h2,R',a,b,g1,g2,g3,?_⟩⟩;have hw:=hw.re (stC bs x);exact hw.arr
 ·have hw:Sat R' (pts bs (.cells #[.int .i64 0,.int .i64 0,.int .i64 0,.slice none 0 0,.slice none 0 0] 43 (0,0))::WX h1 d y s sg ds a (UX h2 q y s2 sg2 sh2 ds2 b Hs)) w:=hw.arr
  refine Zc hw (by kernel_rfl) rfl (by simp [Value.cells]) λ w hw=>k w ⟨he,.inr ⟨h1,h2,h3,h4,R',a,b,y,s,sg,ds,s2,sg2,sh2,ds2,g1,g2,g3,g4,g5,g6,g7,?_⟩⟩;have hw:=hw.re (stC bs x);exact hw.arr
theorem Zux (h:OS R Hs d q K wp e xp f w):DkS R Hs d q K w:=by
 rcases h.2 with ⟨_,_,h⟩|⟨_,_,_,_,h⟩
 ·exact h
 ·exact h.dk
theorem Zsv (h:LgS R Hs d q p u K w) (hK:K<=20000):Zq prog 15 #[.pointer (some ⟨d,0,none⟩),.pointer (some ⟨q,0,none⟩)] w λ v w'=>v=.bool true/\LgS R Hs d q p u K w':=by
 obtain ⟨R',a,b,x,s,sg,ds,s2,sg2,sh2,ds2,h1,h2,h3,h4,h5,h6,h7,hw⟩:=h;have hfl:=h3.lb.files;have hw:Sat R' (Zl d a::Zy q b::pts p (Zt d x.lim x.g.base s sg x.brk)::ZL s ds::ZbE sg x.segs::pts u (Zp q x.lim x.g.base s2 sg2 sh2 x.brk)::ZL s2 ds2::Zb8 sg2 x.segs::Zaf sh2 x.segs::Hs) w:=hw.arr;refine (Znw h2 (by omega) hw).mono ?_;rintro _ w ⟨rfl,hw⟩;exact ⟨rfl,R',a,b,x,s,sg,ds,s2,sg2,sh2,ds2,h1,h2,h3,h4,h5,h6,h7,hw.arr⟩
theorem ZrM (h:LgS R Hs d q p u K w) (hK:K<=20000):Zq prog 16 #[.pointer (some ⟨p,0,none⟩),.pointer (some ⟨u,0,none⟩)] w λ v w'=>v=.bool true/\LgS R Hs d q p u K w':=by
 obtain ⟨R',a,b,x,s,sg,ds,s2,sg2,sh2,ds2,h1,h2,h3,h4,h5,h6,h7,hw⟩:=h;refine (Zmd (h3.lb.wbk.wb (by omega)).w0 (λ y hy=>(h3.ey y hy).1) h6 h4 h7 h5 hw).mono ?_;rintro _ w ⟨rfl,hw⟩;exact ⟨rfl,R',a,b,x,s,sg,ds,s2,sg2,sh2,ds2,h1,h2,h3,h4,h5,h6,h7,hw⟩
theorem Zje {l0 l1:Int} {sl:Sl} {es:List StE} (hr:StR R sl es) (hq:∀ e∈es,-9223372036854775808<=e.n/\e.n<9223372036854775808) (hp:Zec R) (hw:Sat R Hs w):
  Zq prog 7 #[.agg #[.int .i64 l0,.int .i64 l1],.slice sl.a sl.len sl.cap] w λ v w'=>v=.bool true/\Sat R Hs w':=by
 have hsl:sl.len=es.length:=by have:=hr.rows.len;simpa using this
 apply Zxr
 suffices H:∀ Q:Value->World->Prop,(∀ w',Sat R Hs w'->Q (.bool true) w')->B7 l0 l1 sl Q w from H _ λ w' h=>⟨rfl,h⟩
 intro Q hQ;refine Zd hw λ bl w hw=>?_;have hw:Sat R (lC bl l0 l1::Hs) w:=hw;refine (ZoB hp hw).use ?_;clear hw;rintro _ w ⟨R1,e1,rfl,hw⟩;have fin:∀ {R3:Cx} {w:World},R1.Ext R3->Sat R3 (lC bl l0 l1::Hs) w->Q (.bool true) w:=λ e h=>hQ _ ((e1.trans e).back h.drop);refine ⟨_,rfl,(ZnU (hr.ext e1) hw).use ?_⟩;clear hw;rintro _ w ⟨bm,rfl,hmuch,hw⟩;refine ⟨_,rfl,λ w=>bm=false/\Sat R1 (lC bl l0 l1::Hs) w,Br.f rfl (Br.mk (λ _=>fin .refl hw) (λ h=>⟨h,hw⟩)),?_⟩;clear hw;rintro _ w ⟨rfl,hw⟩;obtain ⟨_,m2⟩:=hmuch rfl;have hbig:∀ k,k<=100->Zcq (es.take k)<=30000:=λ k h=>Int.le_trans (Zl0 es (by omega)) m2;refine ⟨l0,(by first|exact At.own (eqS hw) (by exact ⟨rfl,trivial⟩)|(rw [Zf];exact At.own (eqS hw) (by exact ⟨rfl,trivial⟩))),(Zol (room:=l0) (es:=[]) FsR.nil (λ _ h=>by cases h) hw).use ?_⟩
 clear hw;rintro _ w (⟨hno,rfl,hw⟩|⟨hyes,d,q,a,b,rfl,r,hby,hf,hnew,hw⟩)
 ·refine ⟨_,_,_,rfl,Br.t rfl ⟨l0,(by first|exact At.own (eqS hw) (by exact ⟨rfl,trivial⟩)|(rw [Zf];exact At.own (eqS hw) (by exact ⟨rfl,trivial⟩))),Br.d (λ _=>fin .refl hw) (λ h=>⟨l0,(by first|exact At.own (eqS hw) (by exact ⟨rfl,trivial⟩)|(rw [Zf];exact At.own (eqS hw) (by exact ⟨rfl,trivial⟩))),?_⟩)⟩⟩
  rw [show decide (l0>16777216)=true by simp;omega];exact fin .refl hw
 replace hnew:=hnew rfl;have dw:DW a 7:=⟨hby,λ k hk=>by rw [hnew] at hk;exact absurd rfl hk,by rw [hnew];simp⟩;have hsy:ZqS a:=λ k f hk=>by rw [hnew] at hk;cases hk
 refine ⟨_,_,_,rfl,Br.f rfl (Ziw (hp.ext e1) r dw hsy (by omega) (by omega) hw λ wp e xp f w h=>?_)⟩;clear hw r hby hf hnew dw hsy a b;have fin2:∀ {K:Nat} {w:World},DkS R1 (lC bl l0 l1::Hs) d q K w->Q (.bool true) w:=λ h=>by
  obtain ⟨R3,a,b,g1,_,_,hw⟩:=h;exact fin g1 hw.drop.drop
 refine ⟨λ wp e xp f i w=>∃ k m:Nat,i=k/\k<=100/\30 * (m:Int)<=Zcq (es.take k)/\OS R1 (lC bl l0 l1::Hs) d q (10 + 3 * k + 2 * m) wp e xp f w,λ _ _ _ _ i _=>(100 - i).toNat,⟨0,0,rfl,by omega,by simp [Zcq],h⟩,?_⟩;clear h w wp e xp f;rintro _ wp e xp f _ w ⟨k,m,rfl,hk,hm,h⟩;have hend:∀ {w:World},OS R1 (lC bl l0 l1::Hs) d q (10 + 3 * k + 2 * m) wp e xp f w->Br (e==f) (Q (.bool (wp.isNone==xp.isNone)) w) (Q (.bool false) w):=λ {w} h=>by
  refine Br.e (λ _=>?_) (λ hne=>absurd h.1 hne);have:(wp.isNone==xp.isNone)=true:=by rcases h.2 with ⟨rfl,rfl,_⟩|⟨_,_,rfl,rfl,_⟩<;>rfl
  rw [this];exact fin2 (Zux h)
 refine ⟨λ w=>(k<es.length/\k<100)/\OS R1 (lC bl l0 l1::Hs) d q (10 + 3 * k + 2 * m) wp e xp f w,Br.d (λ h1=>Br.d (λ h2=>⟨⟨by omega,by omega⟩,h⟩) (λ _=>hend h)) (λ _=>hend h),?_⟩;clear h;rintro _ w ⟨⟨h1,h2⟩,h⟩;refine ⟨λ w=>OS R1 (lC bl l0 l1::Hs) d q (10 + 3 * k + 2 * m) wp e xp f w,Br.ne (λ hne=>absurd h.1 hne) (λ _=>?_),?_⟩
 ·have:(!wp.isNone==xp.isNone)=false:=by rcases h.2 with ⟨rfl,rfl,_⟩|⟨_,_,rfl,rfl,_⟩<;>rfl
  exact Br.f this h
 clear h hend;rintro _ w h;have hck:=hbig (k + 1) (by omega);have hstep:=ZhN es h1;have hnb:=hq es[k] (List.getElem_mem h1);have hcn:=Zm9 es[k];have hc30:30 * (es[k].dl.length:Int)<=Zl1 es[k]:=by unfold Zl1;have:=Zi7 (erE es[k].dl);omega
 have hm1:m + es[k].dl.length<=1000:=by omega
 have hent:=hr.ents es[k] (List.getElem_mem h1);have hkp:=hr.keeps es[k] (List.getElem_mem h1);obtain ⟨R2,Hs2,ex2,hw2⟩:=Zr4 h;refine (((e1.trans ex2).roN hr.rows).reads (eqS hw2)).rngM h1 λ _ _ el=>⟨es[k].d,es[k].n,es[k].most,es[k].sl,es[k].sk,el.z (by exact ⟨rfl,rfl,rfl,rfl,rfl,trivial⟩),?_⟩;clear hw2 ex2;refine Zuv h λ bs w h=>Zrh (x:=es[k]) h λ w h=>?_;obtain ⟨R2,Hs2,ex2,hw2⟩:=Zr4 h;refine ⟨es[k].d,At.own (eqS hw2) (by exact ⟨rfl,trivial⟩),Br.e (λ _=>?_) (λ _=>?_)⟩
 ·clear hw2 ex2
  obtain ⟨R3,a,b,e3,r,dw,hw⟩:=Zux h;have hfl:=dw.files;have hlb:=r.len;have e13:=e1.trans e3;refine ⟨es[k].sk,At.own (eqS hw) (by exact ⟨rfl,trivial⟩),(Zot r.inv (e13.ro hkp) (by omega) hw).use ?_⟩;clear hw;rintro _ w ⟨rfl,hw⟩;refine ⟨rfl,es[k].sk,At.own (eqS hw) (by exact ⟨rfl,trivial⟩),(ZlZ r.invR (e13.ro hkp) (by omega) hw.swap).use ?_⟩;clear hw;rintro _ w ⟨rfl,hw⟩;have hw:Sat R3 (Zl d (ZaM a es[k].keep)::Zy q (Zm8 b es[k].keep)::lC bl l0 l1::stC bs es[k]::Hs) w:=hw.arr;refine ⟨rfl,Ziw ((hp.ext e1).ext e3) (r.crash es[k].keep) (dw.crash es[k].keep) (Zos r.inv) (by omega) (by omega) hw λ wp e xp f w h=>⟨⟨k + 1,m,by rw [Zg (by omega) (by omega)];omega,by omega,by omega,?_⟩,by dsimp only;rw [Zg (by omega) (by omega)];omega⟩⟩;have h:=Zuw (Hs':=lC bl l0 l1::Hs) (λ R w h=>h.cons λ _ h=>h.drop) h;obtain ⟨he,h⟩:=h;refine OS.mono (K:=10 + 3 * k + 2 * m + 3) ⟨he,h.imp (λ⟨g1,g2,R4,a4,b4,g3,g4⟩=>⟨g1,g2,R4,a4,b4,e3.trans g3,g4⟩) λ⟨g1,g2,g3,g4,R4,a4,b4,x,s,sg,ds,s2,sg2,sh2,ds2,g5,g6⟩=>⟨g1,g2,g3,g4,R4,a4,b4,x,s,sg,ds,s2,sg2,sh2,ds2,e3.trans g5,g6⟩⟩ (by omega)
 have hdrop:∀ (R:Cx) (w:World),Sat R (stC bs es[k]::lC bl l0 l1::Hs) w->Sat R (lC bl l0 l1::Hs) w:=λ _ _ h=>h.drop;obtain ⟨he,hh⟩:=h;rcases hh with ⟨rfl,rfl,h9⟩|⟨p,u,rfl,rfl,h9⟩
 ·exact Br.t rfl ⟨⟨k + 1,m,by rw [Zg (by omega) (by omega)];omega,by omega,by omega,he,.inl ⟨rfl,rfl,(Zqg hdrop h9).mono (by omega)⟩⟩,by dsimp only;rw [Zg (by omega) (by omega)];omega⟩
 ·refine Br.f rfl ⟨es[k].d,es[k].n,es[k].most,es[k].sl,es[k].sk,At.own (eqS hw2) (by exact ⟨rfl,rfl,rfl,rfl,rfl,trivial⟩),?_⟩
  clear hw2 ex2;refine (ZsN (hp.ext e1) (hent.ext e1) hnb (by omega) h9).use ?_;clear h9;rintro _ w ⟨rfl,h⟩;refine ⟨_,rfl,(Zsv h (by omega)).use ?_⟩;clear h;rintro _ w ⟨rfl,h⟩;refine ⟨_,rfl,(ZrM h (by omega)).use ?_⟩;clear h;rintro _ w ⟨rfl,h⟩;refine ⟨_,rfl,Br.f rfl (Br.f rfl (Br.f rfl ⟨⟨k + 1,m + es[k].dl.length,by rw [Zg (by omega) (by omega)];omega,by omega,by omega,he,.inr ⟨p,u,rfl,rfl,(ZpT hdrop h).mono (by omega)⟩⟩,by dsimp only;rw [Zg (by omega) (by omega)];omega⟩))⟩
theorem Zh3 {A:List Int} (hA:A.length=2) {sl:Sl} {es:List StE} (hr:StR R sl es) (hq:∀ e∈es,-9223372036854775808<=e.n/\e.n<9223372036854775808) (hp:Zec R) (hw:Sat R Hs w):
  Zq prog 7 #[.agg (A.map (Value.int .i64)).toArray,.slice sl.a sl.len sl.cap] w λ v w'=>v=.bool true/\Sat R Hs w':=by
 match A,hA with
 |[x,y],_=>exact Zje hr hq hp hw
end
end Go.Proofs.YtkfedbncmfnpnaaGreatDoor
