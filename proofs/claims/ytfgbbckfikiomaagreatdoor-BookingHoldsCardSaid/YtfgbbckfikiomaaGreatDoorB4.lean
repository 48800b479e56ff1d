/- A flight, plain: Auto; its state. Condition: none. -/
import Derived.Test.YtfgbbckfikiomaaGreatDoorB3
import Derived.Test.YtfgbbckfikiomaaGreatDoorB2
set_option linter.unusedVariables false
namespace Go.Proofs.YtfgbbckfikiomaaGreatDoor
section
open Go Go.VC Tryz
theorem ZnF {u u':Nat->Bool} {x:Int} (h:∀ j:Nat,u' j=true->u j=true\/(j:Int)=x):∀ N:Nat,(Zat u N).length<=(Zat u' N).length + (if x<N/\0<=x then 1 else 0)
 |0=>by simp [Zat]
 |N + 1=>by
  have ih:=ZnF h N;rw [ZdH,ZdH];by_cases e:u N=true
  ·rw [if_pos e]
   split at ih<;>split<;>split<;>omega
  ·rw [if_neg e]
   by_cases e2:u' N=true
   ·rw [if_pos e2]
    have e3:(N:Int)=x:=(h N e2).resolve_left e;rw [if_neg (by omega)] at ih;rw [if_pos (by omega)];omega
   ·rw [if_neg e2]
    split at ih<;>split<;>omega
theorem ZnG:∀ (T:List Int) (N:Nat),N<=(Zat (Za8 T) N).length + T.length
 |[],N=>by
  have key:∀ N:Nat,(Zat (Za8 []) N).length=N:=λ N=>by
   induction N with
   |zero=>rfl
   |succ N ih=>rw [ZdH,ih];simp [Za8]
  rw [key];omega
 |x::T,N=>by
  have ih:=ZnG T N;have h1:=ZnF (u:=Za8 T) (u':=Za8 (x::T)) (x:=x) (λ j hj=>by
   unfold Za8 at hj ⊢;rw [decide_eq_true_eq] at hj ⊢;rcases List.mem_cons.1 hj with h|h
   ·exact .inr h
   ·exact .inl h) N
  rw [List.length_cons];split at h1<;>omega
theorem Zx6 {n:Int} {g taken:List Int} {many:Int}:∀ x∈(Zal n g taken many).1,(0<=x/\x<ZaL n g)/\x ∉ taken:=by
 intro x hx;have hb:=Zcp n g;have nat:∀ j:Nat,j<(ZaL n g).toNat->Za8 taken j=false->(0<=(j:Int)/\(j:Int)<ZaL n g)/\(j:Int) ∉ taken:=λ j h1 h2=>by
  refine ⟨by omega,?_⟩;unfold Za8 at h2;exact of_decide_eq_false h2
 unfold Zal at hx;split at hx
 ·cases hx
 rename_i hm;obtain ⟨j,hj,rfl⟩:=List.mem_map.1 hx;unfold Zen at hj;split at hj
 ·rename_i i hfi
  have h1:=List.find?_some hfi;have h2:=List.mem_range.1 (List.mem_of_find?_eq_some hfi);have h3:many.toNat<=Zfw (Za8 taken) (zF g) (i + 1):=by rw [beq_iff_eq.1 h1];exact Nat.le_refl _
  obtain ⟨h4,h5⟩:=Zp2.1 h3;unfold Zkh at hj;obtain ⟨t,ht,rfl⟩:=List.mem_map.1 hj;have ht:=List.mem_range.1 ht;exact nat _ (by omega) (h5 _ (by omega) (by omega)).1
 ·split at hj
  ·cases hj
  ·obtain ⟨i,hi⟩:=List.getElem?_of_mem (List.mem_of_mem_take hj)
   obtain ⟨h1,h2,_⟩:=ZjS hi;exact nat j h1 h2
theorem Zt9 {n:Int} {g taken:List Int} {many:Int} (h:(Zal n g taken many).2=0):((Zal n g taken many).1.length:Int)=many:=by
 unfold Zal at h ⊢;split at h
 ·cases h
 rename_i hm;rw [if_neg hm];rw [List.length_map];dsimp only at h;unfold Zen at h ⊢;generalize (List.range (ZaL n g).toNat).find? (λ j=>Zfw (Za8 taken) (zF g) (j + 1)==many.toNat)=o at h ⊢;cases o with
 |some i=>
  dsimp only;rw [Zgy];omega
 |none=>
  dsimp only at h ⊢;split at h
  ·cases h
  ·rename_i h2
   rw [if_neg h2,List.length_take];omega
theorem Zx5 {n:Int} {g taken:List Int} {many:Int} (h1:1<=many) (h2:many + taken.length<=ZaL n g):(Zal n g taken many).2=0:=by
 have hb:=Zcp n g;unfold Zal;rw [if_neg (by omega)];dsimp only;unfold Zen;split
 ·rfl
 ·rw [if_neg]
  have:=ZnG taken (ZaL n g).toNat;omega
theorem Zsj {n:Int} {g a b:List Int} {many:Int} (h:∀ x,x∈a↔x∈b):Zal n g a many=Zal n g b many:=by
 have:Za8 a=Za8 b:=by
  funext j
  unfold Za8;rw [decide_eq_decide];exact h _
 unfold Zal;rw [this]
variable {f:PF} {r:RF}
theorem Zks:∀ {L:List ZD},(∀ h∈L,(h.seats.length:Int)<=h.many)->((Zz L).length:Int)<=ZlS L
 |[],_=>Int.le_refl _
 |h::L,hf=>by
  have ih:=Zks λ x hx=>hf x (List.mem_cons_of_mem _ hx);have h1:=hf h List.mem_cons_self;show ((h.seats++Zz L).length:Int)<=h.many + ZlS L;rw [List.length_append];omega
theorem ZpB {A B:List ZD} (h:A.Perm B):ZlS A=ZlS B:=by
 induction h with
 |nil=>rfl
 |cons x _ ih=>simp only [ZlS,ih]
 |swap x y l=>simp only [ZlS];exact Int.add_left_comm _ _ _
 |trans _ _ a b=>exact a.trans b
theorem ZaA.tot (g:ZaA r):ZlS r.L<=ZaL r.rows r.grps:=by
 rw [<-Zkq (n:=r.lims.length) λ h hh=>(g.each h hh).cls,<-g.l0];have hl:=(Zaa.1 (ZJ.1 g.nest).1).1.1;exact ((ZJ.1 g.nest).2.2 0 (by omega)).2
theorem Zq6:∀ {L:List ZD},(∀ h∈L,1<=h.many)->(L.length:Int)<=ZlS L/\∀ h∈L,h.many<=ZlS L
 |[],_=>⟨Int.le_refl _,by simp⟩
 |h::L,hm=>by
  obtain ⟨i1,i2⟩:=Zq6 λ x hx=>hm x (List.mem_cons_of_mem _ hx);have h1:=hm h List.mem_cons_self;have e:ZlS (h::L)=h.many + ZlS L:=rfl;rw [e,List.length_cons];refine ⟨by omega,λ x hx=>?_⟩;rcases List.mem_cons.1 hx with rfl|hx
  ·omega
  ·have:=i2 x hx;omega
theorem ZaA.len (g:ZaA r):(r.L.length:Int)<=600/\∀ h∈r.L,h.many<=600:=by
 obtain ⟨h1,h2⟩:=Zq6 λ h hh=>(g.each h hh).many;have h3:=g.tot;have h4:=(Zcp r.rows r.grps).2;exact ⟨by omega,λ h hh=>by have:=h2 h hh;omega⟩
theorem ZaA.best (g:ZaA r) {A C:List ZD} {h:ZD} (hL:r.L=A++h::C) (hs:h.seats=[]):(Zal r.rows r.grps (Zz r.L) h.many).2=0:=by
 have hh:=g.each h (by rw [hL];simp);refine Zx5 hh.many ?_;have h1:=g.tot;have p:r.L.Perm (h::(A++C)):=by rw [hL];exact List.perm_middle
 rw [ZpB p] at h1;have e1:ZlS (h::(A++C))=h.many + ZlS (A++C):=rfl;have e2:(Zz r.L).length=(Zz (A++C)).length:=by
  rw [hL];unfold Zz;rw [List.flatMap_append,List.flatMap_cons,hs,List.nil_append,<-List.flatMap_append]
 have e3:=Zks (L:=A++C) λ x hx=>(g.each x (by rw [hL];exact Zjz hx)).few;omega
theorem Zm2 (t:Tie f r) (g:ZaA r) (o:Int):
  (Zgt f o).2=(Zap r o).2/\Tie (Zgt f o).1 (Zap r o).1/\ZaA (Zap r o).1/\((Zap r o).2.2=0\/(Zap r o).2.2=2\/(Zap r o).2.2=7):=by
 unfold Zgt Zap;rw [t.get g.rise];cases hg:Zb9 o r.L with
 |none=>exact ⟨rfl,t,g,.inr (.inl rfl)⟩
 |some h=>
  obtain ⟨A,C,hL,hA,rfl⟩:=ZbK hg;have hh:=g.each h (by rw [hL];simp);dsimp only;split
  ·exact ⟨rfl,t,g,.inr (.inr rfl)⟩
  rename_i hs;have hs:h.seats=[]:=List.length_eq_zero_iff.1 (by omega);have e:Zal f.rows f.grps (f.own.map (·.1)) h.many=Zal r.rows r.grps (Zz r.L) h.many:=by
   rw [t.rows,t.grps];exact Zsj λ x=>by rw [<-t.taken,Zd6]
  have hb:=g.best hL hs;have hin:=Zx6 (n:=r.rows) (g:=r.grps) (taken:=Zz r.L) (many:=h.many);have hri:=ZlL (n:=r.rows) (g:=r.grps) (taken:=Zz r.L) (many:=h.many);have hct:=Zt9 hb;rw [if_pos hb,e,show ZdD f.rows f.grps=ZdD r.rows r.grps by rw [t.rows,t.grps]];have hset:ZpY h.owner { h with seats:=(Zal r.rows r.grps (Zz r.L) h.many).1 } r.L=A++{ h with seats:=(Zal r.rows r.grps (Zz r.L) h.many).1 }::C:=by rw [hL];exact ZeU rfl hA
  rw [hset,hb];generalize (Zal r.rows r.grps (Zz r.L) h.many).1=l at *;obtain ⟨p1,p2⟩:=ZoA (o:=h.owner) (l:=l) t.nod;refine ⟨rfl,ZlY (h':={ h with seats:=l }) t g hL hA rfl rfl rfl (λ x hx=>.inr (hin x hx).2) p1 λ x=>?_,ZjN (h':={ h with seats:=l }) g hL rfl rfl rfl hri ?_ λ x hx=>.inr ⟨(hin x hx).2,(hin x hx).1⟩,.inl rfl⟩
  ·rw [p2,hs]
   rw [if_neg (by simp:¬ x∈([]:List Int))]
  ·show (l.length:Int)<=h.many
   omega
theorem ZmZ (t:Tie f r) (g:OwR r.L):(f.hs.map (·.1)).Perm (r.L.map ZD.owner):=by
 have e:f.hs.map (·.1)=(f.hs.map (·.2)).map ZD.owner:=by
  rw [List.map_map];exact List.map_congr_left λ e he=>(t.key e he).symm
 rw [e];exact t.hs.map _
theorem ZsP (t:Tie f r) (g:OwR r.L):Zgp (f.hs.map (·.1))=r.L.map ZD.owner:=by
 rw [ZdQ (ZmZ t g)];unfold Zgp;refine List.mergeSort_of_pairwise ?_;rw [List.pairwise_map];exact g.imp λ h=>by simp only [decide_eq_true_eq];omega
theorem ZgM (t:Tie f r) (g:OwR r.L):Zeo f=r.L:=by
 unfold Zeo;rw [ZsP t g,List.map_map];have key:∀ h∈r.L,(Zep f ∘ ZD.owner) h=h:=λ h hh=>by
  show (ZH h.owner f.hs).getD ZyF=h;rw [t.get g,(ZgE g.ne).2 ⟨hh,rfl⟩];rfl
 rw [List.map_congr_left key,List.map_id']
theorem ZsQ (t:Tie f r):ZiA f=Zn r:=by
 unfold ZiA Zn;rw [t.lims,t.sold]
theorem Zn8 (t:Tie f r) (g:OwR r.L) (o:Int):ZeI f o=Zbt r o:=by
 unfold ZeI Zbt;rw [t.get g,t.rows,t.grps]
 try (cases Zb9 o r.L<;>rfl)
theorem Tie.nodK (t:Tie f r) (g:OwR r.L):(f.hs.map (·.1)).Nodup:=by
 refine ((ZmZ t g).nodup_iff).2 ?_;rw [List.nodup_iff_pairwise_ne,List.pairwise_map];exact g.ne
theorem Tie.mem (t:Tie f r) {e:Int × ZD} (he:e∈f.hs):e.2∈r.L:=t.hs.mem_iff.1 (List.mem_map.2 ⟨e,he,rfl⟩)
theorem Tie.ownIn (t:Tie f r) (g:ZaA r):∀ k∈f.own.map (·.1),0<=k/\k<ZaL r.rows r.grps:=λ k hk=>by
 obtain ⟨o,ho⟩:=Option.isSome_iff_exists.1 (Zd6.2 hk);obtain ⟨h,hh,_,hs⟩:=(t.own k o).1 ho;exact (g.each h hh).seats k hs
theorem Zjr:∀ (N:Nat) {l:List Int},l.Nodup->(∀ x∈l,0<=x/\x<N)->l.length<=N
 |0,[],_,_=>Nat.le_refl _
 |0,x::l,_,hb=>by have:=hb x List.mem_cons_self;omega
 |N + 1,l,h,hb=>by
  by_cases hm:(N:Int)∈l
  ·have h1:=Zjr N (h.erase (N:Int)) λ x hx=>by
    have h2:=(h.mem_erase_iff).1 hx;have:=hb x h2.2;have:=h2.1;omega
   rw [List.length_erase_of_mem hm] at h1;omega
  ·have h1:=Zjr N h λ x hx=>by
    have:=hb x hx;have:x≠N:=λ e=>hm (by rw [<-e];exact hx);omega
   omega
theorem Tie.bounds (t:Tie f r) (g:ZaA r):f.hs.length<=600/\f.own.length<=600/\f.lims.length<=8/\f.sold.length<=8/\f.grps.length<=4/\(∀ e∈f.hs,Zpq e.2.seats/\e.2.seats.length<=600)/\(∀ k∈f.hs.map (·.1),1<=k/\k<=28629151):=by
 have hl:=g.len;have h1:=t.hs.length_eq;rw [List.length_map] at h1;have h2:=Zjr (ZaL r.rows r.grps).toNat t.nod λ x hx=>by have:=t.ownIn g x hx;omega
 rw [List.length_map] at h2;have h3:=Zcp r.rows r.grps;have h4:=(Zaa.1 (ZJ.1 g.nest).1).1.2;have h5:=(Zab.1 g.lay).1;refine ⟨by omega,by omega,by rw [t.lims];exact h4,by rw [t.sold];show (Z4 _ _).length<=8;rw [ZaM];exact h4,by rw [t.grps];omega,λ e he=>?_,λ k hk=>?_⟩
 ·have hh:=g.each _ (t.mem he)
  have:=hl.2 _ (t.mem he);exact ⟨hh.rise,by have:=hh.few;omega⟩
 ·obtain ⟨e,he,rfl⟩:=List.mem_map.1 hk
  have hh:=g.each _ (t.mem he);have:=hh.owner;rw [t.key e he] at this;exact this
def Zjc (num rows:Int) (grps lims:List Int):RF:=⟨num,rows,grps,lims,[]⟩
theorem ZnB {num rows:Int} {grps:List Int} {parts:List Nat} (h:Zjs num rows grps parts):ZaA (Zjc num rows grps (Z7 (ZaL rows grps) parts).1):=by
 obtain ⟨h1,h2,h3,h4⟩:=h;obtain ⟨l1,l2⟩:=Zq2 h4;refine ⟨⟨h1,h2⟩,h3,?_,l2,List.Pairwise.nil,λ h hh=>(by cases hh),List.Pairwise.nil⟩;show Z1 _ (Z4 _ [])=true;rw [ZeT];exact Zhd l1
theorem ZpF {num rows:Int} {grps lims:List Int}:Tie (Zag num rows grps lims) (Zjc num rows grps lims):=by
 refine ⟨rfl,rfl,rfl,rfl,?_,List.Perm.refl _,λ e he=>(by cases he),λ n o=>?_,List.nodup_nil⟩
 ·show List.replicate _ 0=Z4 _ []
  rw [ZeT];rfl
 ·constructor
  ·intro h;cases h
  ·rintro ⟨h,hh,_⟩;cases hh
end
section
open Go Go.VC Tryz
variable {R R':Cx} {Hs Rest:List HP} {w:World}
section
variable {γ:Type} (f:ZD × Sl->γ)
theorem ZmW (h:ZD) (t:Sl):∀ (k:Nat) (L:List ZD) (ts:List Sl),ts.length=L.length->k<=L.length->((L.take k++h::L.drop k).zip (ts.take k++t::ts.drop k)).map f=((L.zip ts).map f).take k++f (h,t)::((L.zip ts).map f).drop k
 |0,L,ts,_,_=>by simp
 |k + 1,[],ts,_,hk=>by simp at hk
 |k + 1,x::L,[],hl,_=>by simp at hl
 |k + 1,x::L,y::ts,hl,hk=>by
  have ih:=ZmW h t k L ts (by simpa using hl) (by simpa using hk);simp only [List.take_succ_cons,List.drop_succ_cons,List.cons_append,List.zip_cons_cons,List.map_cons,ih]
end
theorem Zbl.ins {L:List ZD} {ts:List Sl} {k:Nat} {h:ZD} {t:Sl} (hl:ts.length=L.length) (hk:k<=L.length) (hw:Sat R (ZA t (Zd h.seats)::Zbl L ts::Hs) w):Sat R (Zbl (L.take k++h::L.drop k) (ts.take k++t::ts.drop k)::Hs) w:=by
 refine Sat.star.2 ?_;rw [show Za9 (L.take k++h::L.drop k) (ts.take k++t::ts.drop k)=(Za9 L ts).take k++ZA t (Zd h.seats)::(Za9 L ts).drop k from ZmW (λ x=>ZA x.2 (Zd x.1.seats)) h t k L ts hl hk]
 have hw:Sat R (ZA t (Zd h.seats)::(Za9 L ts++Hs)) w:=hw.cons λ _ h=>Sat.star.1 h;refine hw.perm ?_;rw [List.append_assoc,List.cons_append];refine (List.Perm.trans ?_ List.perm_middle.symm);rw [<-List.append_assoc,List.take_append_drop]
end
section
open Go Go.VC Tryz
variable {R:Cx} {Hs Rest:List HP} {w:World}
theorem HsR.row {s:Sl} {L:List ZD} {ts:List Sl} {S:World->Prop} {k:Nat} (hr:HsR R s L ts) (hS:∀ w,S w->Sat R Hs w) (hk:k<L.length) (hk':k<ts.length) {F:Addr->Prop}
  (f:∀ a:Addr,At S (Addr.add a (Za6 k 4)) (ZhV L[k] ts[k])->F a):Rng (k:Int) s.len (Zc s.a F):=by
 have hl:=Zbs hr.len;refine (hr.rows.reads hS).rng (k:=k) (by omega) λ b off ha hat=>f _ ?_;rw [ZhF];refine hat 0 _ ?_;rw [Zm9 hk hk'];exact ⟨rfl,rfl,rfl,rfl,trivial⟩
def ZvU (f:PF):List Int:=Zuy f.num f.rows f.grps f.lims (Zeo f)
theorem ZiG (f:PF):(Zeo f).length=f.hs.length:=by unfold Zeo Zgp;rw [List.length_map,List.length_mergeSort,List.length_map]
structure ZuJ (f:PF):Prop where
 num:0<=f.num/\f.num<9223372036854775808
 rows:0<=f.rows/\f.rows<9223372036854775808
 grps:Zef f.grps
 lims:Zef f.lims
 gl:f.grps.length<=1000
 ll:f.lims.length<=1000
 hs:∀ h∈Zeo f,Zgo h
 hl:f.hs.length<=10000
theorem Zlz {p:Nat} {f:PF} (sm:ZuJ f) (hu:(f.hs.map (·.1)).Nodup) (hn:∀ k∈f.hs.map (·.1),-1000000000<=k/\k<=1000000000) (hR:∀ e∈f.hs,e.2.seats.length<=1000000) (hw:Sat R (Zl p f::Hs) w):
  Zm prog 53 #[.pointer (some ⟨p,0,none⟩)] w λ v w'=>∃ t:Sl,v=.slice t.a t.len t.cap/\Sat R (Own t 5 (b8 (ZvU f))::Zl p f::Hs) w':=by
 obtain ⟨hm,om,sg,sl,ss,E,R',hE,ee,rg,rl,_,hw,back⟩:=Sat.flightO hw;have rgo:RoI R' sg f.grps:=rg.ro (by rw [List.length_map];have:=sm.gl;omega);have rlo:RoI R' sl f.lims:=rl.ro (by rw [List.length_map];have:=sm.ll;omega);have hel:(ZS E).length=f.hs.length:=by rw [<-hE];simp [ZS,hEr]
 apply Zze
 suffices H:∀ K:Value->World->Prop,(∀ (t:Sl) w',Sat R (Own t 5 (b8 (ZvU f))::Zl p f::Hs) w'->K (.slice t.a t.len t.cap) w')->B53 (some ⟨p,0,none⟩) K w from
  H _ λ t w' h=>⟨t,rfl,h⟩
 intro K hK;refine Zb hw λ pb w hw=>Zb hw λ bp w hw=>?_;have hw:Sat R' (pts bp (.cells [.nilFunc].toArray 94 (0,0))::lp pb ⟨none,0,0⟩::FO p hm om sg sl ss E f Hs) w:=hw;refine Za hw (by kernel_rfl) rfl (by simp [Value.cells]) λ w hw=>?_;have hw:Sat R' (ZhW bp pb::lp pb ⟨none,0,0⟩::FO p hm om sg sl ss E f Hs) w:=hw;have hw:Sat R' (Zgm pb []::ZhW bp pb::FO p hm om sg sl ss E f Hs) w:=Sat.outB.2 ⟨⟨none,0,0⟩,hw.swap.cons λ _ h=>Own.nil h⟩;have l2:(Zv [f.num,f.rows]).length<=18:=Zae (by intro y hy;have:=sm.num;have:=sm.rows;simp at hy;omega);have lg:=ZbX sm.grps (by have:=sm.gl;omega);have ll:=ZbX sm.lims (by have:=sm.ll;omega);have l1:(Zv [(f.hs.length:Int)]).length<=9:=Zae (by intro y hy;have:=sm.hl;simp at hy;omega);have:=sm.gl;have:=sm.ll;have:=sm.hl;refine ZE (Sat R' [ZhW bp pb,pts p (ZY f sg sl ss hm om),VC.tru]) hw (λ w hw=>?_) λ w hw=>?_
 ·have hw:Sat R' (ZhW bp pb::pts p (ZY f sg sl ss hm om)::Zgm pb []::MapAt hm (ZS E)::MapAt om (Zbi f.own)::ZL E::Hs) w:=hw.arr
  exact hw.cons λ _ h=>h.restTru2
 refine ⟨Zu6 pb,oS,Zc.mk rfl ⟨f.num,by rw [Zy];exact oS,Zc.mk rfl ⟨f.rows,oS,?_⟩⟩⟩;refine Zb hw λ bn w hw=>⟨?_,?_⟩
 ·have hw:Sat R' (ZhW bp pb::pts p (ZY f sg sl ss hm om)::Zgm pb []::MapAt hm (ZS E)::MapAt om (Zbi f.own)::ZL E::Hs) w:=hw.drop.arr
  exact hw.cons λ _ h=>h.restTru2
 have hw:Sat R' (pts bn (.cells ([f.num,f.rows].map (Value.int .i64)).toArray 3 (0,0))::Zgm pb []::ZhW bp pb::FO p hm om sg sl ss E f Hs) w:=hw;refine (Zjm (n:=2) (by rfl) (by intro y hy;have:=sm.num;have:=sm.rows;simp at hy;omega) (by simp) hw).mono ?_;rintro _ w ⟨rfl,hw⟩;rw [List.nil_append] at hw;refine ⟨rfl,?_,?_⟩
 ·have hw:Sat R' (ZhW bp pb::pts p (ZY f sg sl ss hm om)::Zgm pb (Zv [f.num,f.rows])::MapAt hm (ZS E)::MapAt om (Zbi f.own)::ZL E::Hs) w:=hw.arr
  exact hw.cons λ _ h=>h.restTru2
 refine Zc.mk rfl ⟨sg,oA hw,?_⟩;refine (ZfX sm.grps (by omega) rgo hw.swap).use ?_;rintro _ w ⟨rfl,hw⟩;refine ⟨rfl,Zc.mk rfl ⟨sl,oA hw,?_⟩⟩;refine (ZfX sm.lims (by rw [List.length_append];omega) rlo hw).use ?_;rintro _ w ⟨rfl,hw⟩;refine ⟨rfl,?_⟩;have hb1:(Zv [f.num,f.rows]++ZcN f.grps++ZcN f.lims).length<=20000:=by rw [List.length_append,List.length_append];omega
 have hfin:Zv [f.num,f.rows]++ZcN f.grps++ZcN f.lims++Zv [(f.hs.length:Int)]++ZaI (Zeo f)=ZvU f:=by
  unfold ZvU Zuy;rw [ZiG]
 generalize hpre:Zv [f.num,f.rows]++ZcN f.grps++ZcN f.lims=pre at *;refine ZE (Sat R' [ZhW bp pb,pts p (ZY f sg sl ss hm om),MapAt hm (ZS E),VC.tru]) hw (λ w hw=>?_) λ w hw=>?_
 ·have hw:Sat R' (ZhW bp pb::pts p (ZY f sg sl ss hm om)::MapAt hm (ZS E)::Zgm pb pre::MapAt om (Zbi f.own)::ZL E::Hs) w:=hw.arr
  exact hw.cons λ _ h=>h.cons λ _ h=>h.restTru2
 refine ⟨Zu6 pb,oS,Zc.mk rfl ⟨some hm,oS,f.hs.length,λ w' h=>?_,?_⟩⟩
 ·rw [<-hel]
  exact MapAt.len (by kernel_rfl) (h.take (MapAt hm (ZS E)))
 refine Zb hw λ bn w hw=>⟨?_,?_⟩
 ·have hw:Sat R' (ZhW bp pb::pts p (ZY f sg sl ss hm om)::MapAt hm (ZS E)::Zgm pb pre::MapAt om (Zbi f.own)::ZL E::Hs) w:=hw.drop.arr
  exact hw.cons λ _ h=>h.cons λ _ h=>h.restTru2
 have hw:Sat R' (pts bn (.cells ([(f.hs.length:Int)].map (Value.int .i64)).toArray 3 (0,0))::Zgm pb pre::ZhW bp pb::FO p hm om sg sl ss E f Hs) w:=hw.cons λ _ h=>h.swap;refine (Zjm (n:=1) (by rfl) (by intro y hy;simp at hy;omega) (by simp;omega) hw).mono ?_;rintro _ w ⟨rfl,hw⟩;refine ⟨rfl,?_,?_⟩
 ·have hw:Sat R' (ZhW bp pb::pts p (ZY f sg sl ss hm om)::MapAt hm (ZS E)::Zgm pb (pre++Zv [(f.hs.length:Int)])::MapAt om (Zbi f.own)::ZL E::Hs) w:=hw.arr
  exact hw.cons λ _ h=>h.cons λ _ h=>h.restTru2
 have hw:Sat R' (FO p hm om sg sl ss E f (Zgm pb (pre++Zv [(f.hs.length:Int)])::ZhW bp pb::Hs)) w:=hw.arr;have hw:=Sat.flightC hE (back _ _ hw);refine (Zhs hu hn (by omega) hR hw).use ?_;rintro _ w ⟨t,rfl,hw⟩;refine ⟨t,rfl,?_⟩;have hb2:(pre++Zv [(f.hs.length:Int)]).length<=20010:=by rw [List.length_append];omega
 generalize pre++Zv [(f.hs.length:Int)]=pre2 at *;have hLl:=ZiG f;have hHs:=sm.hs;generalize Zeo f=L at *;obtain ⟨R2,ts,e2,hr,hw⟩:=ZaV.leak hw;have htl:=hr.len;have hrl:=hr.rows.len;rw [Zbs htl] at hrl;refine ⟨λ i w=>∃ j:Nat,i=j/\j<=L.length/\Sat R2 (Zgm pb (pre2++ZaI (L.take j))::ZhW bp pb::Zl p f::Hs) w,λ i _=>L.length - i.toNat,⟨0,rfl,by omega,?_⟩,?_⟩
 ·rw [show pre2++ZaI (L.take 0)=pre2 by simp [ZaI]]
  exact hw.arr
 clear hw;rintro _ _ w ⟨j,rfl,hj,hw⟩;refine Br.d (λ h=>?_) (λ h=>?_)
 ·have hj2:j<L.length:=by omega
  have hj3:j<ts.length:=by omega
  have hsm:=hHs L[j] (List.getElem_mem _);have hhl:(ZaI (L.take j)).length<=9036 * 10000:=by
   have:=ZfO (L:=L.take j) λ x hx=>hHs x (List.mem_of_mem_take hx);rw [List.length_take] at this;have:min j L.length<=10000:=by omega
   omega
  have h3:(Zv [L[j].owner,L[j].cls,L[j].many]).length<=27:=Zae (Zb3 hsm.three);have hsn:=hsm.n;refine hr.row (eqS hw) hj2 hj3 λ a ha=>⟨L[j].owner,L[j].cls,L[j].many,ts[j],ha,?_⟩;refine Zb hw λ bh w hw=>?_;have hw:Sat R2 (pts bh (Zx ⟨0,0,0,[]⟩ ⟨none,0,0⟩)::Zgm pb (pre2++ZaI (L.take j))::ZhW bp pb::Zl p f::Hs) w:=hw;refine Za hw (by kernel_rfl) rfl (by simp [Value.cells]) λ w hw=>?_;have hw:=hw.re (pts bh (Zx L[j] ts[j]));refine ⟨Zu6 pb,oA hw,L[j].owner,oA hw,L[j].cls,oA hw,L[j].many,oA hw,?_⟩;refine Zb hw λ bn w hw=>?_;have hw:Sat R2 (pts bn (.cells ([L[j].owner,L[j].cls,L[j].many].map (Value.int .i64)).toArray 3 (0,0))::Zgm pb (pre2++ZaI (L.take j))::ZhW bp pb::pts bh (Zx L[j] ts[j])::Zl p f::Hs) w:=hw.cons λ _ h=>h.arr;refine (Zjm (n:=3) (by rfl) hsm.three (by rw [List.length_append];simp;omega) hw).mono ?_;rintro _ w ⟨rfl,hw⟩;refine ⟨rfl,ts[j],oA hw,?_⟩;refine (ZfX hsm.s (by rw [List.length_append,List.length_append];omega) ((hr.seats j hj2 hj3).ro (by rw [List.length_map];omega)) hw.swap).use ?_;rintro _ w ⟨rfl,hw⟩;refine ⟨rfl,?_⟩;rw [Zh (by omega) (by omega)];refine ⟨⟨j + 1,by omega,by omega,?_⟩,by dsimp only;omega⟩;rw [Zmy hj2,<-List.append_assoc];unfold Zek;rw [<-List.append_assoc];have hw:Sat R2 (pts bh (Zx L[j] ts[j])::Zgm pb (pre2++ZaI (L.take j)++Zv [L[j].owner,L[j].cls,L[j].many]++ZcN L[j].seats)::ZhW bp pb::Zl p f::Hs) w:=hw.arr;exact hw.drop
 ·rw [List.take_of_length_le (by omega),hfin] at hw
  have hw:=e2.back hw;obtain ⟨s0,hw⟩:=Sat.outB.1 hw;refine ⟨s0,oA hw,hK s0 w ?_⟩;have hw:Sat R (ZhW bp pb::lp pb s0::Own s0 5 (b8 (ZvU f))::Zl p f::Hs) w:=hw.arr;exact hw.drop.drop
end
section
open Go Go.VC Tryz
variable {R:Cx} {Hs Rest:List HP} {w:World}
def Zby:Nat->Int->Rd->List Int × Rd
 |0,_,r=>([],r)
 |k + 1,most,r=>((Ze most r).1::(Zby k most (Ze most r).2).1,(Zby k most (Ze most r).2).2)
theorem Ziw:∀ (k:Nat) (most:Int) (r:Rd),Zby (k + 1) most r=((Zby k most r).1++[(Ze most (Zby k most r).2).1],(Ze most (Zby k most r).2).2)
 |0,_,_=>rfl
 |k + 1,most,r=>by
  have:=Ziw k most (Ze most r).2;show ((Ze most r).1::(Zby (k + 1) most (Ze most r).2).1,(Zby (k + 1) most (Ze most r).2).2)=_;rw [this];rfl
theorem Zhf:∀ (k:Nat) (most:Int) (r:Rd),(Zby k most r).1.length=k
 |0,_,_=>rfl
 |k + 1,most,r=>by show (_::(Zby k most (Ze most r).2).1).length=_;rw [List.length_cons,Zhf k]
theorem Zjv:∀ (k:Nat) (most:Int) {r:Rd},(∀ x∈r.bs,0<=x/\x<256)->∀ x∈(Zby k most r).2.bs,0<=x/\x<256
 |0,_,_,h=>h
 |k + 1,most,_,h=>Zjv k most (Zk h)
theorem Zlc:∀ (k:Nat) {most:Int} {r:Rd},0<=most->(∀ x∈r.bs,0<=x/\x<256)->∀ x∈(Zby k most r).1,0<=x/\x<=most
 |0,_,_,_,_=>by simp [Zby]
 |k + 1,most,r,hm,h=>λ x hx=>by
  rcases List.mem_cons.1 hx with rfl|hx
  ·exact Zw h hm
  ·exact Zlc k hm (Zk h) x hx
def Zb7 (most each:Int) (r:Rd):List Int × Rd:=Zby (Ze most r).1.toNat each (Ze most r).2
theorem Ze3 {most each:Int} {r:Rd} (h:∀ x∈r.bs,0<=x/\x<256):∀ x∈(Zb7 most each r).2.bs,0<=x/\x<256:=Zjv _ _ (Zk h)
theorem Zhh {most each:Int} {r:Rd} (h:∀ x∈r.bs,0<=x/\x<256) (hm:0<=most) (he:0<=each):(∀ x∈(Zb7 most each r).1,0<=x/\x<=each)/\((Zb7 most each r).1.length:Int)<=most:=by
 refine ⟨Zlc _ he (Zk h),?_⟩;unfold Zb7;rw [Zhf];have:=Zw h hm;omega
theorem ZrE {br r:Nat} {rd:Rd} {most:Int} (h0:0<=most) (h1:most<9223372036854775808) (hb:∀ x∈rd.bs,0<=x/\x<256) (hw:Sat R (pts br (ZB r)::ZZ r rd::Hs) w):
  Zm prog 157 #[.int .i64 most,.pointer (some ⟨br,0,none⟩)] w λ v w'=>v=.int .i64 (Ze most rd).1/\Sat R (pts br (ZB r)::ZZ r (Ze most rd).2::Hs) w':=by
 have hv:=Zw (most:=most) hb h0;apply Zxs;refine Zc.mk rfl ⟨some ⟨r,0,none⟩,oA hw,?_⟩;rw [ZK (by omega) (by omega)];refine (ZeW (most:=most) hb hw.swap).use ?_;rintro _ w ⟨rfl,hw⟩;refine ⟨_,rfl,?_,hw.swap⟩;rw [Zh (by omega) (by omega)]
abbrev ZqM (br:Nat):Value:=.func (.func 157) #[] #[.pointer (some ⟨br,0,none⟩)]
abbrev Zcm (bn br:Nat):HP:=pts bn (.cells [ZqM br].toArray 115 (0,0))
theorem Zc1 {br r:Nat} {rd:Rd} {most:Int} (h0:0<=most) (h1:most<9223372036854775808) (hb:∀ x∈rd.bs,0<=x/\x<256) (hw:Sat R (pts br (ZB r)::ZZ r rd::Hs) w):
  ZaK prog cl (ZqM br) [.int .i64 most] w λ e w'=>e=.returned (.int .i64 (Ze most rd).1)/\Sat R (pts br (ZB r)::ZZ r (Ze most rd).2::Hs) w':=
 ZaK.mk (by kernel_rfl) ((ZrE h0 h1 hb hw).use λ v w' h=>⟨by rw [h.1],h.2⟩)
theorem ZfY {bn br r:Nat} {rd:Rd} {most each:Int} (h0:0<=most) (h1:most<1000000) (h2:0<=each) (h3:each<9223372036854775808) (hb:∀ x∈rd.bs,0<=x/\x<256) (hw:Sat R (Zcm bn br::pts br (ZB r)::ZZ r rd::Hs) w):
  Zm prog 158 #[.int .i64 most,.int .i64 each,.pointer (some ⟨bn,0,none⟩)] w λ v w'=>∃ t:Sl,v=.slice t.a t.len t.cap/\Sat R (Own t 3 (Zd (Zb7 most each rd).1)::Zcm bn br::pts br (ZB r)::ZZ r (Zb7 most each rd).2::Hs) w':=by
 apply Zxr;refine Zc.mk rfl ⟨ZqM br,oA hw,?_⟩;refine (Zc1 h0 (by omega) hb (hw.take (pts br (ZB r))|>λ h=>h.arr (Hs':=pts br (ZB r)::ZZ r rd::Zcm bn br::Hs))).mono ?_;clear hw;rintro _ w ⟨rfl,hw⟩;refine ⟨_,rfl,?_⟩;have hv:=Zw (most:=most) hb h0;have hb1:=Zk (most:=most) hb;obtain ⟨n,hn⟩:=Int.eq_ofNat_of_zero_le hv.1;have hrl:Zb7 most each rd=Zby n each (Ze most rd).2:=by unfold Zb7;rw [hn];rfl
 rw [hrl,hn];rw [hn] at hv;generalize (Ze most rd).2=rd1 at *;refine ⟨λ out i w=>∃ k:Nat,i=k/\k<=n/\Sat R (Own out 3 (Zd (Zby k each rd1).1)::pts br (ZB r)::ZZ r (Zby k each rd1).2::Zcm bn br::Hs) w,λ _ i _=>n - i.toNat,⟨0,rfl,by omega,Own.nil hw⟩,?_⟩;clear hw;rintro _ out _ w ⟨k,rfl,hk,hw⟩;refine Br.d (λ h=>?_) (λ h=>?_)
 ·refine Zc.mk rfl ⟨ZqM br,oA hw,?_⟩
  have hbk:=Zjv k each hb1;have hw:Sat R (pts br (ZB r)::ZZ r (Zby k each rd1).2::Own out 3 (Zd (Zby k each rd1).1)::Zcm bn br::Hs) w:=hw.arr;refine (Zc1 h2 h3 hbk hw).mono ?_;rintro _ w ⟨rfl,hw⟩;refine ⟨_,rfl,?_⟩;have hml:=Zhf k each rd1;have hw:Sat R (Own out 3 (Zd (Zby k each rd1).1)::pts br (ZB r)::ZZ r (Ze each (Zby k each rd1).2).2::Zcm bn br::Hs) w:=hw.arr;refine Zbn Zo6 hw (by omega) λ s' w hw=>?_;rw [Zh (by omega) (by omega)];refine ⟨⟨k + 1,by omega,by omega,?_⟩,by dsimp only;omega⟩;rw [Ziw];exact hw
 ·have:k=n:=by omega
  subst this;exact ⟨out,rfl,hw.arr⟩
def ZhU (f:PF) (o n:Int):PF:=
 match ZH o f.hs with
 |none=>f
 |some h=>{ f with hs:=ZeO o (h.put n) f.hs,own:=ZdZ n h.owner f.own }
def Zgr (o N:Int):List Int->Int->PF->PF × Bool
 |[],_,f=>(f,true)
 |n::l,last,f=>if (ZH n f.own).isSome then (f,false) else if n<=last then (f,false) else if n >= N then (f,false) else Zgr o N l n (ZhU f o n)
theorem Zfz (o N n last:Int) (l:List Int) (f:PF):Zgr o N (n::l) last f=if (ZH n f.own).isSome then (f,false) else if n<=last then (f,false) else if n >= N then (f,false) else Zgr o N l n (ZhU f o n):=rfl
def Z9 (f:PF) (h:ZD):PF × Bool:=
 if (Zbh f h.owner h.cls h.many).2≠0 then ((Zbh f h.owner h.cls h.many).1,false)
 else if (h.seats.length:Int)>h.many then ((Zbh f h.owner h.cls h.many).1,false)
 else Zgr h.owner (ZaL f.rows f.grps) h.seats (-1) (Zbh f h.owner h.cls h.many).1
theorem Zoe (f:PF) (o c m:Int):(Zbh f o c m).1.rows=f.rows/\(Zbh f o c m).1.grps=f.grps:=by
 unfold Zbh;split
 ·exact ⟨rfl,rfl⟩
 ·split
  ·exact ⟨rfl,rfl⟩
  ·split<;>exact ⟨rfl,rfl⟩
theorem ZpP {f:PF} {o c m:Int} (h:(Zbh f o c m).2=0):ZH o (Zbh f o c m).1.hs=some ⟨o,c,m,[]⟩:=by
 unfold Zbh at h ⊢;split at h
 ·cases h
 rename_i h1;split at h
 ·cases h
 rename_i h2;rw [if_neg h1,if_neg h2];split at h
 ·rename_i h3
  rw [if_pos h3];show ZH o (f.hs++_)=_;rw [Zhy,if_neg (λ hm=>h2 (Zd6.2 hm)),Zar,if_pos rfl]
 ·rename_i h3;exact absurd h h3
theorem Zjd {p:Nat} {f:PF} {h:ZD} {s:Sl} (hll:f.lims.length<=1000) (hls:f.sold.length<=1000) (hgl:f.grps.length<=1000) (hs:RoI R s h.seats) (hsl:h.seats.length<=1000000) (hw:Sat R (Zl p f::Hs) w):
  Zm prog 163 #[.pointer (some ⟨p,0,none⟩),.agg #[.int .i64 h.owner,.int .i64 h.cls,.int .i64 h.many,.slice s.a s.len s.cap]] w λ v w'=>v=.bool (Z9 f h).2/\Sat R (Zl p (Z9 f h).1::Hs) w':=by
 have hslen:=hs.len;apply Zxm
 suffices H:∀ K:Value->World->Prop,(∀ w',Sat R (Zl p (Z9 f h).1::Hs) w'->K (.bool (Z9 f h).2) w')->B163 (some ⟨p,0,none⟩) h.owner h.cls h.many s K w from
  H _ λ w' h=>⟨rfl,h⟩
 intro K hK;refine Zb hw λ bh w hw=>?_;have hw:Sat R (pts bh (Zx h s)::Zl p f::Hs) w:=hw;refine ⟨λ w=>((Zbh f h.owner h.cls h.many).2=0/\¬ (h.seats.length:Int)>h.many)/\Sat R (pts bh (Zx h s)::Zl p (Zbh f h.owner h.cls h.many).1::Hs) w,?_,?_⟩
 ·refine ⟨h.owner,oA hw,h.cls,oA hw,h.many,oA hw,?_⟩
  refine (Zh7 hll hls hw.swap).use ?_;clear hw;rintro _ w ⟨rfl,hw⟩;refine ⟨_,rfl,Br.ne (λ h1=>?_) (λ h1=>?_)⟩
  ·have e:Z9 f h=((Zbh f h.owner h.cls h.many).1,false):=by unfold Z9;rw [if_pos h1]
   rw [e] at hK;exact hK _ (hw.swap.drop)
  have hw:=hw.swap;refine ⟨s,oA hw,h.many,oA hw,?_⟩;rw [hslen];refine Br.d (λ h2=>?_) (λ h2=>⟨⟨h1,h2⟩,hw⟩);have e:Z9 f h=((Zbh f h.owner h.cls h.many).1,false):=by unfold Z9;rw [if_neg (by rw [h1];simp),if_pos h2]
  rw [e] at hK;exact hK _ hw.drop
 clear hw;rintro _ w ⟨⟨h1,h2⟩,hw⟩;have hre:Z9 f h=Zgr h.owner (ZaL f.rows f.grps) h.seats (-1) (Zbh f h.owner h.cls h.many).1:=by unfold Z9;rw [if_neg (by rw [h1];simp),if_neg h2]
 have hhas:=ZpP h1;obtain ⟨hr0,hg0⟩:=Zoe f h.owner h.cls h.many;rw [hre] at hK;generalize (Zbh f h.owner h.cls h.many).1=f0 at *;refine ⟨s,oA hw,?_⟩;refine ⟨λ last i w=>∃ (j:Nat) (f1:PF) (h1:ZD),i=j/\j<=h.seats.length/\(f1.rows=f.rows/\f1.grps=f.grps)/\ZH h.owner f1.hs=some h1/\(h1.seats.length=j/\h1.seats.Pairwise (·<·)/\∀ x∈h1.seats,x<=last)/\
  Zgr h.owner (ZaL f.rows f.grps) (h.seats.drop j) last f1=Zgr h.owner (ZaL f.rows f.grps) h.seats (-1) f0/\Sat R (pts bh (Zx h s)::Zl p f1::Hs) w,λ _ i _=>h.seats.length - i.toNat,
  ⟨0,f0,⟨h.owner,h.cls,h.many,[]⟩,rfl,by omega,⟨hr0,hg0⟩,hhas,⟨rfl,List.Pairwise.nil,λ x hx=>by cases hx⟩,rfl,hw⟩,?_⟩
 clear hw hhas hr0 hg0;rintro _ last _ w ⟨j,f1,h1',rfl,hj,⟨hr1,hg1⟩,hhas,⟨hl1,hp1,hx1⟩,hgo,hw⟩;refine Br.d (λ h3=>?_) (λ h3=>?_)
 ·have hj2:j<h.seats.length:=by omega
  rw [List.drop_eq_getElem_cons hj2,Zfz] at hgo;refine Ro.ix hs (eqS hw) j rfl hj2 ?_;generalize h.seats[j]=n at *;have bad:(f1,false)=Zgr h.owner (ZaL f.rows f.grps) h.seats (-1) f0->∀ {w},Sat R (pts bh (Zx h s)::Zl p f1::Hs) w->K (.bool false) w:=λ e w hw=>by
   rw [<-e] at hK;exact hK _ hw.drop
  obtain ⟨hm,om,sg,sl,ss,E,R',hE,ee,rg,_,_,hw,back⟩:=Sat.flightO hw.swap;have rgo:RoI R' sg f1.grps:=rg.ro (by rw [List.length_map,hg1];omega);have same:∀ {w},Sat R' (FO p hm om sg sl ss E f1 (pts bh (Zx h s)::Hs)) w->Sat R (pts bh (Zx h s)::Zl p f1::Hs) w:=λ hw=>(Sat.flightC hE (back _ _ hw)).swap;refine ⟨λ w=>(¬ (ZH n f1.own).isSome=true/\¬ n<=last/\¬ n >= ZaL f.rows f.grps)/\Sat R' (FO p hm om sg sl ss E f1 (pts bh (Zx h s)::Hs)) w,?_,?_⟩
  ·refine Zc.mk rfl ⟨some om,oA hw,(ZH n f1.own).getD 0,(ZH n f1.own).isSome,λ w' e=>by rw [show w'=w from e];exact Zni (hw.take (MapAt om (Zbi f1.own))) n true,?_⟩
   refine Br.mk (λ h4=>?_) (λ h4=>?_)
   ·rw [if_pos h4] at hgo;exact bad hgo (same hw)
   rw [if_neg (by rw [h4];simp)] at hgo;refine Br.d (λ h5=>?_) (λ h5=>?_)
   ·rw [if_pos h5] at hgo;exact bad hgo (same hw)
   rw [if_neg h5] at hgo;refine Zc.mk rfl ⟨f1.rows,sg,At.own (eqS hw) (by exact ⟨rfl,rfl,trivial⟩),?_⟩;refine (ZbM rgo hw).use ?_;clear hw;rintro _ w ⟨rfl,hw⟩;refine ⟨_,rfl,?_⟩;rw [hr1,hg1];refine Br.d (λ h6=>?_) (λ h6=>⟨⟨by rw [h4];simp,h5,h6⟩,hw⟩);rw [if_pos h6] at hgo;exact bad hgo (same hw)
  clear hw;rintro _ w ⟨⟨h4,h5,h6⟩,hw⟩;rw [if_neg h4,if_neg h5,if_neg h6] at hgo;have hgE:(ZH h.owner E).map (·.2)=some h1':=by rw [<-Zbk,hE];exact hhas
  obtain ⟨⟨b,hx⟩,hgE2,rfl⟩:=Option.map_eq_some_iff.1 hgE;obtain ⟨a,c,rfl,hna⟩:=Zan hgE2;have sx:∀ {own:List (Int × Int)} {E2:List HE} {w},ZS E2=ZS (a++(h.owner,b,hx)::c)->Sat R' (FO p hm om sg sl ss E2 { f1 with own:=own } (pts bh (Zx h s)::Hs)) w->Sat R' [pts p (ZY f1 sg sl ss hm om),pts bh (Zx h s),MapAt hm (ZS (a++(h.owner,b,hx)::c)),VC.tru] w:=λ {own E2 w} e1 hw=>by
   have hw:Sat R' (pts p (ZY f1 sg sl ss hm om)::pts bh (Zx h s)::MapAt hm (ZS E2)::MapAt om (Zbi own)::ZL E2::Hs) w:=hw.arr;rw [e1] at hw;exact hw.cons λ _ h=>h.cons λ _ h=>h.restTru2
  refine ZE (Sat R' [pts p (ZY f1 sg sl ss hm om),pts bh (Zx h s),MapAt hm (ZS (a++(h.owner,b,hx)::c)),VC.tru]) hw (λ w hw=>sx (own:=f1.own) rfl hw) λ w hw=>?_;refine Zc.mk rfl ⟨some hm,oS,h.owner,oS,some ⟨b,0,none⟩,λ w' h7=>?_,?_⟩
  ·rw [Zcq (h7.take (MapAt hm (ZS (a++(h.owner,b,hx)::c)))) h.owner false,hgE2];rfl
  refine (ZgQ (ZdR.2 hp1) (by omega) hw).use ?_;rintro _ w ⟨rfl,hw⟩;refine ⟨rfl,sx (E2:=a++(h.owner,b,hx.put n)::c) (by simp [ZS]) hw,?_⟩;have hins:ZfN n hx.seats=hx.seats++[n]:=ZgD λ x hxx=>by have:=hx1 x hxx;omega
  have hset:ZeO h.owner (hx.put n) f1.hs=hEr (a++(h.owner,b,hx.put n)::c):=by
   rw [<-hE,Zcr,Zcr,ZeV (by rw [Zbk,hna];rfl) (ZeJ h.owner)]
  have htell:ZhU f1 h.owner n={ f1 with hs:=ZeO h.owner (hx.put n) f1.hs,own:=ZdZ n hx.owner f1.own }:=by unfold ZhU;rw [hhas]
  rw [Zh (by omega) (by omega)];refine ⟨⟨j + 1,ZhU f1 h.owner n,hx.put n,by omega,by omega,?_,?_,⟨?_,?_,?_⟩,hgo,?_⟩,by dsimp only;omega⟩
  ·rw [htell];exact ⟨hr1,hg1⟩
  ·rw [htell]
   show ZH h.owner (ZeO h.owner (hx.put n) f1.hs)=_;rw [Zhw (by rw [hhas];rfl),if_pos rfl]
  ·show (ZfN n hx.seats).length=_
   rw [hins,List.length_append];simp;exact hl1
  ·show (ZfN n hx.seats).Pairwise _
   rw [hins,List.pairwise_append];exact ⟨hp1,by simp,λ x hxx y hy=>by rw [List.mem_singleton.1 hy];have:=hx1 x hxx;omega⟩
  ·intro x hxx
   have hxx:x∈ZfN n hx.seats:=hxx;rcases Zbz.1 hxx with rfl|hxx
   ·exact Int.le_refl _
   ·have:=hx1 x hxx;omega
  ·rw [htell]
   refine (Sat.flight.2 ⟨hm,om,sg,sl,ss,a++(h.owner,b,hx.put n)::c,hset.symm,back _ _ hw⟩:Sat R (Zl p { f1 with hs:=ZeO h.owner (hx.put n) f1.hs,own:=ZdZ n hx.owner f1.own }::pts bh (Zx h s)::Hs) w).swap
 ·rw [List.drop_eq_nil_of_le (by omega)] at hgo
  have hgo:(f1,true)=_:=hgo;rw [<-hgo] at hK;exact hK _ hw.drop
end
section
open Go Go.VC Tryz
variable {R:Cx} {Hs Rest:List HP} {w:World}
def ZaQ (rd:Rd):ZD × Rd:=
  (⟨(Ze 28629151 rd).1,(Ze 8 (Ze 28629151 rd).2).1,(Ze 600 (Ze 8 (Ze 28629151 rd).2).2).1,(Zb7 600 600 (Ze 600 (Ze 8 (Ze 28629151 rd).2).2).2).1⟩,(Zb7 600 600 (Ze 600 (Ze 8 (Ze 28629151 rd).2).2).2).2)
def ZV:Nat->Rd->List ZD × Rd
  |0,rd=>([],rd)
  |k + 1,rd=>((ZaQ rd).1::(ZV k (ZaQ rd).2).1,(ZV k (ZaQ rd).2).2)
theorem Zg3:∀ (k:Nat) (rd:Rd),ZV (k + 1) rd=((ZV k rd).1++[(ZaQ (ZV k rd).2).1],(ZaQ (ZV k rd).2).2)
  |0,_=>rfl
  |k + 1,rd=>by
    have:=Zg3 k (ZaQ rd).2;show ((ZaQ rd).1::(ZV (k + 1) (ZaQ rd).2).1,(ZV (k + 1) (ZaQ rd).2).2)=_;rw [this];rfl
theorem Znc {rd:Rd} (h:∀ x∈rd.bs,0<=x/\x<256):∀ x∈(ZaQ rd).2.bs,0<=x/\x<256:=Ze3 (Zk (Zk (Zk h)))
theorem ZkS:∀ (k:Nat) {rd:Rd},(∀ x∈rd.bs,0<=x/\x<256)->∀ x∈(ZV k rd).2.bs,0<=x/\x<256
  |0,_,h=>h
  |k + 1,_,h=>ZkS k (Znc h)
structure Zdm (h:ZD):Prop where
  o:0<=h.owner/\h.owner<=28629151
  c:0<=h.cls/\h.cls<=8
  m:0<=h.many/\h.many<=600
  s:∀ x∈h.seats,0<=x/\x<=600
  n:h.seats.length<=600
theorem ZkT {rd:Rd} (h:∀ x∈rd.bs,0<=x/\x<256):Zdm (ZaQ rd).1:=by
  have h1:=Zk (most:=28629151) h;have h2:=Zk (most:=8) h1;have h3:=Zk (most:=600) h2;have hl:=Zhh (most:=600) (each:=600) h3 (by omega) (by omega);exact ⟨Zw h (by omega),Zw h1 (by omega),Zw h2 (by omega),hl.1,by have:=hl.2;show (Zb7 _ _ _).1.length<=600;omega⟩
theorem Zik:∀ (k:Nat) {rd:Rd},(∀ x∈rd.bs,0<=x/\x<256)->(∀ h∈(ZV k rd).1,Zdm h)/\(ZV k rd).1.length=k
  |0,_,_=>⟨λ h hh=>(by cases hh),rfl⟩
  |k + 1,rd,h=>by
    obtain ⟨h1,h2⟩:=Zik k (Znc h);refine ⟨λ x hx=>?_,by show ((ZaQ rd).1::_).length=_;rw [List.length_cons,h2]⟩;have hx:x∈(ZaQ rd).1::(ZV k (ZaQ rd).2).1:=hx;rcases List.mem_cons.1 hx with rfl|hx
    · exact ZkT h
    · exact h1 x hx
abbrev PS:=PF × Bool × Int
def Zbr (x:PS) (h:ZD):PS:=if x.2.1=true/\h.owner>x.2.2 then ((Z9 x.1 h).1,(Z9 x.1 h).2,h.owner) else (x.1,false,h.owner)
def Zh2 (num rows:Int) (grps lims:List Int):Bool:=decide (num>0) && (Zdg rows grps && (Z1 lims (List.replicate lims.length 0) && (lims.getD 0 0==ZaL rows grps)))
structure Raw where
  num:Int
  rows:Int
  grps:List Int
  lims:List Int
  L:List ZD
  rd:Rd
def ZfD (bs:List Int):Raw:=
  let a:=Ze 9999 ⟨bs,false⟩
  let b:=Ze 60 a.2
  let g:=Zb7 4 10 b.2
  let l:=Zb7 8 10000 g.2
  let n:=Ze 600 l.2
  let x:=ZV n.1.toNat n.2
  ⟨a.1,b.1,g.1,l.1,x.1,x.2⟩
def Raw.run (x:Raw):PS:=x.L.foldl Zbr (Zag x.num x.rows x.grps x.lims,Zh2 x.num x.rows x.grps x.lims,0)
def Zpb (bs:List Int):Option PF:=if Z0 (ZfD bs).rd=true/\(ZfD bs).run.2.1=true then some (ZfD bs).run.1 else none
structure Zgw (f f':PF):Prop where
  lims:f'.lims=f.lims
  grps:f'.grps=f.grps
  rows:f'.rows=f.rows
  num:f'.num=f.num
  sold:f'.sold.length=f.sold.length
theorem Zgw.refl (f:PF):Zgw f f:=⟨rfl,rfl,rfl,rfl,rfl⟩
theorem Zgw.trans {f f' f'':PF} (a:Zgw f f') (b:Zgw f' f''):Zgw f f'':=⟨b.lims.trans a.lims,b.grps.trans a.grps,b.rows.trans a.rows,b.num.trans a.num,b.sold.trans a.sold⟩
theorem Zfu (f:PF) (o c m:Int):Zgw f (Zbh f o c m).1:=by
  unfold Zbh;split
  · exact .refl f
  · split
    · exact .refl f
    · split
      · rename_i h
        refine ⟨rfl,rfl,rfl,rfl,?_⟩;show (Za5 f.lims f.sold c m).1.length=_;rw [(Ze2 h).1,List.length_set]
      · exact .refl f
theorem Zoc (f:PF) (o n:Int):Zgw f (ZhU f o n):=by
  unfold ZhU;split<;>exact ⟨rfl,rfl,rfl,rfl,rfl⟩
theorem Zij (o N:Int):∀ (l:List Int) (last:Int) (f:PF),Zgw f (Zgr o N l last f).1
  |[],_,f=>.refl f
  |n::l,last,f=>by
    rw [Zfz];split
    · exact .refl f
    · split
      · exact .refl f
      · split
        · exact .refl f
        · exact (Zoc f o n).trans (Zij o N l n _)
theorem Zje (f:PF) (h:ZD):Zgw f (Z9 f h).1:=by
  unfold Z9;split
  · exact Zfu ..
  · split
    · exact Zfu ..
    · exact (Zfu ..).trans (Zij ..)
theorem Zof (x:PS) (h:ZD):Zgw x.1 (Zbr x h).1:=by
  unfold Zbr;split
  · exact Zje ..
  · exact .refl _
theorem ZfT:∀ (L:List ZD) (x:PS),Zgw x.1 (L.foldl Zbr x).1
  |[],x=>.refl _
  |h::L,x=>(Zof x h).trans (ZfT L (Zbr x h))
abbrev emH:Obj:=Zx ⟨0,0,0,[]⟩ ⟨none,0,0⟩
theorem Zos {bn br r p:Nat} {rd:Rd} {f:PF} {K:Option Addr->World->Prop} (hb:∀ x∈rd.bs,0<=x/\x<256) (hw:Sat R (Zcm bn br::pts br (ZB r)::ZZ r rd::Zl p f::Hs) w)
    (k:∀ b w',Sat R (pts b (Zx ⟨(Ze 28629151 rd).1,(Ze 8 (Ze 28629151 rd).2).1,(Ze 600 (Ze 8 (Ze 28629151 rd).2).2).1,[]⟩ ⟨none,0,0⟩)::Zcm bn br::pts br (ZB r)::ZZ r (Ze 600 (Ze 8 (Ze 28629151 rd).2).2).2::Zl p f::Hs) w'->K (some ⟨b,0,none⟩) w'):
   Drw w λ S_2 w_23=>
      ∃ t82:Value,(At S_2 ⟨bn,0,none⟩ [t82])/\
      ∃ t84:Value,(At S_2 ⟨bn,0,none⟩ [t84])/\
      ∃ t86:Value,(At S_2 ⟨bn,0,none⟩ [t86])/\
      (ZaK prog cl t82 [.int .i64 28629151] w_23 λ e_10 w_24=>
      ∃ t83:Int,(e_10=.returned (.int .i64 t83))/\
      (S_2 w_24)/\
      (ZaK prog cl t84 [.int .i64 8] w_24 λ e_11 w_25=>
      ∃ t85:Int,(e_11=.returned (.int .i64 t85))/\
      (S_2 w_25)/\
      (ZaK prog cl t86 [.int .i64 600] w_25 λ e_12 w_26=>
      ∃ t87:Int,(e_12=.returned (.int .i64 t87))/\
      (S_2 w_26)/\
      New (.cells #[.int .i64 0,.int .i64 0,.int .i64 0,.slice none 0 0] 176 (0,0)) (λ b_h10 w_27=>
      (S_2 w_27)/\
      ∃ w_28:World,((Instr.storeAt 176 (.pointer ((some ⟨b_h10,0,none⟩))) (.agg #[.int .i64 t83,.int .i64 t85,.int .i64 t87,.slice none 0 0])).run prog w_27=.ok () w_28)/\
      K ((some ⟨b_h10,0,none⟩)) w_28) w_26)/\
      New (.cells #[.int .i64 0,.int .i64 0,.int .i64 0,.slice none 0 0] 176 (0,0)) (λ b_h10_1 w_29=>
      (S_2 w_29)/\
      ZaK prog cl t86 [.int .i64 600] w_29 λ e_13 w_30=>
      ∃ t87_1:Int,(e_13=.returned (.int .i64 t87_1))/\
      (S_2 w_30)/\
      ∃ w_31:World,((Instr.storeAt 176 (.pointer ((some ⟨b_h10_1,0,none⟩))) (.agg #[.int .i64 t83,.int .i64 t85,.int .i64 t87_1,.slice none 0 0])).run prog w_30=.ok () w_31)/\
      K ((some ⟨b_h10_1,0,none⟩)) w_31) w_25)/\
      New (.cells #[.int .i64 0,.int .i64 0,.int .i64 0,.slice none 0 0] 176 (0,0)) (λ b_h10_2 w_32=>
      (S_2 w_32)/\
      ZaK prog cl t84 [.int .i64 8] w_32 λ e_14 w_33=>
      ∃ t85_1:Int,(e_14=.returned (.int .i64 t85_1))/\
      (S_2 w_33)/\
      ZaK prog cl t86 [.int .i64 600] w_33 λ e_15 w_34=>
      ∃ t87_2:Int,(e_15=.returned (.int .i64 t87_2))/\
      (S_2 w_34)/\
      ∃ w_35:World,((Instr.storeAt 176 (.pointer ((some ⟨b_h10_2,0,none⟩))) (.agg #[.int .i64 t83,.int .i64 t85_1,.int .i64 t87_2,.slice none 0 0])).run prog w_34=.ok () w_35)/\
      K ((some ⟨b_h10_2,0,none⟩)) w_35) w_24)/\
      New (.cells #[.int .i64 0,.int .i64 0,.int .i64 0,.slice none 0 0] 176 (0,0)) (λ b_h10_3 w_36=>
      (S_2 w_36)/\
      ZaK prog cl t82 [.int .i64 28629151] w_36 λ e_16 w_37=>
      ∃ t83_1:Int,(e_16=.returned (.int .i64 t83_1))/\
      (S_2 w_37)/\
      ZaK prog cl t84 [.int .i64 8] w_37 λ e_17 w_38=>
      ∃ t85_2:Int,(e_17=.returned (.int .i64 t85_2))/\
      (S_2 w_38)/\
      ZaK prog cl t86 [.int .i64 600] w_38 λ e_18 w_39=>
      ∃ t87_3:Int,(e_18=.returned (.int .i64 t87_3))/\
      (S_2 w_39)/\
      ∃ w_40:World,((Instr.storeAt 176 (.pointer ((some ⟨b_h10_3,0,none⟩))) (.agg #[.int .i64 t83_1,.int .i64 t85_2,.int .i64 t87_3,.slice none 0 0])).run prog w_39=.ok () w_40)/\
      K ((some ⟨b_h10_3,0,none⟩)) w_40) w_23:=by
  have hb1:=Zk (most:=28629151) hb;have hb2:=Zk (most:=8) hb1;refine ZE (Sat R [Zcm bn br,VC.tru]) hw (λ w hw=>hw.restTru2) λ w hw=>?_;refine ⟨ZqM br,oS,ZqM br,oS,ZqM br,oS,?_⟩;have one:∀ {most:Int} {rd:Rd} {Hs':List HP} {w:World} {K:Int->World->Prop},0<=most->most<9223372036854775808->(∀ x∈rd.bs,0<=x/\x<256)->Sat R (Zcm bn br::pts br (ZB r)::ZZ r rd::Hs') w->(∀ w,Sat R (Zcm bn br::pts br (ZB r)::ZZ r (Ze most rd).2::Hs') w->K (Ze most rd).1 w)->
      ZaK prog cl (ZqM br) [.int .i64 most] w λ e w'=>∃ t:Int,e=.returned (.int .i64 t)/\Sat R [Zcm bn br,VC.tru] w'/\K t w':=λ {most rd Hs' w K} h0 h1 hb hw k=>by
    refine (Zc1 (r:=r) h0 h1 hb (Hs:=Zcm bn br::Hs') hw.arr).mono ?_;rintro _ w ⟨rfl,hw⟩;have hw:Sat R (Zcm bn br::pts br (ZB r)::ZZ r (Ze most rd).2::Hs') w:=hw.arr;exact ⟨_,rfl,hw.restTru2,k _ hw⟩
  have fin:∀ {b:Nat} {w:World},Sat R (pts b emH::Zcm bn br::pts br (ZB r)::ZZ r (Ze 600 (Ze 8 (Ze 28629151 rd).2).2).2::Zl p f::Hs) w->
      ∃ w_9:World,((Instr.storeAt 176 (.pointer ((some ⟨b,0,none⟩))) (.agg #[.int .i64 (Ze 28629151 rd).1,.int .i64 (Ze 8 (Ze 28629151 rd).2).1,.int .i64 (Ze 600 (Ze 8 (Ze 28629151 rd).2).2).1,.slice none 0 0])).run prog w=.ok () w_9)/\K (some ⟨b,0,none⟩) w_9:=λ {b w} hw=>by
    refine Za hw (by kernel_rfl) rfl (by simp [Value.cells]) λ w hw=>?_;exact k b w (hw.re (pts b (Zx ⟨(Ze 28629151 rd).1,(Ze 8 (Ze 28629151 rd).2).1,(Ze 600 (Ze 8 (Ze 28629151 rd).2).2).1,[]⟩ ⟨none,0,0⟩)))
  have sw:∀ {b:Nat} {rd:Rd} {Hs:List HP} {w:World},Sat R (pts b emH::Zcm bn br::pts br (ZB r)::ZZ r rd::Hs) w->Sat R (Zcm bn br::pts br (ZB r)::ZZ r rd::pts b emH::Hs) w:=λ hw=>hw.arr;have ws:∀ {b:Nat} {rd:Rd} {Hs:List HP} {w:World},Sat R (Zcm bn br::pts br (ZB r)::ZZ r rd::pts b emH::Hs) w->Sat R (pts b emH::Zcm bn br::pts br (ZB r)::ZZ r rd::Hs) w:=λ hw=>hw.arr;refine ⟨one (by omega) (by omega) hb hw λ w hw=>⟨one (by omega) (by omega) hb1 hw λ w hw=>⟨one (by omega) (by omega) hb2 hw λ w hw=>?_,?_⟩,?_⟩,?_⟩
  · refine Zb hw λ b w hw=>?_
    have hw:Sat R (pts b emH::Zcm bn br::pts br (ZB r)::ZZ r (Ze 600 (Ze 8 (Ze 28629151 rd).2).2).2::Zl p f::Hs) w:=hw;exact ⟨(sw hw).restTru2,fin hw⟩
  · refine Zb hw λ b w hw=>?_
    have hw:=sw (b:=b) hw;exact ⟨hw.restTru2,one (by omega) (by omega) hb2 hw λ w hw=>fin (ws hw)⟩
  · refine Zb hw λ b w hw=>?_
    have hw:=sw (b:=b) hw;exact ⟨hw.restTru2,one (by omega) (by omega) hb1 hw λ w hw=>one (by omega) (by omega) hb2 hw λ w hw=>fin (ws hw)⟩
  · refine Zb hw λ b w hw=>?_
    have hw:=sw (b:=b) hw;exact ⟨hw.restTru2,one (by omega) (by omega) hb hw λ w hw=>one (by omega) (by omega) hb1 hw λ w hw=>one (by omega) (by omega) hb2 hw λ w hw=>fin (ws hw)⟩
set_option maxHeartbeats 2000000 in
theorem ZlC {s:Sl} {bs:List Int} (hb:∀ y∈bs,0<=y/\y<256) (hs:Ro R s (b8 bs)) (hl:bs.length<=1099511627776) (hw:Sat R Hs w):
    Zm prog 101 #[.slice s.a s.len s.cap] w λ v w'=>(Zpb bs=none/\v=.tuple #[.pointer none,.int .i64 6]/\Sat R Hs w')\/
      (∃ f p,Zpb bs=some f/\v=.tuple #[.pointer (some ⟨p,0,none⟩),.int .i64 0]/\Sat R (Zl p f::Hs) w'):=by
  apply Zx2
  suffices H:∀ K:Value->World->Prop,(Zpb bs=none->∀ w',Sat R Hs w'->K (.tuple #[.pointer none,.int .i64 6]) w')->(∀ f p w',Zpb bs=some f->Sat R (Zl p f::Hs) w'->K (.tuple #[.pointer (some ⟨p,0,none⟩),.int .i64 0]) w')->B101 s K w from
    H _ (λ e w' h=>.inl ⟨e,rfl,h⟩) λ f p w' e h=>.inr ⟨f,p,e,rfl,h⟩
  intro K hK1 hK2;refine (Zhz hs hl hw).use ?_;clear hw;rintro _ w ⟨r,rfl,hw⟩;refine ⟨_,rfl,Zb hw λ br w hw=>?_⟩;refine Za hw (by kernel_rfl) rfl (by simp [Value.cells]) λ w hw=>?_;have hw:=hw.re (pts br (ZB r));refine Zb hw λ bn w hw=>?_;refine Za hw (by kernel_rfl) rfl (by simp [Value.cells]) λ w hw=>?_;have hw:=hw.re (Zcm bn br);have hb0:∀ y∈(⟨bs,false⟩:Rd).bs,0<=y/\y<256:=hb;have v1:=Zw (most:=9999) hb0 (by omega);have hb1:=Zk (most:=9999) hb0;obtain ⟨num,rd1,e1⟩:∃ y rd,Ze 9999 ⟨bs,false⟩=(y,rd):=⟨_,_,rfl⟩;rw [e1] at v1 hb1;have v2:=Zw (most:=60) hb1 (by omega);have hb2:=Zk (most:=60) hb1;obtain ⟨rows,rd2,e2⟩:∃ y rd,Ze 60 rd1=(y,rd):=⟨_,_,rfl⟩;rw [e2] at v2 hb2;have v3:=Zhh (most:=4) (each:=10) hb2 (by omega) (by omega);have hb3:=Ze3 (most:=4) (each:=10) hb2;obtain ⟨grps,rd3,e3⟩:∃ y rd,Zb7 4 10 rd2=(y,rd):=⟨_,_,rfl⟩;rw [e3] at v3 hb3;have v4:=Zhh (most:=8) (each:=10000) hb3 (by omega) (by omega);have hb4:=Ze3 (most:=8) (each:=10000) hb3;obtain ⟨lims,rd4,e4⟩:∃ y rd,Zb7 8 10000 rd3=(y,rd):=⟨_,_,rfl⟩;rw [e4] at v4 hb4;have v5:=Zw (most:=600) hb4 (by omega);have hb5:=Zk (most:=600) hb4;obtain ⟨nz,rd5,e5⟩:∃ y rd,Ze 600 rd4=(y,rd):=⟨_,_,rfl⟩;rw [e5] at v5 hb5;dsimp only at v1 v2 v3 v4 v5 hb1 hb2 hb3 hb4 hb5;obtain ⟨n,rfl⟩:=Int.eq_ofNat_of_zero_le v5.1;have hraw:ZfD bs=⟨num,rows,grps,lims,(ZV n rd5).1,(ZV n rd5).2⟩:=by
    unfold ZfD;simp only [e1,e2,e3,e4,e5];rfl
  refine ZE (Sat R [Zcm bn br,VC.tru]) hw (λ w hw=>hw.restTru2) λ w hw=>?_;refine ⟨ZqM br,oS,ZqM br,oS,?_⟩;have hw:Sat R (pts br (ZB r)::ZZ r ⟨bs,false⟩::Zcm bn br::Hs) w:=hw.arr;refine (Zc1 (most:=9999) (by omega) (by omega) hb0 hw).mono ?_;clear hw;rintro _ w ⟨rfl,hw⟩;rw [e1] at hw ⊢;dsimp only at hw ⊢;refine ⟨_,rfl,(hw.take (Zcm bn br)).restTru2,?_⟩;refine (Zc1 (most:=60) (by omega) (by omega) hb1 hw).mono ?_;clear hw;rintro _ w ⟨rfl,hw⟩;rw [e2] at hw ⊢;dsimp only at hw ⊢;refine ⟨_,rfl,(hw.take (Zcm bn br)).restTru2,?_⟩;have hw:Sat R (ZA ⟨none,0,0⟩ (Zd [])::ZA ⟨none,0,0⟩ (Zd [])::pts br (ZB r)::ZZ r rd2::Zcm bn br::Hs) w:=Own.reads (T:=3) (Own.nil (Own.reads (T:=3) (Own.nil hw)));refine (ZiN (num:=num) (rows:=rows) (by simp) hw).use ?_;clear hw;rintro _ w ⟨p,rfl,hw⟩;refine ⟨_,rfl,(hw.take (Zcm bn br)).restTru2,?_⟩;have hw:Sat R (Zcm bn br::pts br (ZB r)::ZZ r rd2::Zl p (Zag num rows [] [])::Hs) w:=hw.arr;refine (ZfY (most:=4) (each:=10) (by omega) (by omega) (by omega) (by omega) hb2 hw).use ?_;clear hw;rintro _ w ⟨tg,rfl,hw⟩;rw [e3] at hw;dsimp only at hw;refine ⟨tg,rfl,Zc.mk rfl ?_⟩;obtain ⟨hm,om,sg,sl,ss,E,hE,hw⟩:=Sat.flight.1 (hw.take (Zl p (Zag num rows [] [])));have hw:=hw.drop.drop.drop;obtain rfl:E=[]:=by
    have:=congrArg List.length hE;simp [Zag] at this;exact this
  have hw:Sat R (pts p (ZY (Zag num rows [] []) sg sl ss hm om)::MapAt (α:=Int) hm []::MapAt (α:=Int) om []::ZL []::Own tg 3 (Zd grps)::Zcm bn br::pts br (ZB r)::ZZ r rd3::Hs) w:=hw;refine Za hw (by kernel_rfl) rfl (by simp [Value.cells]) λ w hw=>?_;have hw:=hw.re (pts p (ZY (Zag num rows [] []) tg sl ss hm om));have hw:Sat R (Zcm bn br::pts br (ZB r)::ZZ r rd3::pts p (ZY (Zag num rows [] []) tg sl ss hm om)::Own tg 3 (Zd grps)::MapAt (α:=Int) hm []::MapAt (α:=Int) om []::ZL []::Hs) w:=hw.arr;refine (ZfY (most:=8) (each:=10000) (by omega) (by omega) (by omega) (by omega) hb3 hw).use ?_;clear hw;rintro _ w ⟨tl,rfl,hw⟩;rw [e4] at hw;dsimp only at hw;refine ⟨tl,rfl,Zc.mk rfl ?_⟩;have hw:Sat R (pts p (ZY (Zag num rows [] []) tg sl ss hm om)::Own tl 3 (Zd lims)::Own tg 3 (Zd grps)::MapAt (α:=Int) hm []::MapAt (α:=Int) om []::ZL []::Zcm bn br::pts br (ZB r)::ZZ r rd4::Hs) w:=hw.arr;refine Za hw (by kernel_rfl) rfl (by simp [Value.cells]) λ w hw=>?_;have hw:=hw.re (pts p (ZY (Zag num rows [] []) tg tl ss hm om));have htl:=Own.len (hw.take (Own tl 3 (Zd lims)));rw [List.length_map] at htl;refine Zc.mk rfl ⟨tl,oA hw,?_⟩;rw [htl];refine Zc7 (by omega) hw λ ts w hw=>Zc.mk rfl ?_;have hw:Sat R (pts p (ZY (Zag num rows [] []) tg tl ss hm om)::Own ts 3 (Zd (List.replicate lims.length 0))::Own tl 3 (Zd lims)::Own tg 3 (Zd grps)::MapAt (α:=Int) hm []::MapAt (α:=Int) om []::ZL []::Zcm bn br::pts br (ZB r)::ZZ r rd4::Hs) w:=hw.arr;refine Za hw (by kernel_rfl) rfl (by simp [Value.cells]) λ w hw=>?_;have hw:=hw.re (pts p (ZY (Zag num rows grps lims) tg tl ts hm om));have hw:Sat R (Own tg 3 (Zd grps)::Own tl 3 (Zd lims)::Own ts 3 (Zd (List.replicate lims.length 0))::pts p (ZY (Zag num rows grps lims) tg tl ts hm om)::MapAt (α:=Int) hm []::MapAt (α:=Int) om []::ZL []::Zcm bn br::pts br (ZB r)::ZZ r rd4::Hs) w:=hw.arr;have hw:Sat R (Zl p (Zag num rows grps lims)::Zcm bn br::pts br (ZB r)::ZZ r rd4::Hs) w:=
    Sat.flight.2 ⟨hm,om,tg,tl,ts,[],rfl,Own.reads (hw.cons λ _ h=>Own.reads (h.cons λ _ h=>Own.reads h))⟩
  refine ⟨λ fine w=>fine=Zh2 num rows grps lims/\Sat R (Zl p (Zag num rows grps lims)::Zcm bn br::pts br (ZB r)::ZZ r rd4::Hs) w,?_,?_⟩
  · obtain ⟨hm,om,sg,sl,ss,E,R',hE,ee,rg,rl,rs,hw,back⟩:=Sat.flightO hw
    have rgo:RoI R' sg grps:=rg.ro (by rw [List.length_map];show grps.length<=_;omega);have rlo:RoI R' sl lims:=rl.ro (by rw [List.length_map];show lims.length<=_;omega);have rso:RoI R' ss (List.replicate lims.length 0):=rs.ro (by rw [List.length_map];show (List.replicate lims.length (0:Int)).length<=_;rw [List.length_replicate];omega);have same:∀ {w},Sat R' (FO p hm om sg sl ss E (Zag num rows grps lims) (Zcm bn br::pts br (ZB r)::ZZ r rd4::Hs)) w->Sat R (Zl p (Zag num rows grps lims)::Zcm bn br::pts br (ZB r)::ZZ r rd4::Hs) w:=λ hw=>Sat.flightC hE (back _ _ hw);refine Zo hw λ w hw=>?_;refine Zc.mk rfl ⟨num,by rw [Zy];exact oS,?_⟩;unfold Zh2;refine Br.d (λ h1=>?_) (λ h1=>⟨by rw [decide_eq_false h1];rfl,same hw⟩);rw [decide_eq_true h1,Bool.true_and];refine Zc.mk rfl ⟨rows,sg,At.own Zao (by exact ⟨rfl,rfl,trivial⟩),?_⟩;refine (ZdS rgo hw).use ?_;clear hw;rintro _ w ⟨rfl,hw⟩;refine ⟨_,rfl,hw,Br.mk (λ h2=>?_) (λ h2=>⟨by rw [h2];rfl,same hw⟩)⟩;rw [h2,Bool.true_and];refine Zc.mk rfl ⟨sl,oS,Zc.mk rfl ⟨ss,oS,?_⟩⟩;refine (Zmi rlo rso hw).use ?_;clear hw;rintro _ w ⟨rfl,hw⟩;refine ⟨_,rfl,hw,Br.mk (λ h3=>?_) (λ h3=>⟨by rw [h3];rfl,same hw⟩)⟩;rw [h3,Bool.true_and];have hl0:0<lims.length:=(Zaa.1 (ZJ.1 h3).1).1.1;refine Zc.mk rfl ⟨sl,oS,?_⟩;refine Ro.ix rlo Zao 0 rfl hl0 (F:=λ t=>_) ?_;refine Zc.mk rfl ⟨rows,sg,At.own Zao (by exact ⟨rfl,rfl,trivial⟩),?_⟩;refine (ZbM rgo hw).use ?_;clear hw;rintro _ w ⟨rfl,hw⟩;refine ⟨_,rfl,hw,?_,same hw⟩;rw [ZR hl0]
  clear hw;rintro _ _ w ⟨rfl,hw⟩;have hw:Sat R (pts br (ZB r)::ZZ r rd4::Zcm bn br::Zl p (Zag num rows grps lims)::Hs) w:=hw.arr;refine ⟨ZqM br,oA hw,?_⟩;refine (Zc1 (most:=600) (by omega) (by omega) hb4 hw).mono ?_;clear hw;rintro _ w ⟨rfl,hw⟩;rw [e5] at hw ⊢;dsimp only at hw ⊢;refine ⟨_,rfl,?_⟩;have hKp:=ZfT;have hfold:∀ j,(ZV j rd5).1.foldl Zbr (Zag num rows grps lims,Zh2 num rows grps lims,0)=(ZV j rd5).1.foldl Zbr (Zag num rows grps lims,Zh2 num rows grps lims,0):=λ _=>rfl;have hrun:(ZfD bs).run=(ZV n rd5).1.foldl Zbr (Zag num rows grps lims,Zh2 num rows grps lims,0):=by rw [hraw];rfl
  have hrd:(ZfD bs).rd=(ZV n rd5).2:=by rw [hraw]
  generalize hx0:((Zag num rows grps lims,Zh2 num rows grps lims,0):PS)=x0 at *;have hk0:x0.1.lims.length<=1000/\x0.1.sold.length<=1000/\x0.1.grps.length<=1000:=by
    rw [<-hx0];refine ⟨by show lims.length<=_;omega,by show (List.replicate lims.length (0:Int)).length<=_;rw [List.length_replicate];omega,by show grps.length<=_;omega⟩
  refine ⟨λ fine last i w=>∃ j:Nat,i=j/\j<=n/\fine=((ZV j rd5).1.foldl Zbr x0).2.1/\last=((ZV j rd5).1.foldl Zbr x0).2.2/\Sat R (Zcm bn br::pts br (ZB r)::ZZ r (ZV j rd5).2::Zl p ((ZV j rd5).1.foldl Zbr x0).1::Hs) w,
    λ _ _ i _=>n - i.toNat,⟨0,rfl,by omega,?_,?_,?_⟩,?_⟩
  · rw [<-hx0];rfl
  · rw [<-hx0];rfl
  · rw [<-hx0]
    show Sat R (Zcm bn br::pts br (ZB r)::ZZ r rd5::Zl p (Zag num rows grps lims)::Hs) w;exact hw.arr
  clear hw;rintro _ _ _ _ w ⟨j,rfl,hj,rfl,rfl,hw⟩;refine Br.d (λ h=>?_) (λ h=>?_)
  · have hbj:=ZkS j hb5
    have hsn:=Zg3 j rd5;have hkj:=ZfT (ZV j rd5).1 x0;generalize hx:(ZV j rd5).1.foldl Zbr x0=x at *;have hstep:(ZV (j + 1) rd5).1.foldl Zbr x0=Zbr x (ZaQ (ZV j rd5).2).1:=by
      rw [hsn];show ((ZV j rd5).1++[_]).foldl Zbr x0=_;rw [List.foldl_append,hx];rfl
    have hrd2:(ZV (j + 1) rd5).2=(ZaQ (ZV j rd5).2).2:=by rw [hsn]
    have hval:=ZkT hbj;generalize hrdj:(ZV j rd5).2=rdj at *;have hc1:=Zk (most:=28629151) hbj;have hc2:=Zk (most:=8) hc1;have hc3:=Zk (most:=600) hc2;rw [Zh (by omega) (by omega)];obtain ⟨J,hJ⟩:∃ J:Option Addr->World->Prop,∀ h10 w,J h10 w↔∃ b,h10=some ⟨b,0,none⟩/\Sat R (pts b (Zx ⟨(Ze 28629151 rdj).1,(Ze 8 (Ze 28629151 rdj).2).1,(Ze 600 (Ze 8 (Ze 28629151 rdj).2).2).1,[]⟩ ⟨none,0,0⟩)::Zcm bn br::pts br (ZB r)::ZZ r (Ze 600 (Ze 8 (Ze 28629151 rdj).2).2).2::Zl p x.1::Hs) w:=⟨_,λ _ _=>Iff.rfl⟩;refine ⟨J,Zos hbj hw λ b w' h=>(hJ _ _).2 ⟨b,rfl,h⟩,?_⟩;clear hw;intro _ h10 w hJw;obtain ⟨b,rfl,hw⟩:=(hJ _ _).1 hJw;clear hJ hJw;have hw:Sat R (Zcm bn br::pts br (ZB r)::ZZ r (Ze 600 (Ze 8 (Ze 28629151 rdj).2).2).2::pts b (Zx ⟨(Ze 28629151 rdj).1,(Ze 8 (Ze 28629151 rdj).2).1,(Ze 600 (Ze 8 (Ze 28629151 rdj).2).2).1,[]⟩ ⟨none,0,0⟩)::Zl p x.1::Hs) w:=hw.arr;refine (ZfY (most:=600) (each:=600) (by omega) (by omega) (by omega) (by omega) hc3 hw).use ?_;clear hw;rintro _ w ⟨t,rfl,hw⟩;refine ⟨t,rfl,Zc.mk rfl ?_⟩;have hw:Sat R (pts b (Zx ⟨(Ze 28629151 rdj).1,(Ze 8 (Ze 28629151 rdj).2).1,(Ze 600 (Ze 8 (Ze 28629151 rdj).2).2).1,[]⟩ ⟨none,0,0⟩)::Own t 3 (Zd (Zb7 600 600 (Ze 600 (Ze 8 (Ze 28629151 rdj).2).2).2).1)::Zcm bn br::pts br (ZB r)::ZZ r (Zb7 600 600 (Ze 600 (Ze 8 (Ze 28629151 rdj).2).2).2).2::Zl p x.1::Hs) w:=hw.arr;have hw:Sat R (pts b (Zx ⟨(Ze 28629151 rdj).1,(Ze 8 (Ze 28629151 rdj).2).1,(Ze 600 (Ze 8 (Ze 28629151 rdj).2).2).1,[]⟩ ⟨none,0,0⟩)::Own t 3 (Zd (ZaQ rdj).1.seats)::Zcm bn br::pts br (ZB r)::ZZ r (ZaQ rdj).2::Zl p x.1::Hs) w:=hw;refine Za hw (by kernel_rfl) rfl (by simp [Value.cells]) λ w hw=>?_;have hw:=hw.re (pts b (Zx (ZaQ rdj).1 t));generalize hh:(ZaQ rdj).1=hd at *;have done:∀ {y:PS} {Hs':List HP} {w},Zbr x hd=y->Sat R (pts b (Zx hd t)::Own t 3 (Zd hd.seats)::Zcm bn br::pts br (ZB r)::ZZ r (ZaQ rdj).2::Zl p y.1::Hs) w->
        (∃ j_1:Nat,((j:Int) + 1)=j_1/\j_1<=n/\y.2.1=((ZV j_1 rd5).1.foldl Zbr x0).2.1/\y.2.2=((ZV j_1 rd5).1.foldl Zbr x0).2.2/\Sat R (Zcm bn br::pts br (ZB r)::ZZ r (ZV j_1 rd5).2::Zl p ((ZV j_1 rd5).1.foldl Zbr x0).1::Hs) w):=λ {y Hs' w} e hw=>by
      refine ⟨j + 1,by omega,by omega,?_⟩;rw [hstep,hrd2,e];exact ⟨rfl,rfl,hw.drop.drop⟩
    refine Br.mk (λ h1=>?_) (λ h1=>?_)
    · refine Zc.mk rfl ⟨hd.owner,by rw [Zy];exact oA hw,?_⟩
      refine Br.d (λ h2=>?_) (λ h2=>?_)
      · have e:Zbr x hd=((Z9 x.1 hd).1,(Z9 x.1 hd).2,hd.owner):=by unfold Zbr;rw [if_pos ⟨h1,h2⟩]
        refine Zc.mk rfl ⟨hd.owner,hd.cls,hd.many,t,At.own (eqS hw) (by exact ⟨rfl,rfl,rfl,rfl,trivial⟩),?_⟩;obtain ⟨R2,hro,keep,hw,back⟩:=Own.lendI (hw.take (Own t 3 (Zd hd.seats))) (by have:=hval.n;omega);have hw:=hw.take (Zl p x.1);refine (Zjd (by rw [hkj.lims];exact hk0.1) (by rw [hkj.sold];exact hk0.2.1) (by rw [hkj.grps];exact hk0.2.2) hro (by have:=hval.n;omega) hw).use ?_;clear hw;rintro _ w ⟨rfl,hw⟩;have hw:=back hw;have hw:Sat R (pts b (Zx hd t)::Own t 3 (Zd hd.seats)::Zcm bn br::pts br (ZB r)::ZZ r (ZaQ rdj).2::Zl p (Z9 x.1 hd).1::Hs) w:=hw.arr;refine ⟨_,rfl,Zc.mk rfl ⟨hd.owner,by rw [Zy];exact oA hw,?_⟩⟩;exact ⟨done (Hs':=Hs) e hw,by dsimp only;omega⟩
      · have e:Zbr x hd=(x.1,false,hd.owner):=by unfold Zbr;rw [if_neg (λ h5=>h2 h5.2)]
        refine Zc.mk rfl ⟨hd.owner,by rw [Zy];exact oA hw,?_⟩;exact ⟨done (Hs':=Hs) e hw,by dsimp only;omega⟩
    · have e:Zbr x hd=(x.1,false,hd.owner):=by unfold Zbr;rw [if_neg (λ h5=>by rw [h5.1] at h1;cases h1)]
      refine Zc.mk rfl ⟨hd.owner,by rw [Zy];exact oA hw,?_⟩;exact ⟨done (Hs':=Hs) e hw,by dsimp only;omega⟩
  · obtain rfl:j=n:=by omega
    rw [<-hrun,<-hrd] at hw;rw [<-hrun];refine ⟨some ⟨r,0,none⟩,oA hw,?_⟩;refine (Zft (hw.take (ZZ r (ZfD bs).rd))).use ?_;clear hw;rintro _ w ⟨rfl,hw⟩;refine ⟨_,rfl,Br.nb (λ h1=>?_) (λ h1=>Br.nb (λ h2=>?_) (λ h2=>?_))⟩
    · exact hK1 (by unfold Zpb;rw [if_neg (λ h5=>by rw [h5.1] at h1;cases h1)]) _ hw.drop.drop.drop.drop
    · exact hK1 (by unfold Zpb;rw [if_neg (λ h5=>by rw [h5.2] at h2;cases h2)]) _ hw.drop.drop.drop.drop
    · exact hK2 _ _ _ (by unfold Zpb;rw [if_pos ⟨h1,h2⟩]) hw.drop.drop.drop
end
section
open Go Go.VC Tryz
variable {R R':Cx} {Hs Rest:List HP} {w:World}
theorem Zdy (x:Int) (l:List Int):Zv (x::l)=Zv [x]++Zv l:=by rw [show x::l=[x]++l from rfl,Zla]
def ZbC (r:RF):List Int:=Zuy r.num r.rows r.grps r.lims r.L
structure ZzE (r:RF):Prop where
 num:0<=r.num/\r.num<9223372036854775808
 rows:0<=r.rows/\r.rows<9223372036854775808
 grps:Zef r.grps
 lims:Zef r.lims
 gl:r.grps.length<=1000
 ll:r.lims.length<=1000
 hs:∀ h∈r.L,Zgo h
 hl:r.L.length<=10000
end
section
open Go Go.VC Tryz
variable {R R':Cx} {Hs Rest:List HP} {w:World}
def ZcL:Nat->Int->Rd->List Int × Rd
  |0,_,r=>([],r)
  |k + 1,each,r=>if r.bad then ([],r) else ((Ze each r).1::(ZcL k each (Ze each r).2).1,(ZcL k each (Ze each r).2).2)
theorem Zcd (k:Nat) (each:Int) (r:Rd):ZcL (k + 1) each r=if r.bad then ([],r) else ((Ze each r).1::(ZcL k each (Ze each r).2).1,(ZcL k each (Ze each r).2).2):=rfl
theorem Zqm {each:Int} {r:Rd} (h:r.bad=true):∀ k,ZcL k each r=([],r)
  |0=>rfl
  |k + 1=>by rw [Zcd,if_pos h]
def Zch (most each:Int) (r:Rd):List Int × Rd:=ZcL (Ze most r).1.toNat each (Ze most r).2
theorem Znf:∀ (k:Nat) (most:Int) {r:Rd},(∀ x∈r.bs,0<=x/\x<256)->∀ x∈(ZcL k most r).2.bs,0<=x/\x<256
  |0,_,_,h=>h
  |k + 1,most,r,h=>by
    rw [Zcd];split
    · exact h
    · exact Znf k most (Zk h)
theorem ZkX:∀ (k:Nat) {most:Int} {r:Rd},0<=most->(∀ x∈r.bs,0<=x/\x<256)->(∀ x∈(ZcL k most r).1,0<=x/\x<=most)/\(ZcL k most r).1.length<=k
  |0,_,_,_,_=>⟨by simp [ZcL],by simp [ZcL]⟩
  |k + 1,most,r,hm,h=>by
    rw [Zcd];split
    · exact ⟨by simp,by simp⟩
    · obtain ⟨h1,h2⟩:=ZkX k hm (Zk (most:=most) h)
      refine ⟨λ x hx=>?_,by rw [List.length_cons];omega⟩;rcases List.mem_cons.1 hx with rfl|hx
      · exact Zw h hm
      · exact h1 x hx
theorem Zjk {most each:Int} {r:Rd} (h:∀ x∈r.bs,0<=x/\x<256):∀ x∈(Zch most each r).2.bs,0<=x/\x<256:=Znf _ _ (Zk h)
theorem Zg6 {most each:Int} {r:Rd} (h:∀ x∈r.bs,0<=x/\x<256) (hm:0<=most) (he:0<=each):(∀ x∈(Zch most each r).1,0<=x/\x<=each)/\((Zch most each r).1.length:Int)<=most:=by
  obtain ⟨h1,h2⟩:=ZkX (Ze most r).1.toNat he (Zk (most:=most) h);have:=Zw h hm;exact ⟨h1,by show ((ZcL _ _ _).1.length:Int)<=_;omega⟩
theorem Zfy {b:Nat} {s:Sl} {bs:List Int} {rd:Rd} {most each:Int} (h0:0<=most) (h1:most<1000000) (h2:0<=each) (h3:each<9223372036854775808) (hl:bs.length<=1099511627776) (hbs:∀ x∈bs,0<=x/\x<256) (hb:∀ x∈rd.bs,0<=x/\x<256) (hs:SlR R.m s (b8 bs)) (hw:Sat R (ZT b s bs rd::Hs) w):
    Zm prog 152 #[.pointer (some ⟨b,0,none⟩),.int .u64 most,.int .u64 each] w λ v w'=>∃ t:Sl,v=.slice t.a t.len t.cap/\Sat R (Own t 3 (Zd (Zch most each rd).1)::ZT b s bs (Zch most each rd).2::Hs) w':=by
  apply Zxx
  suffices H:∀ K:Value->World->Prop,(∀ (t:Sl) w',Sat R (Own t 3 (Zd (Zch most each rd).1)::ZT b s bs (Zch most each rd).2::Hs) w'->K (.slice t.a t.len t.cap) w')->B152 (some ⟨b,0,none⟩) most each K w from H _ λ t w' h=>⟨t,rfl,h⟩
  intro K hK;refine (ZG hl hbs hs hw).use ?_;clear hw;rintro _ w ⟨rfl,hw⟩;refine ⟨_,rfl,?_⟩;have hv:=Zw (most:=most) hb h0;have hb1:=Zk (most:=most) hb;obtain ⟨n,hn⟩:=Int.eq_ofNat_of_zero_le hv.1;have hrl:Zch most each rd=ZcL n each (Ze most rd).2:=by unfold Zch;rw [hn];rfl
  rw [hrl] at hK;rw [hn];rw [hn] at hv;generalize (Ze most rd).2=rd1 at *;refine ⟨λ out i w=>∃ (j:Nat) (acc:List Int) (rdj:Rd),i=j/\j<=n/\acc.length=j/\(∀ x∈rdj.bs,0<=x/\x<256)/\(acc++(ZcL (n - j) each rdj).1,(ZcL (n - j) each rdj).2)=ZcL n each rd1/\Sat R (Own out 3 (Zd acc)::ZT b s bs rdj::Hs) w,λ _ i _=>n - i.toNat,⟨0,[],rd1,rfl,by omega,rfl,hb1,rfl,Own.nil hw⟩,?_⟩;clear hw;rintro _ out _ w ⟨j,acc,rdj,rfl,hj,hacc,hbj,he,hw⟩;refine Br.d (λ h=>?_) (λ h=>?_)
  · obtain ⟨m,hm⟩:∃ m,n - j=m + 1:=⟨n - j - 1,by omega⟩
    rw [hm,Zcd] at he;obtain ⟨nn,hnn,hw⟩:=Sat.rrd.1 hw.swap;refine Zc.mk rfl ⟨rdj.bad,oA hw,Br.nb (λ h4=>?_) (λ h4=>?_)⟩
    · have hw:=(Sat.rrd.2 ⟨nn,hnn,hw⟩:Sat R (ZT b s bs rdj::Own out 3 (Zd acc)::Hs) w)
      rw [if_neg (by rw [h4];simp)] at he;refine (ZG hl hbs hs hw).use ?_;clear hw;rintro _ w ⟨rfl,hw⟩;have hvk:=Zw (most:=each) hbj h2;refine ⟨_,rfl,?_⟩;refine Zbn Zo6 hw.swap (by omega) λ s' w hw=>?_;rw [Zh (by omega) (by omega)] at hw;rw [ZK (by omega) (by omega)];refine ⟨⟨j + 1,acc++[(Ze each rdj).1],(Ze each rdj).2,by omega,by omega,by simp [hacc],Zk hbj,?_,hw⟩,by dsimp only;omega⟩;rw [show n - (j + 1)=m by omega,<-he,List.append_assoc];rfl
    · have hw:=(Sat.rrd.2 ⟨nn,hnn,hw⟩:Sat R (ZT b s bs rdj::Own out 3 (Zd acc)::Hs) w)
      rw [if_pos h4] at he;rw [<-he] at hK;refine hK out w ?_;rw [List.append_nil];exact hw.swap
  · obtain rfl:j=n:=by omega
    rw [Nat.sub_self] at he;rw [<-he] at hK;refine hK out w ?_;show Sat R (Own out 3 (Zd (acc++[]))::ZT b s bs rdj::Hs) w;rw [List.append_nil];exact hw
structure Zyk (r:RF) (j:Nat) (hj:j<r.L.length):Prop where
  o:1<=r.L[j].owner
  p:∀ h:0<j,r.L[j - 1].owner<r.L[j].owner
  c:r.L[j].cls<r.lims.length
  m:1<=r.L[j].many
  n:(r.L[j].seats.length:Int)<=r.L[j].many
  s:∀ k (hk:k<r.L[j].seats.length),r.L[j].seats[k] ∉ Zz (r.L.take j)++r.L[j].seats.take k/\r.L[j].seats[k]<ZaL r.rows r.grps/\∀ h:0<k,r.L[j].seats[k - 1]<r.L[j].seats[k]
structure Zn1 (r:RF):Prop where
  num:1<=r.num
  lay:Zdg r.rows r.grps=true
  lim:ZeF r.lims=true
  l0:r.lims.getD 0 0=ZaL r.rows r.grps
  each:∀ j (hj:j<r.L.length),Zyk r j hj
  nest:Z1 r.lims r.sold=true
structure RIn (r:RF):Prop where
  gl:r.grps.length<=1000
  ll:r.lims.length<=1000
  hl:r.L.length<=1000
  hs:∀ h∈r.L,Zdm h
theorem Ztl {q:Nat} {r:RF} {sg sl s:Sl} {ts:List Sl} (h:RfR R r sg sl s ts) (ri:RIn r) (hw:Sat R (pts q (ZF r sg sl s)::Hs) w):
    Zm prog 153 #[.pointer (some ⟨q,0,none⟩)] w λ v w'=>((Zn1 r/\v=.bool true)\/(¬ Zn1 r/\v=.bool false))/\Sat R (pts q (ZF r sg sl s)::Hs) w':=by
  have hsl:=h.len;have htl:=h.hs.len;have:=ri.gl;have:=ri.ll;have:=ri.hl;have hgo:=h.grps.ro (R:=R) (by rw [List.length_map];omega);have hlo:=h.lims.ro (R:=R) (by rw [List.length_map];omega);have hll:sl.len=r.lims.length:=by have:=h.lims.len;rwa [List.length_map] at this
  apply Zxw
  suffices H:∀ K:Value->World->Prop,(Zn1 r->∀ w',Sat R (pts q (ZF r sg sl s)::Hs) w'->K (.bool true) w')->(¬ Zn1 r->∀ w',Sat R (pts q (ZF r sg sl s)::Hs) w'->K (.bool false) w')->B153 (some ⟨q,0,none⟩) K w from
    H _ (λ h w' h'=>⟨.inl ⟨h,rfl⟩,h'⟩) λ h w' h'=>⟨.inr ⟨h,rfl⟩,h'⟩
  intro K hK1 hK2;refine Zc.mk rfl ⟨r.rows,sg,At.own (eqS hw) (by exact ⟨rfl,rfl,trivial⟩),?_⟩;refine (Zg0 hgo hw).use ?_;clear hw;rintro _ w ⟨rfl,hw⟩;refine ⟨_,rfl,Zc.mk rfl ⟨sl,oA hw,?_⟩⟩;refine (ZkJ hlo hw).use ?_;clear hw;rintro _ w ⟨rfl,hw⟩;refine ⟨_,rfl,λ w=>(1<=r.num/\Zdg r.rows r.grps=true/\ZeF r.lims=true/\r.lims.getD 0 0=ZaL r.rows r.grps)/\Sat R (pts q (ZF r sg sl s)::Hs) w,?_,?_⟩
  · refine Zo hw λ w hw=>?_
    refine Zc.mk rfl ⟨r.num,by rw [Zy];exact oS,?_⟩;refine Br.d (λ h1=>hK2 (λ m=>by have:=m.num;omega) _ hw) (λ h1=>?_);refine Br.nb (λ h2=>hK2 (λ m=>by rw [m.lay] at h2;cases h2) _ hw) (λ h2=>?_);refine Br.nb (λ h3=>hK2 (λ m=>by rw [m.lim] at h3;cases h3) _ hw) (λ h3=>?_);have hl0:0<r.lims.length:=(Zaa.1 h3).1.1;refine Zc.mk rfl ⟨sl,oS,?_⟩;refine Ro.ix hlo Zao 0 rfl hl0 (F:=λ t=>_) ?_;refine Zc.mk rfl ⟨r.rows,sg,At.own Zao (by exact ⟨rfl,rfl,trivial⟩),?_⟩;refine (Zg5 hgo hw).use ?_;clear hw;rintro _ w ⟨rfl,hw⟩;refine ⟨_,rfl,hw,Br.ne (λ h4=>hK2 (λ m=>h4 (by rw [<-ZR hl0];exact m.l0)) _ hw) (λ h4=>⟨⟨by omega,h2,h3,by rw [ZR hl0];exact h4⟩,hw⟩)⟩
  clear hw;rintro _ w ⟨⟨h1,h2,h3,h4⟩,hw⟩;refine ⟨λ told i w=>∃ j:Nat,i=j/\j<=r.L.length/\(∀ x (hx:x<r.L.length),x<j->Zyk r x hx)/\Sat R (Own told 3 (Zd (Zz (r.L.take j)))::pts q (ZF r sg sl s)::Hs) w,λ _ i _=>r.L.length - i.toNat,⟨0,rfl,by omega,λ x hx hx0=>by omega,Own.nil hw⟩,?_⟩;clear hw;rintro _ told _ w ⟨j,rfl,hj,hok,hw⟩;refine Zc.mk rfl ⟨s,oA hw,Br.d (λ h5=>?_) (λ h5=>?_)⟩
  · have j1:j<r.L.length:=by omega
    have j2:j<ts.length:=by omega
    have hin:=ri.hs r.L[j] (List.getElem_mem _);have hin_n:=hin.n;have hro:RoI R ts[j] r.L[j].seats:=(h.hs.seats j j1 j2).ro (by rw [List.length_map];omega);have hrl:=hro.len;have htk:=Zh6 (L:=r.L.take j) λ x hx=>by have:=(ri.hs x (List.mem_of_mem_take hx)).n;omega
    rw [List.length_take,Nat.min_eq_left hj] at htk;refine Zc.mk rfl ⟨s,oA hw,?_⟩;refine h.hs.row (eqS hw) j1 j2 λ a ha=>⟨r.L[j].owner,r.L[j].cls,r.L[j].many,ts[j],ha,?_⟩;refine Zb hw λ bh w hw=>?_;have hw:Sat R (pts bh emH::Own told 3 (Zd (Zz (r.L.take j)))::pts q (ZF r sg sl s)::Hs) w:=hw;refine Za hw (by kernel_rfl) rfl (by simp [Value.cells]) λ w hw=>?_;have hw:=hw.re (pts bh (Zx r.L[j] ts[j]));have bad:∀ {w:World} {l:List Int},¬ Zyk r j j1->Sat R (pts bh (Zx r.L[j] ts[j])::Own told 3 (Zd l)::pts q (ZF r sg sl s)::Hs) w->K (.bool false) w:=λ hn hw=>hK2 (λ m=>hn (m.each j j1)) _ hw.drop.drop;refine ⟨λ w=>(1<=r.L[j].owner/\(∀ h:0<j,r.L[j - 1].owner<r.L[j].owner)/\r.L[j].cls<r.lims.length/\1<=r.L[j].many/\(r.L[j].seats.length:Int)<=r.L[j].many)/\Sat R (pts bh (Zx r.L[j] ts[j])::Own told 3 (Zd (Zz (r.L.take j)))::pts q (ZF r sg sl s)::Hs) w,?_,?_⟩
    · refine Zo hw λ w hw=>?_
      refine ⟨r.L[j].owner,oS,Br.d (λ h6=>bad (λ o=>by have:=o.o;omega) hw) (λ h6=>?_)⟩;have rest:(∀ h:0<j,r.L[j - 1].owner<r.L[j].owner)->(∃ t86:Int,(At (Sat R (pts bh (Zx r.L[j] ts[j])::Own told 3 (Zd (Zz (r.L.take j)))::pts q (ZF r sg sl s)::Hs)) ⟨bh,0 + 1,none⟩ [.int .i64 t86])/\
            Zc (some ⟨q,0,none⟩) λ a_t88=>
            ∃ t90:Sl,(At (Sat R (pts bh (Zx r.L[j] ts[j])::Own told 3 (Zd (Zz (r.L.take j)))::pts q (ZF r sg sl s)::Hs)) ⟨a_t88.block,a_t88.off + 3,none⟩ [.slice t90.a t90.len t90.cap])/\
            Br (decide (t86 >= (↑t90.len:Int)))
             (K (.bool false) w)
             (∃ t96:Int,(At (Sat R (pts bh (Zx r.L[j] ts[j])::Own told 3 (Zd (Zz (r.L.take j)))::pts q (ZF r sg sl s)::Hs)) ⟨bh,0 + 2,none⟩ [.int .i64 t96])/\
              Br (decide (t96<1))
               (K (.bool false) w)
               (∃ t101:Sl,(At (Sat R (pts bh (Zx r.L[j] ts[j])::Own told 3 (Zd (Zz (r.L.take j)))::pts q (ZF r sg sl s)::Hs)) ⟨bh,0 + 3,none⟩ [.slice t101.a t101.len t101.cap])/\
                ∃ t104:Int,(At (Sat R (pts bh (Zx r.L[j] ts[j])::Own told 3 (Zd (Zz (r.L.take j)))::pts q (ZF r sg sl s)::Hs)) ⟨bh,0 + 2,none⟩ [.int .i64 t104])/\
                Br (decide ((↑t101.len:Int)>t104))
                 (K (.bool false) w)
                 ((1<=r.L[j].owner/\(∀ h:0<j,r.L[j - 1].owner<r.L[j].owner)/\r.L[j].cls<r.lims.length/\1<=r.L[j].many/\(r.L[j].seats.length:Int)<=r.L[j].many)/\Sat R (pts bh (Zx r.L[j] ts[j])::Own told 3 (Zd (Zz (r.L.take j)))::pts q (ZF r sg sl s)::Hs) w)))):=λ hp=>by
        refine ⟨r.L[j].cls,oS,Zc.mk rfl ⟨sl,oS,?_⟩⟩;rw [hll];refine Br.d (λ h7=>bad (λ o=>by have:=o.c;omega) hw) (λ h7=>⟨r.L[j].many,oS,Br.d (λ h8=>bad (λ o=>by have:=o.m;omega) hw) (λ h8=>⟨ts[j],oS,r.L[j].many,oS,?_⟩)⟩);rw [hrl];exact Br.d (λ h9=>bad (λ o=>by have:=o.n;omega) hw) (λ h9=>⟨⟨by omega,hp,by omega,by omega,by omega⟩,hw⟩)
      refine Br.d (λ h7=>?_) (λ h7=>rest λ h=>by omega);refine ⟨r.L[j].owner,oS,Zc.mk rfl ⟨s,oS,?_⟩⟩;have e1:IntKind.i64.wrap ((j:Int) - 1)=((j - 1:Nat):Int):=by rw [Zh (by omega) (by omega)];omega
      rw [e1];refine h.hs.fld (j:=0) Zao (k:=j - 1) (by omega) (by omega) rfl λ x nx hx=>⟨r.L[j - 1].owner,by rw [show ((j - 1:Nat):Int).toNat=j - 1 by omega,ZlQ _ _ nx];exact hx,?_⟩;refine Br.d (λ h8=>bad (λ o=>by have:=o.p (by omega);omega) hw) (λ h8=>rest λ _=>by omega)
    clear hw;rintro _ w ⟨⟨o1,o2,o3,o4,o5⟩,hw⟩;refine ⟨λ told i w=>∃ k:Nat,i=k/\k<=r.L[j].seats.length/\(∀ x (hx:x<r.L[j].seats.length),x<k->r.L[j].seats[x] ∉ Zz (r.L.take j)++r.L[j].seats.take x/\r.L[j].seats[x]<ZaL r.rows r.grps/\∀ h:0<x,r.L[j].seats[x - 1]<r.L[j].seats[x])/\
      Sat R (pts bh (Zx r.L[j] ts[j])::Own told 3 (Zd (Zz (r.L.take j)++r.L[j].seats.take k))::pts q (ZF r sg sl s)::Hs) w,λ _ i _=>r.L[j].seats.length - i.toNat,⟨0,rfl,by omega,λ x hx hx0=>by omega,by simpa using hw⟩,?_⟩
    clear hw;rintro _ told2 _ w ⟨k,rfl,hk,hks,hw⟩;have hTl:(Zz (r.L.take j)++r.L[j].seats.take k).length<=2000000:=by rw [List.length_append,List.length_take];omega
    refine ⟨ts[j],oA hw,?_⟩;refine Br.d (λ h6=>?_) (λ h6=>?_)
    · have hk1:k<r.L[j].seats.length:=by omega
      have bad2:∀ {w:World},¬ (r.L[j].seats[k] ∉ Zz (r.L.take j)++r.L[j].seats.take k/\r.L[j].seats[k]<ZaL r.rows r.grps/\∀ h:0<k,r.L[j].seats[k - 1]<r.L[j].seats[k])->Sat R (pts bh (Zx r.L[j] ts[j])::Own told2 3 (Zd (Zz (r.L.take j)++r.L[j].seats.take k))::pts q (ZF r sg sl s)::Hs) w->K (.bool false) w:=λ hn hw=>hK2 (λ m=>hn ((m.each j j1).s k hk1)) _ hw.drop.drop;refine ⟨ts[j],oA hw,?_⟩;refine Ro.ix hro (eqS hw) k rfl hk1 ?_;obtain ⟨R2,hrk,keep,hw,back2⟩:=Own.lendI hw.swap (by omega);refine (ZtE hrk hw).use ?_;clear hw;rintro _ w ⟨rfl,hw⟩;have hw:=(back2 hw).swap;refine ⟨_,rfl,Zo hw λ w hw=>Br.d (λ h7=>bad2 (λ hh=>hh.1 h7) hw) (λ h7=>?_)⟩;refine ⟨ts[j],oS,?_⟩;refine Ro.ix hro Zao k rfl hk1 ?_;refine Zc.mk rfl ⟨r.rows,sg,At.own Zao (by exact ⟨rfl,rfl,trivial⟩),?_⟩;refine (Zg5 hgo hw).use ?_;clear hw;rintro _ w ⟨rfl,hw⟩;refine ⟨_,rfl,hw,Br.d (λ h8=>bad2 (λ hh=>by have:=hh.2.1;omega) hw) (λ h8=>?_)⟩;have fin:(∀ h:0<k,r.L[j].seats[k - 1]<r.L[j].seats[k])->∀ {s':Sl} {w:World},Sat R (Own s' 3 (Zd (Zz (r.L.take j)++r.L[j].seats.take k++[r.L[j].seats[k]]))::pts bh (Zx r.L[j] ts[j])::pts q (ZF r sg sl s)::Hs) w->
          (∃ k_1:Nat,IntKind.i64.wrap ((k:Int) + 1)=k_1/\k_1<=r.L[j].seats.length/\(∀ x (hx:x<r.L[j].seats.length),x<k_1->r.L[j].seats[x] ∉ Zz (r.L.take j)++r.L[j].seats.take x/\r.L[j].seats[x]<ZaL r.rows r.grps/\∀ h:0<x,r.L[j].seats[x - 1]<r.L[j].seats[x])/\
            Sat R (pts bh (Zx r.L[j] ts[j])::Own s' 3 (Zd (Zz (r.L.take j)++r.L[j].seats.take k_1))::pts q (ZF r sg sl s)::Hs) w):=λ hp {s' w} hw=>by
        rw [Zh (by omega) (by omega)];refine ⟨k + 1,by omega,by omega,λ x hx hxk=>?_,?_⟩
        · by_cases hxe:x=k
          · subst hxe;exact ⟨h7,by omega,hp⟩
          · exact hks x hx (by omega)
        · rw [show r.L[j].seats.take (k + 1)=r.L[j].seats.take k++[r.L[j].seats[k]] by rw [List.take_add_one,List.getElem?_eq_getElem hk1];rfl,<-List.append_assoc]
          exact hw.swap
      have wr:IntKind.i64.wrap ((k:Int) + 1)=(k:Int) + 1:=Zh (by omega) (by omega);refine Br.d (λ h9=>?_) (λ h9=>?_)
      · refine ⟨ts[j],oS,?_⟩
        refine Ro.ix hro Zao k rfl hk1 ⟨ts[j],oS,?_⟩;refine Ro.ix hro Zao (k - 1) (by rw [Zh (by omega) (by omega)];omega) (by omega) ?_;refine Br.d (λ h10=>bad2 (λ hh=>by have:=hh.2.2 (by omega);omega) hw) (λ h10=>⟨ts[j],oA hw,?_⟩);refine Ro.ix hro (eqS hw) k rfl hk1 ?_;refine Zbn Zo6 hw.swap (by omega) λ s' w hw=>?_;exact ⟨fin (λ _=>by omega) hw,by dsimp only;omega⟩
      · refine ⟨ts[j],oA hw,?_⟩
        refine Ro.ix hro (eqS hw) k rfl hk1 ?_;refine Zbn Zo6 hw.swap (by omega) λ s' w hw=>?_;exact ⟨fin (λ h=>by omega) hw,by dsimp only;omega⟩
    · rw [List.take_of_length_le (show r.L[j].seats.length<=k by omega),<-ZlZ j1] at hw
      rw [Zh (by omega) (by omega)];refine ⟨⟨j + 1,by omega,by omega,λ x hx hxj=>?_,hw.drop⟩,by dsimp only;omega⟩;by_cases hxe:x=j
      · subst hxe;exact ⟨o1,o2,o3,o4,o5,λ y hy=>hks y hy (by omega)⟩
      · exact hok x hx (by omega)
  · have hall:∀ x (hx:x<r.L.length),Zyk r x hx:=λ x hx=>hok x hx (by omega)
    have hw:=hw.drop;refine Zo hw λ w hw=>?_;refine Zc.mk rfl ⟨sl,oS,?_⟩;refine (Zie h (by omega) (by omega) (λ x hx=>?_) hw).use ?_
    · obtain ⟨i,hi,rfl⟩:=List.getElem_of_mem hx
      have h6:=ri.hs r.L[i] hx;exact ⟨⟨h6.c.1,(hall i hi).c⟩,⟨h6.m.1,by have:=h6.m.2;omega⟩⟩
    clear hw;rintro _ w ⟨t,rfl,hw⟩;refine ⟨t,rfl,hw.drop,?_⟩;obtain ⟨R2,hrk,keep,hw,back2⟩:=Own.lendI hw (by show (Z4 _ _).length<=_;rw [ZaM];omega);refine (Zga (keep _ _ hlo) hrk hw).use ?_;clear hw;rintro _ w ⟨rfl,hw⟩;have hw:=(back2 hw).drop;refine ⟨_,rfl,?_⟩;cases hn:Z1 r.lims r.sold with
    |true=>exact hK1 ⟨h1,h2,h3,h4,hall,hn⟩ _ hw
    |false=>exact hK2 (λ m=>by rw [m.nest] at hn;cases hn) _ hw
end
section
open Go Go.VC Tryz
variable {R R':Cx} {Hs Rest:List HP} {w:World}
def Zbb (rd:Rd):ZD × Rd:=
 (⟨(Ze 28629151 rd).1,(Ze 8 (Ze 28629151 rd).2).1,(Ze 600 (Ze 8 (Ze 28629151 rd).2).2).1,(Zch 600 600 (Ze 600 (Ze 8 (Ze 28629151 rd).2).2).2).1⟩,(Zch 600 600 (Ze 600 (Ze 8 (Ze 28629151 rd).2).2).2).2)
def rHs:Nat->Rd->List ZD × Rd
 |0,rd=>([],rd)
 |k + 1,rd=>if rd.bad then ([],rd) else ((Zbb rd).1::(rHs k (Zbb rd).2).1,(rHs k (Zbb rd).2).2)
theorem ZeX (k:Nat) (rd:Rd):rHs (k + 1) rd=if rd.bad then ([],rd) else ((Zbb rd).1::(rHs k (Zbb rd).2).1,(rHs k (Zbb rd).2).2):=rfl
theorem Zqd {rd:Rd} (h:∀ x∈rd.bs,0<=x/\x<256):∀ x∈(Zbb rd).2.bs,0<=x/\x<256:=Zjk (Zk (Zk (Zk h)))
theorem Zot {rd:Rd} (h:∀ x∈rd.bs,0<=x/\x<256):Zdm (Zbb rd).1:=by
 have h1:=Zk (most:=28629151) h;have h2:=Zk (most:=8) h1;have h3:=Zk (most:=600) h2;have hl:=Zg6 (most:=600) (each:=600) h3 (by omega) (by omega);exact ⟨Zw h (by omega),Zw h1 (by omega),Zw h2 (by omega),hl.1,by have:=hl.2;show (Zch _ _ _).1.length<=600;omega⟩
def ZdY (bs:List Int):Raw:=
 let a:=Ze 9999 ⟨bs,false⟩
 let b:=Ze 60 a.2
 let g:=Zch 4 10 b.2
 let l:=Zch 8 10000 g.2
 let n:=Ze 600 l.2
 let x:=rHs n.1.toNat n.2
 ⟨a.1,b.1,g.1,l.1,x.1,x.2⟩
def Raw.rf (x:Raw):RF:=⟨x.num,x.rows,x.grps,x.lims,x.L⟩
set_option maxHeartbeats 1000000 in
theorem Zji {s:Sl} {bs:List Int} (hb:∀ y∈bs,0<=y/\y<256) (hs:SlR R.m s (b8 bs)) (hl:bs.length<=1099511627776) (hw:Sat R Hs w):
  Zm prog 94 #[.slice s.a s.len s.cap] w λ v w'=>(¬ (Z0 (ZdY bs).rd=true/\Zn1 (ZdY bs).rf)/\v=.tuple #[.pointer none,.int .i64 6]/\Sat R Hs w')\/
   (Z0 (ZdY bs).rd=true/\Zn1 (ZdY bs).rf/\∃ q,v=.tuple #[.pointer (some ⟨q,0,none⟩),.int .i64 0]/\Sat R (Zgv q (ZdY bs).rf::Hs) w'):=by
 apply ZyX
 suffices H:∀ K:Value->World->Prop,(¬ (Z0 (ZdY bs).rd=true/\Zn1 (ZdY bs).rf)->∀ w',Sat R Hs w'->K (.tuple #[.pointer none,.int .i64 6]) w')->(Z0 (ZdY bs).rd=true/\Zn1 (ZdY bs).rf->∀ q w',Sat R (Zgv q (ZdY bs).rf::Hs) w'->K (.tuple #[.pointer (some ⟨q,0,none⟩),.int .i64 0]) w')->B94 s K w from
  H _ (λ e w' h=>.inl ⟨e,rfl,h⟩) λ e q w' h=>.inr ⟨e.1,e.2,q,rfl,h⟩
 intro K hK1 hK2;have hb0:∀ y∈(⟨bs,false⟩:Rd).bs,0<=y/\y<256:=hb;have v1:=Zw (most:=9999) hb0 (by omega);have hb1:=Zk (most:=9999) hb0;obtain ⟨num,rd1,e1⟩:∃ y rd,Ze 9999 ⟨bs,false⟩=(y,rd):=⟨_,_,rfl⟩;rw [e1] at v1 hb1;have v2:=Zw (most:=60) hb1 (by omega);have hb2:=Zk (most:=60) hb1;obtain ⟨rows,rd2,e2⟩:∃ y rd,Ze 60 rd1=(y,rd):=⟨_,_,rfl⟩;rw [e2] at v2 hb2;have v3:=Zg6 (most:=4) (each:=10) hb2 (by omega) (by omega);have hb3:=Zjk (most:=4) (each:=10) hb2;obtain ⟨grps,rd3,e3⟩:∃ y rd,Zch 4 10 rd2=(y,rd):=⟨_,_,rfl⟩;rw [e3] at v3 hb3;have v4:=Zg6 (most:=8) (each:=10000) hb3 (by omega) (by omega);have hb4:=Zjk (most:=8) (each:=10000) hb3;obtain ⟨lims,rd4,e4⟩:∃ y rd,Zch 8 10000 rd3=(y,rd):=⟨_,_,rfl⟩;rw [e4] at v4 hb4;have v5:=Zw (most:=600) hb4 (by omega);have hb5:=Zk (most:=600) hb4;obtain ⟨nz,rd5,e5⟩:∃ y rd,Ze 600 rd4=(y,rd):=⟨_,_,rfl⟩;rw [e5] at v5 hb5;dsimp only at v1 v2 v3 v4 v5 hb1 hb2 hb3 hb4 hb5;obtain ⟨n,rfl⟩:=Int.eq_ofNat_of_zero_le v5.1;have hraw:ZdY bs=⟨num,rows,grps,lims,(rHs n rd5).1,(rHs n rd5).2⟩:=by
  unfold ZdY;simp only [e1,e2,e3,e4,e5];rfl
 refine Zb hw λ b w hw=>?_;have hw:Sat R (pts b (Z6 s 0 false)::Hs) w:=hw;have hw:Sat R (ZT b s bs ⟨bs,false⟩::Hs) w:=Sat.rrd.2 ⟨0,⟨by omega,rfl⟩,hw⟩;refine (ZG hl hb hs hw).use ?_;clear hw;rintro _ w ⟨rfl,hw⟩;rw [e1] at hw ⊢;refine ⟨_,rfl,?_⟩;refine (ZG hl hb hs hw).use ?_;clear hw;rintro _ w ⟨rfl,hw⟩;rw [e2] at hw ⊢;refine ⟨_,rfl,?_⟩;rw [Zh (x:=num) (by omega) (by omega),Zh (x:=rows) (by omega) (by omega)];refine Zb hw λ q w hw=>?_;have hw:Sat R (ZT b s bs rd2::pts q (ZF ⟨num,rows,[],[],[]⟩ ⟨none,0,0⟩ ⟨none,0,0⟩ ⟨none,0,0⟩)::Hs) w:=hw.swap;refine (Zfy (most:=4) (each:=10) (by omega) (by omega) (by omega) (by omega) hl hb hb2 hs hw).use ?_;clear hw;rintro _ w ⟨tg,rfl,hw⟩;rw [e3] at hw;refine ⟨tg,rfl,?_⟩;have hw:Sat R (pts q (ZF ⟨num,rows,[],[],[]⟩ ⟨none,0,0⟩ ⟨none,0,0⟩ ⟨none,0,0⟩)::ZT b s bs rd3::Own tg 3 (Zd grps)::Hs) w:=hw.arr;refine Za hw (by kernel_rfl) rfl (by simp [Value.cells]) λ w hw=>?_;have hw:=hw.re (pts q (ZF ⟨num,rows,[],[],[]⟩ tg ⟨none,0,0⟩ ⟨none,0,0⟩));refine (Zfy (most:=8) (each:=10000) (by omega) (by omega) (by omega) (by omega) hl hb hb3 hs hw.swap).use ?_;clear hw;rintro _ w ⟨tl,rfl,hw⟩;rw [e4] at hw;refine ⟨tl,rfl,?_⟩;have hw:Sat R (pts q (ZF ⟨num,rows,[],[],[]⟩ tg ⟨none,0,0⟩ ⟨none,0,0⟩)::ZT b s bs rd4::Own tl 3 (Zd lims)::Own tg 3 (Zd grps)::Hs) w:=hw.arr;refine Za hw (by kernel_rfl) rfl (by simp [Value.cells]) λ w hw=>?_;have hw:=hw.re (pts q (ZF ⟨num,rows,grps,lims,[]⟩ tg tl ⟨none,0,0⟩));refine (ZG hl hb hs hw.swap).use ?_;clear hw;rintro _ w ⟨rfl,hw⟩;rw [e5] at hw ⊢;refine ⟨_,rfl,?_⟩;dsimp only at hw ⊢;have hw:Sat R (Own tg 3 (Zd grps)::Own tl 3 (Zd lims)::pts q (ZF ⟨num,rows,grps,lims,[]⟩ tg tl ⟨none,0,0⟩)::ZT b s bs rd5::Hs) w:=hw.arr;have hw:Sat R (RO q ⟨num,rows,grps,lims,[]⟩ tg tl ⟨none,0,0⟩ [] (ZT b s bs rd5::Hs)) w:=Own.reads (hw.cons λ _ h=>Own.reads (h.cons λ _ h=>h.cons λ _ h=>Zt.nil (Sat.star.2 h)));obtain ⟨J,hJ⟩:∃ J:World->Prop,∀ w,J w↔∃ (sh:Sl) (ts:List Sl),ts.length=(rHs n rd5).1.length/\((rHs n rd5).1.length<=n/\∀ h∈(rHs n rd5).1,Zdm h)/\Sat R (RO q ⟨num,rows,grps,lims,(rHs n rd5).1⟩ tg tl sh ts (ZT b s bs (rHs n rd5).2::Hs)) w:=⟨_,λ _=>Iff.rfl⟩;refine ⟨J,?_,?_⟩
 ·refine ⟨λ i w=>∃ (j:Nat) (acc:List ZD) (rdj:Rd) (sh:Sl) (ts:List Sl),i=j/\j<=n/\acc.length=j/\ts.length=acc.length/\(∀ h∈acc,Zdm h)/\(∀ x∈rdj.bs,0<=x/\x<256)/\(acc++(rHs (n - j) rdj).1,(rHs (n - j) rdj).2)=rHs n rd5/\
   Sat R (RO q ⟨num,rows,grps,lims,acc⟩ tg tl sh ts (ZT b s bs rdj::Hs)) w,λ i _=>n - i.toNat,⟨0,[],rd5,⟨none,0,0⟩,[],rfl,by omega,rfl,rfl,λ h hh=>(by cases hh),hb5,rfl,hw⟩,?_⟩
  clear hw;rintro _ _ w ⟨j,acc,rdj,sh,ts,rfl,hj,hacc,hts,hin,hbj,he,hw⟩;have fin:(acc,rdj)=rHs n rd5->∀ {w},Sat R (RO q ⟨num,rows,grps,lims,acc⟩ tg tl sh ts (ZT b s bs rdj::Hs)) w->J w:=λ e w hw=>by
   refine (hJ w).2 ⟨sh,ts,?_⟩;rw [<-e];exact ⟨hts,⟨by show acc.length<=n;omega,hin⟩,hw⟩
  obtain ⟨J1,hJ1⟩:∃ J1:World->Prop,∀ w,J1 w↔(j<n/\rdj.bad=false)/\Sat R (RO q ⟨num,rows,grps,lims,acc⟩ tg tl sh ts (ZT b s bs rdj::Hs)) w:=⟨_,λ _=>Iff.rfl⟩;refine ⟨J1,Br.d (λ h=>?_) (λ h=>?_),?_⟩
  ·have hw2:Sat R (ZT b s bs rdj::RO q ⟨num,rows,grps,lims,acc⟩ tg tl sh ts Hs) w:=hw.arr
   obtain ⟨nn,hnn,hw2⟩:=Sat.rrd.1 hw2;refine ⟨rdj.bad,At.own (eqS hw2) (by exact ⟨rfl,trivial⟩),Br.nb (λ h4=>(hJ1 w).2 ⟨⟨by omega,h4⟩,hw⟩) (λ h4=>?_)⟩;obtain ⟨m,hm⟩:∃ m,n - j=m + 1:=⟨n - j - 1,by omega⟩;rw [hm,ZeX,if_pos h4,List.append_nil] at he;exact fin he hw
  ·rw [show n - j=0 by omega] at he
   have he:(acc++[],rdj)=rHs n rd5:=he;rw [List.append_nil] at he;exact fin he hw
  clear hw;intro _ w hJw;obtain ⟨⟨hjn,h4⟩,hw⟩:=(hJ1 w).1 hJw;clear hJw hJ1 fin;obtain ⟨m,hm⟩:∃ m,n - j=m + 1:=⟨n - j - 1,by omega⟩;rw [hm,ZeX,if_neg (by rw [h4];simp)] at he;have hval:=Zot hbj;have hbn:=Zqd hbj;have c1:=Zk (most:=28629151) hbj;have u1:=Zw (most:=28629151) hbj (by omega);have c2:=Zk (most:=8) c1;have u2:=Zw (most:=8) c1 (by omega);have c3:=Zk (most:=600) c2;have u3:=Zw (most:=600) c2 (by omega);have hw:Sat R (ZT b s bs rdj::RO q ⟨num,rows,grps,lims,acc⟩ tg tl sh ts Hs) w:=hw.arr;refine (ZG hl hb hs hw).use ?_;clear hw;rintro _ w ⟨rfl,hw⟩;refine ⟨_,rfl,?_⟩;refine (ZG hl hb hs hw).use ?_;clear hw;rintro _ w ⟨rfl,hw⟩;refine ⟨_,rfl,?_⟩;refine (ZG hl hb hs hw).use ?_;clear hw;rintro _ w ⟨rfl,hw⟩;refine ⟨_,rfl,?_⟩;refine Zb hw λ bh w hw=>?_;have hw:Sat R (pts bh emH::ZT b s bs (Ze 600 (Ze 8 (Ze 28629151 rdj).2).2).2::RO q ⟨num,rows,grps,lims,acc⟩ tg tl sh ts Hs) w:=hw;refine Za hw (by kernel_rfl) rfl (by simp [Value.cells]) λ w hw=>?_;rw [Zh (x:=(Ze 28629151 rdj).1) (by omega) (by omega),Zh (x:=(Ze 8 (Ze 28629151 rdj).2).1) (by omega) (by omega),Zh (x:=(Ze 600 (Ze 8 (Ze 28629151 rdj).2).2).1) (by omega) (by omega)] at hw;have hw:=hw.re (pts bh (Zx ⟨(Ze 28629151 rdj).1,(Ze 8 (Ze 28629151 rdj).2).1,(Ze 600 (Ze 8 (Ze 28629151 rdj).2).2).1,[]⟩ ⟨none,0,0⟩));refine (Zfy (most:=600) (each:=600) (by omega) (by omega) (by omega) (by omega) hl hb c3 hs hw.swap).use ?_;clear hw;rintro _ w ⟨t,rfl,hw⟩;refine ⟨t,rfl,?_⟩;have hw:Sat R (pts bh (Zx ⟨(Ze 28629151 rdj).1,(Ze 8 (Ze 28629151 rdj).2).1,(Ze 600 (Ze 8 (Ze 28629151 rdj).2).2).1,[]⟩ ⟨none,0,0⟩)::Own t 3 (Zd (Zch 600 600 (Ze 600 (Ze 8 (Ze 28629151 rdj).2).2).2).1)::ZT b s bs (Zch 600 600 (Ze 600 (Ze 8 (Ze 28629151 rdj).2).2).2).2::RO q ⟨num,rows,grps,lims,acc⟩ tg tl sh ts Hs) w:=hw.arr;have hw:Sat R (pts bh (Zx ⟨(Ze 28629151 rdj).1,(Ze 8 (Ze 28629151 rdj).2).1,(Ze 600 (Ze 8 (Ze 28629151 rdj).2).2).1,[]⟩ ⟨none,0,0⟩)::Own t 3 (Zd (Zbb rdj).1.seats)::ZT b s bs (Zbb rdj).2::RO q ⟨num,rows,grps,lims,acc⟩ tg tl sh ts Hs) w:=hw;refine Za hw (by kernel_rfl) rfl (by simp [Value.cells]) λ w hw=>?_;have hw:=hw.re (pts bh (Zx (Zbb rdj).1 t));generalize (Zbb rdj).1=hd at *;generalize (Zbb rdj).2=rdn at *;have hw:Sat R (pts q (ZF ⟨num,rows,grps,lims,acc⟩ tg tl sh)::pts bh (Zx hd t)::Zt 4 sh 176 (ZbQ acc ts)::ZA tg (Zd grps)::ZA tl (Zd lims)::Zbl acc ts::Own t 3 (Zd hd.seats)::ZT b s bs rdn::Hs) w:=hw.arr;have sx:∀ {Hs':List HP} {w},Sat R (pts q (ZF ⟨num,rows,grps,lims,acc⟩ tg tl sh)::pts bh (Zx hd t)::Hs') w->Sat R [pts q (ZF ⟨num,rows,grps,lims,acc⟩ tg tl sh),pts bh (Zx hd t),VC.tru] w:=λ hw=>hw.cons λ _ h=>h.restTru2;refine ZE (Sat R [pts q (ZF ⟨num,rows,grps,lims,acc⟩ tg tl sh),pts bh (Zx hd t),VC.tru]) hw (λ w hw=>sx hw) λ w hw=>?_;refine ⟨sh,oS,hd.owner,hd.cls,hd.many,t,At.own Zao (by exact ⟨rfl,rfl,rfl,rfl,trivial⟩),?_⟩;have hrl:=Zbs hts;have hw:=hw.take (Zt 4 sh 176 (ZbQ acc ts));refine Zb hw λ b67 w hw=>?_;have hw:Sat R (pts b67 (.cells (ZhV hd t).toArray 176 (0,0))::Zt 4 sh 176 (ZbQ acc ts)::pts q (ZF ⟨num,rows,grps,lims,acc⟩ tg tl sh)::pts bh (Zx hd t)::ZA tg (Zd grps)::ZA tl (Zd lims)::Zbl acc ts::Own t 3 (Zd hd.seats)::ZT b s bs rdn::Hs) w:=hw;refine ⟨(hw.arr:Sat R (pts q (ZF ⟨num,rows,grps,lims,acc⟩ tg tl sh)::pts bh (Zx hd t)::pts b67 (.cells (ZhV hd t).toArray 176 (0,0))::Zt 4 sh 176 (ZbQ acc ts)::ZA tg (Zd grps)::ZA tl (Zd lims)::Zbl acc ts::Own t 3 (Zd hd.seats)::ZT b s bs rdn::Hs) w)|>sx,?_⟩;have hw:Sat R (Zt 4 sh 176 (ZbQ acc ts)::pts b67 (.cells (ZhV hd t).toArray 176 (0,0))::pts q (ZF ⟨num,rows,grps,lims,acc⟩ tg tl sh)::pts bh (Zx hd t)::ZA tg (Zd grps)::ZA tl (Zd lims)::Zbl acc ts::Own t 3 (Zd hd.seats)::ZT b s bs rdn::Hs) w:=hw.swap;refine Za1 (ys:=[ZhV hd t]) elH hw (Zfq ⟨_,underlying147⟩ (b:=b67) 1 hw rfl rfl) (Wid.one rfl) (by rw [List.length_singleton];omega) (by rw [List.length_singleton];omega) λ s2 w hw=>?_;have hw:Sat R (pts q (ZF ⟨num,rows,grps,lims,acc⟩ tg tl sh)::pts bh (Zx hd t)::Zt 4 s2 176 (ZbQ acc ts++[ZhV hd t])::ZA tg (Zd grps)::ZA tl (Zd lims)::Zbl acc ts::Own t 3 (Zd hd.seats)::ZT b s bs rdn::Hs) w:=(hw.take (pts b67 (.cells (ZhV hd t).toArray 176 (0,0)))).drop.arr;refine ⟨sx hw,?_⟩;refine Za hw (by kernel_rfl) rfl (by simp [Value.cells]) λ w hw=>?_;have hw:=hw.re (pts q (ZF ⟨num,rows,grps,lims,acc++[hd]⟩ tg tl s2));rw [ZK (by omega) (by omega)];refine ⟨⟨j + 1,acc++[hd],rdn,s2,ts++[t],by omega,by omega,by simp [hacc],by simp [hts],λ h hh=>?_,hbn,?_,?_⟩,by dsimp only;omega⟩
  ·rcases List.mem_append.1 hh with hh|hh
   ·exact hin h hh
   ·rw [List.mem_singleton.1 hh];exact hval
  ·rw [show n - (j + 1)=m by omega,<-he,List.append_assoc];rfl
  ·have e6:=Zif hts hd t
   have hw:Sat R (ZA tg (Zd grps)::ZA tl (Zd lims)::pts q (ZF ⟨num,rows,grps,lims,acc++[hd]⟩ tg tl s2)::Zt 4 s2 176 (ZbQ acc ts++[ZhV hd t])::Own t 3 (Zd hd.seats)::Zbl acc ts::ZT b s bs rdn::Hs) w:=
    (hw.take (pts bh (Zx hd t))).drop.arr
   rw [<-e6] at hw;refine hw.cons λ _ h=>h.cons λ _ h=>h.cons λ _ h=>h.cons λ _ h=>?_;have h7:=Zbl.ins (k:=acc.length) hts (Nat.le_refl _) (Own.reads h);rw [List.take_length,List.drop_length,<-hts,List.take_length,List.drop_length] at h7;exact h7
 ·clear hw
  intro _ w hJw;obtain ⟨sh,ts,hts,⟨hnl,hin⟩,hw⟩:=(hJ w).1 hJw;clear hJw hJ;have hrf:(ZdY bs).rf=⟨num,rows,grps,lims,(rHs n rd5).1⟩:=by rw [hraw];rfl
  have hrd:(ZdY bs).rd=(rHs n rd5).2:=by rw [hraw]
  rw [hrf,hrd] at hK1 hK2;have hw:Sat R (ZT b s bs (rHs n rd5).2::RO q ⟨num,rows,grps,lims,(rHs n rd5).1⟩ tg tl sh ts Hs) w:=hw.arr;refine (Zdt hs hw).use ?_;clear hw;rintro _ w ⟨rfl,hw⟩;have hw:=hw.drop;refine ⟨_,rfl,Br.mk (λ h1=>?_) (λ h1=>hK1 (λ h2=>by rw [h2.1] at h1;cases h1) _ ?_)⟩
  ·obtain ⟨R',ee,h,hw,back⟩:=RO.out hts hw
   refine (Ztl h ⟨by show grps.length<=_;omega,by show lims.length<=_;omega,by show (rHs n rd5).1.length<=_;omega,hin⟩ hw).use ?_;clear hw;rintro _ w ⟨hv,hw⟩;have hw:=back _ _ hw;rcases hv with ⟨hm,rfl⟩|⟨hm,rfl⟩
   ·exact ⟨_,rfl,Br.f rfl (hK2 ⟨h1,hm⟩ _ _ (Sat.rf.2 ⟨tg,tl,sh,ts,hts,hw⟩))⟩
   ·exact ⟨_,rfl,Br.t rfl (hK1 (λ h2=>hm h2.2) _ hw.drop.drop.drop.drop.drop)⟩
  ·exact hw.drop.drop.drop.drop.drop
end
section
open Go Go.VC Tryz
theorem ZbT {most:Int} {r:Rd} (h:r.bad=true):Ze most r=(0,r):=by unfold Ze;rw [if_pos h]
theorem Zhg {each:Int}:∀ (k:Nat) {r:Rd},r.bad=true->(Zby k each r).2.bad=true
 |0,_,h=>h
 |k + 1,r,h=>by show (Zby k each (Ze each r).2).2.bad=true;rw [ZbT h];exact Zhg k h
theorem Znq {each:Int}:∀ (k:Nat) {r:Rd},(Zby k each r).2.bad=false->ZcL k each r=Zby k each r
 |0,_,_=>rfl
 |k + 1,r,h=>by
  have hr:r.bad=false:=by cases e:r.bad with|false=>rfl|true=>rw [Zhg (k + 1) e] at h;cases h
  rw [Zcd,if_neg (by rw [hr];simp),Znq k h];rfl
theorem Zne {each:Int}:∀ (k:Nat) {r:Rd},(ZcL k each r).2.bad=false->ZcL k each r=Zby k each r
 |0,_,_=>rfl
 |k + 1,r,h=>by
  have hr:r.bad=false:=by cases e:r.bad with|false=>rfl|true=>rw [Zqm e (k + 1)] at h;rw [e] at h;cases h
  rw [Zcd,if_neg (by rw [hr];simp)] at h ⊢;rw [Zne k h];rfl
theorem Zld {most each:Int} {r:Rd} (h:r.bad=true):(Zb7 most each r).2.bad=true:=by unfold Zb7;rw [ZbT h];exact Zhg _ h
theorem Zqn {most each:Int} {r:Rd} (h:r.bad=true):(Zch most each r).2.bad=true:=by unfold Zch;rw [ZbT h];show (ZcL 0 each r).2.bad=true;exact h
theorem Zjw {most each:Int} {r:Rd} (h:(Zb7 most each r).2.bad=false):Zch most each r=Zb7 most each r:=Znq _ h
theorem Zjj {most each:Int} {r:Rd} (h:(Zch most each r).2.bad=false):Zch most each r=Zb7 most each r:=Zne _ h
theorem Zqe {r:Rd} (h:r.bad=true):(ZaQ r).2.bad=true:=by unfold ZaQ;rw [ZbT h,ZbT h,ZbT h];exact Zld h
theorem ZsY {r:Rd} (h:(ZaQ r).2.bad=false):Zbb r=ZaQ r:=by unfold Zbb ZaQ;rw [Zjw h]
theorem Zqc {r:Rd} (h:(Zbb r).2.bad=false):Zbb r=ZaQ r:=by unfold Zbb ZaQ;rw [Zjj h]
theorem ZdV:∀ (k:Nat) {r:Rd},r.bad=true->(ZV k r).2.bad=true
 |0,_,h=>h
 |k + 1,r,h=>ZdV k (Zqe h)
theorem Zl9 {r:Rd} (h:r.bad=true):∀ k,rHs k r=([],r)
 |0=>rfl
 |k + 1=>by rw [ZeX,if_pos h]
theorem ZkR:∀ (k:Nat) {r:Rd},(ZV k r).2.bad=false->rHs k r=ZV k r
 |0,_,_=>rfl
 |k + 1,r,h=>by
  have hr:r.bad=false:=by cases e:r.bad with|false=>rfl|true=>rw [ZdV (k + 1) e] at h;cases h
  have h:(ZV k (ZaQ r).2).2.bad=false:=h;have h2:(ZaQ r).2.bad=false:=by cases e:(ZaQ r).2.bad with|false=>rfl|true=>rw [ZdV k e] at h;cases h
  rw [ZeX,if_neg (by rw [hr];simp),ZsY h2,ZkR k h];rfl
theorem Zuk:∀ (k:Nat) {r:Rd},(rHs k r).2.bad=false->rHs k r=ZV k r
 |0,_,_=>rfl
 |k + 1,r,h=>by
  have hr:r.bad=false:=by cases e:r.bad with|false=>rfl|true=>rw [Zl9 e (k + 1)] at h;rw [e] at h;cases h
  rw [ZeX,if_neg (by rw [hr];simp)] at h ⊢;have h:(rHs k (Zbb r).2).2.bad=false:=h;have h2:(Zbb r).2.bad=false:=by cases e:(Zbb r).2.bad with|false=>rfl|true=>rw [Zl9 e k] at h;rw [e] at h;cases h
  rw [Zqc h2] at h ⊢;rw [Zuk k h];rfl
theorem Zc4 {a b:Rd} (h:a.bad=true->b.bad=true) (hb:b.bad=false):a.bad=false:=by
 cases e:a.bad with
 |false=>rfl
 |true=>rw [h e] at hb;cases hb
theorem Zqi {bs:List Int} (h:(ZfD bs).rd.bad=false):ZdY bs=ZfD bs:=by
 unfold ZfD at h;dsimp only at h;have h1:=Zc4 (ZdV _) h;have h2:=Zc4 (λ e=>by rw [ZbT e];exact e) h1;have h3:=Zc4 Zld h2;unfold ZdY ZfD;dsimp only;rw [Zjw h3,Zjw h2,ZkR _ h]
theorem Zu1 {bs:List Int} (h:(ZdY bs).rd.bad=false):ZdY bs=ZfD bs:=by
 unfold ZdY at h;dsimp only at h;have h1:=Zc4 (λ e=>by rw [Zl9 e];exact e) h;have h2:=Zc4 (λ e=>by rw [ZbT e];exact e) h1;have h3:=Zc4 Zqn h2;have e3:=Zjj h3;rw [e3] at h2 h;have e4:=Zjj h2;rw [e4] at h;unfold ZdY ZfD;dsimp only;rw [e3,e4,Zuk _ h]
theorem Zpx {r:Rd} (h:Z0 r=true):r.bad=false:=by
 unfold Z0 at h;cases e:r.bad with
 |false=>rfl
 |true=>rw [e] at h;cases h
theorem ZkV (bs:List Int):Z0 (ZdY bs).rd=Z0 (ZfD bs).rd/\(Z0 (ZfD bs).rd=true->ZdY bs=ZfD bs):=by
 constructor
 ·cases e:(ZfD bs).rd.bad with
  |false=>rw [Zqi e]
  |true=>
   cases e2:(ZdY bs).rd.bad with
   |false=>rw [Zu1 e2]
   |true=>unfold Z0;rw [e,e2];rfl
 ·exact λ h=>Zqi (Zpx h)
theorem Zjt {lim sold:List Int} {c many:Int} (hn:Z1 lim sold=true) (c0:0<=c) (c1:c<lim.length) (m0:1<=many) (m1:many<=10000) (h:Z1 lim (sold.set c.toNat (sold.getD c.toNat 0 + many))=true):(Za5 lim sold c many).2=0:=by
 obtain ⟨i1,i2,i3⟩:=ZJ.1 hn;obtain ⟨_,_,k3⟩:=ZJ.1 h;have hl:ZaW lim sold c=(mnF (ZcK lim sold) (c.toNat + 1),0):=by unfold ZaW;rw [if_pos ⟨hn,c0,c1⟩]
 have hm:=Zns (ZcK lim sold) (c.toNat + 1);have hle:many<=mnF (ZcK lim sold) (c.toNat + 1):=by
  rcases hm.2.2 with e|⟨k,_,hk,e⟩
  ·omega
  ·rw [e]
   have hf:=ZdG (sold:=sold) (c:=c.toNat) (m:=many) (by omega) (lim.length - k) k (by omega);rw [if_pos (by omega)] at hf;have:=(k3 k (by omega)).2;unfold ZcK;omega
 unfold Za5;rw [hl];dsimp only;rw [if_neg (by omega),if_neg (by omega)]
variable {f:PF} {r:RF}
theorem ZsO {A C:List ZD} {h:ZD} {n:Int} (t:Tie f r) (g:ZaA r) (hL:r.L=A++h::C) (hA:Zb9 h.owner A=none) (h4:n ∉ Zz r.L) (hb:0<=n/\n<ZaL r.rows r.grps) (hm:(h.seats.length:Int)<h.many):
  Tie (ZhU f h.owner n) { r with L:=A++h.put n::C }/\ZaA { r with L:=A++h.put n::C }:=by
 have hh:=g.each h (by rw [hL];simp);have hg:ZH h.owner f.hs=some h:=by rw [t.get g.rise,hL];exact ZjP rfl hA
 have e:ZhU f h.owner n={ f with hs:=ZeO h.owner (h.put n) f.hs,own:=ZdZ n h.owner f.own }:=by unfold ZhU;rw [hg]
 rw [e];have hnh:n ∉ h.seats:=λ e=>h4 (Zcn.2 ⟨h,by rw [hL];simp,e⟩);have hs:∀ x∈(h.put n).seats,x∈h.seats\/(x ∉ Zz r.L/\0<=x/\x<ZaL r.rows r.grps):=λ x hx=>by
  rcases Zbz.1 hx with rfl|hx
  ·exact .inr ⟨h4,hb⟩
  ·exact .inl hx
 refine ⟨ZlY (h':=h.put n) t g hL hA rfl rfl rfl (λ x hx=>(hs x hx).imp id (·.1)) (ZfF t.nod) λ x=>?_,ZjN (h':=h.put n) g hL rfl rfl rfl ?_ ?_ hs⟩
 ·rw [Zhx]
  show _=if x∈ZfN n h.seats then some h.owner else _
  by_cases hx:x=n
  ·rw [if_pos hx,if_pos (Zbz.2 (.inl hx))]
  ·rw [if_neg hx]
   by_cases hx2:x∈h.seats
   ·rw [if_pos (Zbz.2 (.inr hx2))]
    exact (t.own x h.owner).2 ⟨h,by rw [hL];simp,rfl,hx2⟩
   ·rw [if_neg (λ e=>(Zbz.1 e).elim hx hx2),if_neg hx2]
 ·exact ZdR.2 (Zmw (ZdR.1 hh.rise) hnh)
 ·show ((ZfN n h.seats).length:Int)<=_
  rw [ZjI];omega
def SOk (N:Int) (T:List Int):List Int->Int->Prop
 |[],_=>True
 |n::l,last=>n ∉ T/\last<n/\n<N/\SOk N T l n
theorem Zl0 (P:List ZD) (h:ZD):Zz (P++[h])=Zz P++h.seats:=by simp [Zz]
theorem ZpE {P:List ZD} {h:ZD}:∀ (l acc:List Int) (last:Int) {f:PF} {r:RF},Tie f r->ZaA r->r.L=P++[{ h with seats:=acc }]->(acc.length + l.length:Int)<=h.many->(∀ x∈acc,x<=last)->-1<=last->
  ((Zgr h.owner (ZaL r.rows r.grps) l last f).2=true↔SOk (ZaL r.rows r.grps) (Zz P) l last)/\
  ((Zgr h.owner (ZaL r.rows r.grps) l last f).2=true->Tie (Zgr h.owner (ZaL r.rows r.grps) l last f).1 { r with L:=P++[{ h with seats:=acc++l }] }/\ZaA { r with L:=P++[{ h with seats:=acc++l }] })
 |[],acc,last,f,r,t,g,hL,_,_,_=>by
  refine ⟨⟨λ _=>trivial,λ _=>rfl⟩,λ _=>?_⟩;rw [List.append_nil,<-hL];exact ⟨t,g⟩
 |n::l,acc,last,f,r,t,g,hL,hm,hacc,hlast=>by
  rw [Zfz];have hown:Zb9 h.owner P=none:=by
   have h5:=g.rise;rw [hL] at h5;refine ZbZ.2 λ x hx e=>?_;have:=(List.pairwise_append.1 h5).2.2 x hx _ (List.mem_singleton.2 rfl);dsimp only at this;omega
  have htk:Zz r.L=Zz P++acc:=by rw [hL,Zl0]
  rw [List.length_cons] at hm;show _/\_;by_cases h1:(ZH n f.own).isSome=true
  ·rw [if_pos h1]
   refine ⟨⟨λ e=>(by cases e),λ e=>?_⟩,λ e=>by cases e⟩;have h2:=(t.taken n).1 h1;rw [htk] at h2;rcases List.mem_append.1 h2 with h2|h2
   ·exact absurd h2 e.1
   ·have:=hacc n h2;have:=e.2.1;omega
  rw [if_neg h1];have hnt:n ∉ Zz r.L:=λ e=>h1 ((t.taken n).2 e);by_cases h2:n<=last
  ·rw [if_pos h2]
   exact ⟨⟨λ e=>(by cases e),λ e=>by have:=e.2.1;omega⟩,λ e=>by cases e⟩
  rw [if_neg h2];by_cases h3:n >= ZaL r.rows r.grps
  ·rw [if_pos h3]
   exact ⟨⟨λ e=>(by cases e),λ e=>by have:=e.2.2.1;omega⟩,λ e=>by cases e⟩
  rw [if_neg h3];have hsp:r.L=P++{ h with seats:=acc }::[]:=hL;have hins:ZfN n acc=acc++[n]:=ZgD λ x hx=>by have:=hacc x hx;omega
  obtain ⟨t2,g2⟩:=ZsO (h:={ h with seats:=acc }) t g hsp hown hnt ⟨by omega,by omega⟩ (by show (acc.length:Int)<h.many;omega);have e2:(ZD.put { h with seats:=acc } n)={ h with seats:=acc++[n] }:=by unfold ZD.put;rw [hins]
  rw [e2] at t2 g2;have ih:=ZpE l (acc++[n]) n t2 g2 rfl (by rw [List.length_append];simp;omega) (λ x hx=>by
   rcases List.mem_append.1 hx with hx|hx
   ·have:=hacc x hx;omega
   ·rw [List.mem_singleton.1 hx];exact Int.le_refl _) (by omega)
  refine ⟨ih.1.trans ⟨λ e=>⟨λ hn=>hnt (by rw [htk];exact List.mem_append_left _ hn),by omega,by omega,e⟩,λ e=>e.2.2.2⟩,λ e=>?_⟩;have h7:=ih.2 e;rw [List.append_assoc] at h7;exact h7
theorem ZnA {h:ZD}:∀ {P:List ZD},(∀ x∈P,x.owner<h.owner)->Zls h P=P++[h]
 |[],_=>rfl
 |x::P,hp=>by
  unfold Zls;rw [if_pos (hp x List.mem_cons_self),ZnA λ y hy=>hp y (List.mem_cons_of_mem _ hy)];rfl
structure ZA3 (r:RF) (h:ZD):Prop where
 c:h.cls<r.lims.length
 m:1<=h.many
 n:(h.seats.length:Int)<=h.many
 s:SOk (ZaL r.rows r.grps) (Zz r.L) h.seats (-1)
 nest:Z1 r.lims (Z4 r.lims.length (r.L++[h]))=true
theorem ZgL {h:ZD} (t:Tie f r) (g:ZaA r) (hin:Zdm h) (ho:1<=h.owner) (hlt:∀ x∈r.L,x.owner<h.owner):
  ((Z9 f h).2=true↔ZA3 r h)/\((Z9 f h).2=true->Tie (Z9 f h).1 { r with L:=r.L++[h] }/\ZaA { r with L:=r.L++[h] }):=by
 obtain ⟨t1,t2,t3⟩:=Zi4 t g h.owner h.cls h.many;have hno:¬ (Zb9 h.owner r.L).isSome=true:=by
  rw [ZbZ.2 λ x hx e=>by have:=hlt x hx;omega];simp
 have hio:=hin.o;have er:ZN r h.owner h.cls h.many=if (Za5 r.lims r.sold h.cls h.many).2=0 then ({ r with L:=Zls ⟨h.owner,h.cls,h.many,[]⟩ r.L },0) else (r,(Za5 r.lims r.sold h.cls h.many).2):=by
  unfold ZN;rw [if_neg (by omega),if_neg hno]
 have hins:Zls ⟨h.owner,h.cls,h.many,[]⟩ r.L=r.L++[⟨h.owner,h.cls,h.many,[]⟩]:=ZnA hlt;have hsl:∀ {L:List ZD},h.cls<r.lims.length->r.sold.set h.cls.toNat (r.sold.getD h.cls.toNat 0 + h.many)=Z4 r.lims.length (r.L++[h]):=λ hc=>Zds (List.perm_append_comm) hin.c.1 hc;unfold Z9;rw [t1,er];by_cases hs:(Za5 r.lims r.sold h.cls h.many).2=0
 ·rw [if_pos hs]
  rw [er,if_pos hs,hins] at t2 t3;obtain ⟨e1,e2,c0,c1,hm⟩:=Ze2 hs;rw [e1,hsl (L:=r.L) c1] at e2;rw [if_neg (by simp)];by_cases hn:(h.seats.length:Int)>h.many
  ·rw [if_pos hn]
   exact ⟨⟨λ e=>(by cases e),λ e=>by have:=e.n;omega⟩,λ e=>by cases e⟩
  rw [if_neg hn];have hlay:ZaL f.rows f.grps=ZaL r.rows r.grps:=by rw [t.rows,t.grps]
  rw [hlay];obtain ⟨i1,i2⟩:=ZpE (P:=r.L) (h:=h) h.seats [] (-1) t2 t3 rfl (by simp;omega) (λ x hx=>by cases hx) (by omega);refine ⟨i1.trans ⟨λ e=>⟨c1,hm,by omega,e,e2⟩,λ e=>e.s⟩,λ e=>?_⟩;have h7:=i2 e;rw [List.nil_append] at h7;exact h7
 ·rw [if_neg hs,if_pos hs]
  refine ⟨⟨λ e=>(by cases e),λ e=>?_⟩,λ e=>by cases e⟩;exact absurd (Zjt g.nest hin.c.1 e.c e.m (by have:=hin.m.2;omega) (by rw [hsl (L:=r.L) e.c];exact e.nest)) hs
theorem Zlw {num rows:Int} {grps lims:List Int}:Zh2 num rows grps lims=true↔1<=num/\Zdg rows grps=true/\ZeF lims=true/\lims.getD 0 0=ZaL rows grps:=by
 unfold Zh2;simp only [Bool.and_eq_true,decide_eq_true_eq,beq_iff_eq];constructor
 ·rintro ⟨h1,h2,h3,h4⟩
  exact ⟨by omega,h2,(ZJ.1 h3).1,h4⟩
 ·rintro ⟨h1,h2,h3,h4⟩
  exact ⟨by omega,h2,Zhd h3,h4⟩
theorem ZpU {N:Int} {T:List Int}:∀ {l:List Int} {last:Int},SOk N T l last↔∀ k (hk:k<l.length),l[k] ∉ T/\l[k]<N/\(if h:0<k then l[k - 1]<l[k] else last<l[k])
 |[],_=>by simp [SOk]
 |n::l,last=>by
  unfold SOk;rw [ZpU (l:=l) (last:=n)];constructor
  ·rintro ⟨h1,h2,h3,h4⟩ k hk
   rcases k with _|k
   ·exact ⟨h1,h3,h2⟩
   ·have h5:=h4 k (by simpa using hk)
    refine ⟨h5.1,h5.2.1,?_⟩;rw [dif_pos (by omega)];have h6:=h5.2.2;rcases k with _|k
    ·exact h6
    ·rw [dif_pos (by omega)] at h6;exact h6
  ·intro h
   have h0:=h 0 (by simp);refine ⟨h0.1,h0.2.2,h0.2.1,λ k hk=>?_⟩;have h5:=h (k + 1) (by simpa using hk);refine ⟨h5.1,h5.2.1,?_⟩;have h6:=h5.2.2;rw [dif_pos (by omega)] at h6;rcases k with _|k
   ·exact h6
   ·rw [dif_pos (by omega)];exact h6
structure Zsw (x:Raw):Prop where
 num:x.num<=9999
 hs:∀ h∈x.L,Zdm h
def Raw.at (x:Raw) (j:Nat):PS:=(x.L.take j).foldl Zbr (Zag x.num x.rows x.grps x.lims,Zh2 x.num x.rows x.grps x.lims,0)
def Raw.pre (x:Raw) (j:Nat):RF:=⟨x.num,x.rows,x.grps,x.lims,x.L.take j⟩
def Zmr (x:Raw) (j:Nat):Int:=if h:0<j/\j<=x.L.length then x.L[j - 1].owner else 0
theorem Zsr {x:Raw} {j:Nat} (h:j<x.L.length):x.at (j + 1)=Zbr (x.at j) x.L[j]:=by
 unfold Raw.at;rw [List.take_add_one,List.getElem?_eq_getElem h,List.foldl_append];rfl
theorem Zun {L:List ZD} {o:Int} (h:OwR L):∀ (hl:0<L.length),L[L.length - 1].owner<o->∀ x∈L,x.owner<o:=λ hl hlast x hx=>by
 obtain ⟨i,hi,rfl⟩:=List.getElem_of_mem hx;by_cases e:i=L.length - 1
 ·subst e;exact hlast
 ·have:=List.pairwise_iff_getElem.1 h i (L.length - 1) hi (by omega) (by omega)
  omega
theorem Zno {x:Raw} (xi:Zsw x) {j:Nat} (hj:j<x.L.length) (hr:∀ y∈x.L.take j,y.owner<x.L[j].owner):
  Zyk x.rf j hj↔(1<=x.L[j].owner/\(∀ h:0<j,x.L[j - 1].owner<x.L[j].owner)/\x.L[j].cls<x.lims.length/\1<=x.L[j].many/\(x.L[j].seats.length:Int)<=x.L[j].many/\SOk (ZaL x.rows x.grps) (Zz (x.L.take j)) x.L[j].seats (-1)):=by
 have hin:=xi.hs x.L[j] (List.getElem_mem _);rw [ZpU];constructor
 ·intro h
  refine ⟨h.o,h.p,h.c,h.m,h.n,λ k hk=>?_⟩;have h1:=h.s k hk;refine ⟨λ hm=>h1.1 (List.mem_append_left _ hm),h1.2.1,?_⟩;split
  ·exact h1.2.2 (by assumption)
  ·have:=hin.s x.L[j].seats[k] (List.getElem_mem _);omega
 ·rintro ⟨h1,h2,h3,h4,h5,h6⟩
  refine ⟨h1,h2,h3,h4,h5,λ k hk=>?_⟩;have h7:=h6 k hk;have hrise:∀ (t i:Nat) (hi:i + t<x.L[j].seats.length),0<t->x.L[j].seats[i]'(by omega)<x.L[j].seats[i + t]:=λ t=>by
   induction t with
   |zero=>intro i hi h0;omega
   |succ t ih=>
    intro i hi _;have h8:=(h6 (i + (t + 1)) hi).2.2;rw [dif_pos (by omega)] at h8;by_cases ht:t=0
    ·subst ht;exact h8
    ·have h9:=ih i (by omega) (by omega)
     have h8:x.L[j].seats[i + t]'(by omega)<x.L[j].seats[i + (t + 1)]:=h8;omega
  refine ⟨λ hm=>?_,h7.2.1,λ h0=>by have h8:=h7.2.2;rw [dif_pos h0] at h8;exact h8⟩;rcases List.mem_append.1 hm with hm|hm
  ·exact h7.1 hm
  ·obtain ⟨i,hi,he⟩:=List.getElem_of_mem hm
   rw [List.length_take] at hi;rw [List.getElem_take] at he;have hk':k<x.L[j].seats.length:=hk;have hi:i<min k x.L[j].seats.length:=hi;have he:x.L[j].seats[i]'(by omega)=x.L[j].seats[k]:=he;have h9:=hrise (k - i) i (by omega) (by omega);have e:i + (k - i)=k:=by omega
   simp only [e] at h9;omega
theorem ZmQ {x:Raw} (xi:Zsw x):∀ j,j<=x.L.length->(x.at j).2.2=Zmr x j/\((x.at j).2.1=true->Tie (x.at j).1 (x.pre j)/\ZaA (x.pre j)/\∀ i (hi:i<x.L.length),i<j->Zyk x.rf i hi)
 |0,_=>by
  refine ⟨rfl,λ h=>?_⟩;obtain ⟨h1,h2,h3,h4⟩:=Zlw.1 h;refine ⟨ZpF,⟨⟨h1,xi.num⟩,h2,?_,h4,List.Pairwise.nil,λ h hh=>(by cases hh),List.Pairwise.nil⟩,λ i _ hi=>by omega⟩;show Z1 _ (Z4 _ [])=true;rw [ZeT];exact Zhd h3
 |j + 1,hj=>by
  have hj1:j<x.L.length:=by omega
  obtain ⟨i1,i2⟩:=ZmQ xi j (by omega);have hlast:Zmr x (j + 1)=x.L[j].owner:=by unfold Zmr;rw [dif_pos ⟨by omega,hj⟩];rfl
  rw [Zsr hj1,hlast];unfold Zbr;by_cases hc:(x.at j).2.1=true/\x.L[j].owner>(x.at j).2.2
  ·rw [if_pos hc]
   refine ⟨rfl,λ h=>?_⟩;obtain ⟨t,g,hok⟩:=i2 hc.1;rw [i1] at hc;have hin:=xi.hs x.L[j] (List.getElem_mem _);have hlt:∀ y∈(x.pre j).L,y.owner<x.L[j].owner:=λ y hy=>by
    have hne:0<(x.pre j).L.length:=List.length_pos_iff.2 λ e=>by rw [e] at hy;cases hy
    refine Zun g.rise hne ?_ y hy;have hl:(x.pre j).L.length=j:=by show (x.L.take j).length=j;rw [List.length_take];omega
    have h2:=hc.2;unfold Zmr at h2;rw [dif_pos ⟨by omega,by omega⟩] at h2;have h3:(x.pre j).L[(x.pre j).L.length - 1]=x.L[j - 1]:=by
     show (x.L.take j)[(x.L.take j).length - 1]'(by rw [List.length_take];omega)=_;rw [List.getElem_take]
     congr 1
     rw [List.length_take];omega
    rw [h3];exact h2
   have ho1:1<=x.L[j].owner:=by
    have h2:=hc.2;unfold Zmr at h2;split at h2
    ·have:=(xi.hs x.L[j - 1] (List.getElem_mem _)).o;omega
    ·omega
   obtain ⟨r1,r2⟩:=ZgL t g hin ho1 hlt;have e:{ x.pre j with L:=(x.pre j).L++[x.L[j]] }=x.pre (j + 1):=by
    unfold Raw.pre;rw [List.take_add_one,List.getElem?_eq_getElem hj1];rfl
   have h5:=r2 h;rw [e] at h5;refine ⟨h5.1,h5.2,λ i hi hij=>?_⟩;by_cases hie:i=j
   ·subst hie
    have ha:=r1.1 h;refine (Zno xi hj1 hlt).2 ⟨ho1,λ h0=>?_,ha.c,ha.m,ha.n,ha.s⟩;have h2:=hc.2;unfold Zmr at h2;rw [dif_pos ⟨by omega,by omega⟩] at h2;exact h2
   ·exact hok i hi (by omega)
  ·rw [if_neg hc]
   exact ⟨rfl,λ h=>by cases h⟩
theorem Zus {x:Raw} (xi:Zsw x) (m:Zn1 x.rf):∀ j,j<=x.L.length->(x.at j).2.1=true
 |0,_=>Zlw.2 ⟨m.num,m.lay,m.lim,m.l0⟩
 |j + 1,hj=>by
  have hj1:j<x.L.length:=by omega
  have ih:=Zus xi m j (by omega);obtain ⟨i1,i2⟩:=ZmQ xi j (by omega);obtain ⟨t,g,hok⟩:=i2 ih;have hin:=xi.hs x.L[j] (List.getElem_mem _);have ok:=m.each j hj1;rw [Zsr hj1];have hgt:x.L[j].owner>(x.at j).2.2:=by
   rw [i1];unfold Zmr;split
   ·rename_i h;exact ok.p h.1
   ·have:=ok.o;show 0<x.L[j].owner;exact this
  have hlt:∀ y∈(x.pre j).L,y.owner<x.L[j].owner:=λ y hy=>by
   have hne:0<(x.pre j).L.length:=List.length_pos_iff.2 λ e=>by rw [e] at hy;cases hy
   refine Zun g.rise hne ?_ y hy;have hl:(x.pre j).L.length=j:=by show (x.L.take j).length=j;rw [List.length_take];omega
   have h3:(x.pre j).L[(x.pre j).L.length - 1]=x.L[j - 1]:=by
    show (x.L.take j)[(x.L.take j).length - 1]'(by rw [List.length_take];omega)=_;rw [List.getElem_take]
    congr 1
    rw [List.length_take];omega
   rw [h3];exact ok.p (by omega)
  unfold Zbr;rw [if_pos ⟨ih,hgt⟩];refine (ZgL t g hin ok.o hlt).1.2 ?_;have ha:=(Zno xi hj1 hlt).1 ok;refine ⟨ha.2.2.1,ha.2.2.2.1,ha.2.2.2.2.1,ha.2.2.2.2.2,?_⟩;have e:(x.pre j).L++[x.L[j]]=x.L.take (j + 1):=by
   show x.L.take j++_=_;rw [List.take_add_one,List.getElem?_eq_getElem hj1];rfl
  rw [e];show Z1 x.lims (Z4 x.lims.length (x.L.take (j + 1)))=true;refine ZqR m.nest (by show (Z4 _ _).length=(Z4 _ _).length;rw [ZaM,ZaM];rfl) λ k hk=>?_;have hk:k<x.lims.length:=hk;show 0<=(Z4 x.lims.length (x.L.take (j + 1))).getD k 0/\(Z4 x.lims.length (x.L.take (j + 1))).getD k 0<=(Z4 x.lims.length x.L).getD k 0;rw [Zbm hk,Zbm hk];have hmm:∀ y∈x.L,1<=y.many:=λ y hy=>by
   obtain ⟨i,hi,rfl⟩:=List.getElem_of_mem hy;exact (m.each i hi).m
  refine ⟨ZhK λ y hy=>hmm y (List.mem_of_mem_take hy),?_⟩;have h8:Zer (k:Int) x.L=Zer (k:Int) (x.L.take (j + 1)) + Zer (k:Int) (x.L.drop (j + 1)):=by rw [<-Zeb,List.take_append_drop]
  have h9:=ZhK (k:=(k:Int)) (L:=x.L.drop (j + 1)) λ y hy=>hmm y (List.mem_of_mem_drop hy);omega
theorem Zyq (x:Raw):x.run=x.at x.L.length/\x.rf=x.pre x.L.length:=by
 constructor
 ·unfold Raw.run Raw.at;rw [List.take_length]
 ·unfold Raw.rf Raw.pre;rw [List.take_length]
theorem Zp1 {x:Raw} (xi:Zsw x):(x.run.2.1=true↔Zn1 x.rf)/\(x.run.2.1=true->Tie x.run.1 x.rf/\ZaA x.rf):=by
 obtain ⟨e1,e2⟩:=Zyq x;have h:=(ZmQ xi x.L.length (Nat.le_refl _)).2;rw [<-e1,<-e2] at h;refine ⟨⟨λ hr=>?_,λ m=>by rw [e1];exact Zus xi m _ (Nat.le_refl _)⟩,λ hr=>⟨(h hr).1,(h hr).2.1⟩⟩;obtain ⟨t,g,hok⟩:=h hr;exact ⟨g.num.1,g.lay,(ZJ.1 g.nest).1,g.l0,λ j hj=>hok j hj hj,g.nest⟩
theorem Zqh {bs:List Int} (hb:∀ y∈bs,0<=y/\y<256):Zsw (ZfD bs):=by
 have hb0:∀ y∈(⟨bs,false⟩:Rd).bs,0<=y/\y<256:=hb;have h5:=Zk (most:=600) (Ze3 (most:=8) (each:=10000) (Ze3 (most:=4) (each:=10) (Zk (most:=60) (Zk (most:=9999) hb0))));exact ⟨(Zw (most:=9999) hb0 (by omega)).2,(Zik _ h5).1⟩
theorem Zv0 {bs:List Int} (hb:∀ y∈bs,0<=y/\y<256):(Zpb bs=none/\¬ (Z0 (ZdY bs).rd=true/\Zn1 (ZdY bs).rf))\/(∃ f,Zpb bs=some f/\Z0 (ZdY bs).rd=true/\Zn1 (ZdY bs).rf/\Tie f (ZdY bs).rf/\ZaA (ZdY bs).rf):=by
 obtain ⟨w1,w2⟩:=ZkV bs;obtain ⟨r1,r2⟩:=Zp1 (Zqh hb);by_cases h:Z0 (ZfD bs).rd=true/\(ZfD bs).run.2.1=true
 ·right
  have e:=w2 h.1;rw [e];exact ⟨_,by unfold Zpb;rw [if_pos h],h.1,r1.1 h.2,r2 h.2⟩
 ·left
  refine ⟨by unfold Zpb;rw [if_neg h],λ h2=>h ?_⟩;rw [w1] at h2;rw [w2 h2.1] at h2;exact ⟨h2.1,r1.2 h2.2⟩
end
section
open Go Go.VC Tryz
theorem ZfB {n:Nat} {most:Int} {rest:List Int} (h:n<18446744073709551616) (hm:(n:Int)<=most):Ze most ⟨ZeP n++rest,false⟩=((n:Int),⟨rest,false⟩):=by
 unfold Ze;rw [if_neg (by simp)];dsimp only;rw [Zk7 h];dsimp only;rw [if_pos ⟨rfl,hm⟩,List.drop_left]
theorem Zs {x most:Int} {rest:List Int} (h0:0<=x) (h1:x<=most) (h2:x<18446744073709551616):Ze most ⟨Zv [x]++rest,false⟩=(x,⟨rest,false⟩):=by
 obtain ⟨n,rfl⟩:=Int.eq_ofNat_of_zero_le h0;have e:Zv [(n:Int)]=ZeP n:=by simp [Zv]
 rw [e];exact ZfB (by omega) h1
theorem Zix {each:Int} (he:each<18446744073709551616) {rest:List Int}:∀ {l:List Int},(∀ x∈l,0<=x/\x<=each)->Zby l.length each ⟨Zv l++rest,false⟩=(l,⟨rest,false⟩)
 |[],_=>rfl
 |x::l,h=>by
  have h1:=h x List.mem_cons_self;rw [Zdy,List.append_assoc];show ((Ze each _).1::(Zby l.length each (Ze each _).2).1,(Zby l.length each (Ze each _).2).2)=_;rw [Zs h1.1 h1.2 (by omega)];dsimp only;rw [Zix he λ y hy=>h y (List.mem_cons_of_mem _ hy)]
theorem ZfI {most each:Int} (he:each<18446744073709551616) {rest l:List Int} (hl:(l.length:Int)<=most) (hm:most<18446744073709551616) (h:∀ x∈l,0<=x/\x<=each):Zb7 most each ⟨ZcN l++rest,false⟩=(l,⟨rest,false⟩):=by
 unfold Zb7 ZcN;rw [List.append_assoc,Zs (by omega) hl (by omega)];exact Zix he h
theorem Zou {h:ZD} (hin:Zdm h) (rest:List Int):ZaQ ⟨Zek h++rest,false⟩=(h,⟨rest,false⟩):=by
 have e:Zek h++rest=Zv [h.owner]++(Zv [h.cls]++(Zv [h.many]++(ZcN h.seats++rest))):=by
  unfold Zek;rw [Zdy h.owner,Zdy h.cls];simp only [List.append_assoc]
 have:=hin.o;have:=hin.c;have:=hin.m;have:=hin.n;unfold ZaQ;rw [e,Zs (by omega) (by omega) (by omega)];dsimp only;rw [Zs (by omega) (by omega) (by omega)];dsimp only;rw [Zs (by omega) (by omega) (by omega)];dsimp only;rw [ZfI (by omega) (by omega) (by omega) hin.s]
theorem Zgc {rest:List Int}:∀ {L:List ZD},(∀ h∈L,Zdm h)->ZV L.length ⟨ZaI L++rest,false⟩=(L,⟨rest,false⟩)
 |[],_=>rfl
 |h::L,hin=>by
  have e:ZaI (h::L)++rest=Zek h++(ZaI L++rest):=by simp [ZaI]
  rw [e];show ((ZaQ _).1::(ZV L.length (ZaQ _).2).1,(ZV L.length (ZaQ _).2).2)=_;rw [Zou (hin h List.mem_cons_self)];dsimp only;rw [Zgc λ x hx=>hin x (List.mem_cons_of_mem _ hx)]
variable {f:PF} {r:RF}
theorem ZmB (g:ZaA r):∀ h∈r.L,Zdm h:=λ h hh=>by
 have h1:=g.each h hh;have h2:=g.len.2 h hh;have h3:=(Zaa.1 (ZJ.1 g.nest).1).1.2;have h4:=(Zcp r.rows r.grps).2;have:=h1.owner;have:=h1.cls;have:=h1.many;have:=h1.few;exact ⟨by omega,by omega,by omega,λ x hx=>by have:=h1.seats x hx;omega,by omega⟩
theorem Zcs (g:ZaA r):(∀ x∈r.lims,0<=x/\x<=10000)/\1<=r.lims.length/\r.lims.length<=8:=by
 obtain ⟨h1,h2⟩:=Zaa.1 (ZJ.1 g.nest).1;refine ⟨λ x hx=>?_,h1⟩;obtain ⟨i,hi,rfl⟩:=List.getElem_of_mem hx;exact (h2 i hi).1
theorem Znd (g:ZaA r):ZfD (ZbC r)=⟨r.num,r.rows,r.grps,r.lims,r.L,⟨[],false⟩⟩:=by
 obtain ⟨l1,l2,l3⟩:=Zab.1 g.lay;obtain ⟨m1,m2,m3⟩:=Zcs g;have hlen:=g.len.1;have hnum:=g.num;have e:ZbC r=Zv [r.num]++(Zv [r.rows]++(ZcN r.grps++(ZcN r.lims++(Zv [(r.L.length:Int)]++(ZaI r.L++[]))))):=by
  unfold ZbC Zuy;rw [Zdy r.num];simp only [List.append_assoc,List.append_nil]
 unfold ZfD;rw [e];dsimp only;rw [Zs (by omega) (by omega) (by omega)];dsimp only;rw [Zs (by omega) (by omega) (by omega)];dsimp only;rw [ZfI (by omega) (by omega) (by omega) (λ x hx=>by have:=l2 x hx;omega)];dsimp only;rw [ZfI (by omega) (by omega) (by omega) m1];dsimp only;rw [Zs (by omega) (by omega) (by omega)];dsimp only;rw [show ((r.L.length:Int)).toNat=r.L.length from rfl,Zgc (ZmB g)]
theorem ZnC (g:ZaA r):Zn1 r:=by
 refine ⟨g.num.1,g.lay,(ZJ.1 g.nest).1,g.l0,λ j hj=>?_,g.nest⟩;have hh:=g.each r.L[j] (List.getElem_mem _);refine ⟨hh.owner.1,λ h0=>List.pairwise_iff_getElem.1 g.rise (j - 1) j (by omega) hj (by omega),hh.cls.2,hh.many,hh.few,λ k hk=>⟨λ hm=>?_,(hh.seats _ (List.getElem_mem _)).2,λ h0=>hh.rise (k - 1) k hk (by omega)⟩⟩;rcases List.mem_append.1 hm with hm|hm
 ·obtain ⟨x,hx,hxm⟩:=Zcn.1 hm
  obtain ⟨i,hi,rfl⟩:=List.getElem_of_mem hx;rw [List.length_take] at hi;rw [List.getElem_take] at hxm;exact List.pairwise_iff_getElem.1 g.apart i j (by omega) hj (by omega) _ hxm (List.getElem_mem _)
 ·obtain ⟨i,hi,he⟩:=List.getElem_of_mem hm
  rw [List.length_take] at hi;rw [List.getElem_take] at he;have:=hh.rise i k hk (by omega);omega
theorem Zd4 (g:ZaA r):ZzE r:=by
 obtain ⟨l1,l2,l3⟩:=Zab.1 g.lay;obtain ⟨m1,m2,m3⟩:=Zcs g;have hlen:=g.len.1;have hnum:=g.num;refine ⟨by omega,by omega,λ x hx=>by have:=l2 x hx;omega,λ x hx=>by have:=m1 x hx;omega,by omega,by omega,λ h hh=>?_,by omega⟩;have hin:=ZmB g h hh;have:=hin.o;have:=hin.c;have:=hin.m;have:=hin.n;exact ⟨by omega,by omega,by omega,λ x hx=>by have:=hin.s x hx;omega,by omega⟩
theorem ZpD (t:Tie f r) (g:ZaA r):ZuJ f:=by
 have s:=Zd4 g;have b:=t.bounds g;refine ⟨by rw [t.num];exact s.num,by rw [t.rows];exact s.rows,by rw [t.grps];exact s.grps,by rw [t.lims];exact s.lims,by omega,by omega,by rw [ZgM t g.rise];exact s.hs,by omega⟩
theorem ZuS (t:Tie f r) (g:ZaA r):ZvU f=ZbC r:=by
 unfold ZvU ZbC;rw [t.num,t.rows,t.grps,t.lims,ZgM t g.rise]
theorem Zu0 (g:ZaA r):(∀ y∈ZbC r,0<=y/\y<256)/\(ZbC r).length<=6000000:=by
 have s:=Zd4 g;obtain ⟨l1,l2,l3⟩:=Zab.1 g.lay;obtain ⟨m1,m2,m3⟩:=Zcs g;have hlen:=g.len.1;have u2:Zef [r.num,r.rows]:=by intro y hy;have:=s.num;have:=s.rows;simp at hy;omega
 have u1:Zef [(r.L.length:Int)]:=by intro y hy;simp at hy;omega
 constructor
 ·intro y hy
  unfold ZbC Zuy at hy;simp only [List.mem_append] at hy;rcases hy with (((hy|hy)|hy)|hy)|hy
  ·exact ZcE (Zb3 u2) y hy
  ·exact Ze4 s.grps (by omega) y hy
  ·exact Ze4 s.lims (by omega) y hy
  ·exact ZcE (Zb3 u1) y hy
  ·exact Zht s.hs y hy
 ·have h1:=Zae (Zb3 u2)
  have h2:=ZbX s.grps (by omega);have h3:=ZbX s.lims (by omega);have h4:=Zae (Zb3 u1);have h5:=ZfO s.hs;simp only [List.length_cons,List.length_nil] at h1 h4;unfold ZbC Zuy;simp only [List.length_append];omega
theorem Zj3 (g:ZaA r):∃ f',Zpb (ZbC r)=some f'/\Tie f' r:=by
 have e:=Znd g;have hw:Z0 (ZfD (ZbC r)).rd=true:=by rw [e];rfl
 have hrf:(ZfD (ZbC r)).rf=r:=by rw [e];rfl
 obtain ⟨r1,r2⟩:=Zp1 (Zqh (Zu0 g).1);rw [hrf] at r1 r2;have hr:=r1.2 (ZnC g);exact ⟨_,by unfold Zpb;rw [if_pos ⟨hw,hr⟩],(r2 hr).1⟩
end
section
open Go Go.VC Tryz
variable {R:Cx} {Hs Rest:List HP} {w:World}
theorem ZoY {s:Sl} {bs:List Int} (hs:Ro R s (b8 bs)) (hl:bs.length<=1099511627776) (hw:Sat R Hs w):
  Zm prog 124 #[.slice s.a s.len s.cap] w λ v w'=>∃ t:Sl,v=.slice t.a t.len t.cap/\Sat R (Own t 5 (b8 (ZcQ bs))::Hs) w':=by
 have hlen:s.len=bs.length:=by have:=hs.len;simpa using this
 apply ZxJ;unfold B124;rw [ZK (by omega) (by omega),hlen];refine (Zcl (by omega) hw).use ?_;rintro _ w ⟨t,rfl,hw⟩;refine ⟨t,rfl,?_⟩;rw [<-hlen];have hn:=Zbw (n:=bs.length) (by omega);have hsrc:Src prog 1 42 (.slice s.a s.len s.cap) bs.length (b8 bs) w:=by
  have:=ZuV underlying42 hw hs (Znm _);simpa using this
 refine Zcw ZrD (s:=t) hw hsrc (Znm _) (by rw [List.length_map];omega) (by rw [List.length_map];omega) λ s2 w hw=>?_;exact ⟨s2,rfl,by simpa [b8,ZcQ] using hw⟩
theorem Zob {h:ZU} {l bm bo:Nat} {s:Sl} {bs:List Int} {most:Int} (hm:most<9223372036854775808) (hl:bs.length<=1099511627776) (hb:∀ x∈bs,0<=x/\x<256) (hsub:∀ b o,h b=some o->R.m b=some o) (hr:SlR h s (b8 bs))
  (hw:Sat R (lp l s::lp bo ⟨none,0,0⟩::pts bm (.cells [.int .i64 most].toArray 3 (0,0))::Hs) w):
  ZaX prog 165 #[.pointer (some ⟨l,0,none⟩),.pointer (some ⟨bm,0,none⟩),.pointer (some ⟨bo,0,none⟩)] w
   (λ ch w'=>ch=Zet/\(∀ n k,Za3 bs=some (n,false,k)->¬ (0<=most/\n<=most/\n<=(bs.length:Int) - k))/\∃ s',Sat R (lp l s'::lp bo ⟨none,0,0⟩::pts bm (.cells [.int .i64 most].toArray 3 (0,0))::Hs) w')
   (λ v w'=>v=.tuple #[]/\∃ n k s' t,Za3 bs=some (n,false,k)/\(0<=most/\n<=most/\n<=(bs.length:Int) - k)/\SlR h s' (b8 (bs.drop (k + n.toNat)))/\
    Sat R (lp l s'::lp bo t::Own t 5 (b8 ((bs.drop k).take n.toNat))::pts bm (.cells [.int .i64 most].toArray 3 (0,0))::Hs) w'):=by
 apply Zxk;refine (ZiI hb hsub hr hw).use ?_ ?_
 rotate_left
 ·rintro _ w ⟨hp,rfl,s',hw⟩
  refine .inr ⟨_,rfl,rfl,?_,s',hw⟩;intro n k h;rw [hp] at h;cases h
 rintro _ w ⟨n,neg,k,s',hp,rfl,hs',hw⟩;obtain ⟨n0,n1,k0,k1,k2⟩:=Zd1 hb hp;have no:(∀ n' k',Za3 bs=some (n',false,k')->¬ (0<=most/\n'<=most/\n'<=(bs.length:Int) - k'))->∀ {A:Prop} {e:Ending},(e=.panicked Zet)->(e=.returned (.tuple #[])/\A)\/∃ ch,e=.panicked ch/\ch=Zet/\(∀ n k,Za3 bs=some (n,false,k)->¬ (0<=most/\n<=most/\n<=(bs.length:Int) - k))/\∃ s',Sat R (lp l s'::lp bo ⟨none,0,0⟩::pts bm (.cells [.int .i64 most].toArray 3 (0,0))::Hs) w:=λ h A e he=>
  .inr ⟨_,he,rfl,h,s',hw⟩
 have same:∀ n' k',Za3 bs=some (n',false,k')->neg=false/\n'=n/\k'=k:=λ n' k' h=>by
  rw [hp] at h;simp only [Option.some.injEq,Prod.mk.injEq] at h;exact ⟨h.2.1,h.1.symm,h.2.2.symm⟩
 refine .inl ⟨n,neg,rfl,Br.nb (λ h=>?_) (λ h=>?_)⟩
 rotate_left
 ·refine ZcF (λ h=>by cases h) (λ _=>no (λ n' k' h'=>?_) rfl)
  rw [(same n' k' h').1] at h;cases h
 subst h;have hw2:Sat R (pts bm (.cells [.int .i64 most].toArray 3 (0,0))::lp l s'::lp bo ⟨none,0,0⟩::Hs) w:=hw.arr;refine Zc.mk rfl ⟨most,At.own (eqS hw2) (by exact ⟨rfl,trivial⟩),Br.d (λ h1=>?_) (λ h1=>?_)⟩
 rotate_left
 ·refine ZcF (λ h=>by cases h) (λ _=>no (λ n' k' h' h2=>by omega) rfl)
 refine Zc.mk rfl ⟨most,At.own (eqS hw2) (by exact ⟨rfl,trivial⟩),?_⟩;rw [ZK (by omega) (by omega)];refine Br.d (λ h2=>?_) (λ h2=>?_)
 rotate_left
 ·refine ZcF (λ h=>by cases h) (λ _=>no (λ n' k' h' h3=>by have:=(same n' k' h').2.1;omega) rfl)
 have hsl:s'.len=bs.length - k:=by have:=hs'.len;simpa using this
 refine Zc.mk rfl ⟨s',oA hw,?_⟩;rw [ZK (by omega) (by omega),hsl];refine ZcF (λ h3=>.inl ⟨rfl,?_⟩) (λ h3=>?_)
 rotate_left
 ·have h3:=of_decide_eq_false h3
  refine no (λ n' k' h' h4=>?_) rfl;have:=same n' k' h';omega
 have h3:=of_decide_eq_true h3;rw [Zh (by omega) (by omega)];obtain ⟨m,rfl⟩:=Int.eq_ofNat_of_zero_le n0;have hm':SlR R.m s' (b8 (bs.drop k)):=hs'.mono hsub;refine (ZgR (k:=m) hm' hw).use ?_ ?_
 rotate_left
 ·rintro _ w ⟨h4,_⟩
  simp at h4;omega
 rintro _ w ⟨_,rfl,hw⟩;refine .inl ⟨⟨s'.a,m,s'.cap⟩,rfl,?_⟩;have ht:SlR R.m ⟨s'.a,m,s'.cap⟩ (b8 ((bs.drop k).take m)):=by
  have:=hm'.take (k:=m) (by simp;omega);rwa [<-List.map_take] at this
 refine (ZiT (s:=⟨s'.a,m,s'.cap⟩) (ht.ro (by simp;omega)) (by simp;omega) hw).use ?_;rintro _ w ⟨t,rfl,hw⟩;refine .inl ⟨t,rfl,?_⟩;have hw:Sat R (lp bo ⟨none,0,0⟩::Own t 5 (b8 ((bs.drop k).take m))::lp l (Zb4 s' m)::pts bm (.cells [.int .i64 most].toArray 3 (0,0))::Hs) w:=hw.arr;refine Za hw (by kernel_rfl) rfl (by simp [Value.cells]) λ w hw=>?_;have hw:=hw.re (lp bo t);refine ⟨rfl,m,k,Zb4 s' m,t,hp,⟨by omega,h2,by omega⟩,?_,?_⟩
 ·have:=hs'.drop (k:=m) (by simp;omega)
  rw [<-List.map_drop,List.drop_drop] at this;exact this
 ·rw [Int.toNat_natCast];exact hw.arr
theorem Zfx {r:Nat} {rd:Rd} {most:Int} (hm:most<9223372036854775808) (hl:rd.bs.length<=1099511627776) (hb:∀ x∈rd.bs,0<=x/\x<256) (hw:Sat R (ZZ r rd::Hs) w):
  Zm prog 102 #[.pointer (some ⟨r,0,none⟩),.int .i64 most] w λ v w'=>∃ t:Sl,v=.slice t.a t.len t.cap/\Sat R (Own t 5 (b8 (ZP most rd).1)::ZZ r (ZP most rd).2::Hs) w':=by
 apply Zx1;refine Zb hw λ bm w hw=>Zb hw λ bo w hw=>?_;have hw:Sat R (ZZ r rd::lp bo ⟨none,0,0⟩::pts bm (.cells [.int .i64 most].toArray 3 (0,0))::Hs) w:=by
  have hw:Sat R (lp bo ⟨none,0,0⟩::pts bm (.cells [.int .i64 most].toArray 3 (0,0))::ZZ r rd::Hs) w:=hw;exact hw.arr
 refine (Zgb (α:=(Int × Nat) × Sl) (f:=λ y=>rd.bs.drop (y.1.2 + y.1.1.toNat)) (G:=λ y=>Za3 rd.bs=some (y.1.1,false,y.1.2)/\(0<=most/\y.1.1<=most/\y.1.1<=(rd.bs.length:Int) - y.1.2)) (N:=∀ n k,Za3 rd.bs=some (n,false,k)->¬ (0<=most/\n<=most/\n<=(rd.bs.length:Int) - k))
  (Hs1:=λ y=>lp bo y.2::Own y.2 5 (b8 ((rd.bs.drop y.1.2).take y.1.1.toNat))::pts bm (.cells [.int .i64 most].toArray 3 (0,0))::Hs)
  (Hs2:=lp bo ⟨none,0,0⟩::pts bm (.cells [.int .i64 most].toArray 3 (0,0))::Hs) hw ?_).use ?_
 ·intro _ x l s A B w hsub hs hw
  refine ZaK.mk (by kernel_rfl) ?_;have hw2:Sat (R.add x) (lp l s::lp bo ⟨none,0,0⟩::pts bm (.cells [.int .i64 most].toArray 3 (0,0))::A::B::Hs) w:=hw.arr;refine (Zob (h:=x) hm hl hb hsub hs hw2).use ?_ ?_
  ·rintro _ w ⟨rfl,n,k,s',t,hp,hn,hs',hw⟩
   exact .inl ⟨rfl,((n,k),t),s',⟨hp,hn⟩,hs',hw.arr⟩
  ·rintro _ w ⟨rfl,hn,s',hw⟩
   exact .inr ⟨rfl,hn,s',hw.arr⟩
 ·rintro _ w ⟨rfl,h⟩
  refine ⟨rfl,?_⟩;rcases h with ⟨hbad,hw⟩|⟨hbad,⟨⟨n,k⟩,t⟩,⟨hp,hn⟩,hw⟩|⟨hbad,hno,hw⟩
  ·have hw:Sat R (lp bo ⟨none,0,0⟩::ZZ r rd::pts bm (.cells [.int .i64 most].toArray 3 (0,0))::Hs) w:=hw.swap
   refine ⟨⟨none,0,0⟩,oA hw,?_⟩;unfold ZP;rw [if_pos hbad];exact ⟨_,rfl,Own.nil (hw.drop.cons λ _ h=>h.drop)⟩
  ·have hw:Sat R (lp bo t::Own t 5 (b8 ((rd.bs.drop k).take n.toNat))::ZZ r ⟨rd.bs.drop (k + n.toNat),false⟩::pts bm (.cells [.int .i64 most].toArray 3 (0,0))::Hs) w:=hw.arr
   refine ⟨t,oA hw,?_⟩;unfold ZP;rw [if_neg (by rw [hbad];simp),hp];simp only;rw [if_pos ⟨trivial,hn⟩];exact ⟨_,rfl,hw.drop.cons λ _ h=>h.cons λ _ h=>h.drop⟩
  ·have hw:Sat R (lp bo ⟨none,0,0⟩::ZZ r ⟨rd.bs,true⟩::pts bm (.cells [.int .i64 most].toArray 3 (0,0))::Hs) w:=hw.swap
   refine ⟨⟨none,0,0⟩,oA hw,?_⟩;have e:ZP most rd=([],⟨rd.bs,true⟩):=by
    unfold ZP;rw [if_neg (by rw [hbad];simp)];cases hp:Za3 rd.bs with
    |none=>rfl
    |some p=>
     obtain ⟨n,neg,k⟩:=p;simp only;rw [if_neg];rintro ⟨rfl,h⟩;exact hno n k hp h
   rw [e];exact ⟨_,rfl,Own.nil (hw.drop.cons λ _ h=>h.drop)⟩
theorem ZkU {most:Int} {rd:Rd} (hb:∀ x∈rd.bs,0<=x/\x<256):(∀ x∈(ZP most rd).1,0<=x/\x<256)/\(∀ x∈(ZP most rd).2.bs,0<=x/\x<256):=by
 unfold ZP;split
 ·exact ⟨by simp,hb⟩
 ·split
  ·split
   ·exact ⟨λ x hx=>hb x (List.mem_of_mem_drop (List.mem_of_mem_take hx)),λ x hx=>hb x (List.mem_of_mem_drop hx)⟩
   ·exact ⟨by simp,hb⟩
  ·exact ⟨by simp,hb⟩
theorem Zil {most:Int} {rd:Rd}:(ZP most rd).1.length<=rd.bs.length/\(ZP most rd).2.bs.length<=rd.bs.length:=by
 unfold ZP;split
 ·simp
 ·split
  ·split
   ·simp;omega
   ·simp
  ·simp
theorem Zg4 {most:Int} {rd:Rd}:(Ze most rd).2.bs.length<=rd.bs.length:=by
 unfold Ze;split
 ·simp
 ·split
  ·split
   ·simp
   ·simp
  ·simp
end
end Go.Proofs.YtfgbbckfikiomaaGreatDoor
namespace Go.VC
section
open Ieee
def Zf1:Int:=2 ^ 2200
def ZsM:Datum->Option Int
 | .nan ..=>none
 | .infinity s=>some (if s then -Zf1 else Zf1)
 | .number s m i=>some (signed s m (i + 1074).toNat)
theorem ZkB (s:Bool) (m k:Nat):signed s m k=(if s then -1 else 1) * ((m:Int) * 2 ^ k):=by
 unfold signed;cases s<;>simp [Nat.shiftLeft_eq]
theorem ZrR {a b:Int} {c:Int} (h:0<c):compare (a * c) (b * c)=compare a b:=by
 simp only [compare,compareOfLessAndEq];have h1:a * c<b * c↔a<b:=⟨λ h2=>Int.lt_of_mul_lt_mul_right h2 (by omega),λ h2=>Int.mul_lt_mul_of_pos_right h2 h⟩;have h2:a * c=b * c↔a=b:=⟨λ h3=>Int.eq_of_mul_eq_mul_right (by omega) h3,λ h3=>by rw [h3]⟩;simp only [h1,h2]
theorem ZkA (s:Bool) (m k c:Nat):signed s m (k + c)=signed s m k * 2 ^ c:=by
 rw [ZkB,ZkB,Int.pow_add];rw [Int.mul_assoc,Int.mul_assoc]
theorem Zl8 {x:Nat} {s:Bool} {m:Nat} {i:Int} (h:double.read x=.number s m i):(-1074<=i/\i<=971)/\m<2 ^ 53:=by
 unfold Format.read at h;simp only [ZfZ,ZmH,ZhH,ZnS] at h;split at h
 ·rename_i hr
  simp only [Datum.number.injEq] at h;obtain ⟨_,rfl,rfl⟩:=h;exact ⟨⟨by omega,by omega⟩,by omega⟩
 ·split at h
  ·rename_i hr
   simp only [Datum.number.injEq] at h;obtain ⟨_,rfl,rfl⟩:=h;refine ⟨⟨by omega,?_⟩,by omega⟩;have:x % 9223372036854775808 / 4503599627370496<=2046:=by omega
   omega
  ·split at h<;>cases h
theorem Zvz (n:Nat):(2:Int) ^ n=((2 ^ n:Nat):Int):=by rw [Int.natCast_pow];rfl
theorem ZmO (n:Nat):(0:Int)<2 ^ n:=Int.pow_pos (by omega)
theorem Zys {m k n N:Nat} (hm:m<2 ^ 53) (hk:k<=n) (hN:53 + n<N):m * 2 ^ k<2 ^ N:=by
 have h1:m * 2 ^ k<=2 ^ 53 * 2 ^ n:=Nat.mul_le_mul (by omega) (Nat.pow_le_pow_right (by omega) hk);rw [<-Nat.pow_add] at h1;exact Nat.lt_of_le_of_lt h1 (Nat.pow_lt_pow_right (by omega) hN)
theorem Zpy {x:Nat} {s:Bool} {m:Nat} {i:Int} (h:double.read x=.number s m i): -Zf1<signed s m (i + 1074).toNat/\signed s m (i + 1074).toNat<Zf1:=by
 obtain ⟨⟨h1,h2⟩,h3⟩:=Zl8 h;have hk:(i + 1074).toNat<=2045:=by omega
 have hp:m * 2 ^ (i + 1074).toNat<2 ^ 2200:=Zys (N:=2200) (n:=2045) h3 hk (by omega);have hp2:((m * 2 ^ (i + 1074).toNat:Nat):Int)<Zf1:=by
  unfold Zf1;rw [Zvz];exact Int.ofNat_lt.2 hp
 have hb:(0:Int)<Zf1:=by unfold Zf1;exact ZmO 2200
 have e:signed s m (i + 1074).toNat=if s then -((m * 2 ^ (i + 1074).toNat:Nat):Int) else ((m * 2 ^ (i + 1074).toNat:Nat):Int):=by
  unfold signed;rw [Nat.shiftLeft_eq]
 rw [e];generalize m * 2 ^ (i + 1074).toNat=n at *;cases s<;>simp<;>omega
theorem ZqF (x y:Nat):double.order x y=match ZsM (double.read x),ZsM (double.read y) with
  |some a,some b=>some (compare a b)
  |_,_=>none:=by
 have hb:(0:Int)<Zf1:=by unfold Zf1;exact ZmO 2200
 have lt_cmp:∀ a b:Int,a<b->compare a b=.lt:=λ a b h=>by simp only [compare,compareOfLessAndEq,if_pos h]
 have gt_cmp:∀ a b:Int,b<a->compare a b=.gt:=λ a b h=>by simp only [compare,compareOfLessAndEq];rw [if_neg (by omega),if_neg (by omega)]
 have eq_cmp:∀ a:Int,compare a a=.eq:=λ a=>by simp [compare,compareOfLessAndEq]
 unfold Format.order;cases hx:double.read x with
 |nan s t=>cases double.read y<;>rfl
 |infinity s=>
  cases hy:double.read y with
  |nan=>rfl
  |infinity t=>
   show some (compare t.toNat s.toNat)=some (compare (if s then -Zf1 else Zf1) (if t then -Zf1 else Zf1))
   cases s<;>cases t
   ·simp only [Bool.false_eq_true,if_false];rw [eq_cmp];rfl
   ·simp only [Bool.false_eq_true,if_false,if_true];rw [gt_cmp _ _ (by omega)];rfl
   ·simp only [Bool.false_eq_true,if_false,if_true];rw [lt_cmp _ _ (by omega)];rfl
   ·simp only [if_true];rw [eq_cmp];rfl
  |number t n j=>
   have:=Zpy hy;show some (if s then Ordering.lt else .gt)=some (compare (if s then -Zf1 else Zf1) (signed t n (j + 1074).toNat))
   cases s
   ·simp only [Bool.false_eq_true,if_false];rw [gt_cmp _ _ (by omega)]
   ·simp only [if_true];rw [lt_cmp _ _ (by omega)]
 |number s m i=>
  cases hy:double.read y with
  |nan=>rfl
  |infinity t=>
   have:=Zpy hx;show some (if t then Ordering.gt else .lt)=some (compare (signed s m (i + 1074).toNat) (if t then -Zf1 else Zf1))
   cases t
   ·simp only [Bool.false_eq_true,if_false];rw [lt_cmp _ _ (by omega)]
   ·simp only [if_true];rw [gt_cmp _ _ (by omega)]
  |number t n j=>
   obtain ⟨⟨i1,i2⟩,_⟩:=Zl8 hx;obtain ⟨⟨j1,j2⟩,_⟩:=Zl8 hy;show some (compare (signed s m (i - min i j).toNat) (signed t n (j - min i j).toNat))=some (compare (signed s m (i + 1074).toNat) (signed t n (j + 1074).toNat));have e1:(i + 1074).toNat=(i - min i j).toNat + (min i j + 1074).toNat:=by omega
   have e2:(j + 1074).toNat=(j - min i j).toNat + (min i j + 1074).toNat:=by omega
   rw [e1,e2,ZkA,ZkA,ZrR (Int.pow_pos (by omega))]
def kvF (x:Nat):Int:=match ZsM (double.read x) with|none=>-Zf1 - 1|some v=>v
def ZlT (x:Nat):Bool:=(ZsM (double.read x)).isNone
theorem Ztw {x:Nat} (h:ZlT x=false): -Zf1<=kvF x:=by
 have hb:(0:Int)<Zf1:=by unfold Zf1;exact ZmO 2200
 unfold ZlT at h;unfold kvF;cases hr:double.read x with
 |nan s t=>rw [hr] at h;cases h
 |infinity s=>
  show -Zf1<=if s then -Zf1 else Zf1
  split<;>omega
 |number s m i=>have:=(Zpy hr).1;show -Zf1<=signed s m (i + 1074).toNat;omega
theorem Zgg {x:Nat} (h:ZlT x=true):kvF x=-Zf1 - 1:=by
 unfold ZlT at h;unfold kvF;cases hv:ZsM (double.read x) with
 |none=>rfl
 |some v=>rw [hv] at h;cases h
theorem ZqI {x y:Nat} (hx:ZlT x=false) (hy:ZlT y=false):(double.order x y==some .lt)=decide (kvF x<kvF y)/\(double.order x y==some .eq)=decide (kvF x=kvF y)/\(double.order x y==some .gt)=decide (kvF y<kvF x):=by
 rw [ZqF];unfold ZlT at hx hy;unfold kvF;cases hvx:ZsM (double.read x) with
 |none=>rw [hvx] at hx;cases hx
 |some a=>
  cases hvy:ZsM (double.read y) with
  |none=>rw [hvy] at hy;cases hy
  |some b=>
   dsimp only;simp only [compare,compareOfLessAndEq];by_cases h1:a<b
   ·rw [if_pos h1]
    refine ⟨by rw [decide_eq_true h1];rfl,by rw [decide_eq_false (by omega)];rfl,by rw [decide_eq_false (by omega)];rfl⟩
   ·rw [if_neg h1]
    by_cases h2:a=b
    ·rw [if_pos h2]
     refine ⟨by rw [decide_eq_false h1];rfl,by rw [decide_eq_true h2];rfl,by rw [decide_eq_false (by omega)];rfl⟩
    ·rw [if_neg h2]
     refine ⟨by rw [decide_eq_false h1];rfl,by rw [decide_eq_false h2];rfl,by rw [decide_eq_true (by omega)];rfl⟩
theorem ZgB {x y:Nat} (h:ZlT x=true\/ZlT y=true):double.order x y=none:=by
 rw [ZqF];unfold ZlT at h;cases hvx:ZsM (double.read x) with
 |none=>rfl
 |some a=>
  cases hvy:ZsM (double.read y) with
  |none=>rfl
  |some b=>rw [hvx,hvy] at h;simp at h
theorem Znl (x:Nat):(double.order x x==some .eq)=!ZlT x:=by
 cases h:ZlT x with
 |true=>rw [ZgB (.inl h)];rfl
 |false=>rw [(ZqI h h).2.1];simp
def Zeh (a b:Nat):Int:=if kvF a<kvF b then -1 else if kvF a=kvF b then 0 else 1
end
def Znw (b:Nat):Nat:=if b<9223372036854775808 then b + 9223372036854775808 else 18446744073709551615 - b
def ofF (k:Nat):Nat:=if 9223372036854775808<=k then k - 9223372036854775808 else 18446744073709551615 - k
theorem Zuo {b:Nat} (h:b<18446744073709551616):ofF (Znw b)=b:=by
 unfold ofF Znw;split<;>split<;>omega
theorem Zlq {b:Nat} (h:b<18446744073709551616):Znw b<18446744073709551616:=by
 unfold Znw;split<;>omega
theorem ZAL {k:Nat} (h:k<18446744073709551616):ofF k<18446744073709551616:=by
 unfold ofF;split<;>omega
structure Wt where
 id:Int
 cls:Int
 many:Int
 time:Int
 sc:Nat
deriving DecidableEq
def Wt.Ok (w:Wt):Prop:=(1<=w.id/\w.id<=28629151)/\(0<=w.cls/\w.cls<=7)/\(1<=w.many/\w.many<=600)/\(0<=w.time/\w.time<=1099511627776)
instance (w:Wt):Decidable w.Ok:=by unfold Wt.Ok;infer_instance
def Wt.ahead (a b:Wt):Bool:=if kvF a.sc=kvF b.sc then (if a.time=b.time then decide (a.id<b.id) else decide (a.time<b.time)) else decide (kvF b.sc<kvF a.sc)
theorem Zc6 {a b:Wt}:a.ahead b=true↔kvF b.sc<kvF a.sc\/kvF a.sc=kvF b.sc/\(a.time<b.time\/a.time=b.time/\a.id<b.id):=by
 unfold Wt.ahead;split
 ·split
  ·simp;omega
  ·simp;omega
 ·simp;omega
theorem Zcx {a b c:Wt} (h1:a.ahead b=true) (h2:b.ahead c=true):a.ahead c=true:=by
 rw [Zc6] at *;omega
theorem Zpp {a b:Wt} (h:a.ahead b=true):b.ahead a=false:=by
 cases h2:b.ahead a with
 |false=>rfl
 |true=>rw [Zc6] at h h2;omega
theorem ZlP {a b:Wt} (h:a.id≠b.id) (h1:a.ahead b=false):b.ahead a=true:=by
 rw [Zc6];have:¬ a.ahead b=true:=by rw [h1];simp
 rw [Zc6] at this;omega
def Wt.ord (a b:Wt):Int:=if Zeh b.sc a.sc≠0 then Zeh b.sc a.sc else if a.time<b.time then -1 else if b.time<a.time then 1 else if a.id<b.id then -1 else if b.id<a.id then 1 else 0
theorem ZqH {a b:Wt}:a.ord b<0↔a.ahead b=true:=by
 rw [Zc6];unfold Wt.ord Zeh
 repeat' split
 all_goals first|omega|(simp at *;omega)
theorem ZqG {a b:Wt}:0<a.ord b↔b.ahead a=true:=by
 rw [Zc6];unfold Wt.ord Zeh
 repeat' split
 all_goals first|omega|(simp at *;omega)
def QSt (q:List Wt):Prop:=q.Pairwise λ a b=>a.ahead b=true
def Zya (q:List Wt):Prop:=q.Pairwise λ a b=>a.id≠b.id
structure QOk (q:List Wt):Prop where
 st:QSt q
 ids:Zya q
 ok:∀ w∈q,w.Ok
 fl:∀ w∈q,w.sc<18446744073709551616
 len:q.length<=200
theorem QOk.nil:QOk []:=⟨List.Pairwise.nil,List.Pairwise.nil,λ _ h=>(by cases h),λ _ h=>(by cases h),by simp⟩
def ZiE (w:Wt) (q:List Wt):List Wt:=q.takeWhile (λ a=>a.ahead w)++w::q.dropWhile (λ a=>a.ahead w)
theorem ZbY (w a:Wt) (q:List Wt):ZiE w (a::q)=if a.ahead w then a::ZiE w q else w::a::q:=by
 unfold ZiE;rw [List.takeWhile_cons,List.dropWhile_cons];split<;>rfl
theorem ZcH {w x:Wt}:∀ {q:List Wt},x∈ZiE w q↔x=w\/x∈q
 |[]=>by simp [ZiE]
 |a::q=>by
  rw [ZbY];split
  ·rw [List.mem_cons,ZcH,List.mem_cons]
   constructor
   ·rintro (h|h|h)<;>simp [h]
   ·rintro (h|h|h)<;>simp [h]
  ·rw [List.mem_cons]
theorem Zny {w:Wt}:∀ {q:List Wt},(ZiE w q).length=q.length + 1
 |[]=>rfl
 |a::q=>by
  rw [ZbY];split
  ·rw [List.length_cons,Zny,List.length_cons]
  ·rfl
theorem Zri {w:Wt}:∀ {q:List Wt},QSt q->(∀ x∈q,x.id≠w.id)->QSt (ZiE w q)
 |[],_,_=>List.Pairwise.cons (λ _ h=>(by cases h)) List.Pairwise.nil
 |a::q,h,hid=>by
  have h1:=List.pairwise_cons.1 h;rw [ZbY];split
  ·rename_i ha
   refine List.Pairwise.cons (λ x hx=>?_) (Zri h1.2 λ x hx=>hid x (by simp [hx]));rcases ZcH.1 hx with rfl|hx
   ·exact ha
   ·exact h1.1 x hx
  ·rename_i ha
   have hwa:w.ahead a=true:=ZlP (hid a (by simp)) (by simpa using ha);refine List.Pairwise.cons (λ x hx=>?_) h;rcases List.mem_cons.1 hx with rfl|hx
   ·exact hwa
   ·exact Zcx hwa (h1.1 x hx)
theorem Znz {w:Wt}:∀ {q:List Wt},Zya q->(∀ x∈q,x.id≠w.id)->Zya (ZiE w q)
 |[],_,_=>List.Pairwise.cons (λ _ h=>(by cases h)) List.Pairwise.nil
 |a::q,h,hid=>by
  have h1:=List.pairwise_cons.1 h;rw [ZbY];split
  ·refine List.Pairwise.cons (λ x hx=>?_) (Znz h1.2 λ x hx=>hid x (by simp [hx]))
   rcases ZcH.1 hx with rfl|hx
   ·exact hid a (by simp)
   ·exact h1.1 x hx
  ·refine List.Pairwise.cons (λ x hx=>?_) h
   exact λ e=>hid x hx e.symm
theorem ZjK {w:Wt}:∀ {q:List Wt},(∀ x∈q,x.ahead w=true)->ZiE w q=q++[w]
 |[],_=>rfl
 |a::q,h=>by rw [ZbY,if_pos (h a (by simp)),ZjK λ x hx=>h x (by simp [hx])];rfl
theorem ZvA {w:Wt} {q:List Wt} {i:Nat} (hst:QSt q) (h1:i=0\/∃ h:i - 1<q.length,q[i - 1].ahead w=true) (h2:∀ h:i<q.length,q[i].ahead w=false) (hi:i<=q.length):ZiE w q=q.take i++w::q.drop i:=by
 induction q generalizing i with
 |nil=>cases i with
  |zero=>rfl
  |succ n=>simp at hi
 |cons a q ih=>
  have hp:=List.pairwise_cons.1 hst;rw [ZbY];cases i with
  |zero=>rw [if_neg (by have:=h2 (by simp);simp at this;simp [this])];rfl
  |succ n=>
   have ha:a.ahead w=true:=by
    rcases h1 with h1|⟨hl,h1⟩
    ·omega
    ·cases n with
     |zero=>simpa using h1
     |succ m=>
      have hm:m<q.length:=by simp at hl;omega
      exact Zcx (hp.1 q[m] (List.getElem_mem hm)) (by simpa using h1)
   rw [if_pos ha,ih hp.2 ?_ (λ hl=>by have:=h2 (by simp;omega);simpa using this) (by simp at hi;exact hi)]
   ·rfl
   ·cases n with
    |zero=>exact .inl rfl
    |succ m=>
     refine .inr ⟨by simp at hi;omega,?_⟩;rcases h1 with h1|⟨hl,h1⟩
     ·omega
     ·simpa using h1
def Zel (id:Int) (q:List Wt):Bool:=q.any λ w=>decide (w.id=id)
def ZcW (q:List Wt) (w:Wt):List Wt × Int:=
 if ¬ w.Ok then (q,1) else if Zel w.id q then (q,7) else if 200<=q.length then (q,3) else (ZiE w q,0)
def ZhG (id:Int):List Wt->List Wt
 |[]=>[]
 |w::q=>if w.id=id then q else w::ZhG id q
def Zul (q:List Wt) (id:Int):List Wt × Int:=if Zel id q then (ZhG id q,0) else (q,2)
theorem Zfc {id:Int} {q:List Wt}:Zel id q=true↔∃ w∈q,w.id=id:=by
 unfold Zel;simp
theorem Zmz {id:Int} {q:List Wt}:Zel id q=false↔∀ w∈q,w.id≠id:=by
 unfold Zel;simp
theorem Zd9 {id:Int}:∀ {q:List Wt},(ZhG id q).Sublist q
 |[]=>List.Sublist.refl _
 |w::q=>by
  show (if w.id=id then q else w::ZhG id q).Sublist _
  split
  ·exact List.sublist_cons_self _ _
  ·exact Zd9.cons_cons _
theorem ZiR {id:Int}:∀ {q:List Wt},Zel id q=true->∃ A w C,q=A++w::C/\w.id=id/\(∀ x∈A,x.id≠id)/\ZhG id q=A++C
 |[],h=>by cases h
 |w::q,h=>by
  by_cases e:w.id=id
  ·exact ⟨[],w,q,rfl,e,λ _ h=>(by cases h),by show (if w.id=id then q else _)=_;rw [if_pos e];rfl⟩
  ·have h2:Zel id q=true:=by
    rw [Zfc] at *;obtain ⟨x,hx,hi⟩:=h;rcases List.mem_cons.1 hx with rfl|hx
    ·exact absurd hi e
    ·exact ⟨x,hx,hi⟩
   obtain ⟨A,x,C,rfl,hx,hA,hd⟩:=ZiR h2;refine ⟨w::A,x,C,rfl,hx,λ y hy=>?_,?_⟩
   ·rcases List.mem_cons.1 hy with rfl|hy
    ·exact e
    ·exact hA y hy
   ·show (if w.id=id then _ else w::ZhG id _)=_
    rw [if_neg e,hd];rfl
theorem ZjZ {id:Int} {q:List Wt} (h:Zya q) {x:Wt}:x∈ZhG id q↔x∈q/\x.id≠id:=by
 induction q with
 |nil=>simp [ZhG]
 |cons w q ih=>
  have hp:=List.pairwise_cons.1 h;show x∈(if w.id=id then q else w::ZhG id q)↔_
  split
  ·rename_i e
   constructor
   ·exact λ hx=>⟨by simp [hx],λ e2=>hp.1 x hx (by rw [e,e2])⟩
   ·rintro ⟨hx,hn⟩
    rcases List.mem_cons.1 hx with rfl|hx
    ·exact absurd e hn
    ·exact hx
  ·rename_i e
   rw [List.mem_cons,ih hp.2,List.mem_cons];constructor
   ·rintro (rfl|⟨h1,h2⟩)
    ·exact ⟨.inl rfl,e⟩
    ·exact ⟨.inr h1,h2⟩
   ·rintro ⟨rfl|h1,h2⟩
    ·exact .inl rfl
    ·exact .inr ⟨h1,h2⟩
theorem QOk.del {q:List Wt} (h:QOk q) (id:Int):QOk (ZhG id q):=
 ⟨h.st.sublist Zd9,h.ids.sublist Zd9,λ w hw=>h.ok w (Zd9.subset hw),λ w hw=>h.fl w (Zd9.subset hw),Nat.le_trans Zd9.length_le h.len⟩
theorem QOk.ins {q:List Wt} (h:QOk q) {w:Wt} (hw:w.Ok) (hf:w.sc<18446744073709551616) (hn:Zel w.id q=false) (hl:q.length<200):QOk (ZiE w q):=by
 have hn':=Zmz.1 hn;refine ⟨Zri h.st hn',Znz h.ids hn',λ x hx=>?_,λ x hx=>?_,by rw [Zny];omega⟩
 ·rcases ZcH.1 hx with rfl|hx
  ·exact hw
  ·exact h.ok x hx
 ·rcases ZcH.1 hx with rfl|hx
  ·exact hf
  ·exact h.fl x hx
def Zcb (left:List Int) (w:Wt):Bool:=decide (w.cls<left.length) && decide (w.many<=left.getD w.cls.toNat 0)
def Zai (q:List Wt) (left:List Int):Option Wt:=q.find? (Zcb left)
theorem Zox {q:List Wt} {left:List Int} {w:Wt} (h:Zai q left=some w):w∈q/\Zcb left w=true:=
 ⟨List.mem_of_find?_eq_some h,List.find?_some h⟩
def Zl3:List Int:=[65,66,67,68,69,70,71,72,74,75,76,77,78,80,81,82,84,85,86,87,88,89,90,50,51,52,53,54,55,56,57]
theorem ZpW:Zl3.length=31:=rfl
def ZcP (c:Int):Nat->List Int->Int
 |_,[]=>-1
 |i,x::l=>if x=c then i else ZcP c (i + 1) l
def ZI (c:Int):Int:=ZcP c 0 Zl3
theorem Zf6 (c:Int):∀ (i:Nat) (l:List Int),ZcP c i l=-1\/(i<=ZcP c i l/\ZcP c i l<i + l.length)
 |_,[]=>.inl rfl
 |i,x::l=>by
  unfold ZcP;split
  ·right;simp;omega
  ·rcases Zf6 c (i + 1) l with h|h
   ·exact .inl h
   ·right;simp;omega
theorem ZmX (c:Int):ZI c=-1\/(0<=ZI c/\ZI c<31):=by
 have:=Zf6 c 0 Zl3;rw [ZpW] at this;unfold ZI;omega
def Ztq (l:List Int):Int:=l.foldl (λ n d=>n * 31 + d) 0
def Zc9:Int->List Int->Int
 |_,[]=>0
 |k,d::l=>k * d + Zc9 (k + 1) l
theorem ZsJ (k:Int) (a b:List Int):Zc9 k (a++b)=Zc9 k a + Zc9 (k + a.length) b:=by
 induction a generalizing k with
 |nil=>simp [Zc9]
 |cons x a ih=>simp only [List.cons_append,Zc9,ih,List.length_cons];rw [show k + 1 + (a.length:Int)=k + ((a.length + 1:Nat):Int) by omega];omega
theorem Ztp (a:List Int) (d:Int):Ztq (a++[d])=Ztq a * 31 + d:=by simp [Ztq]
def Zdl (n:Int):List Int:=[n / 923521 % 31,n / 29791 % 31,n / 961 % 31,n / 31 % 31,n % 31]
theorem ZvW (n:Int):∀ d∈Zdl n,0<=d/\d<31:=by
 intro d hd;simp only [Zdl,List.mem_cons,List.not_mem_nil,or_false] at hd;omega
def Zyi (n:Int):Int:=(31 - Zc9 2 (Zdl n) % 31) % 31
def ZgV (d:Int):Int:=Zl3.getD d.toNat 0
def Zvr (n:Int):List Int:=(Zdl n++[Zyi n]).map ZgV
def Zco (bs:List Int):Int × Int:=
 if bs.length≠6\/(∃ c∈bs,ZI c<0) then (0,6)
 else if (Zc9 2 ((bs.take 5).map ZI) + ZI (bs.getD 5 0)) % 31≠0 then (0,6)
 else (Ztq ((bs.take 5).map ZI),0)
theorem Ztr (n:Int):(Zvr n).length=6:=rfl
theorem Zv6 (n:Int):0<=Zyi n/\Zyi n<31:=by unfold Zyi;omega
theorem ZqZ:∀ {l:List Int} {a:Int} {k:Nat},(∀ d∈l,0<=d/\d<31)->(0<=a/\a<31 ^ k)->0<=l.foldl (λ n d=>n * 31 + d) a/\l.foldl (λ n d=>n * 31 + d) a<31 ^ (k + l.length)
 |[],_,_,_,h=>h
 |d::l,a,k,hd,h=>by
  have h2:=hd d (by simp);have h3:=ZqZ (l:=l) (a:=a * 31 + d) (k:=k + 1) (λ x hx=>hd x (by simp [hx])) (by rw [Int.pow_succ];omega);rw [List.length_cons,show k + (l.length + 1)=k + 1 + l.length by omega];exact h3
theorem Zvq {l:List Int} (h:∀ d∈l,0<=d/\d<31):0<=Ztq l/\Ztq l<31 ^ l.length:=by
 have:=ZqZ (a:=0) (k:=0) h ⟨by omega,by simp⟩;rw [Nat.zero_add] at this;exact this
end Go.VC
namespace Go.Proofs.YtfgbbckfikiomaaGreatDoor
section
open Go Go.VC Tryz
def Z3 {α:Type} (one:Rd->α × Rd):Nat->Rd->List α × Rd
 |0,r=>([],r)
 |n + 1,r=>((one r).1::(Z3 one n (one r).2).1,(Z3 one n (one r).2).2)
theorem Zcg {α:Type} (one:Rd->α × Rd) (n:Nat) (r:Rd):Z3 one (n + 1) r=((one r).1::(Z3 one n (one r).2).1,(Z3 one n (one r).2).2):=rfl
theorem ZdW {α:Type} (one:Rd->α × Rd):∀ (n:Nat) (r:Rd),(Z3 one n r).1.length=n
 |0,_=>rfl
 |n + 1,r=>by rw [Zcg,List.length_cons,ZdW one n]
theorem Zez {α:Type} (one:Rd->α × Rd):∀ (k:Nat) (r:Rd),Z3 one (k + 1) r=((Z3 one k r).1++[(one (Z3 one k r).2).1],(one (Z3 one k r).2).2)
 |0,_=>rfl
 |k + 1,r=>by
  rw [Zcg,Zez one k (one r).2];rfl
theorem ZdX {α:Type} {one:Rd->α × Rd} {P:Rd->Prop} {Q:α->Prop} (h:∀ r,P r->Q (one r).1/\P (one r).2):∀ (n:Nat) {r:Rd},P r->(∀ x∈(Z3 one n r).1,Q x)/\P (Z3 one n r).2
 |0,_,hr=>⟨λ _ hx=>(by cases hx),hr⟩
 |n + 1,r,hr=>by
  have h1:=h r hr;have h2:=ZdX h n h1.2;refine ⟨λ x hx=>?_,h2.2⟩;rcases List.mem_cons.1 hx with rfl|hx
  ·exact h1.1
  ·exact h2.1 x hx
theorem ZeA {α:Type} {one:Rd->α × Rd} {code:α->List Int} {rest:List Int}:∀ {l:List α},(∀ x∈l,∀ more,one ⟨code x++more,false⟩=(x,⟨more,false⟩))->Z3 one l.length ⟨(l.map code).flatten++rest,false⟩=(l,⟨rest,false⟩)
 |[],_=>rfl
 |x::l,h=>by
  rw [List.length_cons,Zcg,List.map_cons,List.flatten_cons,List.append_assoc,h x (by simp)];dsimp only;rw [ZeA λ y hy=>h y (by simp [hy])]
def Z5 (l:List Int):Prop:=∀ x∈l,0<=x/\x<256
def Zru (r:Rd):Nat × Rd:=(ofF (Ze 18446744073709551615 r).1.toNat,(Ze 18446744073709551615 r).2)
def ZvF (x:Nat):List Int:=ZeP (Znw x)
theorem Zdc {d rest:List Int} {most:Int} (hl:d.length<1000000) (hm:(d.length:Int)<=most):ZP most ⟨ZcQ d++rest,false⟩=(d,⟨rest,false⟩):=by
 unfold ZP ZcQ;rw [if_neg (by simp)];dsimp only;rw [List.append_assoc,Zk7 (by omega)];dsimp only;have hn:=Zbw (n:=d.length) (by omega);rw [if_pos ⟨rfl,by omega,hm,by simp only [List.length_append];omega⟩,List.drop_left,Int.toNat_natCast,List.take_left,<-List.drop_drop,List.drop_left,List.drop_left]
theorem Zo2 {x:Nat} (hx:x<18446744073709551616) {rest:List Int}:Zru ⟨ZvF x++rest,false⟩=(x,⟨rest,false⟩):=by
 have:=Zlq hx;unfold Zru ZvF;rw [ZfB this (by omega)];dsimp only;rw [Int.toNat_natCast,Zuo hx]
theorem ZtI {rd:Rd} (hb:Z5 rd.bs):Z5 (Zru rd).2.bs:=Zk hb
theorem ZtH {rd:Rd} (hb:Z5 rd.bs):(Zru rd).1<18446744073709551616:=by
 have:=Zw (most:=18446744073709551615) hb (by omega);exact ZAL (by omega)
structure Cm where
 kind:Int
 pnr:ByteArray
 flt:Int
 cls:Int
 many:Int
 time:Int
 sc:Nat
 lab:ByteArray
 rows:Int
 grps:List Int
 parts:List Nat
def Zhc (n:Int):Prop:=0<=n/\n<=9999
structure ZaO (c:Cm):Prop where
 flt:Zhc c.flt
 cls:Zhc c.cls
 many:Zhc c.many
 rows:Zhc c.rows
 grps:∀ n∈c.grps,Zhc n
 pnr:c.pnr.size<=16
 lab:c.lab.size<=16
 gl:c.grps.length<=16
 pl:c.parts.length<=16
 kind:1<=c.kind/\c.kind<=9
 time:0<=c.time/\c.time<=1099511627776
structure ZA1 (c:Cm):Prop where
 sc:c.sc<18446744073709551616
 parts:∀ x∈c.parts,x<18446744073709551616
structure Rp where
 code:Int
 pnr:ByteArray
 state:Int
 flt:Int
 cls:Int
 many:Int
 time:Int
 left:List Int
 labs:List ByteArray
def nn (n:Int):Int:=max n 0
structure RpIn (r:Rp):Prop where
 code:0<=r.code/\r.code<=1099511627776
 pnr:r.pnr.size<=16
 state:0<=r.state/\r.state<=1099511627776
 flt:0<=r.flt/\r.flt<=1099511627776
 cls:0<=r.cls/\r.cls<=1099511627776
 many:0<=r.many/\r.many<=1099511627776
 time:0<=r.time/\r.time<=1099511627776
 ll:r.left.length<=8
 left:∀ n∈r.left,0<=n/\n<=1099511627776
 bl:r.labs.length<=600
 labs:∀ s∈r.labs,s.size<=16
theorem ZhZ {n:Int} (h:0<=n):nn n=n:=by unfold nn;omega
end
end Go.Proofs.YtfgbbckfikiomaaGreatDoor
namespace Go.VC
section
section
variable {α:Type} {k:α->Int}
def Zam (k:α->Int) (l:List α):Prop:=l.Pairwise λ a b=>k a<k b
def Zty (k:α->Int) (n:Int) (l:List α):Option α:=l.find? λ x=>decide (k x=n)
def Zej (k:α->Int) (n:Int) (f:α->α) (l:List α):List α:=l.map λ x=>if k x=n then f x else x
def Znx (k:α->Int) (n:Int) (l:List α):List α:=l.filter λ x=>!decide (k x=n)
def Zps (k:α->Int) (x:α) (l:List α):List α:=l.takeWhile (λ y=>decide (k y<k x))++x::l.dropWhile (λ y=>decide (k y<k x))
theorem Zam.uniq {l:List α} (h:Zam k l) {a b:α} (ha:a∈l) (hb:b∈l) (e:k a=k b):a=b:=by
 induction l with
 |nil=>cases ha
 |cons x l ih=>
  have hp:=List.pairwise_cons.1 h;rcases List.mem_cons.1 ha with e1|h1
  ·rcases List.mem_cons.1 hb with e2|h2
   ·rw [e1,e2]
   ·have:=hp.1 b h2;rw [e1] at e;omega
  ·rcases List.mem_cons.1 hb with e2|h2
   ·have:=hp.1 a h1;rw [e2] at e;omega
   ·exact ih hp.2 h1 h2
theorem ZdE {n:Int} {l:List α} {x:α} (h:Zty k n l=some x):x∈l/\k x=n:=
 ⟨List.mem_of_find?_eq_some h,by have:=List.find?_some h;simpa using this⟩
theorem ZdF {n:Int} {l:List α}:Zty k n l=none↔∀ x∈l,k x≠n:=by
 unfold Zty;rw [List.find?_eq_none];simp
theorem ZjF {n:Int} {l:List α} (h:Zam k l) {x:α}:Zty k n l=some x↔x∈l/\k x=n:=by
 refine ⟨ZdE,λ⟨h1,h2⟩=>?_⟩;cases hg:Zty k n l with
 |none=>exact absurd h2 (ZdF.1 hg x h1)
 |some y=>
  have:=ZdE hg;rw [h.uniq this.1 h1 (by omega)]
theorem Zac {n:Int} {f:α->α} {l:List α} {y:α}:y∈Zej k n f l↔∃ x∈l,y=if k x=n then f x else x:=by
 unfold Zej;rw [List.mem_map];exact ⟨λ⟨x,h1,h2⟩=>⟨x,h1,h2.symm⟩,λ⟨x,h1,h2⟩=>⟨x,h1,h2.symm⟩⟩
theorem Zb8 {n:Int} {l:List α} {y:α}:y∈Znx k n l↔y∈l/\k y≠n:=by
 unfold Znx;rw [List.mem_filter];simp
theorem ZjE {n:Int} {f:α->α} {l:List α}:(Zej k n f l).length=l.length:=List.length_map _
theorem Ze6 {n:Int} {f:α->α} {l:List α} (h:Zam k l) (hf:∀ x∈l,k x=n->k (f x)=n):Zam k (Zej k n f l):=by
 unfold Zam Zej;rw [List.pairwise_map];refine List.Pairwise.imp_of_mem (λ {a b} ha hb hab=>?_) h;have h1:k (if k a=n then f a else a)=k a:=by
  split
  ·rename_i e;rw [hf a ha e,e]
  ·rfl
 have h2:k (if k b=n then f b else b)=k b:=by
  split
  ·rename_i e;rw [hf b hb e,e]
  ·rfl
 rw [h1,h2];exact hab
theorem Zrb {n:Int} {l:List α} (h:Zam k l):Zam k (Znx k n l):=h.sublist List.filter_sublist
theorem Zq9 {n:Int} {f:α->α} {l:List α} (h:∀ x∈l,k x≠n):Zej k n f l=l:=by
 induction l with
 |nil=>rfl
 |cons a l ih=>
  show (if k a=n then f a else a)::Zej k n f l=_
  rw [if_neg (h a (by simp)),ih λ x hx=>h x (by simp [hx])]
theorem Zrc {n:Int} {l:List α} (h:∀ x∈l,k x≠n):Znx k n l=l:=by
 unfold Znx;rw [List.filter_eq_self];intro x hx;simpa using h x hx
theorem Ztx {n:Int} {f:α->α} {A C:List α} {x:α} (hx:k x=n) (h:Zam k (A++x::C)):Zej k n f (A++x::C)=A++f x::C:=by
 have hp:=List.pairwise_append.1 h;have hc:=List.pairwise_cons.1 hp.2.1;have e1:Zej k n f A=A:=Zq9 λ y hy=>by have:=hp.2.2 y hy x (by simp);omega
 have e2:Zej k n f C=C:=Zq9 λ y hy=>by have:=hc.1 y hy;omega
 show List.map _ (A++x::C)=_;rw [List.map_append,List.map_cons,if_pos hx];show Zej k n f A++f x::Zej k n f C=_;rw [e1,e2]
theorem ZtA {n:Int} {A C:List α} {x:α} (hx:k x=n) (h:Zam k (A++x::C)):Znx k n (A++x::C)=A++C:=by
 have hp:=List.pairwise_append.1 h;have hc:=List.pairwise_cons.1 hp.2.1;have e1:Znx k n A=A:=Zrc λ y hy=>by have:=hp.2.2 y hy x (by simp);omega
 have e2:Znx k n C=C:=Zrc λ y hy=>by have:=hc.1 y hy;omega
 show List.filter _ (A++x::C)=_;rw [List.filter_append,List.filter_cons,if_neg (by simpa using hx)];show Znx k n A++Znx k n C=_;rw [e1,e2]
theorem Ze8 (x a:α) (l:List α):Zps k x (a::l)=if k a<k x then a::Zps k x l else x::a::l:=by
 unfold Zps;rw [List.takeWhile_cons,List.dropWhile_cons];by_cases h:k a<k x
 ·rw [decide_eq_true h,if_pos h];rfl
 ·rw [decide_eq_false h,if_neg h];rfl
theorem Zde {x y:α}:∀ {l:List α},y∈Zps k x l↔y=x\/y∈l
 |[]=>by simp [Zps]
 |a::l=>by
  rw [Ze8];split
  ·rw [List.mem_cons,Zde,List.mem_cons]
   constructor
   ·rintro (h|h|h)<;>simp [h]
   ·rintro (h|h|h)<;>simp [h]
  ·rw [List.mem_cons]
theorem Znv {x:α}:∀ {l:List α},(Zps k x l).length=l.length + 1
 |[]=>rfl
 |a::l=>by
  rw [Ze8];split
  ·rw [List.length_cons,Znv,List.length_cons]
  ·rfl
theorem Zlo {x:α}:∀ {l:List α},Zam k l->(∀ y∈l,k y≠k x)->Zam k (Zps k x l)
 |[],_,_=>List.Pairwise.cons (λ _ h=>(by cases h)) List.Pairwise.nil
 |a::l,h,hn=>by
  have hp:=List.pairwise_cons.1 h;rw [Ze8];split
  ·rename_i ha
   refine List.Pairwise.cons (λ y hy=>?_) (Zlo hp.2 λ y hy=>hn y (by simp [hy]));rcases Zde.1 hy with rfl|hy
   ·exact ha
   ·exact hp.1 y hy
  ·rename_i ha
   have:=hn a (by simp);refine List.Pairwise.cons (λ y hy=>?_) h;rcases List.mem_cons.1 hy with rfl|hy
   ·omega
   ·have:=hp.1 y hy;omega
theorem Zlp {x:α}:∀ {l:List α},(Zps k x l).Perm (x::l)
 |[]=>List.Perm.refl _
 |a::l=>by
  rw [Ze8];split
  ·exact (Zlp.cons a).trans (List.Perm.swap x a l)
  ·exact List.Perm.refl _
theorem ZfM {l:List α} {x:α} (h:Zam k l) (hx:∀ y∈l,k y<k x):Zam k (l++[x]):=by
 refine List.pairwise_append.2 ⟨h,List.pairwise_singleton _ _,λ a ha b hb=>?_⟩;rw [List.mem_singleton.1 hb];exact hx a ha
theorem Zam.ne {l:List α} (h:Zam k l):l.Pairwise λ a b=>k a≠k b:=h.imp λ hab e=>by omega
end
theorem Zjq {l m:List Int} (h:l.Nodup) (hs:∀ x∈l,x∈m):l.length<=m.length:=by
 induction l generalizing m with
 |nil=>simp
 |cons a l ih=>
  have hp:=List.nodup_cons.1 h;have ha:=hs a (by simp);have h2:=ih (m:=m.erase a) hp.2 λ x hx=>by
   refine (List.mem_erase_of_ne ?_).2 (hs x (by simp [hx]));rintro rfl;exact hp.1 hx
  have h3:=List.length_erase_of_mem ha;have h4:0<m.length:=List.length_pos_of_mem ha;rw [List.length_cons];omega
theorem ZqQ {l m:List Int} (hl:l.Nodup) (hm:m.Nodup) (h:∀ x,x∈l↔x∈m):l.length=m.length:=by
 have h1:=Zjq hl λ x hx=>(h x).1 hx;have h2:=Zjq hm λ x hx=>(h x).2 hx;omega
end
end Go.VC

namespace Go.Proofs.YtfgbbckfikiomaaGreatDoor
section
open Go Go.VC Tryz
def wtB (w:Wt):List Int:=Zv [w.id]++(Zv [w.cls]++(Zv [w.many]++(Zv [w.time]++ZvF w.sc)))
def qB (q:List Wt):List Int:=Zv [(q.length:Int)]++(q.map wtB).flatten
def Zf5 (r:Rd):Wt × Rd:=
 let a:=Ze 28629151 r
 let b:=Ze 7 a.2
 let c:=Ze 600 b.2
 let d:=Ze 1099511627776 c.2
 let e:=Zru d.2
 (⟨a.1,b.1,c.1,d.1,e.1⟩,e.2)
theorem ZuL {w:Wt} (h:w.Ok) (hf:w.sc<18446744073709551616) (more:List Int):Zf5 ⟨wtB w++more,false⟩=(w,⟨more,false⟩):=by
 obtain ⟨⟨a1,a2⟩,⟨b1,b2⟩,⟨c1,c2⟩,d1,d2⟩:=h;unfold Zf5 wtB;simp only [List.append_assoc];rw [Zs (by omega) (by omega) (by omega)];dsimp only;rw [Zs (by omega) (by omega) (by omega)];dsimp only;rw [Zs (by omega) (by omega) (by omega)];dsimp only;rw [Zs (by omega) (by omega) (by omega)];dsimp only;rw [Zo2 hf]
theorem Zpv {r:Rd} (hb:Z5 r.bs):Z5 (Zf5 r).2.bs:=ZtI (Zk (Zk (Zk (Zk hb))))
theorem ZlV {r:Rd} (hb:Z5 r.bs):(Zf5 r).1.sc<18446744073709551616:=ZtH (Zk (Zk (Zk (Zk hb))))
structure Zbf (q:List Wt):Prop where
 st:QSt q
 ids:Zya q
 ok:∀ w∈q,w.Ok
theorem Zbf.pre {a b:List Wt} (h:Zbf (a++b)):Zbf a:=
 ⟨(List.pairwise_append.1 h.st).1,(List.pairwise_append.1 h.ids).1,λ w hw=>h.ok w (by simp [hw])⟩
theorem Zbf.nil:Zbf []:=⟨List.Pairwise.nil,List.Pairwise.nil,λ _ h=>(by cases h)⟩
theorem Zbf.snoc {q:List Wt} {w:Wt} (h:Zbf q) (hw:w.Ok) (hi:∀ x∈q,x.id≠w.id) (ha:∀ x∈q,x.ahead w=true):Zbf (q++[w]):=by
 refine ⟨List.pairwise_append.2 ⟨h.st,List.pairwise_singleton _ _,λ a ha' b hb=>?_⟩,List.pairwise_append.2 ⟨h.ids,List.pairwise_singleton _ _,λ a ha' b hb=>?_⟩,λ x hx=>?_⟩
 ·rw [List.mem_singleton.1 hb];exact ha a ha'
 ·rw [List.mem_singleton.1 hb];exact hi a ha'
 ·rcases List.mem_append.1 hx with hx|hx
  ·exact h.ok x hx
  ·rw [List.mem_singleton.1 hx];exact hw
theorem Zbf.last {q:List Wt} {w:Wt} (h:Zbf (q++[w])):w.Ok/\(∀ x∈q,x.id≠w.id)/\∀ x∈q,x.ahead w=true:=
 ⟨h.ok w (by simp),λ x hx=>(List.pairwise_append.1 h.ids).2.2 x hx w (by simp),λ x hx=>(List.pairwise_append.1 h.st).2.2 x hx w (by simp)⟩
def Zmc (bs:List Int):List Wt × Rd:=Z3 Zf5 (Ze 200 ⟨bs,false⟩).1.toNat (Ze 200 ⟨bs,false⟩).2
def ZzF (bs:List Int):Prop:=Z0 (Zmc bs).2=true/\Zbf (Zmc bs).1
theorem Zu3 {bs:List Int} (hb:Z5 bs):(∀ w∈(Zmc bs).1,w.sc<18446744073709551616)/\Z5 (Zmc bs).2.bs:=
 ZdX (one:=Zf5) (P:=λ r=>Z5 r.bs) (Q:=λ w=>w.sc<18446744073709551616) (λ _ hr=>⟨ZlV hr,Zpv hr⟩) (Ze 200 ⟨bs,false⟩).1.toNat (r:=(Ze 200 ⟨bs,false⟩).2) (Zk (rd:=⟨bs,false⟩) hb)
theorem Zs0 {bs:List Int} (hb:Z5 bs):(Zmc bs).1.length<=200:=by
 have:=Zw (most:=200) (rd:=⟨bs,false⟩) hb (by omega);show (Z3 Zf5 _ _).1.length<=200;rw [ZdW];omega
theorem ZzF.ok {bs:List Int} (hb:Z5 bs) (h:ZzF bs):QOk (Zmc bs).1:=⟨h.2.st,h.2.ids,h.2.ok,(Zu3 hb).1,Zs0 hb⟩
theorem Zu4 {q:List Wt} (hl:q.length<=200) (ok:∀ w∈q,w.Ok) (fl:∀ w∈q,w.sc<18446744073709551616):Zmc (qB q)=(q,⟨[],false⟩):=by
 have e0:Ze 200 ⟨qB q,false⟩=((q.length:Int),⟨(q.map wtB).flatten,false⟩):=Zs (by omega) (by omega) (by omega);have e:=ZeA (one:=Zf5) (code:=wtB) (l:=q) (rest:=[]) λ w hw more=>ZuL (ok w hw) (fl w hw) more;rw [List.append_nil] at e;unfold Zmc;rw [e0];dsimp only;rw [Int.toNat_natCast,e]
theorem Zqr {q:List Wt} (h:QOk q):ZzF (qB q)/\(Zmc (qB q)).1=q:=by
 have e:=Zu4 h.len h.ok h.fl;unfold ZzF;rw [e];exact ⟨⟨rfl,h.st,h.ids,h.ok⟩,rfl⟩
end
section
open Go Go.VC Tryz
variable {R R':Cx} {Hs Rest:List HP} {w:World}
theorem ZaA.hcls {r:RF} (g:ZaA r):∀ x∈r.L,ZzS r.lims.length x:=λ x hx=>by
 have h1:=g.each x hx;have h2:=g.len.2 x hx;exact ⟨h1.cls,by have:=h1.many;omega⟩
theorem Zrz {n:Int} {g:List Int} {lab:ByteArray} {k:Int} (h:Zbe n g lab=(k,0)):0<=k/\k<ZaL n g:=by
 unfold Zbe at h;split at h
 ·rename_i hl
  obtain ⟨l1,l2,l3⟩:=Zab.1 hl;have:=(ZtM (n:=n) (w:=g.sum) (k:=k) (lab:=lab) (by omega) (Zi6 l2 l1.2.2.1) l3).1 h;rw [ZjC hl];exact ⟨this.1,this.2.1⟩
 ·cases h
structure StepL where
 d:Int
 owner:Int
 cls:Int
 many:Int
 label:ByteArray
end
section
open Go Go.VC Tryz
variable {R R':Cx} {Hs Rest:List HP} {w:World}
def Zf (p:Nat) (r:RF):HP:=exs λ f:PF=>Zgu [pur (Tie f r/\ZaA r),Zl p f]
theorem Sat.lone {p:Nat} {r:RF}:Sat R (Zf p r::Hs) w↔∃ f,(Tie f r/\ZaA r)/\Sat R (Zl p f::Hs) w:=by
 unfold Zf;rw [Sat.exs];constructor
 ·rintro ⟨f,h⟩
  obtain ⟨h1,h2⟩:=Sat.pur.1 (Sat.star.1 h);exact ⟨f,h1,h2⟩
 ·rintro ⟨f,h1,h2⟩
  exact ⟨f,Sat.star.2 (Sat.pur.2 ⟨h1,h2⟩)⟩
section
variable {p:Nat} {r:RF}
theorem Zlh {o c m:Int} (hw:Sat R (Zf p r::Hs) w):Zm prog 112 #[.pointer (some ⟨p,0,none⟩),.int .i64 o,.int .i64 c,.int .i64 m] w λ v w'=>v=.int .i64 (ZN r o c m).2/\Sat R (Zf p (ZN r o c m).1::Hs) w':=by
 obtain ⟨f,⟨t,g⟩,hw⟩:=Sat.lone.1 hw;have b:=t.bounds g;obtain ⟨e,t',g'⟩:=Zi4 t g o c m;refine (Zh7 (by omega) (by omega) hw).use ?_;rintro _ w ⟨rfl,hw⟩;exact ⟨_,rfl,by rw [e],Sat.lone.2 ⟨_,⟨t',g'⟩,hw⟩⟩
theorem Zli {o:Int} (hw:Sat R (Zf p r::Hs) w):Zm prog 115 #[.pointer (some ⟨p,0,none⟩),.int .i64 o] w λ v w'=>v=.int .i64 (ZbR r o).2/\Sat R (Zf p (ZbR r o).1::Hs) w':=by
 obtain ⟨f,⟨t,g⟩,hw⟩:=Sat.lone.1 hw;have b:=t.bounds g;obtain ⟨e,t',g'⟩:=Zm0 t g o;refine (ZoX (by omega) (by omega) (λ e he=>by have:=b.2.2.2.2.2.1 e he;omega) hw).use ?_;rintro _ w ⟨rfl,hw⟩;exact ⟨_,rfl,by rw [e],Sat.lone.2 ⟨_,⟨t',g'⟩,hw⟩⟩
theorem ZqX {o:Int} {lab:ByteArray} (hl:lab.size<=9223372036854775807) (hw:Sat R (Zf p r::Hs) w):Zm prog 117 #[.pointer (some ⟨p,0,none⟩),.int .i64 o,.string lab] w λ v w'=>v=.int .i64 (Zad r o lab).2/\Sat R (Zf p (Zad r o lab).1::Hs) w':=by
 obtain ⟨f,⟨t,g⟩,hw⟩:=Sat.lone.1 hw;have b:=t.bounds g;obtain ⟨e,t',g'⟩:=ZmY t g o lab λ k hk=>Zrz hk;refine (Zom (by omega) hl (λ e he=>by have:=b.2.2.2.2.2.1 e he;exact ⟨this.1,by omega⟩) hw).use ?_;rintro _ w ⟨rfl,hw⟩;exact ⟨_,rfl,by rw [e],Sat.lone.2 ⟨_,⟨t',g'⟩,hw⟩⟩
theorem ZqY {o:Int} (hw:Sat R (Zf p r::Hs) w):Zm prog 118 #[.pointer (some ⟨p,0,none⟩),.int .i64 o] w λ v w'=>∃ t:Sl,v=.tuple #[.slice t.a t.len t.cap,.int .i64 (Zap r o).2.2]/\Sat R (Own t 9 ((Zap r o).2.1.map Value.string)::Zf p (Zap r o).1::Hs) w':=by
 obtain ⟨f,⟨t,g⟩,hw⟩:=Sat.lone.1 hw;have b:=t.bounds g;obtain ⟨e,t',g',_⟩:=Zm2 t g o;refine (Zpj (by omega) t.nod (λ k hk=>by have:=t.ownIn g k hk;have:=Zcp r.rows r.grps;omega) (by omega) hw).use ?_;rintro _ w ⟨s,rfl,hw⟩;rw [e] at hw;exact ⟨_,rfl,s,by rw [e],hw.cons λ _ h=>Sat.lone.2 ⟨_,⟨t',g'⟩,h⟩⟩
theorem Ziy (hw:Sat R (Zf p r::Hs) w):Zm prog 105 #[.pointer (some ⟨p,0,none⟩)] w λ v w'=>∃ t:Sl,v=.slice t.a t.len t.cap/\Sat R (ZaV t r.L::Zf p r::Hs) w':=by
 obtain ⟨f,⟨t,g⟩,hw⟩:=Sat.lone.1 hw;have b:=t.bounds g;refine (Zhs (t.nodK g.rise) (λ k hk=>by have:=b.2.2.2.2.2.2 k hk;omega) (by omega) (λ e he=>by have:=b.2.2.2.2.2.1 e he;omega) hw).use ?_;rintro _ w ⟨s,rfl,hw⟩;rw [ZgM t g.rise] at hw;exact ⟨_,rfl,s,rfl,hw.cons λ _ h=>Sat.lone.2 ⟨_,⟨t,g⟩,h⟩⟩
theorem ZbW (hw:Sat R (Zf p r::Hs) w):Zm prog 58 #[.pointer (some ⟨p,0,none⟩)] w λ v w'=>∃ t:Sl,v=.slice t.a t.len t.cap/\Sat R (Own t 3 (Zd (Zn r))::Zf p r::Hs) w':=by
 obtain ⟨f,⟨t,g⟩,hw⟩:=Sat.lone.1 hw;have b:=t.bounds g;refine (ZoQ (by omega) (by omega) hw).use ?_;rintro _ w ⟨s,rfl,hw⟩;rw [ZsQ t] at hw;exact ⟨_,rfl,s,rfl,hw.cons λ _ h=>Sat.lone.2 ⟨_,⟨t,g⟩,h⟩⟩
theorem Zml {o:Int} (hw:Sat R (Zf p r::Hs) w):Zm prog 130 #[.pointer (some ⟨p,0,none⟩),.int .i64 o] w λ v w'=>∃ t:Sl,v=.slice t.a t.len t.cap/\Sat R (Own t 9 ((Zbt r o).map Value.string)::Zf p r::Hs) w':=by
 obtain ⟨f,⟨t,g⟩,hw⟩:=Sat.lone.1 hw;have b:=t.bounds g;refine (Zlm (by omega) (λ e he=>by have:=b.2.2.2.2.2.1 e he;omega) hw).use ?_;rintro _ w ⟨s,rfl,hw⟩;rw [Zn8 t g.rise] at hw;exact ⟨_,rfl,s,rfl,hw.cons λ _ h=>Sat.lone.2 ⟨_,⟨t,g⟩,h⟩⟩
theorem Zhj (hw:Sat R (Zf p r::Hs) w):Zm prog 104 #[.pointer (some ⟨p,0,none⟩)] w λ v w'=>v=.int .i64 r.num/\Sat R (Zf p r::Hs) w':=by
 obtain ⟨f,⟨t,g⟩,hw⟩:=Sat.lone.1 hw;refine (Zlv hw).use ?_;rintro _ w ⟨rfl,hw⟩;exact ⟨_,rfl,by rw [t.num],Sat.lone.2 ⟨_,⟨t,g⟩,hw⟩⟩
theorem Zmm (hw:Sat R (Zf p r::Hs) w):Zm prog 53 #[.pointer (some ⟨p,0,none⟩)] w λ v w'=>∃ t:Sl,v=.slice t.a t.len t.cap/\Sat R (Own t 5 (b8 (ZbC r))::Zf p r::Hs) w':=by
 obtain ⟨f,⟨t,g⟩,hw⟩:=Sat.lone.1 hw;have b:=t.bounds g;refine (Zlz (ZpD t g) (t.nodK g.rise) (λ k hk=>by have:=b.2.2.2.2.2.2 k hk;omega) (λ e he=>by have:=b.2.2.2.2.2.1 e he;omega) hw).use ?_;rintro _ w ⟨s,rfl,hw⟩;rw [ZuS t g] at hw;exact ⟨_,rfl,s,rfl,hw.cons λ _ h=>Sat.lone.2 ⟨_,⟨t,g⟩,h⟩⟩
end
theorem u8s:prog.underlying 42=some (.slice 5):=underlying42
end
end Go.Proofs.YtfgbbckfikiomaaGreatDoor


namespace Go.Proofs.YtfgbbckfikiomaaGreatDoor
section
open Go Go.VC Tryz
variable {R R':Cx} {Hs Rest:List HP} {w:World}
theorem ZsR {r:RF} (g:ZaA r):(Zz r.L).Nodup:=by
 have key:∀ L:List ZD,(L.Pairwise λ a b=>∀ x∈a.seats,x ∉ b.seats)->(∀ h∈L,Zpq h.seats)->(Zz L).Nodup:=λ L=>by
  induction L with
  |nil=>exact λ _ _=>List.nodup_nil
  |cons h L ih=>
   intro hp hr;obtain ⟨h1,h2⟩:=List.pairwise_cons.1 hp;show (h.seats++Zz L).Nodup;rw [List.nodup_append];refine ⟨?_,ih h2 λ x hx=>hr x (List.mem_cons_of_mem _ hx),λ a ha b hb e=>?_⟩
   ·rw [List.nodup_iff_pairwise_ne]
    exact (ZdR.1 (hr h List.mem_cons_self)).imp λ h=>by omega
   ·subst e
    obtain ⟨y,hy,hyb⟩:=Zcn.1 hb;exact h1 y hy a ha hyb
 exact key r.L g.apart λ h hh=>(g.each h hh).rise
theorem ZuY {r:RF} (g:ZaA r) {o:Int} {lab:ByteArray} (h:(Zad r o lab).2=0):∃ A hd C n,Zbe r.rows r.grps lab=(n,0)/\r.L=A++hd::C/\hd.owner=o/\Zb9 o A=none/\n ∉ Zz r.L/\Zad r o lab=({ r with L:=A++hd.put n::C },0):=by
 unfold Zad at h ⊢;cases hg:Zb9 o r.L with
 |none=>rw [hg] at h;cases h
 |some hd=>
  rw [hg] at h;obtain ⟨A,C,hL,hA,ho⟩:=ZbK hg;dsimp only at h ⊢;split at h
  ·cases h
  rename_i h1;split at h
  ·cases h
  rename_i h2;split at h
  ·cases h
  rename_i h3;rw [if_neg h1,if_neg h2,if_neg h3];refine ⟨A,hd,C,(Zbe r.rows r.grps lab).1,?_,hL,ho,hA,h3,?_⟩
  ·have:(Zbe r.rows r.grps lab).2=0:=Classical.byContradiction h1
   rw [<-this]
  ·rw [hL,ZeU ho hA]
theorem ZuZ {r:RF} {o:Int} {lab:ByteArray} (h:(Zad r o lab).2≠0):(Zad r o lab).1=r/\((Zad r o lab).2=2\/(Zad r o lab).2=7\/(Zad r o lab).2=3):=by
 unfold Zad at h ⊢;split at h
 ·exact ⟨rfl,.inl rfl⟩
 ·split at h
  ·rename_i h1;rw [if_pos h1];exact ⟨rfl,.inl rfl⟩
  rename_i h1;rw [if_neg h1];split at h
  ·rename_i h2;rw [if_pos h2];exact ⟨rfl,.inr (.inl rfl)⟩
  rename_i h2;rw [if_neg h2];split at h
  ·rename_i h3;rw [if_pos h3];exact ⟨rfl,.inr (.inr rfl)⟩
  ·exact absurd rfl h
theorem ZiF {h:ZD}:∀ {L:List ZD},Zb9 h.owner L=none->∃ A C,Zls h L=A++h::C/\L=A++C/\Zb9 h.owner A=none
 |[],_=>⟨[],[],rfl,rfl,rfl⟩
 |x::L,hn=>by
  rw [ZaD] at hn;split at hn
  ·cases hn
  rename_i hx;unfold Zls;split
  ·obtain ⟨A,C,h1,h2,h3⟩:=ZiF hn
   exact ⟨x::A,C,by rw [h1];rfl,by rw [h2];rfl,by rw [ZaD,if_neg hx];exact h3⟩
  ·exact ⟨[],x::L,rfl,rfl,rfl⟩
theorem ZpM {r:RF} {o c m:Int} (h:(ZN r o c m).2=0):∃ A C,ZN r o c m=({ r with L:=A++⟨o,c,m,[]⟩::C },0)/\r.L=A++C/\Zb9 o A=none:=by
 unfold ZN at h ⊢;split at h
 ·cases h
 rename_i h1;split at h
 ·cases h
 rename_i h2;rw [if_neg h1,if_neg h2];split at h
 ·rename_i h3
  rw [if_pos h3];have hno:Zb9 o r.L=none:=by cases e:Zb9 o r.L with|none=>rfl|some x=>rw [e] at h2;simp at h2
  obtain ⟨A,C,e1,e2,e3⟩:=ZiF (h:=⟨o,c,m,[]⟩) hno;exact ⟨A,C,by rw [e1],e2,e3⟩
 ·rename_i h3;exact absurd h h3
theorem ZpN {r:RF} {o c m:Int} (h:(ZN r o c m).2≠0):(ZN r o c m).1=r:=by
 unfold ZN at h ⊢;split at h
 ·rename_i h1;rw [if_pos h1]
 rename_i h1;rw [if_neg h1];split at h
 ·rename_i h2;rw [if_pos h2]
 rename_i h2;rw [if_neg h2];split at h
 ·exact absurd rfl h
 ·rename_i h3;rw [if_neg h3]
end
section
open Go Go.VC Tryz
open Classical
noncomputable section
structure Pl where
 r:RF
 q:List Wt
abbrev Pl.n (p:Pl):Int:=p.r.num
structure Bk where
 id:Int
 flt:Int
 cls:Int
 many:Int
 state:Int
 till:Int
structure ZM where
 now:Int
 next:Int
 fl:List Pl
 L:List Bk
def ZM.at (b:ZM) (n:Int):Option Pl:=Zty Pl.n n b.fl
def ZM.bk (b:ZM) (id:Int):Option Bk:=Zty Bk.id id b.L
def ZM.put (b:ZM) (n:Int) (f:Pl->Pl) (L:List Bk):ZM:={ b with fl:=Zej Pl.n n f b.fl,L:=L }
def Zbj:ZM:=⟨0,1,[],[]⟩
def emS:ByteArray:=ByteArray.empty
def ZbL (e:Int):Rp:=⟨e,emS,0,0,0,0,0,[],[]⟩
def ZAO (id:Int):ByteArray:=VC.strOf (Zvr id)
def Zdn (p:Pl) (x:Bk):Rp:=⟨0,ZAO x.id,x.state,x.flt,x.cls,x.many,x.till,Zn p.r,Zbt p.r x.id⟩
def Zdq (b:ZM) (x:Bk):Rp:=match b.at x.flt with
 |none=>ZbL 0
 |some p=>Zdn p x
def Zl1 (w:Wt) (p:Pl):Pl:=⟨(ZN p.r w.id w.cls w.many).1,ZhG w.id p.q⟩
def Zem (x:Bk):Bk:={ x with state:=2 }
def Zjx (b:ZM) (n:Int) (w:Wt):ZM:=b.put n (Zl1 w) (Zej Bk.id w.id Zem b.L)
def Zjn:Nat->Int->ZM->ZM
 |0,_,b=>b
 |k + 1,n,b=>match b.at n with
  |none=>b
  |some p=>match Zai p.q (Zn p.r) with
   |none=>b
   |some w=>Zjn k n (Zjx b n w)
def ZQ (n:Int) (b:ZM):ZM:=Zjn 201 n b
def Zck (b:ZM) (c:Cm):ZM × Rp:=
 if (b.at c.flt).isSome then (b,ZbL 7) else if 8<=b.fl.length then (b,ZbL 3)
 else if ¬ Zjs c.flt c.rows c.grps c.parts then (b,ZbL 1)
 else ({ b with fl:=Zps Pl.n ⟨Zjc c.flt c.rows c.grps (Z7 (ZaL c.rows c.grps) c.parts).1,[]⟩ b.fl },
  ⟨0,emS,0,c.flt,0,0,0,Zn (Zjc c.flt c.rows c.grps (Z7 (ZaL c.rows c.grps) c.parts).1),[]⟩)
def ZM.full (b:ZM):Prop:=300<=b.L.length\/28629151<=b.next
def takeP (id cls many:Int) (p:Pl):Pl:={ p with r:=(ZN p.r id cls many).1 }
def Zas (b:ZM) (c:Cm):Bk:=⟨b.next,c.flt,c.cls,c.many,1,c.time⟩
def ZcZ (b:ZM) (c:Cm):ZM × Rp:=
 match b.at c.flt with
 |none=>(b,ZbL 2)
 |some p=>
  if c.time<=b.now then (b,ZbL 1) else if b.full then (b,ZbL 3)
  else if (ZN p.r b.next c.cls c.many).2≠0 then (b,ZbL (ZN p.r b.next c.cls c.many).2)
  else ({ b.put c.flt (takeP b.next c.cls c.many) (b.L++[Zas b c]) with next:=b.next + 1 },Zdn (takeP b.next c.cls c.many p) (Zas b c))
def Zdp (b:ZM) (c:Cm):Wt:=⟨b.next,c.cls,c.many,b.now,c.sc⟩
def ZbH (b:ZM) (c:Cm):Bk:=⟨b.next,c.flt,c.cls,c.many,3,0⟩
def ZuO (w:Wt) (p:Pl):Pl:={ p with q:=ZiE w p.q }
def ZbU (b:ZM) (c:Cm):ZM:={ b.put c.flt (ZuO (Zdp b c)) (b.L++[ZbH b c]) with next:=b.next + 1 }
def Zb6 (b:ZM) (c:Cm):ZM × Rp:=
 match b.at c.flt with
 |none=>(b,ZbL 2)
 |some p=>
  if (p.r.lims.length:Int)<=c.cls then (b,ZbL 1) else if b.full then (b,ZbL 3)
  else if (ZcW p.q (Zdp b c)).2≠0 then (b,ZbL (ZcW p.q (Zdp b c)).2)
  else (ZQ c.flt (ZbU b c),match (ZQ c.flt (ZbU b c)).bk b.next with
   |none=>ZbL 0
   |some x=>Zdq (ZQ c.flt (ZbU b c)) x)
def old (now:Int) (x:Bk):Bool:=decide (x.state=1) && decide (x.till<=now)
def ZfP (id:Int) (p:Pl):Pl:={ p with r:=(ZbR p.r id).1 }
def Zfg (b:ZM) (x:Bk):ZM:=b.put x.flt (ZfP x.id) (Znx Bk.id x.id b.L)
def ZdJ:List Bk->ZM->ZM
 |[],b=>b
 |x::l,b=>ZdJ l (if old b.now x then Zfg b x else b)
def Zci (l:List Int) (b:ZM):ZM:=l.foldl (λ b n=>ZQ n b) b
def Zdk (b:ZM) (t:Int):ZM:=ZdJ b.L { b with now:=t }
def ZbG (b:ZM) (c:Cm):ZM × Rp:=
 if c.time<b.now then (b,ZbL 7)
 else (Zci (b.fl.map Pl.n) (Zdk b c.time),⟨0,emS,0,0,0,0,c.time,[],[]⟩)
def ZdA (b:ZM) (pnr:ByteArray):Option Bk × Int:=
 if (Zco (Z8 pnr)).2≠0 then (none,(Zco (Z8 pnr)).2) else match b.bk (Zco (Z8 pnr)).1 with
  |none=>(none,2)
  |some x=>(some x,0)
def Zdb (x:Bk):Bk:={ x with state:=2,till:=0 }
def Zu2 (id:Int) (p:Pl):Pl:={ p with q:=ZhG id p.q }
def Zkj (b:ZM) (x:Bk):ZM:=if x.state=3 then b.put x.flt (Zu2 x.id) (Znx Bk.id x.id b.L) else Zfg b x
def ZcT (r:RF) (p:Pl):Pl:={ p with r:=r }
def Zhb (b:ZM) (x:Bk) (c:Cm):ZM × Rp:=
 match b.at x.flt with
 |none=>(b,ZbL 0)
 |some p=>
  if c.kind=3 then (if x.state≠1 then (b,ZbL 7) else ({ b with L:=Zej Bk.id x.id Zdb b.L },Zdn p (Zdb x)))
  else if c.kind=4 then (ZQ x.flt (Zkj b x),⟨0,c.pnr,0,0,0,0,0,[],[]⟩)
  else if x.state=3 then (b,ZbL 7)
  else if c.kind=5 then
   (if (Zad p.r x.id c.lab).2≠0 then (b,ZbL (Zad p.r x.id c.lab).2)
    else (b.put x.flt (ZcT (Zad p.r x.id c.lab).1) b.L,Zdn (ZcT (Zad p.r x.id c.lab).1 p) x))
  else (if (Zap p.r x.id).2.2≠0 then (b,ZbL (Zap p.r x.id).2.2)
    else (b.put x.flt (ZcT (Zap p.r x.id).1) b.L,Zdn (ZcT (Zap p.r x.id).1 p) x))
def Zeg (b:ZM) (c:Cm):Rp:=
 if ¬ ZaO c\/c.kind≠9 then ZbL 1
 else if c.pnr≠emS then (match ZdA b c.pnr with
  |(none,e)=>ZbL e
  |(some x,_)=>Zdq b x)
 else match b.at c.flt with
  |none=>ZbL 2
  |some p=>⟨0,emS,0,c.flt,0,(p.q.length:Int),0,Zn p.r,[]⟩
def Zak (b:ZM) (c:Cm):ZM × Rp:=
 if ¬ ZaO c then (b,ZbL 1)
 else if c.kind=1 then Zck b c
 else if c.kind=2 then ZcZ b c
 else if c.kind=7 then Zb6 b c
 else if c.kind=8 then ZbG b c
 else if c.kind=9 then (b,Zeg b c)
 else match ZdA b c.pnr with
  |(none,e)=>(b,ZbL e)
  |(some x,_)=>Zhb b x c
def plB (p:Pl):List Int:=ZcQ (ZbC p.r)++ZcQ (qB p.q)
def bkB (x:Bk):List Int:=Zv [x.id]++(Zv [x.flt]++(Zv [x.cls]++(Zv [x.many]++(Zv [x.state]++Zv [x.till]))))
def Zba (b:ZM):List Int:=
 Zv [b.now]++(Zv [b.next]++(Zv [(b.fl.length:Int)]++((b.fl.map plB).flatten++(Zv [(b.L.length:Int)]++(b.L.map bkB).flatten))))
def Zgn (p:Pl) (x:Bk):Prop:=
 if x.state=3 then (∃ w∈p.q,w.id=x.id/\w.cls=x.cls/\w.many=x.many)/\x.cls<p.r.lims.length
 else ∃ h∈p.r.L,h.owner=x.id/\h.cls=x.cls/\h.many=x.many
structure Zud (next:Int) (x:Bk):Prop where
 id:1<=x.id/\x.id<next
 flt:0<=x.flt/\x.flt<=9999
 cls:0<=x.cls/\x.cls<=9999
 many:0<=x.many/\x.many<=9999
 state:1<=x.state/\x.state<=3
 till:0<=x.till/\x.till<=1099511627776
 free:x.state≠1->x.till=0
structure ZA0 (L:List Bk) (p:Pl):Prop where
 has:∀ x∈L,x.flt=p.n->Zgn p x
 backQ:∀ w∈p.q,∃ x∈L,x.id=w.id/\x.flt=p.n/\x.state=3
 backH:∀ h∈p.r.L,∃ x∈L,x.id=h.owner/\x.flt=p.n/\x.state≠3
structure Core (b:ZM):Prop where
 now:0<=b.now/\b.now<=1099511627776
 next:1<=b.next/\b.next<=28629151
 good:∀ p∈b.fl,ZaA p.r
 qok:∀ p∈b.fl,QOk p.q
 nums:Zam Pl.n b.fl
 few:b.fl.length<=8
 ids:Zam Bk.id b.L
 each:∀ x∈b.L,Zud b.next x
 many:b.L.length<=300
 there:∀ x∈b.L,∃ p∈b.fl,p.n=x.flt
 loc:∀ p∈b.fl,ZA0 b.L p
def Zcy (b:ZM):Prop:=∀ x∈b.L,x.state=1->b.now<x.till
def Zf4 (p:Pl):Prop:=Zai p.q (Zn p.r)=none
structure Zaz (b:ZM):Prop where
 core:Core b
 time:Zcy b
 nofit:∀ p∈b.fl,Zf4 p
theorem ZtV:Core Zbj:=
 ⟨⟨by decide,by decide⟩,⟨by decide,by decide⟩,λ _ h=>(by cases h),λ _ h=>(by cases h),List.Pairwise.nil,by decide,List.Pairwise.nil,λ _ h=>(by cases h),by decide,λ _ h=>(by cases h),λ _ h=>(by cases h)⟩
theorem Zyx:Zaz Zbj:=⟨ZtV,λ _ h=>(by cases h),λ _ h=>(by cases h)⟩
theorem Core.swap {b:ZM} (c:Core b) {n:Int} {f:Pl->Pl} {L:List Bk} {next:Int} (hn:b.next<=next/\next<=28629151)
  (hf:∀ p∈b.fl,p.n=n->(f p).n=n/\ZaA (f p).r/\QOk (f p).q/\ZA0 L (f p))
  (ids:Zam Bk.id L) (each:∀ x∈L,Zud next x) (many:L.length<=300)
  (out:∀ x,x.flt≠n->(x∈L↔x∈b.L)) (here:∀ x∈L,x.flt=n->∃ p∈b.fl,p.n=n):Core { b.put n f L with next:=next }:=by
 have hmem:∀ {p},p∈Zej Pl.n n f b.fl->∃ q∈b.fl,q.n=p.n/\((q.n=n/\p=f q)\/(q.n≠n/\p=q)):=λ {p} hp=>by
  obtain ⟨q,hq,e⟩:=Zac.1 hp;by_cases h:q.n=n
  ·rw [if_pos h] at e
   exact ⟨q,hq,by rw [e,(hf q hq h).1,h],.inl ⟨h,e⟩⟩
  ·rw [if_neg h] at e
   exact ⟨q,hq,by rw [e],.inr ⟨h,e⟩⟩
 have hput:∀ {q},q∈b.fl->∃ p∈Zej Pl.n n f b.fl,p.n=q.n:=λ {q} hq=>by
  by_cases h:q.n=n
  ·exact ⟨f q,Zac.2 ⟨q,hq,by rw [if_pos h]⟩,by rw [(hf q hq h).1,h]⟩
  ·exact ⟨q,Zac.2 ⟨q,hq,by rw [if_neg h]⟩,rfl⟩
 refine ⟨c.now,⟨Int.le_trans c.next.1 hn.1,hn.2⟩,λ p hp=>?_,λ p hp=>?_,Ze6 c.nums λ p hp e=>(hf p hp e).1,by show (Zej Pl.n n f b.fl).length<=8;rw [ZjE];exact c.few,ids,each,many,λ x hx=>?_,λ p hp=>?_⟩
 ·obtain ⟨q,hq,_,⟨h,rfl⟩|⟨h,rfl⟩⟩:=hmem hp
  ·exact (hf q hq h).2.1
  ·exact c.good p hq
 ·obtain ⟨q,hq,_,⟨h,rfl⟩|⟨h,rfl⟩⟩:=hmem hp
  ·exact (hf q hq h).2.2.1
  ·exact c.qok p hq
 ·by_cases h:x.flt=n
  ·obtain ⟨p,hp,e⟩:=here x hx h
   obtain ⟨p',hp',e'⟩:=hput hp;exact ⟨p',hp',by rw [e',e,h]⟩
  ·obtain ⟨p,hp,e⟩:=c.there x ((out x h).1 hx)
   obtain ⟨p',hp',e'⟩:=hput hp;exact ⟨p',hp',by rw [e',e]⟩
 ·obtain ⟨q,hq,_,⟨h,rfl⟩|⟨h,rfl⟩⟩:=hmem hp
  ·exact (hf q hq h).2.2.2
  ·have hl:=c.loc p hq
   refine ⟨λ x hx e=>hl.has x ((out x (by rw [e];exact h)).1 hx) e,λ w hw=>?_,λ o ho=>?_⟩
   ·obtain ⟨x,hx,a1,a2,a3⟩:=hl.backQ w hw
    exact ⟨x,(out x (by rw [a2];exact h)).2 hx,a1,a2,a3⟩
   ·obtain ⟨x,hx,a1,a2,a3⟩:=hl.backH o ho
    exact ⟨x,(out x (by rw [a2];exact h)).2 hx,a1,a2,a3⟩
theorem Zud.le {n m:Int} {x:Bk} (h:Zud n x) (hl:n<=m):Zud m x:=⟨⟨h.id.1,Int.lt_of_lt_of_le h.id.2 hl⟩,h.flt,h.cls,h.many,h.state,h.till,h.free⟩
theorem ZaR {b:ZM} {n:Int} {p:Pl} (h:b.at n=some p):p∈b.fl/\p.n=n:=ZdE h
theorem ZhN {b:ZM} (c:Core b) {n:Int} {p:Pl}:b.at n=some p↔p∈b.fl/\p.n=n:=ZjF c.nums
theorem ZuF {b:ZM} (c:Core b) {n:Int} {x:Bk}:b.bk n=some x↔x∈b.L/\x.id=n:=ZjF c.ids
theorem Core.at_of {b:ZM} (c:Core b) {x:Bk} (hx:x∈b.L):∃ p,b.at x.flt=some p:=by
 obtain ⟨p,hp,e⟩:=c.there x hx;exact ⟨p,(ZhN c).2 ⟨hp,e⟩⟩
theorem Zzz {b:ZM} {n:Int} {f:Pl->Pl} {L:List Bk} {p:Pl} (hf:(f p).n=n) (c:Core b) (h:b.at n=some p) (c':Zam Pl.n (Zej Pl.n n f b.fl)):(b.put n f L).at n=some (f p):=by
 have h1:=ZaR h;exact (ZjF c').2 ⟨Zac.2 ⟨p,h1.1,by rw [if_pos h1.2]⟩,hf⟩
end
end
section
open Go Go.VC Tryz
variable {r:RF} {o c m:Int}
theorem Zhv (g:ZaA r) (o c m:Int):ZaA (ZN r o c m).1:=by
 obtain ⟨f,_,t⟩:=Zj3 g;exact (Zi4 t g o c m).2.2
theorem Zrq (g:ZaA r) (o:Int):ZaA (ZbR r o).1:=by
 obtain ⟨f,_,t⟩:=Zj3 g;exact (Zm0 t g o).2.2
theorem Zrp (g:ZaA r) (o:Int) (lab:ByteArray):ZaA (Zad r o lab).1:=by
 obtain ⟨f,_,t⟩:=Zj3 g;exact (ZmY t g o lab λ k h=>Zrz h).2.2
theorem Zrr (g:ZaA r) (o:Int):ZaA (Zap r o).1:=by
 obtain ⟨f,_,t⟩:=Zj3 g;exact (Zm2 t g o).2.2.1
theorem ZcC:(ZN r o c m).1.num=r.num/\(ZN r o c m).1.lims=r.lims:=by
 by_cases h:(ZN r o c m).2=0
 ·obtain ⟨A,C,e,_,_⟩:=ZpM h
  rw [e];exact ⟨rfl,rfl⟩
 ·rw [ZpN h]
  exact ⟨rfl,rfl⟩
theorem ZdP (h:(ZN r o c m).2=0) {x:ZD}:x∈(ZN r o c m).1.L↔x=⟨o,c,m,[]⟩\/x∈r.L:=by
 obtain ⟨A,C,e,hL,_⟩:=ZpM h;rw [e,hL];dsimp only;rw [List.mem_append,List.mem_cons,List.mem_append];constructor
 ·rintro (h|h|h)<;>simp [h]
 ·rintro (h|h|h)<;>simp [h]
theorem Zod (h:(ZN r o c m).2=0):(1<=o/\o<=28629151)/\Zb9 o r.L=none/\(Za5 r.lims r.sold c m).2=0/\ZN r o c m=({ r with L:=Zls ⟨o,c,m,[]⟩ r.L },0):=by
 unfold ZN at h ⊢;split at h
 ·cases h
 rename_i h1;split at h
 ·cases h
 rename_i h2;rw [if_neg h1,if_neg h2];split at h
 ·rename_i h3
  rw [if_pos h3];exact ⟨by omega,by cases e:Zb9 o r.L with|none=>rfl|some x=>rw [e] at h2;simp at h2,h3,rfl⟩
 ·rename_i h3;exact absurd h h3
theorem ZpL (h:(ZN r o c m).2=0):(ZN r o c m).1.sold=r.sold.set c.toNat (r.sold.getD c.toNat 0 + m)/\0<=c/\c<r.lims.length/\1<=m:=by
 obtain ⟨_,_,h3,e⟩:=Zod h;obtain ⟨_,_,c0,c1,m0⟩:=Ze2 h3;refine ⟨?_,c0,c1,m0⟩;rw [e];exact (Zds (n:=r.lims.length) (ZbA ⟨o,c,m,[]⟩ r.L) c0 c1).symm
theorem Znr {x y:Nat->Int}:∀ {k:Nat},(∀ i,i<k->x i<=y i)->mnF x k<=mnF y k
 |0,_=>Int.le_refl _
 |k + 1,h=>by
  have h1:=Znr (k:=k) λ i hi=>h i (by omega);have h2:=h k (by omega);unfold mnF;split<;>split<;>omega
theorem ZdC (r:RF):(Zn r).length=r.lims.length:=by simp [Zn]
theorem Zhm {k:Nat} (h:k<r.lims.length):(Zn r).getD k 0=(ZaW r.lims r.sold k).1:=by
 unfold Zn;rw [List.getD_eq_getElem?_getD];simp [h]
theorem ZgC (g:ZaA r) {k:Nat} (h:k<r.lims.length):(ZaW r.lims r.sold k).1=mnF (ZcK r.lims r.sold) (k + 1)/\(ZaW r.lims r.sold k).2=0:=by
 unfold ZaW;rw [if_pos ⟨g.nest,by omega,by omega⟩];exact ⟨by rw [Int.toNat_natCast],rfl⟩
theorem take_left (g:ZaA r) (h:(ZN r o c m).2=0) {k:Nat} (hk:k<r.lims.length):(Zn (ZN r o c m).1).getD k 0<=(Zn r).getD k 0:=by
 obtain ⟨hs,c0,c1,m0⟩:=ZpL h;have hl:=(ZcC (r:=r) (o:=o) (c:=c) (m:=m)).2;have g':=Zhv g o c m;rw [Zhm hk,Zhm (by rw [hl];exact hk),(ZgC g hk).1,(ZgC g' (by rw [hl];exact hk)).1,hl,hs];refine Znr λ i hi=>?_;unfold ZcK;have hlen:r.sold.length=r.lims.length:=ZaM _ _;have:=ZdG (sold:=r.sold) (c:=c.toNat) (m:=m) (by omega) (r.lims.length - i) i (by omega);rw [this];split<;>omega
theorem ZpO (g:ZaA r) {w:Wt} (hw:w.Ok) (hf:Zcb (Zn r) w=true) (hn:Zb9 w.id r.L=none):(ZN r w.id w.cls w.many).2=0:=by
 obtain ⟨⟨a1,a2⟩,⟨b1,b2⟩,⟨c1,c2⟩,_⟩:=hw;unfold Zcb at hf;simp only [Bool.and_eq_true,decide_eq_true_eq] at hf;rw [ZdC] at hf;rw [Zhm (by omega)] at hf;have hv:=ZgC g (k:=w.cls.toNat) (by omega);have e:((w.cls.toNat:Nat):Int)=w.cls:=by omega
 rw [e] at hf hv;have hs:(Za5 r.lims r.sold w.cls w.many).2=0:=by
  unfold Za5;rw [if_neg (by rw [hv.2];omega),if_neg (by omega)]
 unfold ZN;rw [if_neg (by omega),hn,if_neg (by simp),if_pos hs]
theorem Zrx (g:ZaA r) (h:(ZN r o c m).2=0) {w:Wt} (hw:0<=w.cls) (hf:Zcb (Zn (ZN r o c m).1) w=true):Zcb (Zn r) w=true:=by
 unfold Zcb at *;simp only [Bool.and_eq_true,decide_eq_true_eq] at *;rw [ZdC] at *;rw [(ZcC (r:=r) (o:=o) (c:=c) (m:=m)).2] at hf;have:=take_left g h (k:=w.cls.toNat) (by omega);omega
theorem Zd5:(ZbR r o).1.num=r.num/\(ZbR r o).1.lims=r.lims:=by
 unfold ZbR;split<;>exact ⟨rfl,rfl⟩
theorem ZtF (g:ZaA r) {x:ZD}:x∈(ZbR r o).1.L↔x∈r.L/\x.owner≠o:=by
 unfold ZbR;cases hg:Zb9 o r.L with
 |none=>
  dsimp only;exact ⟨λ h=>⟨h,ZbZ.1 hg x h⟩,λ h=>h.1⟩
 |some hd=>
  obtain ⟨A,C,hL,hA,ho⟩:=ZbK hg;have hr:=g.rise;dsimp only;rw [hL] at hr ⊢;rw [Zj0 ho hA];have hp:=List.pairwise_append.1 hr;have hc:=List.pairwise_cons.1 hp.2.1;rw [List.mem_append,List.mem_append,List.mem_cons];constructor
  ·rintro (h|h)
   ·exact ⟨.inl h,ZbZ.1 hA x h⟩
   ·exact ⟨.inr (.inr h),by have:=hc.1 x h;omega⟩
  ·rintro ⟨h|rfl|h,hn⟩
   ·exact .inl h
   ·exact absurd ho hn
   ·exact .inr h
structure ZcJ (r r':RF):Prop where
 num:r'.num=r.num
 lims:r'.lims=r.lims
 rows:r'.rows=r.rows
 grps:r'.grps=r.grps
 each:∃ A hd hd' C,r.L=A++hd::C/\r'.L=A++hd'::C/\hd'.owner=hd.owner/\hd'.cls=hd.cls/\hd'.many=hd.many
theorem ZcJ.sold {r':RF} (h:ZcJ r r'):r'.sold=r.sold:=by
 obtain ⟨A,hd,hd',C,e1,e2,_,e4,e5⟩:=h.each;unfold RF.sold Z4;rw [h.lims];apply List.map_congr_left;intro k _;rw [e1,e2,Zeb,Zeb,Zc3,Zc3,e4,e5]
theorem ZcJ.lefts {r':RF} (h:ZcJ r r'):Zn r'=Zn r:=by
 unfold Zn;rw [h.lims,h.sold]
theorem ZcJ.mem {r':RF} (h:ZcJ r r') {x:ZD} (hx:x∈r.L):∃ y∈r'.L,y.owner=x.owner/\y.cls=x.cls/\y.many=x.many:=by
 obtain ⟨A,hd,hd',C,e1,e2,e3,e4,e5⟩:=h.each;rw [e1,List.mem_append,List.mem_cons] at hx;rw [e2];rcases hx with hx|rfl|hx
 ·exact ⟨x,by simp [hx],rfl,rfl,rfl⟩
 ·exact ⟨hd',by simp,e3,e4,e5⟩
 ·exact ⟨x,by simp [hx],rfl,rfl,rfl⟩
theorem ZcJ.symm {r':RF} (h:ZcJ r r'):ZcJ r' r:=by
 obtain ⟨A,hd,hd',C,e1,e2,e3,e4,e5⟩:=h.each;exact ⟨h.num.symm,h.lims.symm,h.rows.symm,h.grps.symm,A,hd',hd,C,e2,e1,e3.symm,e4.symm,e5.symm⟩
theorem Zp0 (g:ZaA r) {lab:ByteArray} (h:(Zad r o lab).2=0):ZcJ r (Zad r o lab).1:=by
 obtain ⟨A,hd,C,n,_,hL,_,_,_,e⟩:=ZuY g h;rw [e];exact ⟨rfl,rfl,rfl,rfl,A,hd,hd.put n,C,hL,rfl,rfl,rfl,rfl⟩
theorem Zsq (h:(Zap r o).2.2=0):ZcJ r (Zap r o).1:=by
 unfold Zap at *;cases hg:Zb9 o r.L with
 |none=>rw [hg] at h;cases h
 |some hd=>
  obtain ⟨A,C,hL,hA,ho⟩:=ZbK hg;rw [hg] at h;dsimp only at h ⊢;split at h
  ·cases h
  ·rename_i h1
   rw [if_neg h1];split at h
   ·rename_i h2
    rw [if_pos h2];refine ⟨rfl,rfl,rfl,rfl,A,hd,{ hd with seats:=(Zal r.rows r.grps (Zz r.L) hd.many).1 },C,hL,?_,rfl,rfl,rfl⟩;show ZpY o _ r.L=_;rw [hL];exact ZeU ho hA
   ·rename_i h2;exact absurd h h2
theorem ZsU {lab:ByteArray} (h:(Zad r o lab).2≠0):(Zad r o lab).1=r:=(ZuZ h).1
theorem Zx8 (h:(Zap r o).2.2≠0):(Zap r o).1=r:=by
 unfold Zap at *;cases hg:Zb9 o r.L with
 |none=>rfl
 |some hd=>
  rw [hg] at h;dsimp only at h ⊢;split
  ·rfl
  ·rename_i h1
   rw [if_neg h1] at h;split
   ·rename_i h2;rw [if_pos h2] at h;exact absurd rfl h
   ·rfl
end
section
open Go Go.VC Tryz
variable {b:ZM} {n:Int} {p:Pl} {w:Wt} {x:Bk}
theorem Core.uniq (c:Core b) {x y:Bk} (hx:x∈b.L) (hy:y∈b.L) (e:x.id=y.id):x=y:=c.ids.uniq hx hy e
theorem Core.uniqP (c:Core b) {p q:Pl} (hp:p∈b.fl) (hq:q∈b.fl) (e:p.n=q.n):p=q:=c.nums.uniq hp hq e
theorem Core.waits (c:Core b) (hp:p∈b.fl) (hw:w∈p.q):∃ x∈b.L,x.id=w.id/\x.flt=p.n/\x.state=3/\x.cls=w.cls/\x.many=w.many:=by
 obtain ⟨x,hx,e1,e2,e3⟩:=(c.loc p hp).backQ w hw;have h:=(c.loc p hp).has x hx e2;unfold Zgn at h;rw [if_pos e3] at h;obtain ⟨⟨w',hw',a1,a2,a3⟩,_⟩:=h;have:w'=w:=by
  have hq:=(c.qok p hp).ids;have key:∀ {q:List Wt},Zya q->∀ {a b:Wt},a∈q->b∈q->a.id=b.id->a=b:=by
   intro q
   induction q with
   |nil=>intro _ a b ha;cases ha
   |cons y q ih=>
    intro h a b ha hb e;have hp:=List.pairwise_cons.1 h;rcases List.mem_cons.1 ha with e1|h1
    ·rcases List.mem_cons.1 hb with e2|h2
     ·rw [e1,e2]
     ·rw [e1] at e;exact absurd e (hp.1 b h2)
    ·rcases List.mem_cons.1 hb with e2|h2
     ·rw [e2] at e;exact absurd e.symm (hp.1 a h1)
     ·exact ih hp.2 h1 h2 e
  exact key hq hw' hw (by omega)
 rw [this] at a2 a3;exact ⟨x,hx,e1,e2,e3,a2.symm,a3.symm⟩
theorem Core.noHold (c:Core b) (hp:p∈b.fl) (hw:w∈p.q):Zb9 w.id p.r.L=none:=by
 rw [ZbZ];intro h hh e;obtain ⟨x,hx,e1,e2,e3,_⟩:=c.waits hp hw;obtain ⟨y,hy,a1,a2,a3⟩:=(c.loc p hp).backH h hh;have:=c.uniq hx hy (by omega);rw [this] at e3;exact a3 e3
theorem Zda:(Zl1 w p).n=p.n:=ZcC.1
theorem ZjV (c:Core b) (hp:p∈b.fl) (hw:Zai p.q (Zn p.r)=some w):w∈p.q/\Zcb (Zn p.r) w=true/\(ZN p.r w.id w.cls w.many).2=0:=by
 obtain ⟨h1,h2⟩:=Zox hw;exact ⟨h1,h2,ZpO (c.good p hp) ((c.qok p hp).ok w h1) h2 (c.noHold hp h1)⟩
theorem ZlD (c:Core b) (hp:p∈b.fl) (hn:p.n=n) (hf:Zai p.q (Zn p.r)=some w):Core (Zjx b n w):=by
 obtain ⟨hw,hfit,htake⟩:=ZjV c hp hf;obtain ⟨x,hx,e1,e2,e3,e4,e5⟩:=c.waits hp hw;have hq:=c.qok p hp;refine c.swap (next:=b.next) ⟨Int.le_refl _,c.next.2⟩ (λ p' hp' hn'=>?_) (Ze6 c.ids λ y _ e=>e) (λ y hy=>?_) (by show (Zej Bk.id w.id Zem b.L).length<=300;rw [ZjE];exact c.many) (λ y hy=>?_) λ y _ _=>⟨p,hp,hn⟩
 ·obtain rfl:p'=p:=c.uniqP hp' hp (by omega)
  refine ⟨by rw [Zda];exact hn,Zhv (c.good _ hp) _ _ _,hq.del _,?_⟩;have hl:=c.loc _ hp;refine ⟨λ y hy e=>?_,λ v hv=>?_,λ h hh=>?_⟩
  ·obtain ⟨z,hz,rfl⟩:=Zac.1 hy
   by_cases hid:z.id=w.id
   ·rw [if_pos hid]
    obtain rfl:z=x:=c.uniq hz hx (by omega);unfold Zgn;rw [if_neg (by show (2:Int)≠3;omega)];exact ⟨⟨w.id,w.cls,w.many,[]⟩,(ZdP htake).2 (.inl rfl),hid.symm,e4.symm,e5.symm⟩
   ·rw [if_neg hid] at e ⊢
    have hz2:=hl.has z hz (by rw [e,Zda]);unfold Zgn at *;by_cases h3:z.state=3
    ·rw [if_pos h3] at hz2 ⊢
     obtain ⟨⟨v,hv,a1,a2,a3⟩,a4⟩:=hz2;refine ⟨⟨v,(ZjZ hq.ids).2 ⟨hv,by omega⟩,a1,a2,a3⟩,?_⟩;show z.cls<((ZN _ _ _ _).1.lims.length:Int);rw [ZcC.2];exact a4
    ·rw [if_neg h3] at hz2 ⊢
     obtain ⟨h,hh,a1,a2,a3⟩:=hz2;exact ⟨h,(ZdP htake).2 (.inr hh),a1,a2,a3⟩
  ·obtain ⟨hv1,hv2⟩:=(ZjZ hq.ids).1 hv
   obtain ⟨y,hy,a1,a2,a3⟩:=hl.backQ v hv1;exact ⟨y,Zac.2 ⟨y,hy,by rw [if_neg (by omega)]⟩,a1,by rw [a2,Zda],a3⟩
  ·rcases (ZdP htake).1 hh with rfl|hh
   ·exact ⟨Zem x,Zac.2 ⟨x,hx,by rw [if_pos e1]⟩,e1,by show x.flt=_;rw [e2,Zda],by show (2:Int)≠3;omega⟩
   ·obtain ⟨y,hy,a1,a2,a3⟩:=hl.backH h hh
    refine ⟨y,Zac.2 ⟨y,hy,?_⟩,a1,by rw [a2,Zda],a3⟩;rw [if_neg λ e=>?_];obtain rfl:y=x:=c.uniq hy hx (by omega);exact a3 e3
 ·obtain ⟨z,hz,rfl⟩:=Zac.1 hy
  have hb:=c.each z hz;by_cases hid:z.id=w.id
  ·rw [if_pos hid]
   obtain rfl:z=x:=c.uniq hz hx (by omega);exact ⟨hb.id,hb.flt,hb.cls,hb.many,⟨by show (1:Int)<=2;omega,by show (2:Int)<=3;omega⟩,hb.till,λ _=>hb.free (by omega)⟩
  ·rw [if_neg hid];exact hb
 ·constructor
  ·intro h
   obtain ⟨z,hz,rfl⟩:=Zac.1 h;by_cases hid:z.id=w.id
   ·rw [if_pos hid] at hy
    obtain rfl:z=x:=c.uniq hz hx (by omega);exact absurd (e2.trans hn) hy
   ·rw [if_neg hid];exact hz
  ·intro h
   refine Zac.2 ⟨y,h,?_⟩;rw [if_neg λ e=>?_];obtain rfl:y=x:=c.uniq h hx (by omega);exact hy (e2.trans hn)
theorem ZqV (c:Core b) (hp:b.at n=some p):(Zjx b n w).at n=some (Zl1 w p):=
 Zzz (by rw [Zda];exact (ZaR hp).2) c hp (Ze6 c.nums λ q _ e=>by rw [Zda];exact e)
theorem Zvp {q:Pl} (h:q∈(Zjx b n w).fl):q.n=n\/q∈b.fl:=by
 obtain ⟨z,hz,rfl⟩:=Zac.1 h;by_cases e:z.n=n
 ·rw [if_pos e];exact .inl (by rw [Zda];exact e)
 ·rw [if_neg e];exact .inr hz
theorem Zmk (t:Zcy b):Zcy (Zjx b n w):=by
 intro x hx hs;obtain ⟨z,hz,rfl⟩:=Zac.1 hx;by_cases e:z.id=w.id
 ·rw [if_pos e] at hs;exact absurd hs (by show (2:Int)≠1;omega)
 ·rw [if_neg e] at hs ⊢;exact t z hz hs
theorem ZnN {id:Int} {q:List Wt} (h:Zel id q=true):(ZhG id q).length + 1=q.length:=by
 obtain ⟨A,w,C,e,_,_,e2⟩:=ZiR h;rw [e2,e];simp;omega
structure Zcz (n:Int) (b b':ZM):Prop where
 now:b'.now=b.now
 next:b'.next=b.next
 keys:b'.fl.map Pl.n=b.fl.map Pl.n
 others:∀ q∈b'.fl,q.n=n\/q∈b.fl
 ids:b'.L.map Bk.id=b.L.map Bk.id
 bk:∀ y∈b'.L,∃ x∈b.L,y.id=x.id/\y.flt=x.flt/\y.cls=x.cls/\y.many=x.many/\y.till=x.till
theorem Zcz.refl (n:Int) (b:ZM):Zcz n b b:=⟨rfl,rfl,rfl,λ _ h=>.inr h,rfl,λ y hy=>⟨y,hy,rfl,rfl,rfl,rfl,rfl⟩⟩
theorem Zcz.trans {b1 b2 b3:ZM} (h1:Zcz n b1 b2) (h2:Zcz n b2 b3):Zcz n b1 b3:=
 ⟨h2.now.trans h1.now,h2.next.trans h1.next,h2.keys.trans h1.keys,λ q hq=>by
  rcases h2.others q hq with h|h
  ·exact .inl h
  ·exact h1.others q h,h2.ids.trans h1.ids,λ y hy=>by
  obtain ⟨x,hx,a1,a2,a3,a4,a5⟩:=h2.bk y hy;obtain ⟨z,hz,c1,c2,c3,c4,c5⟩:=h1.bk x hx;exact ⟨z,hz,by omega,by omega,by omega,by omega,by omega⟩⟩
theorem Ze7 {α:Type} {k:α->Int} {n:Int} {f:α->α} (hf:∀ x,k x=n->k (f x)=n):∀ l:List α,(Zej k n f l).map k=l.map k
 |[]=>rfl
 |a::l=>by
  show k (if k a=n then f a else a)::(Zej k n f l).map k=_
  rw [Ze7 hf l,List.map_cons];split
  ·rename_i e;rw [hf a e,e]
  ·rfl
theorem Zra:Zcz n b (Zjx b n w):=by
 refine ⟨rfl,rfl,Ze7 (λ q e=>by rw [Zda];exact e) _,λ q hq=>Zvp hq,Ze7 (k:=Bk.id) (f:=Zem) (λ y e=>e) b.L,λ y hy=>?_⟩;obtain ⟨z,hz,rfl⟩:=Zac.1 hy;refine ⟨z,hz,?_⟩;split<;>exact ⟨rfl,rfl,rfl,rfl,rfl⟩
theorem Zqx:∀ (k:Nat) {b:ZM},Core b->Core (Zjn k n b)/\Zcz n b (Zjn k n b)/\(Zcy b->Zcy (Zjn k n b))/\((∀ p,b.at n=some p->p.q.length<k)->∀ p∈(Zjn k n b).fl,p.n=n->Zf4 p)
 |0,b,c=>⟨c,Zcz.refl n b,λ t=>t,λ h p hp e=>absurd (h p ((ZhN c).2 ⟨hp,e⟩)) (by omega)⟩
 |k + 1,b,c=>by
  unfold Zjn;cases ha:b.at n with
  |none=>
   refine ⟨c,Zcz.refl n b,λ t=>t,λ _ p hp e=>?_⟩;rw [(ZhN c).2 ⟨hp,e⟩] at ha;cases ha
  |some p=>
   dsimp only;have hp:=ZaR ha;cases hq:Zai p.q (Zn p.r) with
   |none=>
    refine ⟨c,Zcz.refl n b,λ t=>t,λ _ p' hp' e=>?_⟩;obtain rfl:p'=p:=c.uniqP hp' hp.1 (by rw [e,hp.2]);exact hq
   |some w=>
    dsimp only;have c':=ZlD c hp.1 hp.2 hq;obtain ⟨i1,i2,i3,i4⟩:=Zqx k c';refine ⟨i1,Zra.trans i2,λ t=>i3 (Zmk t),λ h=>i4 λ p' hp'=>?_⟩;rw [ZqV c ha] at hp';cases hp';have h1:=h p rfl;have hm:=(ZjV c hp.1 hq).1;have h2:=ZnN (Zfc.2 ⟨w,hm,rfl⟩);show (ZhG w.id p.q).length<k;omega
theorem ZcX (c:Core b):Core (ZQ n b)/\Zcz n b (ZQ n b)/\(Zcy b->Zcy (ZQ n b))/\∀ p∈(ZQ n b).fl,p.n=n->Zf4 p:=by
 obtain ⟨h1,h2,h3,h4⟩:=Zqx (n:=n) 201 c;exact ⟨h1,h2,h3,h4 λ p hp=>by have:=(c.qok p (ZaR hp).1).len;omega⟩
theorem ZrO (c:Core b) {r:RF} (g:ZaA r) (hL:r.L=[]) (hn:b.at r.num=none) (hf:b.fl.length<8):Core { b with fl:=Zps Pl.n ⟨r,[]⟩ b.fl }:=by
 have hno:=ZdF.1 hn;refine ⟨c.now,c.next,λ p hp=>?_,λ p hp=>?_,Zlo c.nums hno,by show (Zps Pl.n _ b.fl).length<=8;rw [Znv];omega,c.ids,c.each,c.many,λ x hx=>?_,λ p hp=>?_⟩
 ·rcases Zde.1 hp with rfl|hp
  ·exact g
  ·exact c.good p hp
 ·rcases Zde.1 hp with rfl|hp
  ·exact QOk.nil
  ·exact c.qok p hp
 ·obtain ⟨p,hp,e⟩:=c.there x hx
  exact ⟨p,Zde.2 (.inr hp),e⟩
 ·rcases Zde.1 hp with rfl|hp
  ·refine ⟨λ x hx e=>?_,λ w hw=>(by cases hw),λ h hh=>?_⟩
   ·obtain ⟨p,hp,e2⟩:=c.there x hx
    exact absurd (e2.trans e) (hno p hp)
   ·rw [show (Pl.mk r []).r.L=r.L from rfl,hL] at hh;cases hh
  ·exact c.loc p hp
theorem ZnU (c:Core b) (hx:x∈b.L) {f:Pl->Pl} (hf:∀ p∈b.fl,p.n=x.flt->(f p).n=x.flt/\ZaA (f p).r/\QOk (f p).q/\(f p).r.lims=p.r.lims/\(∀ w,w∈(f p).q↔w∈p.q/\w.id≠x.id)/\∀ h,h∈(f p).r.L↔h∈p.r.L/\h.owner≠x.id):
  Core (b.put x.flt f (Znx Bk.id x.id b.L)):=by
 refine c.swap (next:=b.next) ⟨Int.le_refl _,c.next.2⟩ (λ p hp hn=>?_) (Zrb c.ids) (λ y hy=>c.each y (Zb8.1 hy).1) (Nat.le_trans (List.length_filter_le _ _) c.many) (λ y hy=>?_) λ y _ _=>c.there x hx
 ·obtain ⟨f1,f2,f3,f6,f4,f5⟩:=hf p hp hn
  have hl:=c.loc p hp;refine ⟨f1,f2,f3,λ y hy e=>?_,λ w hw=>?_,λ h hh=>?_⟩
  ·obtain ⟨hy1,hy2⟩:=Zb8.1 hy
   have h:=hl.has y hy1 (by rw [e,f1,hn]);unfold Zgn at *;by_cases h3:y.state=3
   ·rw [if_pos h3] at h ⊢
    obtain ⟨⟨w,hw,a1,a2,a3⟩,a4⟩:=h;exact ⟨⟨w,(f4 w).2 ⟨hw,by omega⟩,a1,a2,a3⟩,by rw [f6];exact a4⟩
   ·rw [if_neg h3] at h ⊢
    obtain ⟨h,hh,a1,a2,a3⟩:=h;exact ⟨h,(f5 h).2 ⟨hh,by omega⟩,a1,a2,a3⟩
  ·obtain ⟨hw1,hw2⟩:=(f4 w).1 hw
   obtain ⟨y,hy,a1,a2,a3⟩:=hl.backQ w hw1;exact ⟨y,Zb8.2 ⟨hy,by omega⟩,a1,by rw [a2,f1,hn],a3⟩
  ·obtain ⟨hh1,hh2⟩:=(f5 h).1 hh
   obtain ⟨y,hy,a1,a2,a3⟩:=hl.backH h hh1;exact ⟨y,Zb8.2 ⟨hy,by omega⟩,a1,by rw [a2,f1,hn],a3⟩
 ·refine Zb8.trans ⟨λ h=>h.1,λ h=>⟨h,λ e=>hy ?_⟩⟩
  rw [c.uniq h hx e]
theorem ZhJ (c:Core b) (hx:x∈b.L) (hs:x.state≠3):Core (Zfg b x):=by
 refine ZnU c hx λ p hp hn=>⟨by show (ZbR _ _).1.num=_;rw [Zd5.1];exact hn,Zrq (c.good p hp) _,c.qok p hp,Zd5.2,λ w=>⟨λ hw=>⟨hw,λ e=>?_⟩,λ h=>h.1⟩,λ h=>ZtF (c.good p hp)⟩;obtain ⟨y,hy,e1,_,e3,_⟩:=c.waits hp hw;rw [c.uniq hy hx (by omega)] at e3;exact hs e3
theorem ZlF (c:Core b) (hx:x∈b.L):Core (Zkj b x):=by
 unfold Zkj;split
 ·rename_i hs
  refine ZnU c hx λ p hp hn=>⟨hn,c.good p hp,(c.qok p hp).del _,rfl,λ w=>ZjZ (c.qok p hp).ids,λ h=>⟨λ hh=>⟨hh,λ e=>?_⟩,λ hh=>hh.1⟩⟩;obtain ⟨y,hy,a1,a2,a3⟩:=(c.loc p hp).backH h hh;rw [c.uniq hy hx (by omega)] at a3;exact a3 hs
 ·rename_i hs
  exact ZhJ c hx hs
theorem Zoy {f:Pl->Pl} {L:List Bk} (t:Zcy b) (h:∀ y∈L,y.state=1->y∈b.L):Zcy (b.put n f L):=λ y hy hs=>t y (h y hy hs) hs
theorem ZmC (t:Zcy b):Zcy (Zkj b x):=by
 unfold Zkj Zfg;split<;>exact Zoy t λ y hy _=>(Zb8.1 hy).1
theorem ZvC {q:Pl} (h:q∈(Zkj b x).fl):q.n=x.flt\/q∈b.fl:=by
 unfold Zkj Zfg at h;split at h<;>
 ·obtain ⟨z,hz,rfl⟩:=Zac.1 h
  by_cases e:z.n=x.flt
  ·rw [if_pos e]
   exact .inl (by first|exact e|(show (ZbR _ _).1.num=_;rw [Zd5.1];exact e))
  ·rw [if_neg e];exact .inr hz
end
section
open Go Go.VC Tryz
variable {b:ZM} {n:Int} {p:Pl} {w:Wt} {x:Bk} {c:Cm}
theorem ZaT {α:Type} {l:List α} {a y:α}:y∈l++[a]↔y∈l\/y=a:=by simp
theorem Core.fresh (k:Core b) {y:Bk} (hy:y∈b.L):y.id<b.next:=(k.each y hy).id.2
theorem ZnW (k:Core b) (hx:Zud (b.next + 1) x) (hid:x.id=b.next) (hf:¬ b.full) (hp:p∈b.fl) (hn:p.n=x.flt) {f:Pl->Pl} (hl:(f p).n=p.n/\ZaA (f p).r/\QOk (f p).q/\ZA0 (b.L++[x]) (f p)):
  Core { b.put x.flt f (b.L++[x]) with next:=b.next + 1 }:=by
 unfold ZM.full at hf;refine k.swap (next:=b.next + 1) ⟨by omega,by omega⟩ (λ p' hp' hn'=>?_) (ZfM k.ids λ y hy=>by rw [hid];exact k.fresh hy) (λ y hy=>?_) (by rw [List.length_append,List.length_singleton];omega) (λ y hy=>?_) λ y _ _=>⟨p,hp,hn⟩
 ·obtain rfl:p'=p:=k.uniqP hp' hp (by omega)
  exact ⟨by rw [hl.1];exact hn,hl.2.1,hl.2.2.1,hl.2.2.2⟩
 ·rcases ZaT.1 hy with hy|rfl
  ·exact (k.each y hy).le (by omega)
  ·exact hx
 ·refine ZaT.trans ⟨λ h=>?_,λ h=>.inl h⟩
  rcases h with h|rfl
  ·exact h
  ·exact absurd rfl hy
theorem ZlE (k:Core b) (hc:ZaO c) (hp:b.at c.flt=some p) (hf:¬ b.full) (ht:(ZN p.r b.next c.cls c.many).2=0):
  Core { b.put c.flt (takeP b.next c.cls c.many) (b.L++[Zas b c]) with next:=b.next + 1 }:=by
 obtain ⟨hp1,hp2⟩:=ZaR hp;have hnx:=k.next;refine ZnW k (x:=Zas b c) ⟨⟨hnx.1,by show b.next<b.next + 1;omega⟩,hc.flt,hc.cls,hc.many,⟨by show (1:Int)<=1;omega,by show (1:Int)<=3;omega⟩,hc.time,λ h=>absurd rfl h⟩ rfl hf hp1 hp2 ?_;refine ⟨ZcC.1,Zhv (k.good p hp1) _ _ _,k.qok p hp1,?_⟩;have hl:=k.loc p hp1;have hnum:(takeP b.next c.cls c.many p).n=p.n:=ZcC.1;refine ⟨λ y hy e=>?_,λ v hv=>?_,λ h hh=>?_⟩
 ·rcases ZaT.1 hy with hy|rfl
  ·have h:=hl.has y hy (by rw [e,hnum])
   unfold Zgn at *;by_cases h3:y.state=3
   ·rw [if_pos h3] at h ⊢
    exact ⟨h.1,by show y.cls<((ZN _ _ _ _).1.lims.length:Int);rw [ZcC.2];exact h.2⟩
   ·rw [if_neg h3] at h ⊢
    obtain ⟨h,hh,a⟩:=h;exact ⟨h,(ZdP ht).2 (.inr hh),a⟩
  ·unfold Zgn
   rw [if_neg (by show (1:Int)≠3;omega)];exact ⟨⟨b.next,c.cls,c.many,[]⟩,(ZdP ht).2 (.inl rfl),rfl,rfl,rfl⟩
 ·obtain ⟨y,hy,a1,a2,a3⟩:=hl.backQ v hv
  exact ⟨y,ZaT.2 (.inl hy),a1,by rw [a2,hnum],a3⟩
 ·rcases (ZdP ht).1 hh with rfl|hh
  ·exact ⟨Zas b c,ZaT.2 (.inr rfl),rfl,by show c.flt=_;rw [hnum];exact hp2.symm,by show (1:Int)≠3;omega⟩
  ·obtain ⟨y,hy,a1,a2,a3⟩:=hl.backH h hh
   exact ⟨y,ZaT.2 (.inl hy),a1,by rw [a2,hnum],a3⟩
theorem Zin {q:List Wt} (h:(ZcW q w).2=0):w.Ok/\Zel w.id q=false/\q.length<200/\ZcW q w=(ZiE w q,0):=by
 unfold ZcW at *;split at h
 ·cases h
 rename_i h1;split at h
 ·cases h
 rename_i h2;split at h
 ·cases h
 rename_i h3;rw [if_neg h1,if_neg h2,if_neg h3];exact ⟨by simpa using h1,by simpa using h2,by omega,rfl⟩
theorem ZhI (k:Core b) (hc:ZaO c) (hs:c.sc<18446744073709551616) (hp:b.at c.flt=some p) (hcl:¬ (p.r.lims.length:Int)<=c.cls) (hf:¬ b.full) (hq:(ZcW p.q (Zdp b c)).2=0):Core (ZbU b c):=by
 obtain ⟨hp1,hp2⟩:=ZaR hp;obtain ⟨q1,q2,q3,_⟩:=Zin hq;have hnx:=k.next;refine ZnW k (x:=ZbH b c) ⟨⟨hnx.1,by show b.next<b.next + 1;omega⟩,hc.flt,hc.cls,hc.many,⟨by show (1:Int)<=3;omega,by show (3:Int)<=3;omega⟩,⟨Int.le_refl _,by show (0:Int)<=_;omega⟩,λ _=>rfl⟩ rfl hf hp1 hp2 ?_;refine ⟨rfl,k.good p hp1,(k.qok p hp1).ins q1 hs q2 q3,?_⟩;have hl:=k.loc p hp1;refine ⟨λ y hy e=>?_,λ v hv=>?_,λ h hh=>?_⟩
 ·rcases ZaT.1 hy with hy|rfl
  ·have h:=hl.has y hy e
   unfold Zgn at *;by_cases h3:y.state=3
   ·rw [if_pos h3] at h ⊢
    obtain ⟨⟨v,hv,a⟩,a4⟩:=h;exact ⟨⟨v,ZcH.2 (.inr hv),a⟩,a4⟩
   ·rw [if_neg h3] at h ⊢
    exact h
  ·unfold Zgn
   rw [if_pos (by rfl)];exact ⟨⟨Zdp b c,ZcH.2 (.inl rfl),rfl,rfl,rfl⟩,by show c.cls<(p.r.lims.length:Int);omega⟩
 ·rcases ZcH.1 hv with rfl|hv
  ·exact ⟨ZbH b c,ZaT.2 (.inr rfl),rfl,hp2.symm,rfl⟩
  ·obtain ⟨y,hy,a⟩:=hl.backQ v hv
   exact ⟨y,ZaT.2 (.inl hy),a⟩
 ·obtain ⟨y,hy,a⟩:=hl.backH h hh
  exact ⟨y,ZaT.2 (.inl hy),a⟩
theorem ZrM (k:Core b) (hx:x∈b.L) (hs:x.state=1):Core { b with L:=Zej Bk.id x.id Zdb b.L }:=by
 have hmem:∀ {y},y∈Zej Bk.id x.id Zdb b.L->y=Zdb x\/(y∈b.L/\y.id≠x.id):=λ {y} hy=>by
  obtain ⟨z,hz,rfl⟩:=Zac.1 hy;by_cases e:z.id=x.id
  ·rw [if_pos e,k.uniq hz hx e];exact .inl rfl
  ·rw [if_neg e];exact .inr ⟨hz,e⟩
 have hput:∀ {y},y∈b.L->y.id≠x.id->y∈Zej Bk.id x.id Zdb b.L:=λ {y} hy e=>Zac.2 ⟨y,hy,by rw [if_neg e]⟩;have hnew:Zdb x∈Zej Bk.id x.id Zdb b.L:=Zac.2 ⟨x,hx,by rw [if_pos rfl]⟩;refine ⟨k.now,k.next,k.good,k.qok,k.nums,k.few,Ze6 k.ids λ _ _ e=>e,λ y hy=>?_,by show (Zej Bk.id _ _ b.L).length<=_;rw [ZjE];exact k.many,λ y hy=>?_,λ p hp=>?_⟩
 ·rcases hmem hy with rfl|⟨hy,_⟩
  ·have hb:=k.each x hx
   exact ⟨hb.id,hb.flt,hb.cls,hb.many,⟨by show (1:Int)<=2;omega,by show (2:Int)<=3;omega⟩,⟨Int.le_refl _,by show (0:Int)<=_;omega⟩,λ _=>rfl⟩
  ·exact k.each y hy
 ·rcases hmem hy with rfl|⟨hy,_⟩
  ·exact k.there x hx
  ·exact k.there y hy
 ·have hl:=k.loc p hp
  refine ⟨λ y hy e=>?_,λ w hw=>?_,λ h hh=>?_⟩
  ·rcases hmem hy with rfl|⟨hy,_⟩
   ·have h:=hl.has x hx e
    unfold Zgn at *;rw [if_neg (by omega)] at h;rw [if_neg (by show (2:Int)≠3;omega)];exact h
   ·exact hl.has y hy e
  ·obtain ⟨y,hy,a1,a2,a3⟩:=hl.backQ w hw
   refine ⟨y,hput hy λ e=>?_,a1,a2,a3⟩;rw [k.uniq hy hx e] at a3;omega
  ·obtain ⟨y,hy,a1,a2,a3⟩:=hl.backH h hh
   by_cases e:y.id=x.id
   ·rw [k.uniq hy hx e] at a1 a2
    exact ⟨Zdb x,hnew,a1,a2,by show (2:Int)≠3;omega⟩
   ·exact ⟨y,hput hy e,a1,a2,a3⟩
theorem ZrN (k:Core b) {r:RF} (hp:b.at n=some p) (g:ZaA r) (h:ZcJ p.r r):Core (b.put n (ZcT r) b.L):=by
 obtain ⟨hp1,hp2⟩:=ZaR hp;refine k.swap (next:=b.next) ⟨Int.le_refl _,k.next.2⟩ (λ p' hp' hn'=>?_) k.ids k.each k.many (λ y _=>Iff.rfl) λ y _ _=>⟨p,hp1,hp2⟩;obtain rfl:p'=p:=k.uniqP hp' hp1 (by omega);have hl:=k.loc _ hp1;have hnum:(ZcT r p').n=p'.n:=h.num;refine ⟨by rw [hnum];exact hp2,g,k.qok p' hp1,λ y hy e=>?_,λ w hw=>?_,λ o ho=>?_⟩
 ·have h2:=hl.has y hy (by rw [e,hnum])
  unfold Zgn at *;by_cases h3:y.state=3
  ·rw [if_pos h3] at h2 ⊢
   exact ⟨h2.1,by show y.cls<(r.lims.length:Int);rw [h.lims];exact h2.2⟩
  ·rw [if_neg h3] at h2 ⊢
   obtain ⟨o,ho,a1,a2,a3⟩:=h2;obtain ⟨o',ho',c1,c2,c3⟩:=h.mem ho;exact ⟨o',ho',by omega,by omega,by omega⟩
 ·obtain ⟨y,hy,a1,a2,a3⟩:=hl.backQ w hw
  exact ⟨y,hy,a1,by rw [a2,hnum],a3⟩
 ·obtain ⟨o',ho',c1,_,_⟩:=h.symm.mem ho
  obtain ⟨y,hy,a1,a2,a3⟩:=hl.backH o' ho';exact ⟨y,hy,by omega,by rw [a2,hnum],a3⟩
theorem ZnV (k:Core b) {t:Int} (h:0<=t/\t<=1099511627776):Core { b with now:=t }:=⟨h,k.next,k.good,k.qok,k.nums,k.few,k.ids,k.each,k.many,k.there,k.loc⟩
theorem ZtP:(Zfg b x).now=b.now:=rfl
theorem ZrB:∀ (l:List Bk) {b:ZM},Core b->(∀ x∈l,x∈b.L)->Zam Bk.id l->
  Core (ZdJ l b)/\(ZdJ l b).now=b.now/\(ZdJ l b).next=b.next/\((ZdJ l b).fl.map Pl.n=b.fl.map Pl.n)/\∀ y,y∈(ZdJ l b).L↔y∈b.L/\¬ (y∈l/\old b.now y=true)
 |[],b,k,_,_=>⟨k,rfl,rfl,rfl,λ y=>by simp [ZdJ]⟩
 |x::l,b,k,hl,hr=>by
  have hp:=List.pairwise_cons.1 hr;have hx:=hl x (by simp);unfold ZdJ;by_cases ho:old b.now x=true
  ·rw [if_pos ho]
   have hs:x.state=1:=by unfold old at ho;simp at ho;exact ho.1
   have k':=ZhJ k hx (by omega);have hin:∀ y∈l,y∈(Zfg b x).L:=λ y hy=>Zb8.2 ⟨hl y (by simp [hy]),by have:=hp.1 y hy;omega⟩;obtain ⟨i1,i2,i3,i4,i5⟩:=ZrB l k' hin hp.2;refine ⟨i1,i2,i3,i4.trans (Ze7 (λ q e=>by show (ZbR _ _).1.num=_;rw [Zd5.1];exact e) _),λ y=>?_⟩;rw [i5,ZtP];have hm:y∈(Zfg b x).L↔y∈b.L/\y.id≠x.id:=Zb8;rw [hm,List.mem_cons];constructor
   ·rintro ⟨⟨h1,h2⟩,h3⟩
    refine ⟨h1,λ⟨h4,h5⟩=>?_⟩;rcases h4 with rfl|h4
    ·exact h2 rfl
    ·exact h3 ⟨h4,h5⟩
   ·rintro ⟨h1,h2⟩
    refine ⟨⟨h1,λ e=>h2 ⟨.inl (k.uniq h1 hx e),?_⟩⟩,λ⟨h4,h5⟩=>h2 ⟨.inr h4,h5⟩⟩;rw [k.uniq h1 hx e];exact ho
  ·rw [if_neg ho]
   obtain ⟨i1,i2,i3,i4,i5⟩:=ZrB l k (λ y hy=>hl y (by simp [hy])) hp.2;refine ⟨i1,i2,i3,i4,λ y=>?_⟩;rw [i5,List.mem_cons];constructor
   ·rintro ⟨h1,h2⟩
    refine ⟨h1,λ⟨h4,h5⟩=>?_⟩;rcases h4 with rfl|h4
    ·exact ho h5
    ·exact h2 ⟨h4,h5⟩
   ·rintro ⟨h1,h2⟩
    exact ⟨h1,λ⟨h4,h5⟩=>h2 ⟨.inr h4,h5⟩⟩
theorem Zkr (k:Core b) {t:Int} (h:0<=t/\t<=1099511627776):Core (Zdk b t)/\Zcy (Zdk b t)/\(Zdk b t).now=t/\(Zdk b t).next=b.next/\(Zdk b t).fl.map Pl.n=b.fl.map Pl.n:=by
 obtain ⟨i1,i2,i3,i4,i5⟩:=ZrB b.L (ZnV k h) (λ x hx=>hx) k.ids;refine ⟨i1,λ y hy hs=>?_,i2,i3,i4⟩;obtain ⟨h1,h2⟩:=(i5 y).1 hy;show (Zdk b t).now<_;rw [show (Zdk b t).now=t from i2]
 refine Int.not_le.1 λ h3=>h2 ⟨h1,?_⟩;unfold old;simp [hs];exact h3
theorem Zio:∀ (l:List Int) {b:ZM},Core b->Zcy b->∀ S:Int->Prop,(∀ p∈b.fl,S p.n->Zf4 p)->
  Core (Zci l b)/\Zcy (Zci l b)/\(Zci l b).now=b.now/\(Zci l b).next=b.next/\(Zci l b).fl.map Pl.n=b.fl.map Pl.n/\∀ p∈(Zci l b).fl,(S p.n\/p.n∈l)->Zf4 p
 |[],b,k,t,S,h=>⟨k,t,rfl,rfl,rfl,λ p hp e=>h p hp (by simpa using e)⟩
 |n::l,b,k,t,S,h=>by
  obtain ⟨p1,p2,p3,p4⟩:=ZcX (n:=n) k;obtain ⟨i1,i2,i3,i4,i5,i6⟩:=Zio l p1 (p3 t) (λ k=>S k\/k=n) λ p hp e=>by
   by_cases hn:p.n=n
   ·exact p4 p hp hn
   ·rcases p2.others p hp with h2|h2
    ·exact absurd h2 hn
    ·exact h p h2 (e.resolve_right hn)
  refine ⟨i1,i2,i3.trans p2.now,i4.trans p2.next,i5.trans p2.keys,λ p hp e=>i6 p hp ?_⟩;rcases e with e|e
  ·exact .inl (.inl e)
  ·rcases List.mem_cons.1 e with e|e
   ·exact .inl (.inr e)
   ·exact .inr e
theorem Zaz.promoted (k:Core b) (t:Zcy b) (h:∀ p∈b.fl,p.n=n\/Zf4 p):Zaz (ZQ n b):=by
 obtain ⟨p1,p2,p3,p4⟩:=ZcX (n:=n) k;refine ⟨p1,p3 t,λ p hp=>?_⟩;by_cases e:p.n=n
 ·exact p4 p hp e
 ·rcases p2.others p hp with h2|h2
  ·exact absurd h2 e
  ·exact (h p h2).resolve_left e
theorem ZqP {r:RF}:Zf4 ⟨r,[]⟩:=rfl
theorem ZoE (g:ZaA p.r) (hq:QOk p.q) (h:Zf4 p) {id cls many:Int} (ht:(ZN p.r id cls many).2=0):Zf4 (takeP id cls many p):=by
 unfold Zf4 Zai at *;rw [List.find?_eq_none] at *;intro w hw hf;exact h w hw (Zrx g ht (hq.ok w hw).2.1.1 hf)
theorem ZoF {r:RF} (h:Zf4 p) (hs:ZcJ p.r r):Zf4 (ZcT r p):=by
 unfold Zf4 at *;show Zai p.q (Zn r)=none;rw [hs.lefts];exact h
theorem Zqu {f:Pl->Pl} {L:List Bk} {q:Pl} (h:q∈(b.put n f L).fl):(∃ p∈b.fl,p.n=n/\q=f p)\/(q∈b.fl/\q.n≠n):=by
 obtain ⟨z,hz,rfl⟩:=Zac.1 h;by_cases e:z.n=n
 ·rw [if_pos e];exact .inl ⟨z,hz,e,rfl⟩
 ·rw [if_neg e];exact .inr ⟨hz,e⟩
theorem Zvj (k:Zaz b):Zaz (Zck b c).1:=by
 unfold Zck;split
 ·exact k
 rename_i h1;split
 ·exact k
 rename_i h2;split
 ·exact k
 rename_i h3;have hn:b.at c.flt=none:=by cases e:b.at c.flt with|none=>rfl|some p=>rw [e] at h1;simp at h1
 have h3:Zjs c.flt c.rows c.grps c.parts:=Classical.byContradiction h3;refine ⟨ZrO k.core (ZnB h3) rfl hn (by omega),k.time,λ p hp=>?_⟩;rcases Zde.1 hp with rfl|hp
 ·exact ZqP
 ·exact k.nofit p hp
theorem Zvk (k:Zaz b) (hc:ZaO c):Zaz (ZcZ b c).1:=by
 unfold ZcZ;cases hp:b.at c.flt with
 |none=>exact k
 |some p=>
  dsimp only;split
  ·exact k
  rename_i h1;split
  ·exact k
  rename_i h2;split
  ·exact k
  rename_i h3;have h3:(ZN p.r b.next c.cls c.many).2=0:=Classical.byContradiction h3;obtain ⟨hp1,hp2⟩:=ZaR hp;refine ⟨ZlE k.core hc hp h2 h3,λ y hy hs=>?_,λ q hq=>?_⟩
  ·rcases ZaT.1 hy with hy|rfl
   ·exact k.time y hy hs
   ·show b.now<c.time;omega
  ·rcases Zqu (b:=b) (L:=b.L) hq with ⟨z,hz,e,rfl⟩|⟨hq,_⟩
   ·obtain rfl:z=p:=k.core.uniqP hz hp1 (by omega)
    exact ZoE (k.core.good _ hz) (k.core.qok _ hz) (k.nofit _ hz) h3
   ·exact k.nofit q hq
theorem Zvi (k:Zaz b) (hc:ZaO c) (hs:c.sc<18446744073709551616):Zaz (Zb6 b c).1:=by
 unfold Zb6;cases hp:b.at c.flt with
 |none=>exact k
 |some p=>
  dsimp only;split
  ·exact k
  rename_i h1;split
  ·exact k
  rename_i h2;split
  ·exact k
  rename_i h3;have h3:(ZcW p.q (Zdp b c)).2=0:=Classical.byContradiction h3;refine Zaz.promoted (ZhI k.core hc hs hp h1 h2 h3) (λ y hy hs=>?_) λ q hq=>?_
  ·rcases ZaT.1 hy with hy|rfl
   ·exact k.time y hy hs
   ·exact absurd hs (by show (3:Int)≠1;omega)
  ·rcases Zqu (b:=b) (L:=b.L) hq with ⟨z,hz,e,rfl⟩|⟨hq,_⟩
   ·exact .inl e
   ·exact .inr (k.nofit q hq)
theorem Zth (k:Zaz b) (hc:ZaO c):Zaz (ZbG b c).1:=by
 unfold ZbG;split
 ·exact k
 obtain ⟨t1,t2,t3,t4,t5⟩:=Zkr k.core hc.time;obtain ⟨p1,p2,p3,p4,p5,p6⟩:=Zio (b.fl.map Pl.n) t1 t2 (λ _=>False) λ p _ h=>h.elim;refine ⟨p1,p2,λ p hp=>p6 p hp (.inr ?_)⟩;rw [<-t5,<-p5];exact List.mem_map_of_mem hp
theorem Zyw (k:Zaz b) (hx:x∈b.L):Zaz (Zhb b x c).1:=by
 unfold Zhb;cases hp:b.at x.flt with
 |none=>exact k
 |some p=>
  obtain ⟨hp1,hp2⟩:=ZaR hp;dsimp only;split
  ·split
   ·exact k
   ·rename_i h
    have h:x.state=1:=Classical.byContradiction h;refine ⟨ZrM k.core hx h,λ y hy hs=>?_,k.nofit⟩;obtain ⟨z,hz,rfl⟩:=Zac.1 hy;by_cases e:z.id=x.id
    ·rw [if_pos e] at hs;exact absurd hs (by show (2:Int)≠1;omega)
    ·rw [if_neg e] at hs ⊢;exact k.time z hz hs
  ·split
   ·exact Zaz.promoted (ZlF k.core hx) (ZmC k.time) λ q hq=>(ZvC hq).imp_right (k.nofit q)
   ·split
    ·exact k
    ·have seat:∀ r,ZaA r->ZcJ p.r r->Zaz (b.put x.flt (ZcT r) b.L):=λ r g hs=>by
      refine ⟨ZrN k.core hp g hs,λ y hy=>k.time y hy,λ q hq=>?_⟩;rcases Zqu (b:=b) (L:=b.L) hq with ⟨z,hz,e,rfl⟩|⟨hq,_⟩
      ·obtain rfl:z=p:=k.core.uniqP hz hp1 (by omega)
       exact ZoF (k.nofit _ hz) hs
      ·exact k.nofit q hq
     split
     ·split
      ·exact k
      ·rename_i h
       exact seat _ (Zrp (k.core.good p hp1) _ _) (Zp0 (k.core.good p hp1) (Classical.byContradiction h))
     ·split
      ·exact k
      ·rename_i h
       exact seat _ (Zrr (k.core.good p hp1) _) (Zsq (Classical.byContradiction h))
theorem ZqT {s:ByteArray} {e:Int} (h:ZdA b s=(some x,e)):x∈b.L:=by
 unfold ZdA at h;split at h
 ·cases h
 ·split at h
  ·cases h
  ·rename_i y hy
   cases h;exact (ZdE hy).1
theorem Zti (k:Zaz b) (hs:c.sc<18446744073709551616):Zaz (Zak b c).1:=by
 unfold Zak;split
 ·exact k
 rename_i hc;have hc:ZaO c:=Classical.byContradiction hc;split
 ·exact Zvj k
 split
 ·exact Zvk k hc
 split
 ·exact Zvi k hc hs
 split
 ·exact Zth k hc
 split
 ·exact k
 split
 ·exact k
 ·rename_i hnm
  exact Zyw k (ZqT hnm)
end
section
open Go Go.VC Tryz
variable {b:ZM} {n:Int} {p:Pl} {w:Wt} {x:Bk} {c:Cm}
theorem ZpJ {b:ZM} {x:Bk}:(Zdq b x).code=0:=by
 unfold Zdq;split<;>rfl
theorem Zn6 (k:Zaz b) (hc:ZaO c) (hs:c.sc<18446744073709551616):
  ((Zb6 b c).2.code≠0/\(Zb6 b c).1=b)\/
  (∃ p y,b.at c.flt=some p/\¬ (p.r.lims.length:Int)<=c.cls/\¬ b.full/\(ZcW p.q (Zdp b c)).2=0/\Core (ZbU b c)/\
   y∈(ZQ c.flt (ZbU b c)).L/\y.id=b.next/\y.flt=c.flt/\y.cls=c.cls/\y.many=c.many/\y.till=0/\
   Zb6 b c=(ZQ c.flt (ZbU b c),Zdq (ZQ c.flt (ZbU b c)) y)):=by
 unfold Zb6;cases hp:b.at c.flt with
 |none=>exact .inl ⟨by show (2:Int)≠0;omega,rfl⟩
 |some p=>
  dsimp only;split
  ·exact .inl ⟨by show (1:Int)≠0;omega,rfl⟩
  rename_i h1;split
  ·exact .inl ⟨by show (3:Int)≠0;omega,rfl⟩
  rename_i h2;split
  ·rename_i h3;exact .inl ⟨h3,rfl⟩
  rename_i h3;have h3:(ZcW p.q (Zdp b c)).2=0:=Classical.byContradiction h3;have kc:=ZhI k.core hc hs hp h1 h2 h3;obtain ⟨p1,p2,_,_⟩:=ZcX (n:=c.flt) kc;have hid:b.next∈(ZQ c.flt (ZbU b c)).L.map Bk.id:=by
   rw [p2.ids];exact List.mem_map.2 ⟨ZbH b c,ZaT.2 (.inr rfl),rfl⟩
  obtain ⟨y,hy,he⟩:=List.mem_map.1 hid;obtain ⟨z,hz,a1,a2,a3,a4,a5⟩:=p2.bk y hy;have hzx:z=ZbH b c:=by
   rcases ZaT.1 hz with hz|rfl
   ·have:=k.core.fresh hz;omega
   ·rfl
  subst hzx;refine .inr ⟨p,y,rfl,h1,h2,h3,kc,hy,he,a2,a3,a4,a5,?_⟩;rw [(ZuF p1).2 ⟨hy,he⟩]
end
section
open Go Go.VC Tryz
variable {b:ZM} {n:Int} {p:Pl} {w:Wt} {x:Bk} {c:Cm} {r:RF}
theorem Zuq {f:Nat->Int}:∀ {k:Nat},(∀ i,i<k->0<=f i)->0<=mnF f k/\mnF f k<=10000
 |0,_=>by show (0:Int)<=10000/\(10000:Int)<=10000;omega
 |k + 1,h=>by
  have h1:=Zuq (k:=k) λ i hi=>h i (by omega);have h2:=h k (by omega);unfold mnF;split<;>omega
theorem Znu (g:ZaA r):(Zn r).length<=8/\∀ y∈Zn r,0<=y/\y<=10000:=by
 have h8:=(Zcs g).2.2;refine ⟨by rw [ZdC];exact h8,λ y hy=>?_⟩;obtain ⟨k,hk,rfl⟩:=List.mem_map.1 hy;have hk:=List.mem_range.1 hk;rw [(ZgC g hk).1];refine Zuq λ i hi=>?_;have h:=(ZJ.1 g.nest).2.2 i (by omega);unfold ZcK;omega
end
section
open Go Go.VC Tryz
open Classical
noncomputable section
variable {b:ZM} {n:Int} {p:Pl} {w:Wt} {x:Bk} {r:RF}
def ZsD (bs:List Int):Option RF:=if Z0 (ZdY bs).rd=true/\Zn1 (ZdY bs).rf then some (ZdY bs).rf else none
def ZnR (bs:List Int):Option (List Wt):=if ZzF bs then some (Zmc bs).1 else none
def Zpa (f q:List Int):Option Pl:=match ZsD f,ZnR q with
 |some r,some l=>some ⟨r,l⟩
 |_,_=>none
def Ziq (r:Rd):Option Pl × Rd:=(Zpa (ZP 65536 r).1 (ZP 65536 (ZP 65536 r).2).1,(ZP 65536 (ZP 65536 r).2).2)
def ZbV:Nat->Rd->Option (List Pl × Rd)
 |0,r=>some ([],r)
 |n + 1,r=>match (Ziq r).1 with
  |none=>none
  |some p=>(ZbV n (Ziq r).2).map λ x=>(p::x.1,x.2)
def ZlJ (r:Rd):Bk × Rd:=
 let a:=Ze 28629151 r
 let f:=Ze 9999 a.2
 let c:=Ze 9999 f.2
 let m:=Ze 9999 c.2
 let s:=Ze 3 m.2
 let t:=Ze 1099511627776 s.2
 (⟨a.1,f.1,c.1,m.1,s.1,t.1⟩,t.2)
def things (l:List Pl):Nat:=(l.map λ p=>p.r.L.length + p.q.length).sum
structure Zyf (b:ZM) (x:Bk):Prop where
 id:1<=x.id/\x.id<b.next
 state:1<=x.state
 held:x.state=1->b.now<x.till
 free:x.state≠1->x.till=0
 has:∃ p,b.at x.flt=some p/\Zgn p x
structure ZuH (b:ZM):Prop where
 next:1<=b.next
 nums:Zam Pl.n b.fl
 ids:Zam Bk.id b.L
 each:∀ x∈b.L,Zyf b x
 things:things b.fl=b.L.length
def ZzL (bs:List Int):Option (ZM × Rd):=
 let a:=Ze 1099511627776 ⟨bs,false⟩
 let n:=Ze 28629151 a.2
 let k:=Ze 8 n.2
 match ZbV k.1.toNat k.2 with
 |none=>none
 |some y=>
  let m:=Ze 300 y.2
  let z:=Z3 ZlJ m.1.toNat m.2
  some (⟨a.1,n.1,y.1,z.1⟩,z.2)
def Zdf (bs:List Int):Option ZM:=match ZzL bs with
 |none=>none
 |some y=>if Z0 y.2=true/\ZuH y.1 then some y.1 else none
theorem ZpK (g:ZaA r):(Zz r.L).length<=600:=by
 have h1:=ZsR g;have h4:=(Zcp r.rows r.grps).2;have h2:=Zjq (m:=(List.range 600).map λ (k:Nat)=>(k:Int)) h1 λ x hx=>by
  obtain ⟨h,hh,hx⟩:=Zcn.1 hx;have:=(g.each h hh).seats x hx;exact List.mem_map.2 ⟨x.toNat,List.mem_range.2 (by omega),by omega⟩
 rw [List.length_map,List.length_range] at h2;exact h2
theorem Zgh:∀ {L:List ZD},(∀ h∈L,Zdm h)->(ZaI L).length<=36 * L.length + 9 * (Zz L).length
 |[],_=>by simp [ZaI,Zz]
 |h::L,hin=>by
  have ih:=Zgh λ x hx=>hin x (List.mem_cons_of_mem h hx);have hh:=hin h List.mem_cons_self;have s3:Zef [h.owner,h.cls,h.many]:=by
   intro y hy;have:=hh.o;have:=hh.c;have:=hh.m;simp at hy;omega
  have h1:=Zae (Zb3 s3);have h2:=ZbX (l:=h.seats) (λ y hy=>by have:=hh.s y hy;omega) (by have:=hh.n;omega);have e1:ZaI (h::L)=Zek h++ZaI L:=by simp [ZaI]
  have e2:Zz (h::L)=h.seats++Zz L:=by simp [Zz]
  have e3:(Zek h).length=(Zv [h.owner,h.cls,h.many]).length + (ZcN h.seats).length:=by unfold Zek;rw [List.length_append]
  rw [e1,e2,List.length_append,List.length_append,List.length_cons,e3];simp only [List.length_cons,List.length_nil] at h1;omega
theorem ZcV (g:ZaA r):(ZbC r).length<=28000:=by
 have s:=Zd4 g;obtain ⟨l1,l2,l3⟩:=Zab.1 g.lay;obtain ⟨m1,m2,m3⟩:=Zcs g;have hlen:=g.len.1;have ht:=ZpK g;have u2:Zef [r.num,r.rows]:=by intro y hy;have:=s.num;have:=s.rows;simp at hy;omega
 have u1:Zef [(r.L.length:Int)]:=by intro y hy;simp at hy;omega
 have h1:=Zae (Zb3 u2);have h2:=ZbX s.grps (by omega);have h3:=ZbX s.lims (by omega);have h4:=Zae (Zb3 u1);have h5:=Zgh (ZmB g);simp only [List.length_cons,List.length_nil] at h1 h4;unfold ZbC Zuy;simp only [List.length_append];omega
theorem ZtJ {x:Nat} (h:x<18446744073709551616):(ZvF x).length<=9:=Zbw (Zlq h)
theorem ZW {x:Int} (h:0<=x/\x<18446744073709551616):(Zv [x]).length<=9:=by
 have:=Zae (l:=[x]) λ y hy=>by rw [List.mem_singleton.1 hy];exact h
 simpa using this
theorem ZlW (h:w.Ok) (hf:w.sc<18446744073709551616):(wtB w).length<=45:=by
 obtain ⟨h1,h2,h3,h4⟩:=h;have a1:=ZW (x:=w.id) (by omega);have a2:=ZW (x:=w.cls) (by omega);have a3:=ZW (x:=w.many) (by omega);have a4:=ZW (x:=w.time) (by omega);have a5:=ZtJ hf;unfold wtB;simp only [List.length_append];omega
theorem Zca {α:Type} {code:α->List Int} {m:Nat}:∀ {l:List α},(∀ x∈l,(code x).length<=m)->((l.map code).flatten).length<=m * l.length
 |[],_=>by simp
 |a::l,h=>by
  have h1:=h a (by simp);have h2:=Zca (l:=l) λ x hx=>h x (by simp [hx]);rw [List.map_cons,List.flatten_cons,List.length_append,List.length_cons,Nat.mul_succ];omega
theorem Zk5 {q:List Wt} (h:QOk q):(qB q).length<=9009:=by
 have h1:=ZW (x:=(q.length:Int)) (by have:=h.len;omega);have h2:=Zca (l:=q) (code:=wtB) (m:=45) λ w hw=>ZlW (h.ok w hw) (h.fl w hw);have:=h.len;unfold qB;rw [List.length_append];omega
theorem ZgO {d:List Int} (h:d.length<1000000):(ZcQ d).length<=d.length + 9:=by
 have:=Zbw (n:=d.length) (by omega);unfold ZcQ;rw [List.length_append];omega
theorem ZqC (g:ZaA p.r) (h:QOk p.q):(plB p).length<=38000:=by
 have h1:=ZcV g;have h2:=Zk5 h;have h3:=ZgO (d:=ZbC p.r) (by omega);have h4:=ZgO (d:=qB p.q) (by omega);unfold plB;rw [List.length_append];omega
theorem Zsd {n:Int} (hn:n<=28629151) (h:Zud n x):(bkB x).length<=54:=by
 have:=h.id;have:=h.flt;have:=h.cls;have:=h.many;have:=h.state;have:=h.till;have a0:=ZW (x:=x.id) (by omega);have a1:=ZW (x:=x.flt) (by omega);have a2:=ZW (x:=x.cls) (by omega);have a3:=ZW (x:=x.many) (by omega);have a4:=ZW (x:=x.state) (by omega);have a5:=ZW (x:=x.till) (by omega);unfold bkB;simp only [List.length_append];omega
theorem ZgX (k:Core b):(Zba b).length<=400000:=by
 have h1:=k.now;have h2:=k.next;have h3:=k.few;have h4:=k.many;have a1:=ZW (x:=b.now) (by omega);have a2:=ZW (x:=b.next) (by omega);have a3:=ZW (x:=(b.fl.length:Int)) (by omega);have a4:=ZW (x:=(b.L.length:Int)) (by omega);have a5:=Zca (l:=b.fl) (code:=plB) (m:=38000) λ p hp=>ZqC (k.good p hp) (k.qok p hp);have a6:=Zca (l:=b.L) (code:=bkB) (m:=54) λ x hx=>Zsd h2.2 (k.each x hx);unfold Zba;simp only [List.length_append];omega
theorem ZnQ (g:ZaA r):ZsD (ZbC r)=some r:=by
 have hw:=ZkV (ZbC r);have e:=Znd g;have hd:Z0 (ZfD (ZbC r)).rd=true:=by rw [e];rfl
 have hr:ZdY (ZbC r)=ZfD (ZbC r):=hw.2 hd;unfold ZsD;rw [hr,e];have h2:Z0 (Raw.mk r.num r.rows r.grps r.lims r.L ⟨[],false⟩).rd=true:=rfl;have h3:(Raw.mk r.num r.rows r.grps r.lims r.L ⟨[],false⟩).rf=r:=rfl;rw [h3,if_pos ⟨h2,ZnC g⟩]
theorem ZtT {q:List Wt} (h:QOk q):ZnR (qB q)=some q:=by
 obtain ⟨h1,h2⟩:=Zqr h;unfold ZnR;rw [if_pos h1,h2]
theorem ZqB (g:ZaA p.r) (h:QOk p.q) (more:List Int):Ziq ⟨plB p++more,false⟩=(some p,⟨more,false⟩):=by
 have h1:=ZcV g;have h2:=Zk5 h;unfold Ziq plB;rw [List.append_assoc,Zdc (by omega) (by omega)];dsimp only;rw [Zdc (by omega) (by omega)];dsimp only;unfold Zpa;rw [ZnQ g,ZtT h]
theorem Zip {rest:List Int}:∀ {l:List Pl},(∀ p∈l,ZaA p.r/\QOk p.q)->ZbV l.length ⟨(l.map plB).flatten++rest,false⟩=some (l,⟨rest,false⟩)
 |[],_=>rfl
 |p::l,h=>by
  have hp:=h p (by simp);rw [List.map_cons,List.flatten_cons,List.append_assoc,List.length_cons];unfold ZbV;rw [ZqB hp.1 hp.2];dsimp only;rw [Zip λ q hq=>h q (by simp [hq])];rfl
theorem Zsc {n:Int} (hn:n<=28629151) (h:Zud n x) (more:List Int):ZlJ ⟨bkB x++more,false⟩=(x,⟨more,false⟩):=by
 have:=h.id;have:=h.flt;have:=h.cls;have:=h.many;have:=h.state;have:=h.till;unfold ZlJ bkB;simp only [List.append_assoc];rw [Zs (by omega) (by omega) (by omega)];dsimp only;rw [Zs (by omega) (by omega) (by omega)];dsimp only;rw [Zs (by omega) (by omega) (by omega)];dsimp only;rw [Zs (by omega) (by omega) (by omega)];dsimp only;rw [Zs (by omega) (by omega) (by omega)];dsimp only;rw [Zs (by omega) (by omega) (by omega)]
theorem Zqj (k:Core b):ZzL (Zba b)=some (b,⟨[],false⟩):=by
 have h1:=k.now;have h2:=k.next;have h3:=k.few;have h4:=k.many;have e0:Z3 ZlJ b.L.length ⟨(b.L.map bkB).flatten,false⟩=(b.L,⟨[],false⟩):=by
  have e:=ZeA (one:=ZlJ) (code:=bkB) (l:=b.L) (rest:=[]) λ x hx more=>Zsc h2.2 (k.each x hx) more;rw [List.append_nil] at e;exact e
 unfold ZzL Zba;rw [Zs (by omega) (by omega) (by omega)];dsimp only;rw [Zs (by omega) (by omega) (by omega)];dsimp only;rw [Zs (by omega) (by omega) (by omega)];dsimp only;rw [Int.toNat_natCast,Zip λ p hp=>⟨k.good p hp,k.qok p hp⟩];dsimp only;rw [Zs (by omega) (by omega) (by omega)];dsimp only;rw [Int.toNat_natCast,e0]
def ZeS (p:Pl):List Int:=p.r.L.map ZD.owner++p.q.map Wt.id
theorem Zoa (l:List Pl):(l.flatMap ZeS).length=things l:=by
 induction l with
 |nil=>rfl
 |cons p l ih=>
  rw [List.flatMap_cons,List.length_append,ih];unfold ZeS things;rw [List.length_append,List.length_map,List.length_map,List.map_cons,List.sum_cons]
theorem Zi5 (k:Core b) (hp:p∈b.fl) {i:Int} (hi:i∈ZeS p):∃ x∈b.L,x.id=i/\x.flt=p.n:=by
 rcases List.mem_append.1 hi with h|h
 ·obtain ⟨o,ho,rfl⟩:=List.mem_map.1 h
  obtain ⟨x,hx,e1,e2,_⟩:=(k.loc p hp).backH o ho;exact ⟨x,hx,e1,e2⟩
 ·obtain ⟨v,hv,rfl⟩:=List.mem_map.1 h
  obtain ⟨x,hx,e1,e2,_⟩:=(k.loc p hp).backQ v hv;exact ⟨x,hx,e1,e2⟩
theorem ZpG (k:Core b):(b.fl.flatMap ZeS).Nodup:=by
 have key:∀ l:List Pl,(∀ p∈l,p∈b.fl)->Zam Pl.n l->(l.flatMap ZeS).Nodup:=by
  intro l
  induction l with
  |nil=>intro _ _;exact List.nodup_nil
  |cons p l ih=>
   intro hl hr;have hc:=List.pairwise_cons.1 hr;have hp:=hl p (by simp);rw [List.flatMap_cons];refine List.nodup_append.2 ⟨?_,ih (λ q hq=>hl q (by simp [hq])) hc.2,λ a ha c hc2 e=>?_⟩
   ·refine List.nodup_append.2 ⟨?_,?_,λ a ha c hc2 e=>?_⟩
    ·exact List.pairwise_map.2 ((k.good p hp).rise.ne)
    ·exact List.pairwise_map.2 ((k.qok p hp).ids)
    ·obtain ⟨o,ho,rfl⟩:=List.mem_map.1 ha
     obtain ⟨v,hv,rfl⟩:=List.mem_map.1 hc2;have:=ZbZ.1 (k.noHold hp hv) o ho;exact this e
   ·obtain ⟨q,hq,hcq⟩:=List.mem_flatMap.1 hc2
    obtain ⟨x,hx,e1,e2⟩:=Zi5 k hp ha;obtain ⟨y,hy,e3,e4⟩:=Zi5 k (hl q (by simp [hq])) hcq;have hxy:=k.uniq hx hy (by omega);have:=hc.1 q hq;rw [hxy] at e2;omega
 exact key b.fl (λ _ h=>h) k.nums
theorem ZpI (k:Core b):things b.fl=b.L.length:=by
 have e0:b.L.length=(b.L.map Bk.id).length:=(List.length_map Bk.id).symm;rw [<-Zoa,e0];refine ZqQ (ZpG k) (List.pairwise_map.2 k.ids.ne) λ i=>?_;constructor
 ·intro h
  obtain ⟨p,hp,hi⟩:=List.mem_flatMap.1 h;obtain ⟨x,hx,e,_⟩:=Zi5 k hp hi;exact List.mem_map.2 ⟨x,hx,e⟩
 ·intro h
  obtain ⟨x,hx,rfl⟩:=List.mem_map.1 h;obtain ⟨p,hp,e⟩:=k.there x hx;have hh:=(k.loc p hp).has x hx e.symm;refine List.mem_flatMap.2 ⟨p,hp,List.mem_append.2 ?_⟩;unfold Zgn at hh;split at hh
  ·obtain ⟨⟨w,hw,e1,_⟩,_⟩:=hh
   exact .inr (List.mem_map.2 ⟨w,hw,e1⟩)
  ·obtain ⟨o,ho,e1,_⟩:=hh
   exact .inl (List.mem_map.2 ⟨o,ho,e1⟩)
theorem Zur (k:Zaz b):ZuH b:=by
 refine ⟨k.core.next.1,k.core.nums,k.core.ids,λ x hx=>?_,ZpI k.core⟩;have hb:=k.core.each x hx;obtain ⟨p,hp⟩:=k.core.at_of hx;obtain ⟨hp1,hp2⟩:=ZaR hp;exact ⟨hb.id,hb.state.1,k.time x hx,hb.free,p,hp,(k.core.loc p hp1).has x hx hp2.symm⟩
theorem Zlj (k:Zaz b):Zdf (Zba b)=some b:=by
 unfold Zdf;rw [Zqj k.core];dsimp only;rw [if_pos ⟨rfl,Zur k⟩]
end
end
end Go.Proofs.YtfgbbckfikiomaaGreatDoor
