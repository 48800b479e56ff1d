/- A flight, plain: Auto; its state. Condition: none. -/
import Derived.Test.YtlplemdmegpoeaaGreatDoorB3
import Derived.Test.YtlplemdmegpoeaaGreatDoorB2
set_option linter.unusedVariables false
set_option linter.unusedSimpArgs false
set_option maxHeartbeats 8000000
namespace Go.Proofs.YtlplemdmegpoeaaGreatDoor
section
open Go Go.VC Tryz
theorem Znr {u u':Nat->Bool} {x:Int} (h:∀ j:Nat,u' j=true->u j=true\/(j:Int)=x):∀ N:Nat,(ZF u N).length<=(ZF u' N).length + (if x<N/\0<=x then 1 else 0)
 |0=>by simp [ZF]
 |N + 1=>by
  have ih:=Znr h N;rw [ZbD,ZbD];by_cases e:u N=true
  ·rw [if_pos e]
   split at ih<;>split<;>split<;>omega
  ·rw [if_neg e]
   by_cases e2:u' N=true
   ·rw [if_pos e2]
    have e3:(N:Int)=x:=(h N e2).resolve_left e;rw [if_neg (by omega)] at ih;rw [if_pos (by omega)];omega
   ·rw [if_neg e2]
    split at ih<;>split<;>omega
theorem Zns:∀ (T:List Int) (N:Nat),N<=(ZF (Za6 T) N).length + T.length
 |[],N=>by
  have key:∀ N:Nat,(ZF (Za6 []) N).length=N:=λ N=>by
   induction N with
   |zero=>rfl
   |succ N ih=>rw [ZbD,ih];simp [Za6]
  rw [key];omega
 |x::T,N=>by
  have ih:=Zns T N;have h1:=Znr (u:=Za6 T) (u':=Za6 (x::T)) (x:=x) (λ j hj=>by
   unfold Za6 at hj ⊢;rw [decide_eq_true_eq] at hj ⊢;rcases List.mem_cons.1 hj with h|h
   ·exact .inr h
   ·exact .inl h) N
  rw [List.length_cons];split at h1<;>omega
theorem ZwY {n:Int} {g taken:List Int} {many:Int}:∀ x∈(Z0 n g taken many).1,(0<=x/\x<Zaw n g)/\x ∉ taken:=by
 intro x hx;have hb:=ZbR n g;have nat:∀ j:Nat,j<(Zaw n g).toNat->Za6 taken j=false->(0<=(j:Int)/\(j:Int)<Zaw n g)/\(j:Int) ∉ taken:=λ j h1 h2=>by
  refine ⟨by omega,?_⟩;unfold Za6 at h2;exact of_decide_eq_false h2
 unfold Z0 at hx;split at hx
 ·cases hx
 rename_i hm;obtain ⟨j,hj,rfl⟩:=List.mem_map.1 hx;unfold Zc8 at hj;split at hj
 ·rename_i i hfi
  have h1:=List.find?_some hfi;have h2:=List.mem_range.1 (List.mem_of_find?_eq_some hfi);have h3:many.toNat<=Zd2 (Za6 taken) (zF g) (i + 1):=by rw [beq_iff_eq.1 h1];exact Nat.le_refl _
  obtain ⟨h4,h5⟩:=ZiY.1 h3;unfold ZhM at hj;obtain ⟨t,ht,rfl⟩:=List.mem_map.1 hj;have ht:=List.mem_range.1 ht;exact nat _ (by omega) (h5 _ (by omega) (by omega)).1
 ·split at hj
  ·cases hj
  ·obtain ⟨i,hi⟩:=List.getElem?_of_mem (List.mem_of_mem_take hj)
   obtain ⟨h1,h2,_⟩:=ZcA hi;exact nat j h1 h2
theorem Ztp {n:Int} {g taken:List Int} {many:Int} (h:(Z0 n g taken many).2=0):((Z0 n g taken many).1.length:Int)=many:=by
 unfold Z0 at h ⊢;split at h
 ·cases h
 rename_i hm;rw [if_neg hm];rw [List.length_map];dsimp only at h;unfold Zc8 at h ⊢;generalize (List.range (Zaw n g).toNat).find? (λ j=>Zd2 (Za6 taken) (zF g) (j + 1)==many.toNat)=o at h ⊢;cases o with
 |some i=>
  dsimp only;rw [Zgl];omega
 |none=>
  dsimp only at h ⊢;split at h
  ·cases h
  ·rename_i h2
   rw [if_neg h2,List.length_take];omega
theorem ZwX {n:Int} {g taken:List Int} {many:Int} (h1:1<=many) (h2:many + taken.length<=Zaw n g):(Z0 n g taken many).2=0:=by
 have hb:=ZbR n g;unfold Z0;rw [if_neg (by omega)];dsimp only;unfold Zc8;split
 ·rfl
 ·rw [if_neg]
  have:=Zns taken (Zaw n g).toNat;omega
theorem ZrS {n:Int} {g a b:List Int} {many:Int} (h:∀ x,x∈a↔x∈b):Z0 n g a many=Z0 n g b many:=by
 have:Za6 a=Za6 b:=by
  funext j
  unfold Za6;rw [decide_eq_decide];exact h _
 unfold Z0;rw [this]
variable {f:PF} {r:RF}
theorem Zkc:∀ {L:List Zu},(∀ h∈L,(h.seats.length:Int)<=h.many)->((ZA L).length:Int)<=Zlw L
 |[],_=>Int.le_refl _
 |h::L,hf=>by
  have ih:=Zkc λ x hx=>hf x (List.mem_cons_of_mem _ hx);have h1:=hf h List.mem_cons_self;show ((h.seats++ZA L).length:Int)<=h.many + Zlw L;rw [List.length_append];omega
theorem Zpq {A B:List Zu} (h:A.Perm B):Zlw A=Zlw B:=by
 induction h with
 |nil=>rfl
 |cons x _ ih=>simp only [Zlw,ih]
 |swap x y l=>simp only [Zlw];exact Int.add_left_comm _ _ _
 |trans _ _ a b=>exact a.trans b
theorem ZaP.tot (g:ZaP r):Zlw r.L<=Zaw r.rows r.grps:=by
 rw [<-Zj9 (n:=r.lims.length) λ h hh=>(g.each h hh).cls,<-g.l0];have hl:=(Zak.1 (ZL.1 g.nest).1).1.1;exact ((ZL.1 g.nest).2.2 0 (by omega)).2
theorem ZqP:∀ {L:List Zu},(∀ h∈L,1<=h.many)->(L.length:Int)<=Zlw L/\∀ h∈L,h.many<=Zlw L
 |[],_=>⟨Int.le_refl _,by simp⟩
 |h::L,hm=>by
  obtain ⟨i1,i2⟩:=ZqP λ x hx=>hm x (List.mem_cons_of_mem _ hx);have h1:=hm h List.mem_cons_self;have e:Zlw (h::L)=h.many + Zlw L:=rfl;rw [e,List.length_cons];refine ⟨by omega,λ x hx=>?_⟩;rcases List.mem_cons.1 hx with rfl|hx
  ·omega
  ·have:=i2 x hx;omega
theorem ZaP.len (g:ZaP r):(r.L.length:Int)<=600/\∀ h∈r.L,h.many<=600:=by
 obtain ⟨h1,h2⟩:=ZqP λ h hh=>(g.each h hh).many;have h3:=g.tot;have h4:=(ZbR r.rows r.grps).2;exact ⟨by omega,λ h hh=>by have:=h2 h hh;omega⟩
theorem ZaP.best (g:ZaP r) {A C:List Zu} {h:Zu} (hL:r.L=A++h::C) (hs:h.seats=[]):(Z0 r.rows r.grps (ZA r.L) h.many).2=0:=by
 have hh:=g.each h (by rw [hL];simp);refine ZwX hh.many ?_;have h1:=g.tot;have p:r.L.Perm (h::(A++C)):=by rw [hL];exact List.perm_middle
 rw [Zpq p] at h1;have e1:Zlw (h::(A++C))=h.many + Zlw (A++C):=rfl;have e2:(ZA r.L).length=(ZA (A++C)).length:=by
  rw [hL];unfold ZA;rw [List.flatMap_append,List.flatMap_cons,hs,List.nil_append,<-List.flatMap_append]
 have e3:=Zkc (L:=A++C) λ x hx=>(g.each x (by rw [hL];exact Zje hx)).few;omega
theorem ZiT (t:Tie f r) (g:ZaP r) (o:Int):
  (Zgj f o).2=(ZM r o).2/\Tie (Zgj f o).1 (ZM r o).1/\ZaP (ZM r o).1/\((ZM r o).2.2=0\/(ZM r o).2.2=2\/(ZM r o).2.2=7):=by
 unfold Zgj ZM;rw [t.get g.rise];cases hg:ZbB o r.L with
 |none=>exact ⟨rfl,t,g,.inr (.inl rfl)⟩
 |some h=>
  obtain ⟨A,C,hL,hA,rfl⟩:=Zat hg;have hh:=g.each h (by rw [hL];simp);dsimp only;split
  ·exact ⟨rfl,t,g,.inr (.inr rfl)⟩
  rename_i hs;have hs:h.seats=[]:=List.length_eq_zero_iff.1 (by omega);have e:Z0 f.rows f.grps (f.own.map (·.1)) h.many=Z0 r.rows r.grps (ZA r.L) h.many:=by
   rw [t.rows,t.grps];exact ZrS λ x=>by rw [<-t.taken,Zff]
  have hb:=g.best hL hs;have hin:=ZwY (n:=r.rows) (g:=r.grps) (taken:=ZA r.L) (many:=h.many);have hri:=Zlr (n:=r.rows) (g:=r.grps) (taken:=ZA r.L) (many:=h.many);have hct:=Ztp hb;rw [if_pos hb,e,show Za3 f.rows f.grps=Za3 r.rows r.grps by rw [t.rows,t.grps]];have hset:ZnZ h.owner { h with seats:=(Z0 r.rows r.grps (ZA r.L) h.many).1 } r.L=A++{ h with seats:=(Z0 r.rows r.grps (ZA r.L) h.many).1 }::C:=by rw [hL];exact Zde rfl hA
  rw [hset,hb];generalize (Z0 r.rows r.grps (ZA r.L) h.many).1=l at *;obtain ⟨p1,p2⟩:=Zor (o:=h.owner) (l:=l) t.nod;refine ⟨rfl,ZlB (h':={ h with seats:=l }) t g hL hA rfl rfl rfl (λ x hx=>.inr (hin x hx).2) p1 λ x=>?_,Zju (h':={ h with seats:=l }) g hL rfl rfl rfl hri ?_ λ x hx=>.inr ⟨(hin x hx).2,(hin x hx).1⟩,.inl rfl⟩
  ·rw [p2,hs]
   rw [if_neg (by simp:¬ x∈([]:List Int))]
  ·show (l.length:Int)<=h.many
   omega
theorem ZmM (t:Tie f r) (g:OwR r.L):(f.hs.map (·.1)).Perm (r.L.map Zu.owner):=by
 have e:f.hs.map (·.1)=(f.hs.map (·.2)).map Zu.owner:=by
  rw [List.map_map];exact List.map_congr_left λ e he=>(t.key e he).symm
 rw [e];exact t.hs.map _
theorem Zsq (t:Tie f r) (g:OwR r.L):Zgg (f.hs.map (·.1))=r.L.map Zu.owner:=by
 rw [Zd1 (ZmM t g)];unfold Zgg;refine List.mergeSort_of_pairwise ?_;rw [List.pairwise_map];exact g.imp λ h=>by simp only [decide_eq_true_eq];omega
theorem Zka (t:Tie f r) (g:OwR r.L):Zem f=r.L:=by
 unfold Zem;rw [Zsq t g,List.map_map];have key:∀ h∈r.L,(Zen f ∘ Zu.owner) h=h:=λ h hh=>by
  show (ZH h.owner f.hs).getD Zxw=h;rw [t.get g,(Zfe g.ne).2 ⟨hh,rfl⟩];rfl
 rw [List.map_congr_left key,List.map_id']
theorem Zsr (t:Tie f r):Zip f=Zj r:=by
 unfold Zip Zj;rw [t.lims,t.sold]
theorem ZnR (t:Tie f r) (g:OwR r.L) (o:Int):ZeH f o=ZY r o:=by
 unfold ZeH ZY;rw [t.get g,t.rows,t.grps]
 try (cases ZbB o r.L<;>rfl)
theorem Tie.nodK (t:Tie f r) (g:OwR r.L):(f.hs.map (·.1)).Nodup:=by
 refine ((ZmM t g).nodup_iff).2 ?_;rw [List.nodup_iff_pairwise_ne,List.pairwise_map];exact g.ne
theorem Tie.mem (t:Tie f r) {e:Int × Zu} (he:e∈f.hs):e.2∈r.L:=t.hs.mem_iff.1 (List.mem_map.2 ⟨e,he,rfl⟩)
theorem Tie.ownIn (t:Tie f r) (g:ZaP r):∀ k∈f.own.map (·.1),0<=k/\k<Zaw r.rows r.grps:=λ k hk=>by
 obtain ⟨o,ho⟩:=Option.isSome_iff_exists.1 (Zff.2 hk);obtain ⟨h,hh,_,hs⟩:=(t.own k o).1 ho;exact (g.each h hh).seats k hs
theorem Zi9:∀ (N:Nat) {l:List Int},l.Nodup->(∀ x∈l,0<=x/\x<N)->l.length<=N
 |0,[],_,_=>Nat.le_refl _
 |0,x::l,_,hb=>by have:=hb x List.mem_cons_self;omega
 |N + 1,l,h,hb=>by
  by_cases hm:(N:Int)∈l
  ·have h1:=Zi9 N (h.erase (N:Int)) λ x hx=>by
    have h2:=(h.mem_erase_iff).1 hx;have:=hb x h2.2;have:=h2.1;omega
   rw [List.length_erase_of_mem hm] at h1;omega
  ·have h1:=Zi9 N h λ x hx=>by
    have:=hb x hx;have:x≠N:=λ e=>hm (by rw [<-e];exact hx);omega
   omega
theorem Tie.bounds (t:Tie f r) (g:ZaP r):f.hs.length<=600/\f.own.length<=600/\f.lims.length<=8/\f.sold.length<=8/\f.grps.length<=4/\(∀ e∈f.hs,Zpc e.2.seats/\e.2.seats.length<=600)/\(∀ k∈f.hs.map (·.1),1<=k/\k<=28629151):=by
 have hl:=g.len;have h1:=t.hs.length_eq;rw [List.length_map] at h1;have h2:=Zi9 (Zaw r.rows r.grps).toNat t.nod λ x hx=>by have:=t.ownIn g x hx;omega
 rw [List.length_map] at h2;have h3:=ZbR r.rows r.grps;have h4:=(Zak.1 (ZL.1 g.nest).1).1.2;have h5:=(ZW.1 g.lay).1;refine ⟨by omega,by omega,by rw [t.lims];exact h4,by rw [t.sold];show (Z2 _ _).length<=8;rw [ZaI];exact h4,by rw [t.grps];omega,λ e he=>?_,λ k hk=>?_⟩
 ·have hh:=g.each _ (t.mem he)
  have:=hl.2 _ (t.mem he);exact ⟨hh.rise,by have:=hh.few;omega⟩
 ·obtain ⟨e,he,rfl⟩:=List.mem_map.1 hk
  have hh:=g.each _ (t.mem he);have:=hh.owner;rw [t.key e he] at this;exact this
def ZdA (num rows:Int) (grps lims:List Int):RF:=⟨num,rows,grps,lims,[]⟩
theorem Zgy {num rows:Int} {grps:List Int} {parts:List Nat} (h:ZeE num rows grps parts):ZaP (ZdA num rows grps (ZB (Zaw rows grps) parts).1):=by
 obtain ⟨h1,h2,h3,h4⟩:=h;obtain ⟨l1,l2⟩:=ZqM h4;refine ⟨⟨h1,h2⟩,h3,?_,l2,List.Pairwise.nil,λ h hh=>(by cases hh),List.Pairwise.nil⟩;show Z8 _ (Z2 _ [])=true;rw [ZeQ];exact Zg4 l1
theorem Zpu {num rows:Int} {grps lims:List Int}:Tie (ZdQ num rows grps lims) (ZdA num rows grps lims):=by
 refine ⟨rfl,rfl,rfl,rfl,?_,List.Perm.refl _,λ e he=>(by cases he),λ n o=>?_,List.nodup_nil⟩
 ·show List.replicate _ 0=Z2 _ []
  rw [ZeQ];rfl
 ·constructor
  ·intro h;cases h
  ·rintro ⟨h,hh,_⟩;cases hh
end
section
open Go Go.VC Tryz
variable {R R':Cx} {Hs Rest:List HP} {w:World}
section
variable {γ:Type} (f:Zu × Sl->γ)
theorem ZiL (h:Zu) (t:Sl):∀ (k:Nat) (L:List Zu) (ts:List Sl),ts.length=L.length->k<=L.length->((L.take k++h::L.drop k).zip (ts.take k++t::ts.drop k)).map f=((L.zip ts).map f).take k++f (h,t)::((L.zip ts).map f).drop k
 |0,L,ts,_,_=>by simp
 |k + 1,[],ts,_,hk=>by simp at hk
 |k + 1,x::L,[],hl,_=>by simp at hl
 |k + 1,x::L,y::ts,hl,hk=>by
  have ih:=ZiL h t k L ts (by simpa using hl) (by simpa using hk);simp only [List.take_succ_cons,List.drop_succ_cons,List.cons_append,List.zip_cons_cons,List.map_cons,ih]
theorem ZiM:∀ (k:Nat) (L:List Zu) (ts:List Sl),ts.length=L.length->k<L.length->((L.take k++L.drop (k + 1)).zip (ts.take k++ts.drop (k + 1))).map f=((L.zip ts).map f).take k++((L.zip ts).map f).drop (k + 1)
 |k,[],ts,_,hk=>by simp at hk
 |k,x::L,[],hl,_=>by simp at hl
 |0,x::L,y::ts,_,_=>by simp
 |k + 1,x::L,y::ts,hl,hk=>by
  have ih:=ZiM k L ts (by simpa using hl) (by simpa using hk);simp only [List.take_succ_cons,List.drop_succ_cons,List.cons_append,List.zip_cons_cons,List.map_cons,ih]
theorem ZiK (h:Zu) (t:Sl):∀ (k:Nat) (L:List Zu) (ts:List Sl),((L.set k h).zip (ts.set k t))=(L.zip ts).set k (h,t)
 |k,[],ts=>by simp
 |k,x::L,[]=>by simp
 |0,x::L,y::ts=>by simp
 |k + 1,x::L,y::ts=>by
  have ih:=ZiK h t k L ts;simp only [List.set_cons_succ,List.zip_cons_cons,ih]
end
theorem ZpR {L:List Zu} {ts:List Sl} {k:Nat} (hl:ts.length=L.length) (hk:k<=L.length) (h:Zu) (t:Sl):Zap (L.take k++h::L.drop k) (ts.take k++t::ts.drop k)=(Zap L ts).take k++[Zgq h t]++(Zap L ts).drop k:=by
 rw [List.append_assoc];exact ZiL (λ x=>Zgq x.1 x.2) h t k L ts hl hk
theorem ZpS {L:List Zu} {ts:List Sl} {k:Nat} (hl:ts.length=L.length) (hk:k<L.length):Zap (L.take k++L.drop (k + 1)) (ts.take k++ts.drop (k + 1))=(Zap L ts).take k++(Zap L ts).drop (k + 1):=ZiM (λ x=>Zgq x.1 x.2) k L ts hl hk
theorem Z6.ins {L:List Zu} {ts:List Sl} {k:Nat} {h:Zu} {t:Sl} (hl:ts.length=L.length) (hk:k<=L.length) (hw:Sat R (Zt t (Zc h.seats)::Z6 L ts::Hs) w):Sat R (Z6 (L.take k++h::L.drop k) (ts.take k++t::ts.drop k)::Hs) w:=by
 refine Sat.star.2 ?_;rw [show ZV (L.take k++h::L.drop k) (ts.take k++t::ts.drop k)=(ZV L ts).take k++Zt t (Zc h.seats)::(ZV L ts).drop k from ZiL (λ x=>Zt x.2 (Zc x.1.seats)) h t k L ts hl hk]
 have hw:Sat R (Zt t (Zc h.seats)::(ZV L ts++Hs)) w:=hw.cons λ _ h=>Sat.star.1 h;refine hw.perm ?_;rw [List.append_assoc,List.cons_append];refine (List.Perm.trans ?_ List.perm_middle.symm);rw [<-List.append_assoc,List.take_append_drop]
theorem Z6.pick {L:List Zu} {ts:List Sl} {k:Nat} (hk:k<L.length) (hk':k<ts.length) (hw:Sat R (Z6 L ts::Hs) w):Sat R (Zt ts[k] (Zc L[k].seats)::((ZV L ts).take k++(ZV L ts).drop (k + 1)++Hs)) w:=by
 have hw:=Sat.star.1 hw;have hlt:k<(ZV L ts).length:=by simp [ZV];omega
 have e:ZV L ts=(ZV L ts).take k++Zt ts[k] (Zc L[k].seats)::(ZV L ts).drop (k + 1):=by
  have h1:(ZV L ts)[k]=Zt ts[k] (Zc L[k].seats):=by simp [ZV]
  rw [<-h1,<-List.drop_eq_getElem_cons hlt,List.take_append_drop]
 rw [e,List.append_assoc,List.cons_append] at hw;rw [List.append_assoc];exact hw.perm List.perm_middle
theorem Z6.del {L:List Zu} {ts:List Sl} {k:Nat} (hl:ts.length=L.length) (hk:k<L.length) (hw:Sat R (Z6 L ts::Hs) w):Sat R (Z6 (L.take k++L.drop (k + 1)) (ts.take k++ts.drop (k + 1))::Hs) w:=by
 have hw:=(Z6.pick hk (by omega) hw).drop;refine Sat.star.2 ?_;rw [show ZV (L.take k++L.drop (k + 1)) (ts.take k++ts.drop (k + 1))=(ZV L ts).take k++(ZV L ts).drop (k + 1) from ZiM (λ x=>Zt x.2 (Zc x.1.seats)) k L ts hl hk]
 exact hw
theorem Z6.set {L:List Zu} {ts:List Sl} {k:Nat} {h:Zu} {t:Sl} (hl:ts.length=L.length) (hk:k<L.length) (hw:Sat R (Zt t (Zc h.seats)::Z6 L ts::Hs) w):Sat R (Z6 (L.set k h) (ts.set k t)::Hs) w:=by
 have hw:Sat R (Zt t (Zc h.seats)::((ZV L ts).take k++(ZV L ts).drop (k + 1)++Hs)) w:=hw.cons λ _ h5=>(Z6.pick hk (by omega) h5).drop;refine Sat.star.2 ?_;have hlt:k<(ZV L ts).length:=by simp [ZV];omega
 rw [show ZV (L.set k h) (ts.set k t)=(ZV L ts).take k++Zt t (Zc h.seats)::(ZV L ts).drop (k + 1) by
  unfold ZV at hlt ⊢;rw [ZiK,List.map_set,List.set_eq_take_append_cons_drop,if_pos hlt]]
 refine hw.perm ?_;rw [List.append_assoc,List.append_assoc,List.cons_append];exact List.perm_middle.symm
theorem RfR.row {A C:List Zu} {hd:Zu} {r:RF} {sg sl s:Sl} {ts:List Sl} (h:RfR R r sg sl s ts) (hL:r.L=A++hd::C):∃ (t:Sl) (ht:A.length<ts.length),ts[A.length]=t/\SlR R.m t (Zc hd.seats)/\
  ∀ {S:World->Prop} {Hs:List HP} {i:Nat} {v:Value},(∀ w,S w->Sat R Hs w)->(Zgq hd t)[i]? =some v->∀ {F:Addr->Prop},(∀ a:Addr,a.spot=none->At S ⟨(a.add (ZaD A.length 4)).block,(a.add (ZaD A.length 4)).off + i,none⟩ [v]->F a)->Rng (A.length:Int) s.len (Zb s.a F):=by
 have hl:=h.hs.len;have i1:A.length<r.L.length:=by rw [hL];simp
 have i2:A.length<ts.length:=by omega
 have hgi:r.L[A.length]=hd:=by simp [hL]
 have hsd:=h.hs.seats A.length i1 i2;rw [hgi] at hsd;exact ⟨_,i2,rfl,hsd,λ {S Hs i v} hS hv {F} f=>h.hs.fld hS i1 i2 (by rw [hgi];exact hv) f⟩
theorem ZsU {A C:List Zu} {hd:Zu}:(A++hd::C).take A.length++(A++hd::C).drop (A.length + 1)=A++C:=by simp
theorem Zux {A C:List Zu} {hd h':Zu}:(A++hd::C).set A.length h'=A++h'::C:=by simp
theorem Zgp (L:List Zu) (ts:List Sl):ZR (Zap L ts).flatten=true:=by
 have key:∀ E:List (Zu × Sl),ZR ((E.map λ x=>Zgq x.1 x.2).flatten)=true:=λ E=>by
  induction E with
  |nil=>rfl
  |cons x E ih=>
   show ZR (Zgq x.1 x.2++_)=true;unfold ZR at ih ⊢;rw [List.all_append,ih];rfl
 exact key _
theorem Zg1 {l:List (List Value)} (k:Nat) (h:ZR l.flatten=true):ZR (l.take k).flatten=true:=by
 have e:l.flatten=(l.take k).flatten++(l.drop k).flatten:=by rw [<-List.flatten_append,List.take_append_drop]
 unfold ZR at *;rw [e,List.all_append,Bool.and_eq_true] at h;exact h.1
theorem Zg3 {l:List (List Value)} (k:Nat) (h:ZR l.flatten=true):ZR (l.drop k).flatten=true:=by
 have e:l.flatten=(l.take k).flatten++(l.drop k).flatten:=by rw [<-List.flatten_append,List.take_append_drop]
 unfold ZR at *;rw [e,List.all_append,Bool.and_eq_true] at h;exact h.2
theorem Zof {num rows:Int} {sg sp:Sl} {grps:List Int} {parts:List Nat} (hg:RoI R sg grps) (hp:SlR R.m sp (Zj2 parts)) (hw:Sat R Hs w):
  Zk prog 109 #[nI num,.agg #[nI rows,.slice sg.a sg.len sg.cap],.slice sp.a sp.len sp.cap] w λ v w'=>
   (¬ ZeE num rows grps parts/\v=.tuple #[.pointer none,nI 1]/\Sat R Hs w')\/
   (ZeE num rows grps parts/\∃ p,v=.tuple #[nP p,nI 0]/\Sat R (Zbi p (ZdA num rows grps (ZB (Zaw rows grps) parts).1)::Hs) w'):=by
 apply ZwM
 suffices H:∀ K:nK,(¬ ZeE num rows grps parts->∀ w',Sat R Hs w'->K (.tuple #[.pointer none,nI 1]) w')->(ZeE num rows grps parts->∀ p w',Sat R (Zbi p (ZdA num rows grps (ZB (Zaw rows grps) parts).1)::Hs) w'->K (.tuple #[nP p,nI 0]) w')->B109 num rows sg sp K w from
  H _ (λ h w' h'=>.inl ⟨h,rfl,h'⟩) λ h p w' h'=>.inr ⟨h,p,rfl,h'⟩
 intro K hK1 hK2;refine Za hw λ b4 w hw=>?_;have hw:Sat R (pts b4 (Zb5 rows sg)::Hs) w:=hw;refine ⟨rows,sg,oA hw,?_⟩;refine (Zex hg hw).u λ w hw=>?_;refine ⟨_,rfl,λ w=>(¬ num<1/\¬ num>9999/\ZcR rows grps=true)/\Sat R (pts b4 (Zb5 rows sg)::Hs) w,?_,?_⟩
 ·refine Br.d (λ h=>hK1 (λ h2=>by have:=h2.1;omega) _ hw.drop) (λ h1=>Br.d (λ h=>hK1 (λ h2=>by have:=h2.2.1;omega) _ hw.drop) (λ h2=>Br.nb (λ h=>hK1 (λ h5=>by have h6:=h5.2.2.1;rw [h] at h6;cases h6) _ hw.drop) (λ h3=>⟨⟨h1,h2,h3⟩,hw⟩)))
 clear hw;rintro _ w ⟨⟨h1,h2,h3⟩,hw⟩;refine ⟨rows,sg,oA hw,?_⟩;refine (Zco hg hw).u λ w hw=>?_;refine ⟨_,rfl,?_⟩;refine (ZkB hp hw).u1 λ t w hw=>?_;refine ⟨_,_,rfl,Br.ne (λ h=>hK1 (λ h5=>h h5.2.2.2) _ hw.drop.drop) (λ h4=>?_)⟩;obtain ⟨l1,_,_⟩:=ZW.1 h3;have hgl:=hg.len;refine Za hw λ b5 w hw=>?_;refine ⟨sg,oA hw,?_⟩;refine Zgb (b:=b5) ZiC hw (Zst underlying30 hw hg (Zg2 grps)) (by rw [List.length_map];omega) (by rw [List.length_map];omega) λ tg w hw=>?_;have hw:Sat R (pts b4 (Zb5 rows sg)::Own tg 3 (Zc grps)::Own t 3 (Zc (ZB (Zaw rows grps) parts).1)::Hs) w:=hw.arr;refine sRu hw λ w hw=>?_;have hw:Sat R (pts b4 (Zb5 rows tg)::Own tg 3 (Zc grps)::Own t 3 (Zc (ZB (Zaw rows grps) parts).1)::Hs) w:=hw;refine ⟨rows,tg,oA hw,?_⟩;refine Za hw λ p w hw=>?_;have hw:Sat R (pts p (Zx (ZdA num rows grps (ZB (Zaw rows grps) parts).1) tg t ⟨none,0,0⟩)::pts b4 (Zb5 rows tg)::Own tg 3 (Zc grps)::Own t 3 (Zc (ZB (Zaw rows grps) parts).1)::Hs) w:=hw;refine hK2 ⟨by omega,by omega,h3,h4⟩ p w (Sat.rf.2 ⟨tg,t,⟨none,0,0⟩,[],rfl,?_⟩);have hw:Sat R (Own tg 3 (Zc grps)::Own t 3 (Zc (ZB (Zaw rows grps) parts).1)::pts p (Zx (ZdA num rows grps (ZB (Zaw rows grps) parts).1) tg t ⟨none,0,0⟩)::Hs) w:=(hw.arr:Sat R (pts b4 (Zb5 rows tg)::Own tg 3 (Zc grps)::Own t 3 (Zc (ZB (Zaw rows grps) parts).1)::pts p (Zx (ZdA num rows grps (ZB (Zaw rows grps) parts).1) tg t ⟨none,0,0⟩)::Hs) w).drop;exact Own.reads (hw.cons λ _ h=>Own.reads (h.cons λ _ h=>h.cons λ _ h=>Zl.nil (Sat.star.2 h)))
theorem Zmg {h:Zu}:∀ {L:List Zu} {k:Nat},k<=L.length->(∀ i (hi:i<L.length),i<k->L[i].owner<h.owner)->(∀ hk:k<L.length,¬ L[k].owner<h.owner)->Zhi h L=L.take k++h::L.drop k
 |[],k,_,_,_=>by simp [Zhi]
 |x::L,0,_,_,h2=>by
  have:¬ x.owner<h.owner:=h2 (by simp);unfold Zhi;rw [if_neg this];rfl
 |x::L,k + 1,hk,h1,h2=>by
  have h3:x.owner<h.owner:=h1 0 (by simp) (by omega);unfold Zhi;rw [if_pos h3,Zmg (by simpa using hk) (λ i hi hik=>h1 (i + 1) (by simpa using hi) (by omega)) (λ hk'=>h2 (by simpa using hk'))];rfl
theorem Ziw {o:Int} {L:List Zu}:(0<=Zcq o L 0)↔(ZbB o L).isSome=true:=by
 cases hg:ZbB o L with
 |none=>rw [ZbP 0 hg];simp
 |some h=>
  obtain ⟨A,C,rfl,hA,ho⟩:=Zat hg;rw [Zbr ho 0 hA];simp
theorem ZgR {q:Nat} {r:RF} {owner cls many:Int} (hll:r.L.length<=1000000) (hlm:r.lims.length<=1000) (hc:∀ x∈r.L,Zyy r.lims.length x) (hw:Sat R (Zbi q r::Hs) w):
  Zk prog 111 #[nP q,nI owner,nI cls,nI many] w λ v w'=>v=nI (Zw r owner cls many).2/\Sat R (Zbi q (Zw r owner cls many).1::Hs) w':=by
 apply ZwK
 suffices H:∀ K:nK,(∀ w',Sat R (Zbi q (Zw r owner cls many).1::Hs) w'->K (nI (Zw r owner cls many).2) w')->B111 (some ⟨q,0,none⟩) owner cls many K w from H _ λ w' h=>⟨rfl,h⟩
 intro K hK;refine ⟨λ w=>(1<=owner/\owner<=28629151)/\Sat R (Zbi q r::Hs) w,?_,?_⟩
 ·refine Br.d (λ h=>?_) (λ h1=>Br.d (λ h=>?_) (λ h2=>⟨⟨by omega,by omega⟩,hw⟩))
  ·rw [show Zw r owner cls many=(r,1) by unfold Zw;rw [if_pos (.inl h)]] at hK;exact hK _ hw
  ·rw [show Zw r owner cls many=(r,1) by unfold Zw;rw [if_pos (.inr h)]] at hK;exact hK _ hw
 clear hw;rintro _ w ⟨⟨h1,h2⟩,hw⟩;obtain ⟨sg,sl,s,ts,R',ee,h,hw,back,hl⟩:=Sat.rfO hw;have hsl:=h.len;have same:∀ {w},Sat R' (pts q (Zx r sg sl s)::Hs) w->Sat R (Zbi q r::Hs) w:=λ hw=>Sat.rf.2 ⟨sg,sl,s,ts,hl,back _ _ hw⟩;have hsold:(Z2 r.lims.length r.L).length=r.lims.length:=ZaI _ _;refine (Zcl h hll hw).u λ w hw=>?_;refine ⟨_,rfl,Br.d (λ h3=>?_) (λ h3=>?_)⟩
 ·rw [show Zw r owner cls many=(r,7) by unfold Zw;rw [if_neg (by omega),if_pos (Ziw.1 h3)]] at hK;exact hK _ (same hw)
 have hno:¬ (ZbB owner r.L).isSome=true:=λ e=>h3 (Ziw.2 e);have er:Zw r owner cls many=if (ZaE r.lims r.sold cls many).2=0 then ({ r with L:=Zhi ⟨owner,cls,many,[]⟩ r.L },0) else (r,(ZaE r.lims r.sold cls many).2):=by
  unfold Zw;rw [if_neg (by omega),if_neg hno]
 rw [er] at hK;refine Zq hw λ w hw=>?_;refine Zb.mk rfl ⟨sl,oS,?_⟩;refine (Zh7 h hll hlm hc hw).u1 λ t w hw=>?_;refine ⟨t,rfl,hw.drop,?_⟩;obtain ⟨R2,hro,keep,hw,back2⟩:=Own.lendI hw (by show (Z2 _ _).length<=_;rw [ZaI];omega);refine (Zn5 (keep _ _ (h.lims.ro)) hro hw).u1 λ t2 w hw=>?_;have hw:=(back2 hw).drop.drop;refine ⟨_,_,rfl,Br.ne (λ h4=>?_) (λ h4=>?_)⟩
 ·rw [if_neg h4] at hK;exact hK _ (same hw)
 rw [if_pos h4] at hK;refine ⟨λ at11 w=>(∃ k:Nat,at11=k/\k<=r.L.length/\Zhi ⟨owner,cls,many,[]⟩ r.L=r.L.take k++⟨owner,cls,many,[]⟩::r.L.drop k)/\Sat R' (pts q (Zx r sg sl s)::Hs) w,?_,?_⟩
 ·refine ⟨λ at11 w=>∃ k:Nat,at11=k/\k<=r.L.length/\(∀ i (hi:i<r.L.length),i<k->r.L[i].owner<owner)/\Sat R' (pts q (Zx r sg sl s)::Hs) w,λ at11 _=>r.L.length - at11.toNat,⟨0,rfl,by omega,λ i _ hi=>by omega,hw⟩,?_⟩
  clear hw;rintro _ _ w ⟨k,rfl,hk,hlt,hw⟩;refine Zb.mk rfl ⟨s,oA hw,Br.d (λ h5=>?_) (λ h5=>?_)⟩
  ·have k1:k<r.L.length:=by omega
   refine Zb.mk rfl ⟨s,oA hw,?_⟩;refine h.hs.fld (j:=0) (eqS hw) k1 (by omega) rfl λ x nx hx=>⟨r.L[k].owner,by rw [Zgc _ _ nx];exact hx,?_⟩;refine Br.d (λ h6=>?_) (λ h6=>?_)
   ·rw [Zd]
    refine ⟨⟨k + 1,by omega,by omega,λ i hi hik=>?_,hw⟩,by dsimp only;omega⟩;by_cases hik2:i=k
    ·subst hik2;exact h6
    ·exact hlt i hi (by omega)
   ·exact ⟨⟨k,rfl,hk,Zmg hk hlt λ _=>h6⟩,hw⟩
  ·exact ⟨⟨k,rfl,hk,Zmg hk hlt λ hk2=>by omega⟩,hw⟩
 clear hw;rintro _ _ w ⟨⟨k,rfl,hk,hins⟩,hw⟩;have hcap:=h.cap;have hrl:=Zcn hl;refine Za hw λ b5 w hw=>Zb.mk rfl ⟨s,oA hw,by omega,by omega,?_⟩;refine Zbg (b:=b5) (ys:=(Zap r.L ts).take k) elH hw (Zdq ⟨_,underlying177⟩ hw (h.hs.rows.take (h:=k) (by omega) s.cap) (Zg1 k (Zgp _ _))) (h.hs.rows.wid.take) (by rw [List.length_take];omega) (by rw [List.length_take];omega) λ s1 w hw=>?_;refine Zd7 (x:=Zgq ⟨owner,cls,many,[]⟩ ⟨none,0,0⟩) elH hw rfl rfl (by rw [List.length_take];omega) (by rw [List.length_take];omega) λ s2 w hw=>?_;refine Zb.mk rfl ⟨s,oA hw,by omega,by omega,?_⟩;have hsub:=h.hs.rows.sub (l:=k) (h:=s.len) (m:=s.cap) (by omega) (by omega) (by omega);rw [List.take_of_length_le (show (Zap r.L ts).length<=s.len by omega)] at hsub;refine Z4 (ys:=(Zap r.L ts).drop k) elH hw (Zdq ⟨_,underlying177⟩ hw hsub (Zg3 k (Zgp _ _))) (h.hs.rows.wid.drop) (by simp only [List.length_append,List.length_take,List.length_drop,List.length_singleton];omega) (by simp only [List.length_append,List.length_take,List.length_drop,List.length_singleton];omega) λ s3 w hw=>Zb.mk rfl ?_;have hw:=back _ _ hw.swap;have hw:Sat R (pts q (Zx r sg sl s)::Zl 4 s 197 (Zap r.L ts)::Zl 4 s3 197 ((Zap r.L ts).take k++[Zgq ⟨owner,cls,many,[]⟩ ⟨none,0,0⟩]++(Zap r.L ts).drop k)::Zt sg (Zc r.grps)::Zt sl (Zc r.lims)::Z6 r.L ts::Hs) w:=hw.arr;refine sRu hw λ w hw=>?_;have hw:=hw.re (pts q (Zx r sg sl s3));refine hK _ (Sat.rf.2 ⟨sg,sl,s3,ts.take k++⟨none,0,0⟩::ts.drop k,by rw [hins];simp;omega,?_⟩);rw [hins];have hw:Sat R (Zt sg (Zc r.grps)::Zt sl (Zc r.lims)::pts q (Zx r sg sl s3)::Zl 4 s3 197 ((Zap r.L ts).take k++[Zgq ⟨owner,cls,many,[]⟩ ⟨none,0,0⟩]++(Zap r.L ts).drop k)::Z6 r.L ts::Zl 4 s 197 (Zap r.L ts)::Hs) w:=hw.arr;rw [<-ZpR hl hk] at hw;refine hw.cons λ _ h=>h.cons λ _ h=>h.cons λ _ h=>h.cons λ _ h=>?_;refine Z6.ins (k:=k) (h:=⟨owner,cls,many,[]⟩) (t:=⟨none,0,0⟩) hl hk ?_;have h5:=h.cons λ _ h=>h.drop;exact Own.reads (T:=3) (Own.nil h5)
theorem ZgV {q:Nat} {r:RF} {owner:Int} (hll:r.L.length<=1000000) (hw:Sat R (Zbi q r::Hs) w):
  Zk prog 114 #[nP q,nI owner] w λ v w'=>v=nI (ZaX r owner).2/\Sat R (Zbi q (ZaX r owner).1::Hs) w':=by
 apply ZwH
 suffices H:∀ K:nK,(∀ w',Sat R (Zbi q (ZaX r owner).1::Hs) w'->K (nI (ZaX r owner).2) w')->B114 (some ⟨q,0,none⟩) owner K w from H _ λ w' h=>⟨rfl,h⟩
 intro K hK;obtain ⟨sg,sl,s,ts,R',ee,h,hw,back,hl⟩:=Sat.rfO hw;have hsl:=h.len;have same:∀ {w},Sat R' (pts q (Zx r sg sl s)::Hs) w->Sat R (Zbi q r::Hs) w:=λ hw=>Sat.rf.2 ⟨sg,sl,s,ts,hl,back _ _ hw⟩;refine (Zcl h hll hw).u λ w hw=>?_;refine ⟨_,rfl,?_⟩;cases hg0:ZbB owner r.L with
 |none=>
  rw [show ZaX r owner=(r,2) by unfold ZaX;rw [hg0]] at hK;refine Br.d (λ h1=>hK _ (same hw)) (λ h1=>?_);rw [ZbP 0 hg0] at h1;omega
 |some hd=>
  obtain ⟨A,C,hL,hA,hown⟩:=Zat hg0;have hpl:Zcq owner r.L 0=(A.length:Int):=by rw [hL,Zbr hown 0 hA,Nat.zero_add]
  have i1:A.length<r.L.length:=by rw [hL];simp
  rw [hpl];have er:ZaX r owner=({ r with L:=r.L.take A.length++r.L.drop (A.length + 1) },0):=by
   unfold ZaX;rw [hg0];dsimp only;rw [hL,ZsU,ZgA hown hA]
  rw [er] at hK;refine Br.d (λ h1=>by omega) (λ h1=>?_);have hcap:=h.cap;have hrl:=Zcn hl;refine Zr (Sat R' [pts q (Zx r sg sl s),VC.tru]) hw (λ w hw=>hw.restTru2) λ w hw=>?_;refine Zb.mk rfl ⟨s,oS,by omega,by omega,Zb.mk rfl ⟨s,oS,?_⟩⟩;rw [Zd];have e1:((A.length:Int) + 1).toNat=A.length + 1:=by omega
  rw [e1];refine ⟨by omega,by omega,?_⟩;refine Za hw λ b5 w hw=>⟨hw.drop.restTru2,?_⟩;refine Zbg (b:=b5) (ys:=(Zap r.L ts).take A.length) elH hw (Zdq ⟨_,underlying177⟩ hw (h.hs.rows.take (h:=A.length) (by omega) s.cap) (Zg1 _ (Zgp _ _))) (h.hs.rows.wid.take) (by rw [List.length_take];omega) (by rw [List.length_take];omega) λ s1 w hw=>⟨hw.drop.restTru2,?_⟩;have hsub:=h.hs.rows.sub (l:=A.length + 1) (h:=s.len) (m:=s.cap) (by omega) (by omega) (by omega);rw [List.take_of_length_le (show (Zap r.L ts).length<=s.len by omega)] at hsub;refine Z4 (ys:=(Zap r.L ts).drop (A.length + 1)) elH hw (Zdq ⟨_,underlying177⟩ hw hsub (Zg3 _ (Zgp _ _))) (h.hs.rows.wid.drop) (by simp only [List.length_take,List.length_drop];omega) (by simp only [List.length_take,List.length_drop];omega) λ s3 w hw=>⟨hw.drop.restTru2,Zb.mk rfl ?_⟩;have hw:=back _ _ hw.swap;have hw:Sat R (pts q (Zx r sg sl s)::Zl 4 s 197 (Zap r.L ts)::Zl 4 s3 197 ((Zap r.L ts).take A.length++(Zap r.L ts).drop (A.length + 1))::Zt sg (Zc r.grps)::Zt sl (Zc r.lims)::Z6 r.L ts::Hs) w:=hw.arr;refine sRu hw λ w hw=>?_;have hw:=hw.re (pts q (Zx r sg sl s3));refine hK _ (Sat.rf.2 ⟨sg,sl,s3,ts.take A.length++ts.drop (A.length + 1),by simp;omega,?_⟩);have hw:Sat R (Zt sg (Zc r.grps)::Zt sl (Zc r.lims)::pts q (Zx r sg sl s3)::Zl 4 s3 197 ((Zap r.L ts).take A.length++(Zap r.L ts).drop (A.length + 1))::Z6 r.L ts::Zl 4 s 197 (Zap r.L ts)::Hs) w:=hw.arr;rw [<-ZpS hl i1] at hw;refine hw.cons λ _ h=>h.cons λ _ h=>h.cons λ _ h=>h.cons λ _ h=>Z6.del hl i1 ?_;exact h.cons λ _ h=>h.drop
theorem RO.setSeats {q:Nat} {r:RF} {sg sl s:Sl} {ts:List Sl} {A C:List Zu} {hd:Zu} {t:Sl} {l:List Int} {K:World->Prop} (hl:ts.length=r.L.length) (hL:r.L=A++hd::C)
  (hw:Sat R (RO q r sg sl s ts (Zt t (Zc l)::Hs)) w) (k:∀ w',Sat R (Zbi q { r with L:=A++{ hd with seats:=l }::C }::Hs) w'->K w'):
  Rng (A.length:Int) s.len (Zb s.a λ a=>∃ w',((Instr.storeAt 30 (.pointer ((some (nO (a.add (ZaD (A.length:Int).toNat 4)) 3)))) (.slice t.a t.len t.cap)).run prog w=.ok () w')/\K w'):=by
 have i1:A.length<r.L.length:=by rw [hL];simp
 have i2:A.length<ts.length:=by omega
 have hgi:r.L[A.length]=hd:=by simp [hL]
 have hw:Sat R (Zl 4 s 197 (Zap r.L ts)::Zt sg (Zc r.grps)::Zt sl (Zc r.lims)::pts q (Zx r sg sl s)::Zt t (Zc l)::Z6 r.L ts::Hs) w:=hw.arr;have hw:Sat R (Zl 4 s 197 ((r.L.zip ts).map λ x=>Zgq x.1 x.2)::Zt sg (Zc r.grps)::Zt sl (Zc r.lims)::pts q (Zx r sg sl s)::Zt t (Zc l)::Z6 r.L ts::Hs) w:=hw;have hz:A.length<(r.L.zip ts).length:=by rw [List.length_zip];omega
 refine (Zl.readsM (n:=4) (s:=s) (T:=197) (rows:=(r.L.zip ts).map λ x=>Zgq x.1 x.2) hw (eqS hw)).rngM (E:=r.L.zip ts) (g:=λ x=>Zgq x.1 x.2) hz λ a ha _=>?_;refine Zl.storeM (n:=4) (s:=s) (T:=197) (E:=r.L.zip ts) (g:=λ x=>Zgq x.1 x.2) 3 ({ hd with seats:=l },t) hw ha hz (by kernel_rfl) rfl (by simp [Value.cells]) ?_ λ w hw=>k w ?_
 ·rw [List.getElem_zip,hgi];rfl
 ·rw [<-ZiK] at hw
  have hL2:r.L.set A.length { hd with seats:=l }=A++{ hd with seats:=l }::C:=by rw [hL];exact Zux
  rw [<-hL2];refine Sat.rf.2 ⟨sg,sl,s,ts.set A.length t,by simp [hl],?_⟩;have hw:Sat R (Zl 4 s 197 (Zap (r.L.set A.length { hd with seats:=l }) (ts.set A.length t))::Zt sg (Zc r.grps)::Zt sl (Zc r.lims)::pts q (Zx r sg sl s)::Zt t (Zc l)::Z6 r.L ts::Hs) w:=hw;have hw:Sat R (Zt sg (Zc r.grps)::Zt sl (Zc r.lims)::pts q (Zx r sg sl s)::Zl 4 s 197 (Zap (r.L.set A.length { hd with seats:=l }) (ts.set A.length t))::Zt t (Zc l)::Z6 r.L ts::Hs) w:=hw.arr;exact hw.cons λ _ h=>h.cons λ _ h=>h.cons λ _ h=>h.cons λ _ h=>Z6.set (h:={ hd with seats:=l }) hl i1 h
theorem ZlM {q:Nat} {r:RF} {owner:Int} {lab:ByteArray} (hll:r.L.length<=1000000) (hg:r.grps.length<=1000) (hc:∀ x∈r.L,x.seats.length<=1000) (hw:Sat R (Zbi q r::Hs) w):
  Zk prog 119 #[nP q,nI owner,.string lab] w λ v w'=>v=nI (ZO r owner lab).2/\Sat R (Zbi q (ZO r owner lab).1::Hs) w':=by
 apply ZwC
 suffices H:∀ K:nK,(∀ w',Sat R (Zbi q (ZO r owner lab).1::Hs) w'->K (nI (ZO r owner lab).2) w')->B119 (some ⟨q,0,none⟩) owner lab K w from H _ λ w' h=>⟨rfl,h⟩
 intro K hK;obtain ⟨sg,sl,s,ts,R',ee,h,hw,back,hl⟩:=Sat.rfO hw;have same:∀ {w},Sat R' (pts q (Zx r sg sl s)::Hs) w->Sat R (Zbi q r::Hs) w:=λ hw=>Sat.rf.2 ⟨sg,sl,s,ts,hl,back _ _ hw⟩;refine (Zcl h hll hw).use ?_;clear hw;rintro _ w ⟨rfl,hw⟩;refine ⟨_,rfl,Zb.mk rfl ⟨r.rows,sg,oA hw,?_⟩⟩;refine (Zoh (h.grps.ro) hw).use ?_;clear hw;rintro _ w ⟨rfl,hw⟩;refine ⟨_,_,rfl,?_⟩;cases hg0:ZbB owner r.L with
 |none=>
  rw [show ZO r owner lab=(r,2) by unfold ZO;rw [hg0]] at hK;refine ⟨λ _=>False,Br.d (λ h1=>hK _ (same hw)) (λ h1=>?_),λ _ _ hf=>absurd hf id⟩;rw [ZbP 0 hg0] at h1;omega
 |some hd=>
  obtain ⟨A,C,hL,hA,hown⟩:=Zat hg0;have hpl:Zcq owner r.L 0=(A.length:Int):=by rw [hL,Zbr hown 0 hA,Nat.zero_add]
  have hx:=hc hd (by rw [hL];simp);obtain ⟨t,it,hti,hsd,row⟩:=h.row hL;have hro:RoI R' t hd.seats:=hsd.ro;have hrl:=hro.len;have er:ZO r owner lab=if (Zax r.rows r.grps lab).2≠0 then (r,2) else if (hd.seats.length:Int) >= hd.many then (r,7)
   else if (Zax r.rows r.grps lab).1∈ZA r.L then (r,3) else ({ r with L:=A++hd.put (Zax r.rows r.grps lab).1::C },0):=by
   unfold ZO;rw [hg0];dsimp only;rw [show ZnZ owner (hd.put (Zax r.rows r.grps lab).1) r.L=A++hd.put (Zax r.rows r.grps lab).1::C by rw [hL];exact Zde hown hA]
  rw [er] at hK;rw [hpl];generalize (Zax r.rows r.grps lab).1=n at *;refine ⟨λ w=>(Zax r.rows r.grps lab).2=0/\Sat R' (pts q (Zx r sg sl s)::Hs) w,Br.d (λ h1=>by omega) (λ _=>Br.ne (λ h1=>?_) (λ h1=>⟨h1,hw⟩)),?_⟩
  ·rw [if_pos h1] at hK;exact hK _ (same hw)
  clear hw;rintro _ w ⟨h1,hw⟩;rw [if_neg (by rw [h1];simp)] at hK;refine Zq hw λ w hw=>?_;refine Zb.mk rfl ⟨s,oS,row (i:=3) ZbK rfl λ a _ ha=>⟨t,ha,Zb.mk rfl ⟨s,oS,row (i:=2) ZbK rfl λ a _ ha=>⟨hd.many,ha,?_⟩⟩⟩⟩;rw [hrl];refine Br.d (λ h2=>?_) (λ h2=>?_)
  ·rw [if_pos h2] at hK;exact hK _ (same hw)
  rw [if_neg h2] at hK;refine (ZgQ h hll hc hw).use ?_;clear hw;rintro _ w ⟨tk,rfl,hw⟩;have htl:=ZdZ hc;obtain ⟨R2,hrk,keep,hw,back2⟩:=Own.lendI hw (by omega);refine ⟨tk,rfl,(Zno hrk hw).use ?_⟩;clear hw;rintro _ w ⟨rfl,hw⟩;have hw:=(back2 hw).drop;refine ⟨_,rfl,Br.d (λ h3=>?_) (λ h3=>?_)⟩
  ·rw [if_pos h3] at hK;exact hK _ (same hw)
  rw [if_neg h3] at hK;refine Zq hw λ w hw=>?_;refine Zb.mk rfl ⟨s,oS,Zb.mk rfl ⟨s,oS,row (i:=3) ZbK rfl λ a _ ha=>⟨t,ha,?_⟩⟩⟩;refine (ZpP hro (by omega) (λ hn=>h3 (ZbZ.2 ⟨hd,by rw [hL];simp,hn⟩)) hw).use ?_;clear hw;rintro _ w ⟨t2,rfl,hw⟩;refine ⟨t2,rfl,hw.drop,?_⟩;have hw:=back _ _ hw.swap;refine RO.setSeats (q:=q) (r:=r) (sg:=sg) (sl:=sl) (s:=s) (ts:=ts) (l:=Zdt n hd.seats) hl hL (Hs:=Hs) ?_ hK;have hw:Sat R (Own t2 3 (Zc (Zdt n hd.seats))::RO q r sg sl s ts Hs) w:=hw.arr;exact (Own.reads hw).arr
theorem ZlT {q:Nat} {r:RF} {owner:Int} (hll:r.L.length<=1000000) (hg:r.grps.length<=1000) (hc:∀ x∈r.L,x.seats.length<=1000) (hw:Sat R (Zbi q r::Hs) w):
  Zk prog 120 #[nP q,nI owner] w λ v w'=>∃ t:Sl,v=.tuple #[.slice t.a t.len t.cap,nI (ZM r owner).2.2]/\Sat R (Own t 9 ((ZM r owner).2.1.map Value.string)::Zbi q (ZM r owner).1::Hs) w':=by
 apply ZwB
 suffices H:∀ K:nK,(∀ (t:Sl) w',Sat R (Own t 9 ((ZM r owner).2.1.map Value.string)::Zbi q (ZM r owner).1::Hs) w'->K (.tuple #[.slice t.a t.len t.cap,nI (ZM r owner).2.2]) w')->B120 (some ⟨q,0,none⟩) owner K w from H _ λ t w' h=>⟨t,rfl,h⟩
 intro K hK;obtain ⟨sg,sl,s,ts,R',ee,h,hw,back,hl⟩:=Sat.rfO hw;have same:∀ {w},Sat R' (pts q (Zx r sg sl s)::Hs) w->Sat R (Own ⟨none,0,0⟩ 9 []::Zbi q r::Hs) w:=λ hw=>Own.nil (Sat.rf.2 ⟨sg,sl,s,ts,hl,back _ _ hw⟩);refine (Zcl h hll hw).use ?_;clear hw;rintro _ w ⟨rfl,hw⟩;refine ⟨_,rfl,?_⟩;cases hg0:ZbB owner r.L with
 |none=>
  rw [show ZM r owner=(r,[],2) by unfold ZM;rw [hg0]] at hK;refine Br.d (λ h1=>hK _ _ (same hw)) (λ h1=>?_);rw [ZbP 0 hg0] at h1;omega
 |some hd=>
  obtain ⟨A,C,hL,hA,hown⟩:=Zat hg0;have hpl:Zcq owner r.L 0=(A.length:Int):=by rw [hL,Zbr hown 0 hA,Nat.zero_add]
  have hx:=hc hd (by rw [hL];simp);obtain ⟨t,it,hti,hsd,row⟩:=h.row hL;have hro:RoI R' t hd.seats:=hsd.ro;have hrl:=hro.len;have hgo:=h.grps.ro (R:=R') (by rw [List.length_map];omega);rw [hpl];refine Br.d (λ h1=>by omega) (λ _=>Zb.mk rfl ⟨s,oA hw,row (i:=3) (eqS hw) rfl λ a _ ha=>⟨t,ha,?_⟩⟩);rw [hrl];refine Br.d (λ h1=>?_) (λ h1=>?_)
  ·rw [show ZM r owner=(r,[],7) by unfold ZM;rw [hg0];dsimp only;rw [if_pos (by omega)]] at hK
   exact hK _ _ (same hw)
  have er:ZM r owner=if (Z0 r.rows r.grps (ZA r.L) hd.many).2=0 then ({ r with L:=A++{ hd with seats:=(Z0 r.rows r.grps (ZA r.L) hd.many).1 }::C },Za3 r.rows r.grps (Z0 r.rows r.grps (ZA r.L) hd.many).1,0) else (r,[],(Z0 r.rows r.grps (ZA r.L) hd.many).2):=by
   unfold ZM;rw [hg0];dsimp only;rw [if_neg (by omega),show ZnZ owner { hd with seats:=(Z0 r.rows r.grps (ZA r.L) hd.many).1 } r.L=A++{ hd with seats:=(Z0 r.rows r.grps (ZA r.L) hd.many).1 }::C by rw [hL];exact Zde hown hA]
  rw [er] at hK;refine Zr (Sat R' [pts q (Zx r sg sl s),VC.tru]) hw (λ w hw=>hw.restTru2) λ w hw=>?_;refine Zb.mk rfl ⟨r.rows,sg,oS,Zb.mk rfl ⟨s,oS,row (i:=2) ZbK rfl λ a _ ha=>⟨hd.many,ha,?_⟩⟩⟩;refine (ZgQ h hll hc hw).use ?_;clear hw;rintro _ w ⟨tk,rfl,hw⟩;have htl:=ZdZ hc;refine ⟨tk,rfl,hw.drop.restTru2,?_⟩;obtain ⟨R2,hrk,keep,hw,back2⟩:=Own.lendI hw (by omega);refine (Zom (keep _ _ hgo) hrk hw).use ?_;clear hw;rintro _ w ⟨tb,rfl,hw⟩;have hw:=(back2 hw).drop;have hbl:=ZnJ (n:=r.rows) (g:=r.grps) (taken:=ZA r.L) (many:=hd.many);generalize Z0 r.rows r.grps (ZA r.L) hd.many=bt at *;refine ⟨_,_,rfl,hw.drop.restTru2,Br.ne (λ h2=>?_) (λ h2=>?_)⟩
  ·rw [if_neg h2] at hK;exact hK _ _ (same hw.drop)
  rw [if_pos h2] at hK;obtain ⟨R3,e3,ht,hw⟩:=Zt.leak hw;have hto:RoI R3 tb bt.1:=ht.ro;have htl:=hto.len;refine ⟨λ out i w=>∃ j:Nat,i=j/\j<=bt.1.length/\Sat R3 (Own out 9 ((Za3 r.rows r.grps (bt.1.take j)).map Value.string)::pts q (Zx r sg sl s)::Hs) w,λ _ i _=>bt.1.length - i.toNat,⟨0,rfl,by omega,Own.nil hw⟩,?_⟩;clear hw;rintro _ out _ w ⟨j,rfl,hj,hw⟩;refine Br.d (λ h3=>?_) (λ h3=>?_)
  ·have hj2:j<bt.1.length:=by omega
   refine Zq hw λ w hw=>?_;refine Zb.mk rfl ⟨r.rows,sg,oS,?_⟩;refine Ro.ix hto ZbK j rfl hj2 ?_;refine (Zey (e3.ro hgo) hw).use ?_;clear hw;rintro _ w ⟨rfl,hw⟩;have hlab:(Za3 r.rows r.grps (bt.1.take j)).length=j:=by unfold Za3;rw [List.length_map,List.length_take];omega
   refine ⟨_,_,rfl,?_⟩;refine Zcp ZuW hw (ZfM _) rfl (by rw [List.length_map,hlab];omega) (by rw [List.length_map,hlab];omega) λ t w hw=>?_;rw [Zd];refine ⟨⟨j + 1,by omega,by omega,?_⟩,by dsimp only;omega⟩;have e:(Za3 r.rows r.grps (bt.1.take (j + 1))).map Value.string=(Za3 r.rows r.grps (bt.1.take j)).map Value.string++[.string (Zjl r.rows r.grps bt.1[j]).1]:=by
    unfold Za3;rw [List.take_add_one,List.getElem?_eq_getElem hj2,Option.toList_some,List.map_append,List.map_append];rfl
   rw [e];exact hw
  ·rw [List.take_of_length_le (by omega)] at hw
   refine Zr (Sat R3 [pts q (Zx r sg sl s),VC.tru]) hw (λ w hw=>hw.drop.restTru2) λ w hw=>?_;refine Zb.mk rfl ⟨s,oS,?_⟩;refine Za hw λ b5 w hw=>⟨hw.drop.drop.restTru2,?_⟩;refine Zgb (b:=b5) ZiC hw (Zst underlying30 hw hto (Zg2 _)) (by rw [List.length_map];omega) (by rw [List.length_map];omega) λ tn w hw=>⟨hw.drop.drop.restTru2,?_⟩;have hw:=e3.back hw;have hw:Sat R' (pts q (Zx r sg sl s)::Own tn 3 (Zc bt.1)::Own out 9 ((Za3 r.rows r.grps bt.1).map Value.string)::Hs) w:=hw.arr;have hw:=back _ _ hw;refine RO.setSeats (q:=q) (r:=r) (sg:=sg) (sl:=sl) (s:=s) (ts:=ts) (l:=bt.1) hl hL (Hs:=Own out 9 ((Za3 r.rows r.grps bt.1).map Value.string)::Hs) ?_ λ w' hw'=>hK _ _ hw'.swap;have hw:Sat R (Own tn 3 (Zc bt.1)::RO q r sg sl s ts (Own out 9 ((Za3 r.rows r.grps bt.1).map Value.string)::Hs)) w:=hw.arr;exact (Own.reads hw).arr
end
section
open Go Go.VC Tryz
variable {R:Cx} {Hs Rest:List HP} {w:World}
theorem HsR.row {s:Sl} {L:List Zu} {ts:List Sl} {S:World->Prop} {k:Nat} (hr:HsR R s L ts) (hS:∀ w,S w->Sat R Hs w) (hk:k<L.length) (hk':k<ts.length) {F:Addr->Prop}
  (f:∀ a:Addr,At S (Addr.add a (ZaD k 4)) (Zgq L[k] ts[k])->F a):Rng (k:Int) s.len (Zb s.a F):=by
 have hl:=Zcn hr.len;refine (hr.rows.reads hS).rng (k:=k) (by omega) λ b off ha hat=>f _ ?_;rw [Zhx];refine hat 0 _ ?_;rw [ZmZ hk hk'];exact ⟨rfl,rfl,rfl,rfl,trivial⟩
def ZuV (f:PF):List Int:=ZtJ f.num f.rows f.grps f.lims (Zem f)
theorem Ziu (f:PF):(Zem f).length=f.hs.length:=by unfold Zem Zgg;rw [List.length_map,List.length_mergeSort,List.length_map]
structure ZtV (f:PF):Prop where
 num:0<=f.num/\f.num<9223372036854775808
 rows:0<=f.rows/\f.rows<9223372036854775808
 grps:ZcO f.grps
 lims:ZcO f.lims
 gl:f.grps.length<=1000
 ll:f.lims.length<=1000
 hs:∀ h∈Zem f,Zgf h
 hl:f.hs.length<=10000
theorem Zlh {p:Nat} {f:PF} (sm:ZtV f) (hu:(f.hs.map (·.1)).Nodup) (hn:∀ k∈f.hs.map (·.1),-1000000000<=k/\k<=1000000000) (hR:∀ e∈f.hs,e.2.seats.length<=1000000) (hw:Sat R (ZD p f::Hs) w):
  Zk prog 64 #[nP p] w λ v w'=>∃ t:Sl,v=.slice t.a t.len t.cap/\Sat R (Own t 5 (b8 (ZuV f))::ZD p f::Hs) w':=by
 obtain ⟨hm,om,sg,sl,ss,E,R',hE,ee,rg,rl,_,hw,back⟩:=Sat.flightO hw;have rgo:RoI R' sg f.grps:=rg.ro (by rw [List.length_map];have:=sm.gl;omega);have rlo:RoI R' sl f.lims:=rl.ro (by rw [List.length_map];have:=sm.ll;omega);have hel:(ZZ E).length=f.hs.length:=by rw [<-hE];simp [ZZ,hEr]
 apply ZxR
 suffices H:∀ K:nK,(∀ (t:Sl) w',Sat R (Own t 5 (b8 (ZuV f))::ZD p f::Hs) w'->K (.slice t.a t.len t.cap) w')->B64 (some ⟨p,0,none⟩) K w from
  H _ λ t w' h=>⟨t,rfl,h⟩
 intro K hK;refine Za hw λ pb w hw=>Za hw λ bp w hw=>?_;have hw:Sat R' (pts bp (.cells [.nilFunc].toArray 113 (0,0))::lp pb ⟨none,0,0⟩::FO p hm om sg sl ss E f Hs) w:=hw;refine sRu hw λ w hw=>?_;have hw:Sat R' (ZhN bp pb::lp pb ⟨none,0,0⟩::FO p hm om sg sl ss E f Hs) w:=hw;have hw:Sat R' (Zgd pb []::ZhN bp pb::FO p hm om sg sl ss E f Hs) w:=Sat.outB.2 ⟨⟨none,0,0⟩,hw.swap.cons λ _ h=>Own.nil h⟩;have l2:(Zi [f.num,f.rows]).length<=18:=ZI (by intro y hy;have:=sm.num;have:=sm.rows;simp at hy;omega);have lg:=Zb0 sm.grps (by have:=sm.gl;omega);have ll:=Zb0 sm.lims (by have:=sm.ll;omega);have l1:(Zi [(f.hs.length:Int)]).length<=9:=ZI (by intro y hy;have:=sm.hl;simp at hy;omega);have:=sm.gl;have:=sm.ll;have:=sm.hl;refine Zr (Sat R' [ZhN bp pb,pts p (Zan f sg sl ss hm om),VC.tru]) hw (λ w hw=>?_) λ w hw=>?_
 ·have hw:Sat R' (ZhN bp pb::pts p (Zan f sg sl ss hm om)::Zgd pb []::MapAt hm (ZZ E)::MapAt om (Zbz f.own)::ZU E::Hs) w:=hw.arr
  exact hw.cons λ _ h=>h.restTru2
 refine ⟨Zuc pb,oS,Zb.mk rfl ⟨f.num,by rw [Zs];exact oS,Zb.mk rfl ⟨f.rows,oS,?_⟩⟩⟩;refine Za hw λ bn w hw=>⟨?_,?_⟩
 ·have hw:Sat R' (ZhN bp pb::pts p (Zan f sg sl ss hm om)::Zgd pb []::MapAt hm (ZZ E)::MapAt om (Zbz f.own)::ZU E::Hs) w:=hw.drop.arr
  exact hw.cons λ _ h=>h.restTru2
 have hw:Sat R' (pts bn (.cells ([f.num,f.rows].map (Value.int .i64)).toArray 3 (0,0))::Zgd pb []::ZhN bp pb::FO p hm om sg sl ss E f Hs) w:=hw;refine (Zi6 (n:=2) (by rfl) (by intro y hy;have:=sm.num;have:=sm.rows;simp at hy;omega) (by simp) hw).mono ?_;rintro _ w ⟨rfl,hw⟩;rw [List.nil_append] at hw;refine ⟨rfl,?_,?_⟩
 ·have hw:Sat R' (ZhN bp pb::pts p (Zan f sg sl ss hm om)::Zgd pb (Zi [f.num,f.rows])::MapAt hm (ZZ E)::MapAt om (Zbz f.own)::ZU E::Hs) w:=hw.arr
  exact hw.cons λ _ h=>h.restTru2
 refine Zb.mk rfl ⟨sg,oA hw,?_⟩;refine (ZfW sm.grps (by omega) rgo hw.swap).use ?_;rintro _ w ⟨rfl,hw⟩;refine ⟨rfl,Zb.mk rfl ⟨sl,oA hw,?_⟩⟩;refine (ZfW sm.lims (by rw [List.length_append];omega) rlo hw).use ?_;rintro _ w ⟨rfl,hw⟩;refine ⟨rfl,?_⟩;have hb1:(Zi [f.num,f.rows]++Zcw f.grps++Zcw f.lims).length<=20000:=by rw [List.length_append,List.length_append];omega
 have hfin:Zi [f.num,f.rows]++Zcw f.grps++Zcw f.lims++Zi [(f.hs.length:Int)]++Z3 (Zem f)=ZuV f:=by
  unfold ZuV ZtJ;rw [Ziu]
 generalize hpre:Zi [f.num,f.rows]++Zcw f.grps++Zcw f.lims=pre at *;refine Zr (Sat R' [ZhN bp pb,pts p (Zan f sg sl ss hm om),MapAt hm (ZZ E),VC.tru]) hw (λ w hw=>?_) λ w hw=>?_
 ·have hw:Sat R' (ZhN bp pb::pts p (Zan f sg sl ss hm om)::MapAt hm (ZZ E)::Zgd pb pre::MapAt om (Zbz f.own)::ZU E::Hs) w:=hw.arr
  exact hw.cons λ _ h=>h.cons λ _ h=>h.restTru2
 refine ⟨Zuc pb,oS,Zb.mk rfl ⟨some hm,oS,f.hs.length,λ w' h=>?_,?_⟩⟩
 ·rw [<-hel]
  exact MapAt.len (by kernel_rfl) (h.take (MapAt hm (ZZ E)))
 refine Za hw λ bn w hw=>⟨?_,?_⟩
 ·have hw:Sat R' (ZhN bp pb::pts p (Zan f sg sl ss hm om)::MapAt hm (ZZ E)::Zgd pb pre::MapAt om (Zbz f.own)::ZU E::Hs) w:=hw.drop.arr
  exact hw.cons λ _ h=>h.cons λ _ h=>h.restTru2
 have hw:Sat R' (pts bn (.cells ([(f.hs.length:Int)].map (Value.int .i64)).toArray 3 (0,0))::Zgd pb pre::ZhN bp pb::FO p hm om sg sl ss E f Hs) w:=hw.cons λ _ h=>h.swap;refine (Zi6 (n:=1) (by rfl) (by intro y hy;simp at hy;omega) (by simp;omega) hw).mono ?_;rintro _ w ⟨rfl,hw⟩;refine ⟨rfl,?_,?_⟩
 ·have hw:Sat R' (ZhN bp pb::pts p (Zan f sg sl ss hm om)::MapAt hm (ZZ E)::Zgd pb (pre++Zi [(f.hs.length:Int)])::MapAt om (Zbz f.own)::ZU E::Hs) w:=hw.arr
  exact hw.cons λ _ h=>h.cons λ _ h=>h.restTru2
 have hw:Sat R' (FO p hm om sg sl ss E f (Zgd pb (pre++Zi [(f.hs.length:Int)])::ZhN bp pb::Hs)) w:=hw.arr;have hw:=Sat.flightC hE (back _ _ hw);refine (Zmi hu hn (by omega) hR hw).use ?_;rintro _ w ⟨t,rfl,hw⟩;refine ⟨t,rfl,?_⟩;have hb2:(pre++Zi [(f.hs.length:Int)]).length<=20010:=by rw [List.length_append];omega
 generalize pre++Zi [(f.hs.length:Int)]=pre2 at *;have hLl:=Ziu f;have hHs:=sm.hs;generalize Zem f=L at *;obtain ⟨R2,ts,e2,hr,hw⟩:=ZbN.leak hw;have htl:=hr.len;have hrl:=hr.rows.len;rw [Zcn htl] at hrl;refine ⟨λ i w=>∃ j:Nat,i=j/\j<=L.length/\Sat R2 (Zgd pb (pre2++Z3 (L.take j))::ZhN bp pb::ZD p f::Hs) w,λ i _=>L.length - i.toNat,⟨0,rfl,by omega,?_⟩,?_⟩
 ·rw [show pre2++Z3 (L.take 0)=pre2 by simp [Z3]]
  exact hw.arr
 clear hw;rintro _ _ w ⟨j,rfl,hj,hw⟩;refine Br.d (λ h=>?_) (λ h=>?_)
 ·have hj2:j<L.length:=by omega
  have hj3:j<ts.length:=by omega
  have hsm:=hHs L[j] (List.getElem_mem _);have hhl:(Z3 (L.take j)).length<=9036 * 10000:=by
   have:=Zed (L:=L.take j) λ x hx=>hHs x (List.mem_of_mem_take hx);rw [List.length_take] at this;have:min j L.length<=10000:=by omega
   omega
  have h3:(Zi [L[j].owner,L[j].cls,L[j].many]).length<=27:=ZI (ZaS hsm.three);have hsn:=hsm.n;refine hr.row (eqS hw) hj2 hj3 λ a ha=>⟨L[j].owner,L[j].cls,L[j].many,ts[j],ha,?_⟩;refine Za hw λ bh w hw=>?_;have hw:Sat R2 (pts bh (Zal ⟨0,0,0,[]⟩ ⟨none,0,0⟩)::Zgd pb (pre2++Z3 (L.take j))::ZhN bp pb::ZD p f::Hs) w:=hw;refine sRu hw λ w hw=>?_;have hw:=hw.re (pts bh (Zal L[j] ts[j]));refine ⟨Zuc pb,oA hw,L[j].owner,oA hw,L[j].cls,oA hw,L[j].many,oA hw,?_⟩;refine Za hw λ bn w hw=>?_;have hw:Sat R2 (pts bn (.cells ([L[j].owner,L[j].cls,L[j].many].map (Value.int .i64)).toArray 3 (0,0))::Zgd pb (pre2++Z3 (L.take j))::ZhN bp pb::pts bh (Zal L[j] ts[j])::ZD p f::Hs) w:=hw.cons λ _ h=>h.arr;refine (Zi6 (n:=3) (by rfl) hsm.three (by rw [List.length_append];simp;omega) hw).mono ?_;rintro _ w ⟨rfl,hw⟩;refine ⟨rfl,ts[j],oA hw,?_⟩;refine (ZfW hsm.s (by rw [List.length_append,List.length_append];omega) ((hr.seats j hj2 hj3).ro) hw.swap).use ?_;rintro _ w ⟨rfl,hw⟩;refine ⟨rfl,?_⟩;rw [Zd];refine ⟨⟨j + 1,by omega,by omega,?_⟩,by dsimp only;omega⟩;rw [Zhk hj2,<-List.append_assoc];unfold ZdM;rw [<-List.append_assoc];have hw:Sat R2 (pts bh (Zal L[j] ts[j])::Zgd pb (pre2++Z3 (L.take j)++Zi [L[j].owner,L[j].cls,L[j].many]++Zcw L[j].seats)::ZhN bp pb::ZD p f::Hs) w:=hw.arr;exact hw.drop
 ·rw [List.take_of_length_le (by omega),hfin] at hw
  have hw:=e2.back hw;obtain ⟨s0,hw⟩:=Sat.outB.1 hw;refine ⟨s0,oA hw,hK s0 w ?_⟩;have hw:Sat R (ZhN bp pb::lp pb s0::Own s0 5 (b8 (ZuV f))::ZD p f::Hs) w:=hw.arr;exact hw.drop.drop
def Zg8:Nat->Int->Rd->List Int × Rd
 |0,_,r=>([],r)
 |k + 1,most,r=>((Za2 most r).1::(Zg8 k most (Za2 most r).2).1,(Zg8 k most (Za2 most r).2).2)
theorem ZkT:∀ (k:Nat) (most:Int) (r:Rd),(Zg8 k most r).1.length=k
 |0,_,_=>rfl
 |k + 1,most,r=>by show (_::(Zg8 k most (Za2 most r).2).1).length=_;rw [List.length_cons,ZkT k]
theorem Znd:∀ (k:Nat) (most:Int) {r:Rd},(∀ x∈r.bs,0<=x/\x<256)->∀ x∈(Zg8 k most r).2.bs,0<=x/\x<256
 |0,_,_,h=>h
 |k + 1,most,_,h=>Znd k most (Zba h)
theorem ZkS:∀ (k:Nat) {most:Int} {r:Rd},0<=most->(∀ x∈r.bs,0<=x/\x<256)->∀ x∈(Zg8 k most r).1,0<=x/\x<=most
 |0,_,_,_,_=>by simp [Zg8]
 |k + 1,most,r,hm,h=>λ x hx=>by
  rcases List.mem_cons.1 hx with rfl|hx
  ·exact ZcW h hm
  ·exact ZkS k hm (Zba h) x hx
def Zg9 (most each:Int) (r:Rd):List Int × Rd:=Zg8 (Za2 most r).1.toNat each (Za2 most r).2
theorem Zjc {most each:Int} {r:Rd} (h:∀ x∈r.bs,0<=x/\x<256):∀ x∈(Zg9 most each r).2.bs,0<=x/\x<256:=Znd _ _ (Zba h)
theorem ZqC {most each:Int} {r:Rd} (h:∀ x∈r.bs,0<=x/\x<256) (hm:0<=most) (he:0<=each):(∀ x∈(Zg9 most each r).1,0<=x/\x<=each)/\((Zg9 most each r).1.length:Int)<=most:=by
 refine ⟨ZkS _ he (Zba h),?_⟩;unfold Zg9;rw [ZkT];have:=ZcW h hm;omega
def Zpw (f:PF) (o n:Int):PF:=
 match ZH o f.hs with
 |none=>f
 |some h=>{ f with hs:=Zf4 o (h.put n) f.hs,own:=ZeN n h.owner f.own }
def ZlQ (o N:Int):List Int->Int->PF->PF × Bool
 |[],_,f=>(f,true)
 |n::l,last,f=>if (ZH n f.own).isSome then (f,false) else if n<=last then (f,false) else if n >= N then (f,false) else ZlQ o N l n (Zpw f o n)
theorem Zoi (o N n last:Int) (l:List Int) (f:PF):ZlQ o N (n::l) last f=if (ZH n f.own).isSome then (f,false) else if n<=last then (f,false) else if n >= N then (f,false) else ZlQ o N l n (Zpw f o n):=rfl
def Zd4 (f:PF) (h:Zu):PF × Bool:=
 if (Zdw f h.owner h.cls h.many).2≠0 then ((Zdw f h.owner h.cls h.many).1,false)
 else if (h.seats.length:Int)>h.many then ((Zdw f h.owner h.cls h.many).1,false)
 else ZlQ h.owner (Zaw f.rows f.grps) h.seats (-1) (Zdw f h.owner h.cls h.many).1
def ZfH (rd:Rd):Zu × Rd:=
 (⟨(Za2 28629151 rd).1,(Za2 8 (Za2 28629151 rd).2).1,(Za2 600 (Za2 8 (Za2 28629151 rd).2).2).1,(Zg9 600 600 (Za2 600 (Za2 8 (Za2 28629151 rd).2).2).2).1⟩,(Zg9 600 600 (Za2 600 (Za2 8 (Za2 28629151 rd).2).2).2).2)
def ZeW:Nat->Rd->List Zu × Rd
 |0,rd=>([],rd)
 |k + 1,rd=>((ZfH rd).1::(ZeW k (ZfH rd).2).1,(ZeW k (ZfH rd).2).2)
theorem Zsz {rd:Rd} (h:∀ x∈rd.bs,0<=x/\x<256):∀ x∈(ZfH rd).2.bs,0<=x/\x<256:=Zjc (Zba (Zba (Zba h)))
structure Zge (h:Zu):Prop where
 o:0<=h.owner/\h.owner<=28629151
 c:0<=h.cls/\h.cls<=8
 m:0<=h.many/\h.many<=600
 s:∀ x∈h.seats,0<=x/\x<=600
 n:h.seats.length<=600
theorem Zp4 {rd:Rd} (h:∀ x∈rd.bs,0<=x/\x<256):Zge (ZfH rd).1:=by
 have h1:=Zba (most:=28629151) h;have h2:=Zba (most:=8) h1;have h3:=Zba (most:=600) h2;have hl:=ZqC (most:=600) (each:=600) h3 (by omega) (by omega);exact ⟨ZcW h (by omega),ZcW h1 (by omega),ZcW h2 (by omega),hl.1,by have:=hl.2;show (Zg9 _ _ _).1.length<=600;omega⟩
theorem Zie:∀ (k:Nat) {rd:Rd},(∀ x∈rd.bs,0<=x/\x<256)->(∀ h∈(ZeW k rd).1,Zge h)/\(ZeW k rd).1.length=k
 |0,_,_=>⟨λ h hh=>(by cases hh),rfl⟩
 |k + 1,rd,h=>by
  obtain ⟨h1,h2⟩:=Zie k (Zsz h);refine ⟨λ x hx=>?_,by show ((ZfH rd).1::_).length=_;rw [List.length_cons,h2]⟩;have hx:x∈(ZfH rd).1::(ZeW k (ZfH rd).2).1:=hx;rcases List.mem_cons.1 hx with rfl|hx
  ·exact Zp4 h
  ·exact h1 x hx
abbrev PS:=PF × Bool × Int
def ZpG (x:PS) (h:Zu):PS:=if x.2.1=true/\h.owner>x.2.2 then ((Zd4 x.1 h).1,(Zd4 x.1 h).2,h.owner) else (x.1,false,h.owner)
def Ztb (num rows:Int) (grps lims:List Int):Bool:=decide (num>0) && (ZcR rows grps && (Z8 lims (List.replicate lims.length 0) && (lims.getD 0 0==Zaw rows grps)))
structure Raw where
 num:Int
 rows:Int
 grps:List Int
 lims:List Int
 L:List Zu
 rd:Rd
def Ztw (bs:List Int):Raw:=
 let a:=Za2 9999 ⟨bs,false⟩
 let b:=Za2 60 a.2
 let g:=Zg9 4 10 b.2
 let l:=Zg9 8 10000 g.2
 let n:=Za2 600 l.2
 let x:=ZeW n.1.toNat n.2
 ⟨a.1,b.1,g.1,l.1,x.1,x.2⟩
def Raw.run (x:Raw):PS:=x.L.foldl ZpG (ZdQ x.num x.rows x.grps x.lims,Ztb x.num x.rows x.grps x.lims,0)
def decF (bs:List Int):Option PF:=if Zp6 (Ztw bs).rd=true/\(Ztw bs).run.2.1=true then some (Ztw bs).run.1 else none
structure KeepF (f f':PF):Prop where
 lims:f'.lims=f.lims
 grps:f'.grps=f.grps
 rows:f'.rows=f.rows
 num:f'.num=f.num
 sold:f'.sold.length=f.sold.length
abbrev emH:Obj:=Zal ⟨0,0,0,[]⟩ ⟨none,0,0⟩
end
section
open Go Go.VC Tryz
variable {R R':Cx} {Hs Rest:List HP} {w:World}
theorem ZdE (x:Int) (l:List Int):Zi (x::l)=Zi [x]++Zi l:=by rw [show x::l=[x]++l from rfl,ZdF]
def Zby (r:RF):List Int:=ZtJ r.num r.rows r.grps r.lims r.L
structure ZtT (r:RF):Prop where
 num:0<=r.num/\r.num<9223372036854775808
 rows:0<=r.rows/\r.rows<9223372036854775808
 grps:ZcO r.grps
 lims:ZcO r.lims
 gl:r.grps.length<=1000
 ll:r.lims.length<=1000
 hs:∀ h∈r.L,Zgf h
 hl:r.L.length<=10000
theorem Zgt {b n:Nat} {xs:List Int} (hn:n=xs.length) (hxs:ZcO xs) (hl:xs.length<=100) (hw:Sat R (pts b (.cells (xs.map (Value.int .i64)).toArray 3 (0,0))::Hs) w):
  Zk prog 138 #[.slice (some ⟨b,0,none⟩) n n] w λ v w'=>∃ t:Sl,v=.slice t.a t.len t.cap/\Sat R (Own t 5 (b8 (Zi xs))::Hs) w':=by
 have hw:=Za0 (n:=n) hw (by rw [List.length_map];exact hn);obtain ⟨R1,hr1,keep1,hw,back1⟩:=Own.lendI hw (by omega);refine (Zcc (s:=⟨some ⟨b,0,none⟩,n,n⟩) hxs (by omega) hr1 hw).u1 λ t w hw=>?_;exact ⟨_,rfl,t,rfl,(back1 hw).drop⟩
theorem Zi2 {q:Nat} {r:RF} (sm:ZtT r) (hw:Sat R (Zbi q r::Hs) w):
  Zk prog 69 #[nP q] w λ v w'=>∃ t:Sl,v=.slice t.a t.len t.cap/\Sat R (Own t 5 (b8 (Zby r))::Zbi q r::Hs) w':=by
 obtain ⟨sg,sl,s,ts,R',e,h,hw,back,hl⟩:=Sat.rfO hw;have hsl:=h.len;have:=sm.gl;have:=sm.ll;have:=sm.hl;have hgo:=h.grps.ro (R:=R') (by rw [List.length_map];omega);have hlo:=h.lims.ro (R:=R') (by rw [List.length_map];omega);have hgl:sg.len=r.grps.length:=by have:=h.grps.len;rwa [List.length_map] at this
 have hll:sl.len=r.lims.length:=by have:=h.lims.len;rwa [List.length_map] at this
 have u3:ZcO [r.num,r.rows,(r.grps.length:Int)]:=by intro y hy;have:=sm.num;have:=sm.rows;simp at hy;omega
 have u1:ZcO [(r.lims.length:Int)]:=by intro y hy;simp at hy;omega
 have u2:ZcO [(r.L.length:Int)]:=by intro y hy;simp at hy;omega
 have n3:=ZI (ZaS u3);have ng:=ZI (ZaS sm.grps);have n1:=ZI (ZaS u1);have nl:=ZI (ZaS sm.lims);have n2:=ZI (ZaS u2);have hfin:Zi [r.num,r.rows,(r.grps.length:Int)]++Zi r.grps++Zi [(r.lims.length:Int)]++Zi r.lims++Zi [(r.L.length:Int)]++Z3 r.L=Zby r:=by
  unfold Zby ZtJ Zcw;rw [show [r.num,r.rows,(r.grps.length:Int)]=[r.num,r.rows]++[(r.grps.length:Int)] from rfl,ZdF]
  simp only [List.append_assoc]
 simp only [List.length_cons,List.length_nil] at n3 n1 n2;apply ZxN;refine Zr (Sat R' [pts q (Zx r sg sl s),VC.tru]) hw (λ w hw=>hw.restTru2) λ w hw=>?_;refine Zb.mk rfl ⟨r.num,by rw [Zs];exact oS,Zb.mk rfl ⟨r.rows,oS,Zb.mk rfl ⟨sg,oS,?_⟩⟩⟩;rw [hgl];refine Za hw λ b w hw=>⟨hw.drop.restTru2,?_⟩;have hw:Sat R' (pts b (.cells ([r.num,r.rows,(r.grps.length:Int)].map (Value.int .i64)).toArray 3 (0,0))::pts q (Zx r sg sl s)::Hs) w:=hw;refine (Zgt (n:=3) (by rfl) u3 (by simp) hw).use ?_;clear hw;rintro _ w ⟨t1,rfl,hw⟩;refine ⟨t1,rfl,hw.drop.restTru2,Zb.mk rfl ⟨sg,oA hw,?_⟩⟩;refine (Zcc sm.grps (by omega) hgo hw).use ?_;clear hw;rintro _ w ⟨t2,rfl,hw⟩;refine ⟨t2,rfl,?_⟩;refine Zaz ZhK (s:=t1) (n:=1099511627790) underlying47 hw.swap (by omega) (by omega) (by omega) λ s1 w hw=>?_;have hw:Sat R' (Own s1 5 (b8 (Zi [r.num,r.rows,(r.grps.length:Int)]++Zi r.grps))::pts q (Zx r sg sl s)::Hs) w:=hw.swap.drop;refine Zb.mk rfl ⟨sl,oA hw,?_⟩;rw [hll];refine Za hw λ b w hw=>?_;have hw:Sat R' (pts b (.cells ([(r.lims.length:Int)].map (Value.int .i64)).toArray 3 (0,0))::Own s1 5 (b8 (Zi [r.num,r.rows,(r.grps.length:Int)]++Zi r.grps))::pts q (Zx r sg sl s)::Hs) w:=hw;refine (Zgt (n:=1) (by rfl) u1 (by simp) hw).use ?_;clear hw;rintro _ w ⟨t3,rfl,hw⟩;refine ⟨t3,rfl,?_⟩;refine Zaz ZhK (s:=s1) (n:=1099511627790) underlying47 hw.swap (by rw [List.length_append];omega) (by omega) (by omega) λ s2 w hw=>?_;have hw:Sat R' (Own s2 5 (b8 (Zi [r.num,r.rows,(r.grps.length:Int)]++Zi r.grps++Zi [(r.lims.length:Int)]))::pts q (Zx r sg sl s)::Hs) w:=hw.swap.drop;refine Zb.mk rfl ⟨sl,oA hw,?_⟩;refine (Zcc sm.lims (by omega) hlo hw).use ?_;clear hw;rintro _ w ⟨t4,rfl,hw⟩;refine ⟨t4,rfl,?_⟩;refine Zaz ZhK (s:=s2) (n:=1099511627790) underlying47 hw.swap (by rw [List.length_append,List.length_append];omega) (by omega) (by omega) λ s3 w hw=>?_;have hw:Sat R' (Own s3 5 (b8 (Zi [r.num,r.rows,(r.grps.length:Int)]++Zi r.grps++Zi [(r.lims.length:Int)]++Zi r.lims))::pts q (Zx r sg sl s)::Hs) w:=hw.swap.drop;refine Zb.mk rfl ⟨s,oA hw,?_⟩;rw [hsl];refine Za hw λ b w hw=>?_;have hw:Sat R' (pts b (.cells ([(r.L.length:Int)].map (Value.int .i64)).toArray 3 (0,0))::Own s3 5 (b8 (Zi [r.num,r.rows,(r.grps.length:Int)]++Zi r.grps++Zi [(r.lims.length:Int)]++Zi r.lims))::pts q (Zx r sg sl s)::Hs) w:=hw;refine (Zgt (n:=1) (by rfl) u2 (by simp) hw).use ?_;clear hw;rintro _ w ⟨t5,rfl,hw⟩;refine ⟨t5,rfl,?_⟩;refine Zaz ZhK (s:=s3) (n:=1099511627790) underlying47 hw.swap (by rw [List.length_append,List.length_append,List.length_append];omega) (by omega) (by omega) λ s4 w hw=>?_;have hw:Sat R' (Own s4 5 (b8 (Zi [r.num,r.rows,(r.grps.length:Int)]++Zi r.grps++Zi [(r.lims.length:Int)]++Zi r.lims++Zi [(r.L.length:Int)]))::pts q (Zx r sg sl s)::Hs) w:=hw.swap.drop;have hb:(Zi [r.num,r.rows,(r.grps.length:Int)]++Zi r.grps++Zi [(r.lims.length:Int)]++Zi r.lims++Zi [(r.L.length:Int)]).length<=20000:=by simp only [List.length_append];omega
 generalize Zi [r.num,r.rows,(r.grps.length:Int)]++Zi r.grps++Zi [(r.lims.length:Int)]++Zi r.lims++Zi [(r.L.length:Int)]=pre at *;have htl:=h.hs.len;refine ⟨λ out i w=>∃ j:Nat,i=j/\j<=r.L.length/\Sat R' (Own out 5 (b8 (pre++Z3 (r.L.take j)))::pts q (Zx r sg sl s)::Hs) w,λ _ i _=>r.L.length - i.toNat,⟨0,rfl,by omega,by rw [show pre++Z3 (r.L.take 0)=pre by simp [Z3]];exact hw⟩,?_⟩;clear hw;rintro _ out _ w ⟨j,rfl,hj,hw⟩;refine Zb.mk rfl ⟨s,oA hw,Br.d (λ h1=>?_) (λ h1=>?_)⟩
 ·have j1:j<r.L.length:=by omega
  have j2:j<ts.length:=by omega
  have hsm:=sm.hs r.L[j] (List.getElem_mem _);have hhl:(Z3 (r.L.take j)).length<=9036 * 10000:=by
   have:=Zed (L:=r.L.take j) λ x hx=>sm.hs x (List.mem_of_mem_take hx);rw [List.length_take] at this;have:min j r.L.length<=10000:=by omega
   omega
  have hsn:=hsm.n;have u4:ZcO [r.L[j].owner,r.L[j].cls,r.L[j].many,(r.L[j].seats.length:Int)]:=by
   intro y hy;have h1:=hsm.o;have h2:=hsm.c;have h3:=hsm.m;simp at hy;omega
  have n4:=ZI (ZaS u4);simp only [List.length_cons,List.length_nil] at n4;have ns:=ZI (ZaS hsm.s);have hro:RoI R' ts[j] r.L[j].seats:=(h.hs.seats j j1 j2).ro;have hrl:=hro.len;refine Zb.mk rfl ⟨s,oA hw,?_⟩;refine h.hs.row (eqS hw) j1 j2 λ a ha=>⟨r.L[j].owner,r.L[j].cls,r.L[j].many,ts[j],ha,?_⟩;refine Za hw λ bh w hw=>?_;have hw:Sat R' (pts bh emH::Own out 5 (b8 (pre++Z3 (r.L.take j)))::pts q (Zx r sg sl s)::Hs) w:=hw;refine sRu hw λ w hw=>?_;have hw:=hw.re (pts bh (Zal r.L[j] ts[j]));refine ⟨r.L[j].owner,oA hw,r.L[j].cls,oA hw,r.L[j].many,oA hw,ts[j],oA hw,?_⟩;rw [hrl];refine Za hw λ bn w hw=>?_;have hw:Sat R' (pts bn (.cells ([r.L[j].owner,r.L[j].cls,r.L[j].many,(r.L[j].seats.length:Int)].map (Value.int .i64)).toArray 3 (0,0))::pts bh (Zal r.L[j] ts[j])::Own out 5 (b8 (pre++Z3 (r.L.take j)))::pts q (Zx r sg sl s)::Hs) w:=hw;refine (Zgt (n:=4) (by rfl) u4 (by simp) hw).use ?_;clear hw;rintro _ w ⟨t6,rfl,hw⟩;refine ⟨t6,rfl,?_⟩;have hw:Sat R' (Own out 5 (b8 (pre++Z3 (r.L.take j)))::Own t6 5 (b8 (Zi [r.L[j].owner,r.L[j].cls,r.L[j].many,(r.L[j].seats.length:Int)]))::pts bh (Zal r.L[j] ts[j])::pts q (Zx r sg sl s)::Hs) w:=hw.arr;refine Zaz ZhK (s:=out) (n:=1099511627790) underlying47 hw (by rw [List.length_append];omega) (by omega) (by omega) λ s5 w hw=>?_;refine ⟨ts[j],oA hw,?_⟩;refine (Zcc hsm.s (by omega) hro hw).use ?_;clear hw;rintro _ w ⟨t7,rfl,hw⟩;refine ⟨t7,rfl,?_⟩;have hw:Sat R' (Own s5 5 (b8 (pre++Z3 (r.L.take j)++Zi [r.L[j].owner,r.L[j].cls,r.L[j].many,(r.L[j].seats.length:Int)]))::Own t7 5 (b8 (Zi r.L[j].seats))::pts q (Zx r sg sl s)::Hs) w:=by
   have h5:Sat R' (Own t6 5 (b8 (Zi [r.L[j].owner,r.L[j].cls,r.L[j].many,(r.L[j].seats.length:Int)]))::pts bh (Zal r.L[j] ts[j])::Own s5 5 (b8 (pre++Z3 (r.L.take j)++Zi [r.L[j].owner,r.L[j].cls,r.L[j].many,(r.L[j].seats.length:Int)]))::Own t7 5 (b8 (Zi r.L[j].seats))::pts q (Zx r sg sl s)::Hs) w:=hw.arr;exact h5.drop.drop
  refine Zaz ZhK (s:=s5) (n:=1099511627790) underlying47 hw (by rw [List.length_append,List.length_append];omega) (by omega) (by omega) λ s6 w hw=>?_;rw [Zd];refine ⟨⟨j + 1,by omega,by omega,?_⟩,by dsimp only;omega⟩;have eB:pre++Z3 (r.L.take (j + 1))=pre++Z3 (r.L.take j)++Zi [r.L[j].owner,r.L[j].cls,r.L[j].many,(r.L[j].seats.length:Int)]++Zi r.L[j].seats:=by
   rw [Zhk j1];unfold ZdM Zcw;rw [show [r.L[j].owner,r.L[j].cls,r.L[j].many,(r.L[j].seats.length:Int)]=[r.L[j].owner,r.L[j].cls,r.L[j].many]++[(r.L[j].seats.length:Int)] from rfl,ZdF [r.L[j].owner,r.L[j].cls,r.L[j].many]]
   simp only [List.append_assoc]
  rw [eB];exact hw.swap.drop
 ·rw [List.take_of_length_le (by omega),hfin] at hw
  refine ⟨out,rfl,?_⟩;exact (Sat.rf.2 ⟨sg,sl,s,ts,hl,back _ _ hw.swap⟩:Sat R (Zbi q r::Own out 5 (b8 (Zby r))::Hs) w).swap
structure ZAa (r:RF) (j:Nat) (hj:j<r.L.length):Prop where
 o:1<=r.L[j].owner
 p:∀ h:0<j,r.L[j - 1].owner<r.L[j].owner
 c:r.L[j].cls<r.lims.length
 m:1<=r.L[j].many
 n:(r.L[j].seats.length:Int)<=r.L[j].many
 s:∀ k (hk:k<r.L[j].seats.length),r.L[j].seats[k] ∉ ZA (r.L.take j)++r.L[j].seats.take k/\r.L[j].seats[k]<Zaw r.rows r.grps/\∀ h:0<k,r.L[j].seats[k - 1]<r.L[j].seats[k]
structure ZAb (r:RF):Prop where
 num:1<=r.num
 lay:ZcR r.rows r.grps=true
 lim:Ze4 r.lims=true
 l0:r.lims.getD 0 0=Zaw r.rows r.grps
 each:∀ j (hj:j<r.L.length),ZAa r j hj
 nest:Z8 r.lims r.sold=true
def Raw.rf (x:Raw):RF:=⟨x.num,x.rows,x.grps,x.lims,x.L⟩
end
section
open Go Go.VC Tryz
theorem Zja {lim sold:List Int} {c many:Int} (hn:Z8 lim sold=true) (c0:0<=c) (c1:c<lim.length) (m0:1<=many) (m1:many<=10000) (h:Z8 lim (sold.set c.toNat (sold.getD c.toNat 0 + many))=true):(ZaE lim sold c many).2=0:=by
 obtain ⟨i1,i2,i3⟩:=ZL.1 hn;obtain ⟨_,_,k3⟩:=ZL.1 h;have hl:ZaW lim sold c=(mnF (ZcP lim sold) (c.toNat + 1),0):=by unfold ZaW;rw [if_pos ⟨hn,c0,c1⟩]
 have hm:=Znf (ZcP lim sold) (c.toNat + 1);have hle:many<=mnF (ZcP lim sold) (c.toNat + 1):=by
  rcases hm.2.2 with e|⟨k,_,hk,e⟩
  ·omega
  ·rw [e]
   have hf:=ZdO (sold:=sold) (c:=c.toNat) (m:=many) (by omega) (lim.length - k) k (by omega);rw [if_pos (by omega)] at hf;have:=(k3 k (by omega)).2;unfold ZcP;omega
 unfold ZaE;rw [hl];dsimp only;rw [if_neg (by omega),if_neg (by omega)]
variable {f:PF} {r:RF}
theorem Zsp {A C:List Zu} {h:Zu} {n:Int} (t:Tie f r) (g:ZaP r) (hL:r.L=A++h::C) (hA:ZbB h.owner A=none) (h4:n ∉ ZA r.L) (hb:0<=n/\n<Zaw r.rows r.grps) (hm:(h.seats.length:Int)<h.many):
  Tie (Zpw f h.owner n) { r with L:=A++h.put n::C }/\ZaP { r with L:=A++h.put n::C }:=by
 have hh:=g.each h (by rw [hL];simp);have hg:ZH h.owner f.hs=some h:=by rw [t.get g.rise,hL];exact Zjx rfl hA
 have e:Zpw f h.owner n={ f with hs:=Zf4 h.owner (h.put n) f.hs,own:=ZeN n h.owner f.own }:=by unfold Zpw;rw [hg]
 rw [e];have hnh:n ∉ h.seats:=λ e=>h4 (ZbZ.2 ⟨h,by rw [hL];simp,e⟩);have hs:∀ x∈(h.put n).seats,x∈h.seats\/(x ∉ ZA r.L/\0<=x/\x<Zaw r.rows r.grps):=λ x hx=>by
  rcases ZbU.1 hx with rfl|hx
  ·exact .inr ⟨h4,hb⟩
  ·exact .inl hx
 refine ⟨ZlB (h':=h.put n) t g hL hA rfl rfl rfl (λ x hx=>(hs x hx).imp id (·.1)) (ZfK t.nod) λ x=>?_,Zju (h':=h.put n) g hL rfl rfl rfl ?_ ?_ hs⟩
 ·rw [Zho]
  show _=if x∈Zdt n h.seats then some h.owner else _
  by_cases hx:x=n
  ·rw [if_pos hx,if_pos (ZbU.2 (.inl hx))]
  ·rw [if_neg hx]
   by_cases hx2:x∈h.seats
   ·rw [if_pos (ZbU.2 (.inr hx2))]
    exact (t.own x h.owner).2 ⟨h,by rw [hL];simp,rfl,hx2⟩
   ·rw [if_neg (λ e=>(ZbU.1 e).elim hx hx2),if_neg hx2]
 ·exact ZeV.2 (Zmf (ZeV.1 hh.rise) hnh)
 ·show ((Zdt n h.seats).length:Int)<=_
  rw [Zgw];omega
def SOk (N:Int) (T:List Int):List Int->Int->Prop
 |[],_=>True
 |n::l,last=>n ∉ T/\last<n/\n<N/\SOk N T l n
theorem ZlD (P:List Zu) (h:Zu):ZA (P++[h])=ZA P++h.seats:=by simp [ZA]
theorem Zpt {P:List Zu} {h:Zu}:∀ (l acc:List Int) (last:Int) {f:PF} {r:RF},Tie f r->ZaP r->r.L=P++[{ h with seats:=acc }]->(acc.length + l.length:Int)<=h.many->(∀ x∈acc,x<=last)->-1<=last->
  ((ZlQ h.owner (Zaw r.rows r.grps) l last f).2=true↔SOk (Zaw r.rows r.grps) (ZA P) l last)/\
  ((ZlQ h.owner (Zaw r.rows r.grps) l last f).2=true->Tie (ZlQ h.owner (Zaw r.rows r.grps) l last f).1 { r with L:=P++[{ h with seats:=acc++l }] }/\ZaP { r with L:=P++[{ h with seats:=acc++l }] })
 |[],acc,last,f,r,t,g,hL,_,_,_=>by
  refine ⟨⟨λ _=>trivial,λ _=>rfl⟩,λ _=>?_⟩;rw [List.append_nil,<-hL];exact ⟨t,g⟩
 |n::l,acc,last,f,r,t,g,hL,hm,hacc,hlast=>by
  rw [Zoi];have hown:ZbB h.owner P=none:=by
   have h5:=g.rise;rw [hL] at h5;refine Zcy.2 λ x hx e=>?_;have:=(List.pairwise_append.1 h5).2.2 x hx _ (List.mem_singleton.2 rfl);dsimp only at this;omega
  have htk:ZA r.L=ZA P++acc:=by rw [hL,ZlD]
  rw [List.length_cons] at hm;show _/\_;by_cases h1:(ZH n f.own).isSome=true
  ·rw [if_pos h1]
   refine ⟨⟨λ e=>(by cases e),λ e=>?_⟩,λ e=>by cases e⟩;have h2:=(t.taken n).1 h1;rw [htk] at h2;rcases List.mem_append.1 h2 with h2|h2
   ·exact absurd h2 e.1
   ·have:=hacc n h2;have:=e.2.1;omega
  rw [if_neg h1];have hnt:n ∉ ZA r.L:=λ e=>h1 ((t.taken n).2 e);by_cases h2:n<=last
  ·rw [if_pos h2]
   exact ⟨⟨λ e=>(by cases e),λ e=>by have:=e.2.1;omega⟩,λ e=>by cases e⟩
  rw [if_neg h2];by_cases h3:n >= Zaw r.rows r.grps
  ·rw [if_pos h3]
   exact ⟨⟨λ e=>(by cases e),λ e=>by have:=e.2.2.1;omega⟩,λ e=>by cases e⟩
  rw [if_neg h3];have hsp:r.L=P++{ h with seats:=acc }::[]:=hL;have hins:Zdt n acc=acc++[n]:=Zgx λ x hx=>by have:=hacc x hx;omega
  obtain ⟨t2,g2⟩:=Zsp (h:={ h with seats:=acc }) t g hsp hown hnt ⟨by omega,by omega⟩ (by show (acc.length:Int)<h.many;omega);have e2:(Zu.put { h with seats:=acc } n)={ h with seats:=acc++[n] }:=by unfold Zu.put;rw [hins]
  rw [e2] at t2 g2;have ih:=Zpt l (acc++[n]) n t2 g2 rfl (by rw [List.length_append];simp;omega) (λ x hx=>by
   rcases List.mem_append.1 hx with hx|hx
   ·have:=hacc x hx;omega
   ·rw [List.mem_singleton.1 hx];exact Int.le_refl _) (by omega)
  refine ⟨ih.1.trans ⟨λ e=>⟨λ hn=>hnt (by rw [htk];exact List.mem_append_left _ hn),by omega,by omega,e⟩,λ e=>e.2.2.2⟩,λ e=>?_⟩;have h7:=ih.2 e;rw [List.append_assoc] at h7;exact h7
theorem Znn {h:Zu}:∀ {P:List Zu},(∀ x∈P,x.owner<h.owner)->Zhi h P=P++[h]
 |[],_=>rfl
 |x::P,hp=>by
  unfold Zhi;rw [if_pos (hp x List.mem_cons_self),Znn λ y hy=>hp y (List.mem_cons_of_mem _ hy)];rfl
structure ZAe (r:RF) (h:Zu):Prop where
 c:h.cls<r.lims.length
 m:1<=h.many
 n:(h.seats.length:Int)<=h.many
 s:SOk (Zaw r.rows r.grps) (ZA r.L) h.seats (-1)
 nest:Z8 r.lims (Z2 r.lims.length (r.L++[h]))=true
theorem ZgG {h:Zu} (t:Tie f r) (g:ZaP r) (hin:Zge h) (ho:1<=h.owner) (hlt:∀ x∈r.L,x.owner<h.owner):
  ((Zd4 f h).2=true↔ZAe r h)/\((Zd4 f h).2=true->Tie (Zd4 f h).1 { r with L:=r.L++[h] }/\ZaP { r with L:=r.L++[h] }):=by
 obtain ⟨t1,t2,t3⟩:=ZiS t g h.owner h.cls h.many;have hno:¬ (ZbB h.owner r.L).isSome=true:=by
  rw [Zcy.2 λ x hx e=>by have:=hlt x hx;omega];simp
 have hio:=hin.o;have er:Zw r h.owner h.cls h.many=if (ZaE r.lims r.sold h.cls h.many).2=0 then ({ r with L:=Zhi ⟨h.owner,h.cls,h.many,[]⟩ r.L },0) else (r,(ZaE r.lims r.sold h.cls h.many).2):=by
  unfold Zw;rw [if_neg (by omega),if_neg hno]
 have hins:Zhi ⟨h.owner,h.cls,h.many,[]⟩ r.L=r.L++[⟨h.owner,h.cls,h.many,[]⟩]:=Znn hlt;have hsl:∀ {L:List Zu},h.cls<r.lims.length->r.sold.set h.cls.toNat (r.sold.getD h.cls.toNat 0 + h.many)=Z2 r.lims.length (r.L++[h]):=λ hc=>Zdx (List.perm_append_comm) hin.c.1 hc;unfold Zd4;rw [t1,er];by_cases hs:(ZaE r.lims r.sold h.cls h.many).2=0
 ·rw [if_pos hs]
  rw [er,if_pos hs,hins] at t2 t3;obtain ⟨e1,e2,c0,c1,hm⟩:=Zg5 hs;rw [e1,hsl (L:=r.L) c1] at e2;rw [if_neg (by simp)];by_cases hn:(h.seats.length:Int)>h.many
  ·rw [if_pos hn]
   exact ⟨⟨λ e=>(by cases e),λ e=>by have:=e.n;omega⟩,λ e=>by cases e⟩
  rw [if_neg hn];have hlay:Zaw f.rows f.grps=Zaw r.rows r.grps:=by rw [t.rows,t.grps]
  rw [hlay];obtain ⟨i1,i2⟩:=Zpt (P:=r.L) (h:=h) h.seats [] (-1) t2 t3 rfl (by simp;omega) (λ x hx=>by cases hx) (by omega);refine ⟨i1.trans ⟨λ e=>⟨c1,hm,by omega,e,e2⟩,λ e=>e.s⟩,λ e=>?_⟩;have h7:=i2 e;rw [List.nil_append] at h7;exact h7
 ·rw [if_neg hs,if_pos hs]
  refine ⟨⟨λ e=>(by cases e),λ e=>?_⟩,λ e=>by cases e⟩;exact absurd (Zja g.nest hin.c.1 e.c e.m (by have:=hin.m.2;omega) (by rw [hsl (L:=r.L) e.c];exact e.nest)) hs
theorem Zle {num rows:Int} {grps lims:List Int}:Ztb num rows grps lims=true↔1<=num/\ZcR rows grps=true/\Ze4 lims=true/\lims.getD 0 0=Zaw rows grps:=by
 unfold Ztb;simp only [Bool.and_eq_true,decide_eq_true_eq,beq_iff_eq];constructor
 ·rintro ⟨h1,h2,h3,h4⟩
  exact ⟨by omega,h2,(ZL.1 h3).1,h4⟩
 ·rintro ⟨h1,h2,h3,h4⟩
  exact ⟨by omega,h2,Zg4 h3,h4⟩
theorem ZpJ {N:Int} {T:List Int}:∀ {l:List Int} {last:Int},SOk N T l last↔∀ k (hk:k<l.length),l[k] ∉ T/\l[k]<N/\(if h:0<k then l[k - 1]<l[k] else last<l[k])
 |[],_=>by simp [SOk]
 |n::l,last=>by
  unfold SOk;rw [ZpJ (l:=l) (last:=n)];constructor
  ·rintro ⟨h1,h2,h3,h4⟩ k hk
   rcases k with _|k
   ·exact ⟨h1,h3,h2⟩
   ·have h5:=h4 k (by simpa using hk)
    refine ⟨h5.1,h5.2.1,?_⟩;rw [dif_pos (by omega)];have h6:=h5.2.2;rcases k with _|k
    ·exact h6
    ·rw [dif_pos (by omega)] at h6;exact h6
  ·intro h
   have h0:=h 0 (by simp);refine ⟨h0.1,h0.2.2,h0.2.1,λ k hk=>?_⟩;have h5:=h (k + 1) (by simpa using hk);refine ⟨h5.1,h5.2.1,?_⟩;have h6:=h5.2.2;rw [dif_pos (by omega)] at h6;rcases k with _|k
   ·exact h6
   ·rw [dif_pos (by omega)];exact h6
structure Zr5 (x:Raw):Prop where
 num:x.num<=9999
 hs:∀ h∈x.L,Zge h
def Raw.at (x:Raw) (j:Nat):PS:=(x.L.take j).foldl ZpG (ZdQ x.num x.rows x.grps x.lims,Ztb x.num x.rows x.grps x.lims,0)
def Raw.pre (x:Raw) (j:Nat):RF:=⟨x.num,x.rows,x.grps,x.lims,x.L.take j⟩
def Zl9 (x:Raw) (j:Nat):Int:=if h:0<j/\j<=x.L.length then x.L[j - 1].owner else 0
theorem Zr0 {x:Raw} {j:Nat} (h:j<x.L.length):x.at (j + 1)=ZpG (x.at j) x.L[j]:=by
 unfold Raw.at;rw [List.take_add_one,List.getElem?_eq_getElem h,List.foldl_append];rfl
theorem ZtA {L:List Zu} {o:Int} (h:OwR L):∀ (hl:0<L.length),L[L.length - 1].owner<o->∀ x∈L,x.owner<o:=λ hl hlast x hx=>by
 obtain ⟨i,hi,rfl⟩:=List.getElem_of_mem hx;by_cases e:i=L.length - 1
 ·subst e;exact hlast
 ·have:=List.pairwise_iff_getElem.1 h i (L.length - 1) hi (by omega) (by omega)
  omega
theorem Znb {x:Raw} (xi:Zr5 x) {j:Nat} (hj:j<x.L.length) (hr:∀ y∈x.L.take j,y.owner<x.L[j].owner):
  ZAa x.rf j hj↔(1<=x.L[j].owner/\(∀ h:0<j,x.L[j - 1].owner<x.L[j].owner)/\x.L[j].cls<x.lims.length/\1<=x.L[j].many/\(x.L[j].seats.length:Int)<=x.L[j].many/\SOk (Zaw x.rows x.grps) (ZA (x.L.take j)) x.L[j].seats (-1)):=by
 have hin:=xi.hs x.L[j] (List.getElem_mem _);rw [ZpJ];constructor
 ·intro h
  refine ⟨h.o,h.p,h.c,h.m,h.n,λ k hk=>?_⟩;have h1:=h.s k hk;refine ⟨λ hm=>h1.1 (List.mem_append_left _ hm),h1.2.1,?_⟩;split
  ·exact h1.2.2 (by assumption)
  ·have:=hin.s x.L[j].seats[k] (List.getElem_mem _);omega
 ·rintro ⟨h1,h2,h3,h4,h5,h6⟩
  refine ⟨h1,h2,h3,h4,h5,λ k hk=>?_⟩;have h7:=h6 k hk;have hrise:∀ (t i:Nat) (hi:i + t<x.L[j].seats.length),0<t->x.L[j].seats[i]'(by omega)<x.L[j].seats[i + t]:=λ t=>by
   induction t with
   |zero=>intro i hi h0;omega
   |succ t ih=>
    intro i hi _;have h8:=(h6 (i + (t + 1)) hi).2.2;rw [dif_pos (by omega)] at h8;by_cases ht:t=0
    ·subst ht;exact h8
    ·have h9:=ih i (by omega) (by omega)
     have h8:x.L[j].seats[i + t]'(by omega)<x.L[j].seats[i + (t + 1)]:=h8;omega
  refine ⟨λ hm=>?_,h7.2.1,λ h0=>by have h8:=h7.2.2;rw [dif_pos h0] at h8;exact h8⟩;rcases List.mem_append.1 hm with hm|hm
  ·exact h7.1 hm
  ·obtain ⟨i,hi,he⟩:=List.getElem_of_mem hm
   rw [List.length_take] at hi;rw [List.getElem_take] at he;have hk':k<x.L[j].seats.length:=hk;have hi:i<min k x.L[j].seats.length:=hi;have he:x.L[j].seats[i]'(by omega)=x.L[j].seats[k]:=he;have h9:=hrise (k - i) i (by omega) (by omega);have e:i + (k - i)=k:=by omega
   simp only [e] at h9;omega
theorem ZmD {x:Raw} (xi:Zr5 x):∀ j,j<=x.L.length->(x.at j).2.2=Zl9 x j/\((x.at j).2.1=true->Tie (x.at j).1 (x.pre j)/\ZaP (x.pre j)/\∀ i (hi:i<x.L.length),i<j->ZAa x.rf i hi)
 |0,_=>by
  refine ⟨rfl,λ h=>?_⟩;obtain ⟨h1,h2,h3,h4⟩:=Zle.1 h;refine ⟨Zpu,⟨⟨h1,xi.num⟩,h2,?_,h4,List.Pairwise.nil,λ h hh=>(by cases hh),List.Pairwise.nil⟩,λ i _ hi=>by omega⟩;show Z8 _ (Z2 _ [])=true;rw [ZeQ];exact Zg4 h3
 |j + 1,hj=>by
  have hj1:j<x.L.length:=by omega
  obtain ⟨i1,i2⟩:=ZmD xi j (by omega);have hlast:Zl9 x (j + 1)=x.L[j].owner:=by unfold Zl9;rw [dif_pos ⟨by omega,hj⟩];rfl
  rw [Zr0 hj1,hlast];unfold ZpG;by_cases hc:(x.at j).2.1=true/\x.L[j].owner>(x.at j).2.2
  ·rw [if_pos hc]
   refine ⟨rfl,λ h=>?_⟩;obtain ⟨t,g,hok⟩:=i2 hc.1;rw [i1] at hc;have hin:=xi.hs x.L[j] (List.getElem_mem _);have hlt:∀ y∈(x.pre j).L,y.owner<x.L[j].owner:=λ y hy=>by
    have hne:0<(x.pre j).L.length:=List.length_pos_iff.2 λ e=>by rw [e] at hy;cases hy
    refine ZtA g.rise hne ?_ y hy;have hl:(x.pre j).L.length=j:=by show (x.L.take j).length=j;rw [List.length_take];omega
    have h2:=hc.2;unfold Zl9 at h2;rw [dif_pos ⟨by omega,by omega⟩] at h2;have h3:(x.pre j).L[(x.pre j).L.length - 1]=x.L[j - 1]:=by
     show (x.L.take j)[(x.L.take j).length - 1]'(by rw [List.length_take];omega)=_;rw [List.getElem_take]
     congr 1
     rw [List.length_take];omega
    rw [h3];exact h2
   have ho1:1<=x.L[j].owner:=by
    have h2:=hc.2;unfold Zl9 at h2;split at h2
    ·have:=(xi.hs x.L[j - 1] (List.getElem_mem _)).o;omega
    ·omega
   obtain ⟨r1,r2⟩:=ZgG t g hin ho1 hlt;have e:{ x.pre j with L:=(x.pre j).L++[x.L[j]] }=x.pre (j + 1):=by
    unfold Raw.pre;rw [List.take_add_one,List.getElem?_eq_getElem hj1];rfl
   have h5:=r2 h;rw [e] at h5;refine ⟨h5.1,h5.2,λ i hi hij=>?_⟩;by_cases hie:i=j
   ·subst hie
    have ha:=r1.1 h;refine (Znb xi hj1 hlt).2 ⟨ho1,λ h0=>?_,ha.c,ha.m,ha.n,ha.s⟩;have h2:=hc.2;unfold Zl9 at h2;rw [dif_pos ⟨by omega,by omega⟩] at h2;exact h2
   ·exact hok i hi (by omega)
  ·rw [if_neg hc]
   exact ⟨rfl,λ h=>by cases h⟩
theorem ZtD {x:Raw} (xi:Zr5 x) (m:ZAb x.rf):∀ j,j<=x.L.length->(x.at j).2.1=true
 |0,_=>Zle.2 ⟨m.num,m.lay,m.lim,m.l0⟩
 |j + 1,hj=>by
  have hj1:j<x.L.length:=by omega
  have ih:=ZtD xi m j (by omega);obtain ⟨i1,i2⟩:=ZmD xi j (by omega);obtain ⟨t,g,hok⟩:=i2 ih;have hin:=xi.hs x.L[j] (List.getElem_mem _);have ok:=m.each j hj1;rw [Zr0 hj1];have hgt:x.L[j].owner>(x.at j).2.2:=by
   rw [i1];unfold Zl9;split
   ·rename_i h;exact ok.p h.1
   ·have:=ok.o;show 0<x.L[j].owner;exact this
  have hlt:∀ y∈(x.pre j).L,y.owner<x.L[j].owner:=λ y hy=>by
   have hne:0<(x.pre j).L.length:=List.length_pos_iff.2 λ e=>by rw [e] at hy;cases hy
   refine ZtA g.rise hne ?_ y hy;have hl:(x.pre j).L.length=j:=by show (x.L.take j).length=j;rw [List.length_take];omega
   have h3:(x.pre j).L[(x.pre j).L.length - 1]=x.L[j - 1]:=by
    show (x.L.take j)[(x.L.take j).length - 1]'(by rw [List.length_take];omega)=_;rw [List.getElem_take]
    congr 1
    rw [List.length_take];omega
   rw [h3];exact ok.p (by omega)
  unfold ZpG;rw [if_pos ⟨ih,hgt⟩];refine (ZgG t g hin ok.o hlt).1.2 ?_;have ha:=(Znb xi hj1 hlt).1 ok;refine ⟨ha.2.2.1,ha.2.2.2.1,ha.2.2.2.2.1,ha.2.2.2.2.2,?_⟩;have e:(x.pre j).L++[x.L[j]]=x.L.take (j + 1):=by
   show x.L.take j++_=_;rw [List.take_add_one,List.getElem?_eq_getElem hj1];rfl
  rw [e];show Z8 x.lims (Z2 x.lims.length (x.L.take (j + 1)))=true;refine ZqA m.nest (by show (Z2 _ _).length=(Z2 _ _).length;rw [ZaI,ZaI];rfl) λ k hk=>?_;have hk:k<x.lims.length:=hk;show 0<=(Z2 x.lims.length (x.L.take (j + 1))).getD k 0/\(Z2 x.lims.length (x.L.take (j + 1))).getD k 0<=(Z2 x.lims.length x.L).getD k 0;rw [Zbo hk,Zbo hk];have hmm:∀ y∈x.L,1<=y.many:=λ y hy=>by
   obtain ⟨i,hi,rfl⟩:=List.getElem_of_mem hy;exact (m.each i hi).m
  refine ⟨ZhD λ y hy=>hmm y (List.mem_of_mem_take hy),?_⟩;have h8:Zeo (k:Int) x.L=Zeo (k:Int) (x.L.take (j + 1)) + Zeo (k:Int) (x.L.drop (j + 1)):=by rw [<-Zej,List.take_append_drop]
  have h9:=ZhD (k:=(k:Int)) (L:=x.L.drop (j + 1)) λ y hy=>hmm y (List.mem_of_mem_drop hy);omega
theorem Zxi (x:Raw):x.run=x.at x.L.length/\x.rf=x.pre x.L.length:=by
 constructor
 ·unfold Raw.run Raw.at;rw [List.take_length]
 ·unfold Raw.rf Raw.pre;rw [List.take_length]
theorem Zt6 {x:Raw} (xi:Zr5 x):(x.run.2.1=true↔ZAb x.rf)/\(x.run.2.1=true->Tie x.run.1 x.rf/\ZaP x.rf):=by
 obtain ⟨e1,e2⟩:=Zxi x;have h:=(ZmD xi x.L.length (Nat.le_refl _)).2;rw [<-e1,<-e2] at h;refine ⟨⟨λ hr=>?_,λ m=>by rw [e1];exact ZtD xi m _ (Nat.le_refl _)⟩,λ hr=>⟨(h hr).1,(h hr).2.1⟩⟩;obtain ⟨t,g,hok⟩:=h hr;exact ⟨g.num.1,g.lay,(ZL.1 g.nest).1,g.l0,λ j hj=>hok j hj hj,g.nest⟩
theorem Zt8 {bs:List Int} (hb:∀ y∈bs,0<=y/\y<256):Zr5 (Ztw bs):=by
 have hb0:∀ y∈(⟨bs,false⟩:Rd).bs,0<=y/\y<256:=hb;have h5:=Zba (most:=600) (Zjc (most:=8) (each:=10000) (Zjc (most:=4) (each:=10) (Zba (most:=60) (Zba (most:=9999) hb0))));exact ⟨(ZcW (most:=9999) hb0 (by omega)).2,(Zie _ h5).1⟩
end
section
open Go Go.VC Tryz
theorem Zol {n:Nat} {most:Int} {rest:List Int} (h:n<18446744073709551616) (hm:(n:Int)<=most):Za2 most ⟨ZeO n++rest,false⟩=((n:Int),⟨rest,false⟩):=by
 unfold Za2;rw [if_neg (by simp)];dsimp only;rw [Zqn h];dsimp only;rw [if_pos ⟨rfl,hm⟩,List.drop_left]
theorem Zbp {x most:Int} {rest:List Int} (h0:0<=x) (h1:x<=most) (h2:x<18446744073709551616):Za2 most ⟨Zi [x]++rest,false⟩=(x,⟨rest,false⟩):=by
 obtain ⟨n,rfl⟩:=Int.eq_ofNat_of_zero_le h0;have e:Zi [(n:Int)]=ZeO n:=by simp [Zi]
 rw [e];exact Zol (by omega) h1
theorem Zin {each:Int} (he:each<18446744073709551616) {rest:List Int}:∀ {l:List Int},(∀ x∈l,0<=x/\x<=each)->Zg8 l.length each ⟨Zi l++rest,false⟩=(l,⟨rest,false⟩)
 |[],_=>rfl
 |x::l,h=>by
  have h1:=h x List.mem_cons_self;rw [ZdE,List.append_assoc];show ((Za2 each _).1::(Zg8 l.length each (Za2 each _).2).1,(Zg8 l.length each (Za2 each _).2).2)=_;rw [Zbp h1.1 h1.2 (by omega)];dsimp only;rw [Zin he λ y hy=>h y (List.mem_cons_of_mem _ hy)]
theorem ZfN {most each:Int} (he:each<18446744073709551616) {rest l:List Int} (hl:(l.length:Int)<=most) (hm:most<18446744073709551616) (h:∀ x∈l,0<=x/\x<=each):Zg9 most each ⟨Zcw l++rest,false⟩=(l,⟨rest,false⟩):=by
 unfold Zg9 Zcw;rw [List.append_assoc,Zbp (by omega) hl (by omega)];exact Zin he h
theorem Zok {h:Zu} (hin:Zge h) (rest:List Int):ZfH ⟨ZdM h++rest,false⟩=(h,⟨rest,false⟩):=by
 have e:ZdM h++rest=Zi [h.owner]++(Zi [h.cls]++(Zi [h.many]++(Zcw h.seats++rest))):=by
  unfold ZdM;rw [ZdE h.owner,ZdE h.cls];simp only [List.append_assoc]
 have:=hin.o;have:=hin.c;have:=hin.m;have:=hin.n;unfold ZfH;rw [e,Zbp (by omega) (by omega) (by omega)];dsimp only;rw [Zbp (by omega) (by omega) (by omega)];dsimp only;rw [Zbp (by omega) (by omega) (by omega)];dsimp only;rw [ZfN (by omega) (by omega) (by omega) hin.s]
theorem Zf6 {rest:List Int}:∀ {L:List Zu},(∀ h∈L,Zge h)->ZeW L.length ⟨Z3 L++rest,false⟩=(L,⟨rest,false⟩)
 |[],_=>rfl
 |h::L,hin=>by
  have e:Z3 (h::L)++rest=ZdM h++(Z3 L++rest):=by simp [Z3]
  rw [e];show ((ZfH _).1::(ZeW L.length (ZfH _).2).1,(ZeW L.length (ZfH _).2).2)=_;rw [Zok (hin h List.mem_cons_self)];dsimp only;rw [Zf6 λ x hx=>hin x (List.mem_cons_of_mem _ hx)]
variable {f:PF} {r:RF}
theorem Zjv (g:ZaP r):∀ h∈r.L,Zge h:=λ h hh=>by
 have h1:=g.each h hh;have h2:=g.len.2 h hh;have h3:=(Zak.1 (ZL.1 g.nest).1).1.2;have h4:=(ZbR r.rows r.grps).2;have:=h1.owner;have:=h1.cls;have:=h1.many;have:=h1.few;exact ⟨by omega,by omega,by omega,λ x hx=>by have:=h1.seats x hx;omega,by omega⟩
theorem Zb1 (g:ZaP r):(∀ x∈r.lims,0<=x/\x<=10000)/\1<=r.lims.length/\r.lims.length<=8:=by
 obtain ⟨h1,h2⟩:=Zak.1 (ZL.1 g.nest).1;refine ⟨λ x hx=>?_,h1⟩;obtain ⟨i,hi,rfl⟩:=List.getElem_of_mem hx;exact (h2 i hi).1
theorem ZsA (g:ZaP r):Ztw (Zby r)=⟨r.num,r.rows,r.grps,r.lims,r.L,⟨[],false⟩⟩:=by
 obtain ⟨l1,l2,l3⟩:=ZW.1 g.lay;obtain ⟨m1,m2,m3⟩:=Zb1 g;have hlen:=g.len.1;have hnum:=g.num;have e:Zby r=Zi [r.num]++(Zi [r.rows]++(Zcw r.grps++(Zcw r.lims++(Zi [(r.L.length:Int)]++(Z3 r.L++[]))))):=by
  unfold Zby ZtJ;rw [ZdE r.num];simp only [List.append_assoc,List.append_nil]
 unfold Ztw;rw [e];dsimp only;rw [Zbp (by omega) (by omega) (by omega)];dsimp only;rw [Zbp (by omega) (by omega) (by omega)];dsimp only;rw [ZfN (by omega) (by omega) (by omega) (λ x hx=>by have:=l2 x hx;omega)];dsimp only;rw [ZfN (by omega) (by omega) (by omega) m1];dsimp only;rw [Zbp (by omega) (by omega) (by omega)];dsimp only;rw [show ((r.L.length:Int)).toNat=r.L.length from rfl,Zf6 (Zjv g)]
theorem Zs5 (g:ZaP r):ZAb r:=by
 refine ⟨g.num.1,g.lay,(ZL.1 g.nest).1,g.l0,λ j hj=>?_,g.nest⟩;have hh:=g.each r.L[j] (List.getElem_mem _);refine ⟨hh.owner.1,λ h0=>List.pairwise_iff_getElem.1 g.rise (j - 1) j (by omega) hj (by omega),hh.cls.2,hh.many,hh.few,λ k hk=>⟨λ hm=>?_,(hh.seats _ (List.getElem_mem _)).2,λ h0=>hh.rise (k - 1) k hk (by omega)⟩⟩;rcases List.mem_append.1 hm with hm|hm
 ·obtain ⟨x,hx,hxm⟩:=ZbZ.1 hm
  obtain ⟨i,hi,rfl⟩:=List.getElem_of_mem hx;rw [List.length_take] at hi;rw [List.getElem_take] at hxm;exact List.pairwise_iff_getElem.1 g.apart i j (by omega) hj (by omega) _ hxm (List.getElem_mem _)
 ·obtain ⟨i,hi,he⟩:=List.getElem_of_mem hm
  rw [List.length_take] at hi;rw [List.getElem_take] at he;have:=hh.rise i k hk (by omega);omega
theorem Zef (g:ZaP r):ZtT r:=by
 obtain ⟨l1,l2,l3⟩:=ZW.1 g.lay;obtain ⟨m1,m2,m3⟩:=Zb1 g;have hlen:=g.len.1;have hnum:=g.num;refine ⟨by omega,by omega,λ x hx=>by have:=l2 x hx;omega,λ x hx=>by have:=m1 x hx;omega,by omega,by omega,λ h hh=>?_,by omega⟩;have hin:=Zjv g h hh;have:=hin.o;have:=hin.c;have:=hin.m;have:=hin.n;exact ⟨by omega,by omega,by omega,λ x hx=>by have:=hin.s x hx;omega,by omega⟩
theorem Zps (t:Tie f r) (g:ZaP r):ZtV f:=by
 have s:=Zef g;have b:=t.bounds g;refine ⟨by rw [t.num];exact s.num,by rw [t.rows];exact s.rows,by rw [t.grps];exact s.grps,by rw [t.lims];exact s.lims,by omega,by omega,by rw [Zka t g.rise];exact s.hs,by omega⟩
theorem Zt2 (t:Tie f r) (g:ZaP r):ZuV f=Zby r:=by
 unfold ZuV Zby;rw [t.num,t.rows,t.grps,t.lims,Zka t g.rise]
theorem Zt7 (g:ZaP r):(∀ y∈Zby r,0<=y/\y<256)/\(Zby r).length<=6000000:=by
 have s:=Zef g;obtain ⟨l1,l2,l3⟩:=ZW.1 g.lay;obtain ⟨m1,m2,m3⟩:=Zb1 g;have hlen:=g.len.1;have u2:ZcO [r.num,r.rows]:=by intro y hy;have:=s.num;have:=s.rows;simp at hy;omega
 have u1:ZcO [(r.L.length:Int)]:=by intro y hy;simp at hy;omega
 constructor
 ·intro y hy
  unfold Zby ZtJ at hy;simp only [List.mem_append] at hy;rcases hy with (((hy|hy)|hy)|hy)|hy
  ·exact Zeb (ZaS u2) y hy
  ·exact Zjj s.grps (by omega) y hy
  ·exact Zjj s.lims (by omega) y hy
  ·exact Zeb (ZaS u1) y hy
  ·exact Zk7 s.hs y hy
 ·have h1:=ZI (ZaS u2)
  have h2:=Zb0 s.grps (by omega);have h3:=Zb0 s.lims (by omega);have h4:=ZI (ZaS u1);have h5:=Zed s.hs;simp only [List.length_cons,List.length_nil] at h1 h4;unfold Zby ZtJ;simp only [List.length_append];omega
theorem Zhy (g:ZaP r):∃ f',decF (Zby r)=some f'/\Tie f' r:=by
 have e:=ZsA g;have hw:Zp6 (Ztw (Zby r)).rd=true:=by rw [e];rfl
 have hrf:(Ztw (Zby r)).rf=r:=by rw [e];rfl
 obtain ⟨r1,r2⟩:=Zt6 (Zt8 (Zt7 g).1);rw [hrf] at r1 r2;have hr:=r1.2 (Zs5 g);exact ⟨_,by unfold decF;rw [if_pos ⟨hw,hr⟩],(r2 hr).1⟩
end
section
open Go Go.VC Tryz
variable {R:Cx} {Hs Rest:List HP} {w:World}
theorem ZoO {s:Sl} {bs:List Int} (hs:Ro R s (b8 bs)) (hl:bs.length<=1099511627776) (hw:Sat R Hs w):
  Zk prog 83 #[.slice s.a s.len s.cap] w λ v w'=>∃ t:Sl,v=.slice t.a t.len t.cap/\Sat R (Own t 5 (b8 (Zca bs))::Hs) w':=by
 have hlen:s.len=bs.length:=by have:=hs.len;simpa using this
 apply ZxL;unfold B83;rw [Zar,hlen];refine (Zct (by omega) hw).u1 λ t w hw=>?_;refine ⟨t,rfl,?_⟩;rw [<-hlen];have hn:=Zbd (n:=bs.length) (by omega);have hsrc:Src prog 1 47 (.slice s.a s.len s.cap) bs.length (b8 bs) w:=by
  have:=Zst underlying47 hw hs (Zqx _);simpa using this
 refine ZcD ZhK (s:=t) hw hsrc (Zqx _) (by rw [List.length_map];omega) (by rw [List.length_map];omega) λ s2 w hw=>?_;exact ⟨s2,rfl,by simpa [b8,Zca] using hw⟩
end
end Go.Proofs.YtlplemdmegpoeaaGreatDoor
namespace Go.VC
section
open Ieee
def ZfY:Int:=2 ^ 2200
def Zsn:Datum->Option Int
 | .nan ..=>none
 | .infinity s=>some (if s then -ZfY else ZfY)
 | .number s m i=>some (signed s m (i + 1074).toNat)
theorem Zkk (s:Bool) (m k:Nat):signed s m k=(if s then -1 else 1) * ((m:Int) * 2 ^ k):=by
 unfold signed;cases s<;>simp [Nat.shiftLeft_eq]
theorem ZrA {a b:Int} {c:Int} (h:0<c):compare (a * c) (b * c)=compare a b:=by
 simp only [compare,compareOfLessAndEq];have h1:a * c<b * c↔a<b:=⟨λ h2=>Int.lt_of_mul_lt_mul_right h2 (by omega),λ h2=>Int.mul_lt_mul_of_pos_right h2 h⟩;have h2:a * c=b * c↔a=b:=⟨λ h3=>Int.eq_of_mul_eq_mul_right (by omega) h3,λ h3=>by rw [h3]⟩;simp only [h1,h2]
theorem Zkj (s:Bool) (m k c:Nat):signed s m (k + c)=signed s m k * 2 ^ c:=by
 rw [Zkk,Zkk,Int.pow_add];rw [Int.mul_assoc,Int.mul_assoc]
theorem ZlR {x:Nat} {s:Bool} {m:Nat} {i:Int} (h:double.read x=.number s m i):(-1074<=i/\i<=971)/\m<2 ^ 53:=by
 unfold Format.read at h;simp only [ZfX,Zmt,Zhz,Zny] at h;split at h
 ·rename_i hr
  simp only [Datum.number.injEq] at h;obtain ⟨_,rfl,rfl⟩:=h;exact ⟨⟨by omega,by omega⟩,by omega⟩
 ·split at h
  ·rename_i hr
   simp only [Datum.number.injEq] at h;obtain ⟨_,rfl,rfl⟩:=h;refine ⟨⟨by omega,?_⟩,by omega⟩;have:x % 9223372036854775808 / 4503599627370496<=2046:=by omega
   omega
  ·split at h<;>cases h
theorem ZuE (n:Nat):(2:Int) ^ n=((2 ^ n:Nat):Int):=by rw [Int.natCast_pow];rfl
theorem ZmA (n:Nat):(0:Int)<2 ^ n:=Int.pow_pos (by omega)
theorem Zxl {m k n N:Nat} (hm:m<2 ^ 53) (hk:k<=n) (hN:53 + n<N):m * 2 ^ k<2 ^ N:=by
 have h1:m * 2 ^ k<=2 ^ 53 * 2 ^ n:=Nat.mul_le_mul (by omega) (Nat.pow_le_pow_right (by omega) hk);rw [<-Nat.pow_add] at h1;exact Nat.lt_of_le_of_lt h1 (Nat.pow_lt_pow_right (by omega) hN)
theorem Zpk {x:Nat} {s:Bool} {m:Nat} {i:Int} (h:double.read x=.number s m i): -ZfY<signed s m (i + 1074).toNat/\signed s m (i + 1074).toNat<ZfY:=by
 obtain ⟨⟨h1,h2⟩,h3⟩:=ZlR h;have hk:(i + 1074).toNat<=2045:=by omega
 have hp:m * 2 ^ (i + 1074).toNat<2 ^ 2200:=Zxl (N:=2200) (n:=2045) h3 hk (by omega);have hp2:((m * 2 ^ (i + 1074).toNat:Nat):Int)<ZfY:=by
  unfold ZfY;rw [ZuE];exact Int.ofNat_lt.2 hp
 have hb:(0:Int)<ZfY:=by unfold ZfY;exact ZmA 2200
 have e:signed s m (i + 1074).toNat=if s then -((m * 2 ^ (i + 1074).toNat:Nat):Int) else ((m * 2 ^ (i + 1074).toNat:Nat):Int):=by
  unfold signed;rw [Nat.shiftLeft_eq]
 rw [e];generalize m * 2 ^ (i + 1074).toNat=n at *;cases s<;>simp<;>omega
theorem Zqs (x y:Nat):double.order x y=match Zsn (double.read x),Zsn (double.read y) with
  |some a,some b=>some (compare a b)
  |_,_=>none:=by
 have hb:(0:Int)<ZfY:=by unfold ZfY;exact ZmA 2200
 have lt_cmp:∀ a b:Int,a<b->compare a b=.lt:=λ a b h=>by simp only [compare,compareOfLessAndEq,if_pos h]
 have gt_cmp:∀ a b:Int,b<a->compare a b=.gt:=λ a b h=>by simp only [compare,compareOfLessAndEq];rw [if_neg (by omega),if_neg (by omega)]
 have eq_cmp:∀ a:Int,compare a a=.eq:=λ a=>by simp [compare,compareOfLessAndEq]
 unfold Format.order;cases hx:double.read x with
 |nan s t=>cases double.read y<;>rfl
 |infinity s=>
  cases hy:double.read y with
  |nan=>rfl
  |infinity t=>
   show some (compare t.toNat s.toNat)=some (compare (if s then -ZfY else ZfY) (if t then -ZfY else ZfY))
   cases s<;>cases t
   ·simp only [Bool.false_eq_true,if_false];rw [eq_cmp];rfl
   ·simp only [Bool.false_eq_true,if_false,if_true];rw [gt_cmp _ _ (by omega)];rfl
   ·simp only [Bool.false_eq_true,if_false,if_true];rw [lt_cmp _ _ (by omega)];rfl
   ·simp only [if_true];rw [eq_cmp];rfl
  |number t n j=>
   have:=Zpk hy;show some (if s then Ordering.lt else .gt)=some (compare (if s then -ZfY else ZfY) (signed t n (j + 1074).toNat))
   cases s
   ·simp only [Bool.false_eq_true,if_false];rw [gt_cmp _ _ (by omega)]
   ·simp only [if_true];rw [lt_cmp _ _ (by omega)]
 |number s m i=>
  cases hy:double.read y with
  |nan=>rfl
  |infinity t=>
   have:=Zpk hx;show some (if t then Ordering.gt else .lt)=some (compare (signed s m (i + 1074).toNat) (if t then -ZfY else ZfY))
   cases t
   ·simp only [Bool.false_eq_true,if_false];rw [lt_cmp _ _ (by omega)]
   ·simp only [if_true];rw [gt_cmp _ _ (by omega)]
  |number t n j=>
   obtain ⟨⟨i1,i2⟩,_⟩:=ZlR hx;obtain ⟨⟨j1,j2⟩,_⟩:=ZlR hy;show some (compare (signed s m (i - min i j).toNat) (signed t n (j - min i j).toNat))=some (compare (signed s m (i + 1074).toNat) (signed t n (j + 1074).toNat));have e1:(i + 1074).toNat=(i - min i j).toNat + (min i j + 1074).toNat:=by omega
   have e2:(j + 1074).toNat=(j - min i j).toNat + (min i j + 1074).toNat:=by omega
   rw [e1,e2,Zkj,Zkj,ZrA (Int.pow_pos (by omega))]
def kvF (x:Nat):Int:=match Zsn (double.read x) with|none=>-ZfY - 1|some v=>v
def Zlx (x:Nat):Bool:=(Zsn (double.read x)).isNone
theorem ZsZ {x:Nat} (h:Zlx x=false): -ZfY<=kvF x:=by
 have hb:(0:Int)<ZfY:=by unfold ZfY;exact ZmA 2200
 unfold Zlx at h;unfold kvF;cases hr:double.read x with
 |nan s t=>rw [hr] at h;cases h
 |infinity s=>
  show -ZfY<=if s then -ZfY else ZfY
  split<;>omega
 |number s m i=>have:=(Zpk hr).1;show -ZfY<=signed s m (i + 1074).toNat;omega
theorem Zf8 {x:Nat} (h:Zlx x=true):kvF x=-ZfY - 1:=by
 unfold Zlx at h;unfold kvF;cases hv:Zsn (double.read x) with
 |none=>rfl
 |some v=>rw [hv] at h;cases h
theorem Zqu {x y:Nat} (hx:Zlx x=false) (hy:Zlx y=false):(double.order x y==some .lt)=decide (kvF x<kvF y)/\(double.order x y==some .eq)=decide (kvF x=kvF y)/\(double.order x y==some .gt)=decide (kvF y<kvF x):=by
 rw [Zqs];unfold Zlx at hx hy;unfold kvF;cases hvx:Zsn (double.read x) with
 |none=>rw [hvx] at hx;cases hx
 |some a=>
  cases hvy:Zsn (double.read y) with
  |none=>rw [hvy] at hy;cases hy
  |some b=>
   dsimp only;simp only [compare,compareOfLessAndEq];by_cases h1:a<b
   ·rw [if_pos h1]
    refine ⟨by rw [decide_eq_true h1];rfl,by rw [decide_eq_false (by omega)];rfl,by rw [decide_eq_false (by omega)];rfl⟩
   ·rw [if_neg h1]
    by_cases h2:a=b
    ·rw [if_pos h2]
     refine ⟨by rw [decide_eq_false h1];rfl,by rw [decide_eq_true h2];rfl,by rw [decide_eq_false (by omega)];rfl⟩
    ·rw [if_neg h2]
     refine ⟨by rw [decide_eq_false h1];rfl,by rw [decide_eq_false h2];rfl,by rw [decide_eq_true (by omega)];rfl⟩
theorem Zgs {x y:Nat} (h:Zlx x=true\/Zlx y=true):double.order x y=none:=by
 rw [Zqs];unfold Zlx at h;cases hvx:Zsn (double.read x) with
 |none=>rfl
 |some a=>
  cases hvy:Zsn (double.read y) with
  |none=>rfl
  |some b=>rw [hvx,hvy] at h;simp at h
theorem Zm9 (x:Nat):(double.order x x==some .eq)=!Zlx x:=by
 cases h:Zlx x with
 |true=>rw [Zgs (.inl h)];rfl
 |false=>rw [(Zqu h h).2.1];simp
def ZeA (a b:Nat):Int:=if kvF a<kvF b then -1 else if kvF a=kvF b then 0 else 1
end
def ZqX (b:Nat):Nat:=if b<9223372036854775808 then b + 9223372036854775808 else 18446744073709551615 - b
theorem ZtF {b:Nat} (h:b<18446744073709551616):ZqX b<18446744073709551616:=by
 unfold ZqX;split<;>omega
structure Wt where
 id:Int
 cls:Int
 many:Int
 time:Int
 sc:Nat
deriving DecidableEq
def Wt.Ok (w:Wt):Prop:=(1<=w.id/\w.id<=28629151)/\(0<=w.cls/\w.cls<=7)/\(1<=w.many/\w.many<=600)/\(0<=w.time/\w.time<=1099511627776)
instance (w:Wt):Decidable w.Ok:=by unfold Wt.Ok;infer_instance
def Wt.ahead (a b:Wt):Bool:=if kvF a.sc=kvF b.sc then (if a.time=b.time then decide (a.id<b.id) else decide (a.time<b.time)) else decide (kvF b.sc<kvF a.sc)
theorem Zfw {a b:Wt}:a.ahead b=true↔kvF b.sc<kvF a.sc\/kvF a.sc=kvF b.sc/\(a.time<b.time\/a.time=b.time/\a.id<b.id):=by
 unfold Wt.ahead;split
 ·split
  ·simp;omega
  ·simp;omega
 ·simp;omega
theorem Zdp {a b c:Wt} (h1:a.ahead b=true) (h2:b.ahead c=true):a.ahead c=true:=by
 rw [Zfw] at *;omega
theorem Zr3 {a b:Wt} (h:a.id≠b.id) (h1:a.ahead b=false):b.ahead a=true:=by
 rw [Zfw];have:¬ a.ahead b=true:=by rw [h1];simp
 rw [Zfw] at this;omega
def Wt.ord (a b:Wt):Int:=if ZeA b.sc a.sc≠0 then ZeA b.sc a.sc else if a.time<b.time then -1 else if b.time<a.time then 1 else if a.id<b.id then -1 else if b.id<a.id then 1 else 0
theorem Zqt {a b:Wt}:a.ord b<0↔a.ahead b=true:=by
 rw [Zfw];unfold Wt.ord ZeA
 repeat' split
 all_goals first|omega|(simp at *;omega)
def QSt (q:List Wt):Prop:=q.Pairwise λ a b=>a.ahead b=true
def Zyw (q:List Wt):Prop:=q.Pairwise λ a b=>a.id≠b.id
structure QOk (q:List Wt):Prop where
 st:QSt q
 ids:Zyw q
 ok:∀ w∈q,w.Ok
 fl:∀ w∈q,w.sc<18446744073709551616
 len:q.length<=200
theorem QOk.nil:QOk []:=⟨List.Pairwise.nil,List.Pairwise.nil,λ _ h=>(by cases h),λ _ h=>(by cases h),by simp⟩
def Zis (w:Wt) (q:List Wt):List Wt:=q.takeWhile (λ a=>a.ahead w)++w::q.dropWhile (λ a=>a.ahead w)
theorem Zcx (w a:Wt) (q:List Wt):Zis w (a::q)=if a.ahead w then a::Zis w q else w::a::q:=by
 unfold Zis;rw [List.takeWhile_cons,List.dropWhile_cons];split<;>rfl
theorem ZcM {w x:Wt}:∀ {q:List Wt},x∈Zis w q↔x=w\/x∈q
 |[]=>by simp [Zis]
 |a::q=>by
  rw [Zcx];split
  ·rw [List.mem_cons,ZcM,List.mem_cons]
   constructor
   ·rintro (h|h|h)<;>simp [h]
   ·rintro (h|h|h)<;>simp [h]
  ·rw [List.mem_cons]
theorem Znl {w:Wt}:∀ {q:List Wt},(Zis w q).length=q.length + 1
 |[]=>rfl
 |a::q=>by
  rw [Zcx];split
  ·rw [List.length_cons,Znl,List.length_cons]
  ·rfl
theorem Zq8 {w:Wt}:∀ {q:List Wt},QSt q->(∀ x∈q,x.id≠w.id)->QSt (Zis w q)
 |[],_,_=>List.Pairwise.cons (λ _ h=>(by cases h)) List.Pairwise.nil
 |a::q,h,hid=>by
  have h1:=List.pairwise_cons.1 h;rw [Zcx];split
  ·rename_i ha
   refine List.Pairwise.cons (λ x hx=>?_) (Zq8 h1.2 λ x hx=>hid x (by simp [hx]));rcases ZcM.1 hx with rfl|hx
   ·exact ha
   ·exact h1.1 x hx
  ·rename_i ha
   have hwa:w.ahead a=true:=Zr3 (hid a (by simp)) (by simpa using ha);refine List.Pairwise.cons (λ x hx=>?_) h;rcases List.mem_cons.1 hx with rfl|hx
   ·exact hwa
   ·exact Zdp hwa (h1.1 x hx)
theorem Znm {w:Wt}:∀ {q:List Wt},Zyw q->(∀ x∈q,x.id≠w.id)->Zyw (Zis w q)
 |[],_,_=>List.Pairwise.cons (λ _ h=>(by cases h)) List.Pairwise.nil
 |a::q,h,hid=>by
  have h1:=List.pairwise_cons.1 h;rw [Zcx];split
  ·refine List.Pairwise.cons (λ x hx=>?_) (Znm h1.2 λ x hx=>hid x (by simp [hx]))
   rcases ZcM.1 hx with rfl|hx
   ·exact hid a (by simp)
   ·exact h1.1 x hx
  ·refine List.Pairwise.cons (λ x hx=>?_) h
   exact λ e=>hid x hx e.symm
theorem ZuF {w:Wt} {q:List Wt} {i:Nat} (hst:QSt q) (h1:i=0\/∃ h:i - 1<q.length,q[i - 1].ahead w=true) (h2:∀ h:i<q.length,q[i].ahead w=false) (hi:i<=q.length):Zis w q=q.take i++w::q.drop i:=by
 induction q generalizing i with
 |nil=>cases i with
  |zero=>rfl
  |succ n=>simp at hi
 |cons a q ih=>
  have hp:=List.pairwise_cons.1 hst;rw [Zcx];cases i with
  |zero=>rw [if_neg (by have:=h2 (by simp);simp at this;simp [this])];rfl
  |succ n=>
   have ha:a.ahead w=true:=by
    rcases h1 with h1|⟨hl,h1⟩
    ·omega
    ·cases n with
     |zero=>simpa using h1
     |succ m=>
      have hm:m<q.length:=by simp at hl;omega
      exact Zdp (hp.1 q[m] (List.getElem_mem hm)) (by simpa using h1)
   rw [if_pos ha,ih hp.2 ?_ (λ hl=>by have:=h2 (by simp;omega);simpa using this) (by simp at hi;exact hi)]
   ·rfl
   ·cases n with
    |zero=>exact .inl rfl
    |succ m=>
     refine .inr ⟨by simp at hi;omega,?_⟩;rcases h1 with h1|⟨hl,h1⟩
     ·omega
     ·simpa using h1
def ZdN (id:Int) (q:List Wt):Bool:=q.any λ w=>decide (w.id=id)
def Zcd (q:List Wt) (w:Wt):List Wt × Int:=
 if ¬ w.Ok then (q,1) else if ZdN w.id q then (q,7) else if 200<=q.length then (q,3) else (Zis w q,0)
def Zfz (id:Int):List Wt->List Wt
 |[]=>[]
 |w::q=>if w.id=id then q else w::Zfz id q
def Zj0 (q:List Wt) (id:Int):List Wt × Int:=if ZdN id q then (Zfz id q,0) else (q,2)
theorem Zfb {id:Int} {q:List Wt}:ZdN id q=true↔∃ w∈q,w.id=id:=by
 unfold ZdN;simp
theorem ZuG {id:Int} {q:List Wt}:ZdN id q=false↔∀ w∈q,w.id≠id:=by
 unfold ZdN;simp
theorem Zeh {id:Int}:∀ {q:List Wt},(Zfz id q).Sublist q
 |[]=>List.Sublist.refl _
 |w::q=>by
  show (if w.id=id then q else w::Zfz id q).Sublist _
  split
  ·exact List.sublist_cons_self _ _
  ·exact Zeh.cons_cons _
theorem ZiG {id:Int}:∀ {q:List Wt},ZdN id q=true->∃ A w C,q=A++w::C/\w.id=id/\(∀ x∈A,x.id≠id)/\Zfz id q=A++C
 |[],h=>by cases h
 |w::q,h=>by
  by_cases e:w.id=id
  ·exact ⟨[],w,q,rfl,e,λ _ h=>(by cases h),by show (if w.id=id then q else _)=_;rw [if_pos e];rfl⟩
  ·have h2:ZdN id q=true:=by
    rw [Zfb] at *;obtain ⟨x,hx,hi⟩:=h;rcases List.mem_cons.1 hx with rfl|hx
    ·exact absurd hi e
    ·exact ⟨x,hx,hi⟩
   obtain ⟨A,x,C,rfl,hx,hA,hd⟩:=ZiG h2;refine ⟨w::A,x,C,rfl,hx,λ y hy=>?_,?_⟩
   ·rcases List.mem_cons.1 hy with rfl|hy
    ·exact e
    ·exact hA y hy
   ·show (if w.id=id then _ else w::Zfz id _)=_
    rw [if_neg e,hd];rfl
theorem ZjJ {id:Int} {q:List Wt} (h:Zyw q) {x:Wt}:x∈Zfz id q↔x∈q/\x.id≠id:=by
 induction q with
 |nil=>simp [Zfz]
 |cons w q ih=>
  have hp:=List.pairwise_cons.1 h;show x∈(if w.id=id then q else w::Zfz id q)↔_
  split
  ·rename_i e
   constructor
   ·exact λ hx=>⟨by simp [hx],λ e2=>hp.1 x hx (by rw [e,e2])⟩
   ·rintro ⟨hx,hn⟩
    rcases List.mem_cons.1 hx with rfl|hx
    ·exact absurd e hn
    ·exact hx
  ·rename_i e
   rw [List.mem_cons,ih hp.2,List.mem_cons];constructor
   ·rintro (rfl|⟨h1,h2⟩)
    ·exact ⟨.inl rfl,e⟩
    ·exact ⟨.inr h1,h2⟩
   ·rintro ⟨rfl|h1,h2⟩
    ·exact .inl rfl
    ·exact .inr ⟨h1,h2⟩
theorem QOk.del {q:List Wt} (h:QOk q) (id:Int):QOk (Zfz id q):=
 ⟨h.st.sublist Zeh,h.ids.sublist Zeh,λ w hw=>h.ok w (Zeh.subset hw),λ w hw=>h.fl w (Zeh.subset hw),Nat.le_trans Zeh.length_le h.len⟩
theorem QOk.ins {q:List Wt} (h:QOk q) {w:Wt} (hw:w.Ok) (hf:w.sc<18446744073709551616) (hn:ZdN w.id q=false) (hl:q.length<200):QOk (Zis w q):=by
 have hn':=ZuG.1 hn;refine ⟨Zq8 h.st hn',Znm h.ids hn',λ x hx=>?_,λ x hx=>?_,by rw [Znl];omega⟩
 ·rcases ZcM.1 hx with rfl|hx
  ·exact hw
  ·exact h.ok x hx
 ·rcases ZcM.1 hx with rfl|hx
  ·exact hf
  ·exact h.fl x hx
def Zcf (left:List Int) (w:Wt):Bool:=decide (w.cls<left.length) && decide (w.many<=left.getD w.cls.toNat 0)
def Zae (q:List Wt) (left:List Int):Option Wt:=q.find? (Zcf left)
theorem Zoo {q:List Wt} {left:List Int} {w:Wt} (h:Zae q left=some w):w∈q/\Zcf left w=true:=
 ⟨List.mem_of_find?_eq_some h,List.find?_some h⟩
def ZeR:List Int:=[65,66,67,68,69,70,71,72,74,75,76,77,78,80,81,82,84,85,86,87,88,89,90,50,51,52,53,54,55,56,57]
theorem Zkl:ZeR.length=31:=rfl
def Za5 (c:Int):Nat->List Int->Int
 |_,[]=>-1
 |i,x::l=>if x=c then i else Za5 c (i + 1) l
def Zz (c:Int):Int:=Za5 c 0 ZeR
theorem Zf1 (c:Int):∀ (i:Nat) (l:List Int),Za5 c i l=-1\/(i<=Za5 c i l/\Za5 c i l<i + l.length)
 |_,[]=>.inl rfl
 |i,x::l=>by
  unfold Za5;split
  ·right;simp;omega
  ·rcases Zf1 c (i + 1) l with h|h
   ·exact .inl h
   ·right;simp;omega
theorem ZiP (c:Int):Zz c=-1\/(0<=Zz c/\Zz c<31):=by
 have:=Zf1 c 0 ZeR;rw [Zkl] at this;unfold Zz;omega
theorem ZdY (c:Int):∀ (i:Nat) (l:List Int),(∀ k (hk:k<l.length),(∀ j (hj:j<k),l[j]'(by omega)≠c)->l[k]=c->Za5 c i l=(i + k:Nat))/\((∀ x∈l,x≠c)->Za5 c i l=-1)
 |i,[]=>⟨λ k hk=>(by simp at hk),λ _=>rfl⟩
 |i,x::l=>by
  refine ⟨λ k hk hj he=>?_,λ h=>?_⟩
  ·cases k with
   |zero=>unfold Za5;rw [if_pos (by simpa using he)];simp
   |succ n=>
    have h0:x≠c:=by simpa using hj 0 (by omega)
    unfold Za5;rw [if_neg h0,(ZdY c (i + 1) l).1 n (by simp at hk;omega) (λ j hjn=>by simpa using hj (j + 1) (by omega)) (by simpa using he)];omega
  ·unfold Za5
   rw [if_neg (h x (by simp)),(ZdY c (i + 1) l).2 λ y hy=>h y (by simp [hy])]
def Zjg (l:List Int):Int:=l.foldl (λ n d=>n * 31 + d) 0
def Zb9:Int->List Int->Int
 |_,[]=>0
 |k,d::l=>k * d + Zb9 (k + 1) l
theorem Zsi (k:Int) (a b:List Int):Zb9 k (a++b)=Zb9 k a + Zb9 (k + a.length) b:=by
 induction a generalizing k with
 |nil=>simp [Zb9]
 |cons x a ih=>simp only [List.cons_append,Zb9,ih,List.length_cons];rw [show k + 1 + (a.length:Int)=k + ((a.length + 1:Nat):Int) by omega];omega
theorem Znh (a:List Int) (d:Int):Zjg (a++[d])=Zjg a * 31 + d:=by simp [Zjg]
def ZbM (n:Int):List Int:=[n / 923521 % 31,n / 29791 % 31,n / 961 % 31,n / 31 % 31,n % 31]
theorem Zrq (n:Int):∀ d∈ZbM n,0<=d/\d<31:=by
 intro d hd;simp only [ZbM,List.mem_cons,List.not_mem_nil,or_false] at hd;omega
def Zph (n:Int):Int:=(31 - Zb9 2 (ZbM n) % 31) % 31
def ZcI (d:Int):Int:=ZeR.getD d.toNat 0
def ZsY (n:Int):List Int:=(ZbM n++[Zph n]).map ZcI
def ZaZ (bs:List Int):Int × Int:=
 if bs.length≠6\/(∃ c∈bs,Zz c<0) then (0,6)
 else if (Zb9 2 ((bs.take 5).map Zz) + Zz (bs.getD 5 0)) % 31≠0 then (0,6)
 else (Zjg ((bs.take 5).map Zz),0)
theorem Zjh (n:Int):(ZsY n).length=6:=rfl
theorem ZrE (n:Int):0<=Zph n/\Zph n<31:=by unfold Zph;omega
theorem ZqL:∀ {l:List Int} {a:Int} {k:Nat},(∀ d∈l,0<=d/\d<31)->(0<=a/\a<31 ^ k)->0<=l.foldl (λ n d=>n * 31 + d) a/\l.foldl (λ n d=>n * 31 + d) a<31 ^ (k + l.length)
 |[],_,_,_,h=>h
 |d::l,a,k,hd,h=>by
  have h2:=hd d (by simp);have h3:=ZqL (l:=l) (a:=a * 31 + d) (k:=k + 1) (λ x hx=>hd x (by simp [hx])) (by rw [Int.pow_succ];omega);rw [List.length_cons,show k + (l.length + 1)=k + 1 + l.length by omega];exact h3
theorem ZqK {l:List Int} (h:∀ d∈l,0<=d/\d<31):0<=Zjg l/\Zjg l<31 ^ l.length:=by
 have:=ZqL (a:=0) (k:=0) h ⟨by omega,by simp⟩;rw [Nat.zero_add] at this;exact this
end Go.VC
namespace Go.Proofs.YtlplemdmegpoeaaGreatDoor
section
open Go Go.VC Tryz
def ZzY (x:Nat):List Int:=ZeO (ZqX x)
theorem Zh0 (l:List Int):(VC.strOf l).size=l.length:=by
 show (l.map λ n=>UInt8.ofNat n.toNat).toArray.size=_;rw [List.size_toArray,List.length_map]
structure Cm where
 kind:Int
 pnr:ByteArray
 flt:Int
 cls:Int
 many:Int
 time:Int
 sc:Nat
 lab:ByteArray
 rows:Int
 grps:List Int
 parts:List Nat
def Zcu (n:Int):Prop:=0<=n/\n<=9999
structure Z5 (c:Cm):Prop where
 flt:Zcu c.flt
 cls:Zcu c.cls
 many:Zcu c.many
 rows:Zcu c.rows
 grps:∀ n∈c.grps,Zcu n
 pnr:c.pnr.size<=16
 lab:c.lab.size<=16
 gl:c.grps.length<=16
 pl:c.parts.length<=16
 kind:1<=c.kind/\c.kind<=9
 time:0<=c.time/\c.time<=1099511627776
structure ZAd (c:Cm):Prop where
 sc:c.sc<18446744073709551616
 parts:∀ x∈c.parts,x<18446744073709551616
structure Rp where
 code:Int
 pnr:ByteArray
 state:Int
 flt:Int
 cls:Int
 many:Int
 time:Int
 left:List Int
 labs:List ByteArray
def nn (n:Int):Int:=max n 0
structure Zw2 (r:Rp):Prop where
 code:0<=r.code/\r.code<=1099511627776
 pnr:r.pnr.size<=16
 state:0<=r.state/\r.state<=1099511627776
 flt:0<=r.flt/\r.flt<=1099511627776
 cls:0<=r.cls/\r.cls<=1099511627776
 many:0<=r.many/\r.many<=1099511627776
 time:0<=r.time/\r.time<=1099511627776
 ll:r.left.length<=8
 left:∀ n∈r.left,0<=n/\n<=1099511627776
 bl:r.labs.length<=600
 labs:∀ s∈r.labs,s.size<=16
theorem ZhR {n:Int} (h:0<=n):nn n=n:=by unfold nn;omega
end
end Go.Proofs.YtlplemdmegpoeaaGreatDoor
namespace Go.VC
section
section
variable {α:Type} {k:α->Int}
def Zbu (k:α->Int) (l:List α):Prop:=l.Pairwise λ a b=>k a<k b
def Zs0 (k:α->Int) (n:Int) (l:List α):Option α:=l.find? λ x=>decide (k x=n)
def Zdb (k:α->Int) (n:Int) (f:α->α) (l:List α):List α:=l.map λ x=>if k x=n then f x else x
def Zjp (k:α->Int) (n:Int) (l:List α):List α:=l.filter λ x=>!decide (k x=n)
def Zmb (k:α->Int) (x:α) (l:List α):List α:=l.takeWhile (λ y=>decide (k y<k x))++x::l.dropWhile (λ y=>decide (k y<k x))
theorem Zbu.uniq {l:List α} (h:Zbu k l) {a b:α} (ha:a∈l) (hb:b∈l) (e:k a=k b):a=b:=by
 induction l with
 |nil=>cases ha
 |cons x l ih=>
  have hp:=List.pairwise_cons.1 h;rcases List.mem_cons.1 ha with e1|h1
  ·rcases List.mem_cons.1 hb with e2|h2
   ·rw [e1,e2]
   ·have:=hp.1 b h2;rw [e1] at e;omega
  ·rcases List.mem_cons.1 hb with e2|h2
   ·have:=hp.1 a h1;rw [e2] at e;omega
   ·exact ih hp.2 h1 h2
theorem ZdK {n:Int} {l:List α} {x:α} (h:Zs0 k n l=some x):x∈l/\k x=n:=
 ⟨List.mem_of_find?_eq_some h,by have:=List.find?_some h;simpa using this⟩
theorem ZdL {n:Int} {l:List α}:Zs0 k n l=none↔∀ x∈l,k x≠n:=by
 unfold Zs0;rw [List.find?_eq_none];simp
theorem Zjo {n:Int} {l:List α} (h:Zbu k l) {x:α}:Zs0 k n l=some x↔x∈l/\k x=n:=by
 refine ⟨ZdK,λ⟨h1,h2⟩=>?_⟩;cases hg:Zs0 k n l with
 |none=>exact absurd h2 (ZdL.1 hg x h1)
 |some y=>
  have:=ZdK hg;rw [h.uniq this.1 h1 (by omega)]
theorem Zaa {n:Int} {f:α->α} {l:List α} {y:α}:y∈Zdb k n f l↔∃ x∈l,y=if k x=n then f x else x:=by
 unfold Zdb;rw [List.mem_map];exact ⟨λ⟨x,h1,h2⟩=>⟨x,h1,h2.symm⟩,λ⟨x,h1,h2⟩=>⟨x,h1,h2.symm⟩⟩
theorem Zce {n:Int} {l:List α} {y:α}:y∈Zjp k n l↔y∈l/\k y≠n:=by
 unfold Zjp;rw [List.mem_filter];simp
theorem Zjn {n:Int} {f:α->α} {l:List α}:(Zdb k n f l).length=l.length:=List.length_map _
theorem Ze6 {n:Int} {f:α->α} {l:List α} (h:Zbu k l) (hf:∀ x∈l,k x=n->k (f x)=n):Zbu k (Zdb k n f l):=by
 unfold Zbu Zdb;rw [List.pairwise_map];refine List.Pairwise.imp_of_mem (λ {a b} ha hb hab=>?_) h;have h1:k (if k a=n then f a else a)=k a:=by
  split
  ·rename_i e;rw [hf a ha e,e]
  ·rfl
 have h2:k (if k b=n then f b else b)=k b:=by
  split
  ·rename_i e;rw [hf b hb e,e]
  ·rfl
 rw [h1,h2];exact hab
theorem ZqZ {n:Int} {l:List α} (h:Zbu k l):Zbu k (Zjp k n l):=h.sublist List.filter_sublist
theorem ZqU {n:Int} {f:α->α} {l:List α} (h:∀ x∈l,k x≠n):Zdb k n f l=l:=by
 induction l with
 |nil=>rfl
 |cons a l ih=>
  show (if k a=n then f a else a)::Zdb k n f l=_
  rw [if_neg (h a (by simp)),ih λ x hx=>h x (by simp [hx])]
theorem Zq0 {n:Int} {l:List α} (h:∀ x∈l,k x≠n):Zjp k n l=l:=by
 unfold Zjp;rw [List.filter_eq_self];intro x hx;simpa using h x hx
theorem Zjm {n:Int} {f:α->α} {A C:List α} {x:α} (hx:k x=n) (h:Zbu k (A++x::C)):Zdb k n f (A++x::C)=A++f x::C:=by
 have hp:=List.pairwise_append.1 h;have hc:=List.pairwise_cons.1 hp.2.1;have e1:Zdb k n f A=A:=ZqU λ y hy=>by have:=hp.2.2 y hy x (by simp);omega
 have e2:Zdb k n f C=C:=ZqU λ y hy=>by have:=hc.1 y hy;omega
 show List.map _ (A++x::C)=_;rw [List.map_append,List.map_cons,if_pos hx];show Zdb k n f A++f x::Zdb k n f C=_;rw [e1,e2]
theorem Zs2 {n:Int} {A C:List α} {x:α} (hx:k x=n) (h:Zbu k (A++x::C)):Zjp k n (A++x::C)=A++C:=by
 have hp:=List.pairwise_append.1 h;have hc:=List.pairwise_cons.1 hp.2.1;have e1:Zjp k n A=A:=Zq0 λ y hy=>by have:=hp.2.2 y hy x (by simp);omega
 have e2:Zjp k n C=C:=Zq0 λ y hy=>by have:=hc.1 y hy;omega
 show List.filter _ (A++x::C)=_;rw [List.filter_append,List.filter_cons,if_neg (by simpa using hx)];show Zjp k n A++Zjp k n C=_;rw [e1,e2]
theorem ZcZ (x a:α) (l:List α):Zmb k x (a::l)=if k a<k x then a::Zmb k x l else x::a::l:=by
 unfold Zmb;rw [List.takeWhile_cons,List.dropWhile_cons];by_cases h:k a<k x
 ·rw [decide_eq_true h,if_pos h];rfl
 ·rw [decide_eq_false h,if_neg h];rfl
theorem Zdj {x y:α}:∀ {l:List α},y∈Zmb k x l↔y=x\/y∈l
 |[]=>by simp [Zmb]
 |a::l=>by
  rw [ZcZ];split
  ·rw [List.mem_cons,Zdj,List.mem_cons]
   constructor
   ·rintro (h|h|h)<;>simp [h]
   ·rintro (h|h|h)<;>simp [h]
  ·rw [List.mem_cons]
theorem Znj {x:α}:∀ {l:List α},(Zmb k x l).length=l.length + 1
 |[]=>rfl
 |a::l=>by
  rw [ZcZ];split
  ·rw [List.length_cons,Znj,List.length_cons]
  ·rfl
theorem Zk3 {x:α}:∀ {l:List α},Zbu k l->(∀ y∈l,k y≠k x)->Zbu k (Zmb k x l)
 |[],_,_=>List.Pairwise.cons (λ _ h=>(by cases h)) List.Pairwise.nil
 |a::l,h,hn=>by
  have hp:=List.pairwise_cons.1 h;rw [ZcZ];split
  ·rename_i ha
   refine List.Pairwise.cons (λ y hy=>?_) (Zk3 hp.2 λ y hy=>hn y (by simp [hy]));rcases Zdj.1 hy with rfl|hy
   ·exact ha
   ·exact hp.1 y hy
  ·rename_i ha
   have:=hn a (by simp);refine List.Pairwise.cons (λ y hy=>?_) h;rcases List.mem_cons.1 hy with rfl|hy
   ·omega
   ·have:=hp.1 y hy;omega
theorem Zk4 {x:α}:∀ {l:List α},(Zmb k x l).Perm (x::l)
 |[]=>List.Perm.refl _
 |a::l=>by
  rw [ZcZ];split
  ·exact (Zk4.cons a).trans (List.Perm.swap x a l)
  ·exact List.Perm.refl _
theorem ZoK {l:List α} {x:α} (h:Zbu k l) (hx:∀ y∈l,k y<k x):Zbu k (l++[x]):=by
 refine List.pairwise_append.2 ⟨h,List.pairwise_singleton _ _,λ a ha b hb=>?_⟩;rw [List.mem_singleton.1 hb];exact hx a ha
theorem Zbu.ne {l:List α} (h:Zbu k l):l.Pairwise λ a b=>k a≠k b:=h.imp λ hab e=>by omega
end
theorem ZsS {l m:List Int} (h:l.Nodup) (hs:∀ x∈l,x∈m):l.length<=m.length:=by
 induction l generalizing m with
 |nil=>simp
 |cons a l ih=>
  have hp:=List.nodup_cons.1 h;have ha:=hs a (by simp);have h2:=ih (m:=m.erase a) hp.2 λ x hx=>by
   refine (List.mem_erase_of_ne ?_).2 (hs x (by simp [hx]));rintro rfl;exact hp.1 hx
  have h3:=List.length_erase_of_mem ha;have h4:0<m.length:=List.length_pos_of_mem ha;rw [List.length_cons];omega
end
end Go.VC

namespace Go.Proofs.YtlplemdmegpoeaaGreatDoor
section
open Go Go.VC Tryz
def wtB (w:Wt):List Int:=Zi [w.id]++(Zi [w.cls]++(Zi [w.many]++(Zi [w.time]++ZzY w.sc)))
def qB (q:List Wt):List Int:=Zi [(q.length:Int)]++(q.map wtB).flatten
end
section
open Go Go.VC Tryz
variable {R R':Cx} {Hs Rest:List HP} {w:World}
theorem ZaP.hcls {r:RF} (g:ZaP r):∀ x∈r.L,Zyy r.lims.length x:=λ x hx=>by
 have h1:=g.each x hx;have h2:=g.len.2 x hx;exact ⟨h1.cls,by have:=h1.many;omega⟩
theorem ZaP.hseats {r:RF} (g:ZaP r):∀ x∈r.L,x.seats.length<=1000:=λ x hx=>by have:=(Zjv g x hx).n;omega
theorem ZaP.hgrps {r:RF} (g:ZaP r):r.grps.length<=1000:=by have:=(ZW.1 g.lay).1;omega
theorem Zrm {n:Int} {g:List Int} {lab:ByteArray} {k:Int} (h:Zax n g lab=(k,0)):0<=k/\k<Zaw n g:=by
 unfold Zax at h;split at h
 ·rename_i hl
  obtain ⟨l1,l2,l3⟩:=ZW.1 hl;have:=(ZjD (n:=n) (w:=g.sum) (k:=k) (lab:=lab) (by omega) (Zes l2 l1.2.2.1) l3).1 h;rw [Zhg hl];exact ⟨this.1,this.2.1⟩
 ·cases h
end
section
open Go Go.VC Tryz
variable {R R':Cx} {Hs Rest:List HP} {w:World}
def Ze (p:Nat) (r:RF):HP:=exs λ f:PF=>ZhI [pur (Tie f r/\ZaP r),ZD p f]
theorem Sat.lone {p:Nat} {r:RF}:Sat R (Ze p r::Hs) w↔∃ f,(Tie f r/\ZaP r)/\Sat R (ZD p f::Hs) w:=by
 unfold Ze;rw [Sat.exs];constructor
 ·rintro ⟨f,h⟩
  obtain ⟨h1,h2⟩:=Sat.pur.1 (Sat.star.1 h);exact ⟨f,h1,h2⟩
 ·rintro ⟨f,h1,h2⟩
  exact ⟨f,Sat.star.2 (Sat.pur.2 ⟨h1,h2⟩)⟩
section
variable {p:Nat} {r:RF}
theorem ZkX {o c m:Int} (hw:Sat R (Ze p r::Hs) w):Zk prog 101 #[nP p,nI o,nI c,nI m] w λ v w'=>v=nI (Zw r o c m).2/\Sat R (Ze p (Zw r o c m).1::Hs) w':=by
 obtain ⟨f,⟨t,g⟩,hw⟩:=Sat.lone.1 hw;have b:=t.bounds g;obtain ⟨e,t',g'⟩:=ZiS t g o c m;refine (ZnS (by omega) (by omega) hw).u λ w hw=>?_;exact ⟨_,rfl,by rw [e],Sat.lone.2 ⟨_,⟨t',g'⟩,hw⟩⟩
theorem ZkY {o:Int} (hw:Sat R (Ze p r::Hs) w):Zk prog 104 #[nP p,nI o] w λ v w'=>v=nI (ZaX r o).2/\Sat R (Ze p (ZaX r o).1::Hs) w':=by
 obtain ⟨f,⟨t,g⟩,hw⟩:=Sat.lone.1 hw;have b:=t.bounds g;obtain ⟨e,t',g'⟩:=ZmN t g o;refine (ZoN (by omega) (by omega) (λ e he=>by have:=b.2.2.2.2.2.1 e he;omega) hw).u λ w hw=>?_;exact ⟨_,rfl,by rw [e],Sat.lone.2 ⟨_,⟨t',g'⟩,hw⟩⟩
theorem ZqG {o:Int} {lab:ByteArray} (hl:lab.size<=9223372036854775807) (hw:Sat R (Ze p r::Hs) w):Zk prog 106 #[nP p,nI o,.string lab] w λ v w'=>v=nI (ZO r o lab).2/\Sat R (Ze p (ZO r o lab).1::Hs) w':=by
 obtain ⟨f,⟨t,g⟩,hw⟩:=Sat.lone.1 hw;have b:=t.bounds g;obtain ⟨e,t',g'⟩:=ZmL t g o lab λ k hk=>Zrm hk;refine (Zn0 (by omega) hl (λ e he=>by have:=b.2.2.2.2.2.1 e he;exact ⟨this.1,by omega⟩) hw).u λ w hw=>?_;exact ⟨_,rfl,by rw [e],Sat.lone.2 ⟨_,⟨t',g'⟩,hw⟩⟩
theorem ZqH {o:Int} (hw:Sat R (Ze p r::Hs) w):Zk prog 107 #[nP p,nI o] w λ v w'=>∃ t:Sl,v=.tuple #[.slice t.a t.len t.cap,nI (ZM r o).2.2]/\Sat R (Own t 9 ((ZM r o).2.1.map Value.string)::Ze p (ZM r o).1::Hs) w':=by
 obtain ⟨f,⟨t,g⟩,hw⟩:=Sat.lone.1 hw;have b:=t.bounds g;obtain ⟨e,t',g',_⟩:=ZiT t g o;refine (Zo6 (by omega) t.nod (λ k hk=>by have:=t.ownIn g k hk;have:=ZbR r.rows r.grps;omega) (by omega) hw).u1 λ s w hw=>?_;rw [e] at hw;exact ⟨_,rfl,s,by rw [e],hw.cons λ _ h=>Sat.lone.2 ⟨_,⟨t',g'⟩,h⟩⟩
theorem Zcv (hw:Sat R (Ze p r::Hs) w):Zk prog 55 #[nP p] w λ v w'=>∃ t:Sl,v=.slice t.a t.len t.cap/\Sat R (Own t 3 (Zc (Zj r))::Ze p r::Hs) w':=by
 obtain ⟨f,⟨t,g⟩,hw⟩:=Sat.lone.1 hw;have b:=t.bounds g;refine (ZoG (by omega) (by omega) hw).u1 λ s w hw=>?_;rw [Zsr t] at hw;exact ⟨_,rfl,s,rfl,hw.cons λ _ h=>Sat.lone.2 ⟨_,⟨t,g⟩,h⟩⟩
theorem Zl5 {o:Int} (hw:Sat R (Ze p r::Hs) w):Zk prog 122 #[nP p,nI o] w λ v w'=>∃ t:Sl,v=.slice t.a t.len t.cap/\Sat R (Own t 9 ((ZY r o).map Value.string)::Ze p r::Hs) w':=by
 obtain ⟨f,⟨t,g⟩,hw⟩:=Sat.lone.1 hw;have b:=t.bounds g;refine (Zk1 (by omega) (λ e he=>by have:=b.2.2.2.2.2.1 e he;omega) hw).u1 λ s w hw=>?_;rw [ZnR t g.rise] at hw;exact ⟨_,rfl,s,rfl,hw.cons λ _ h=>Sat.lone.2 ⟨_,⟨t,g⟩,h⟩⟩
theorem Zl6 (hw:Sat R (Ze p r::Hs) w):Zk prog 64 #[nP p] w λ v w'=>∃ t:Sl,v=.slice t.a t.len t.cap/\Sat R (Own t 5 (b8 (Zby r))::Ze p r::Hs) w':=by
 obtain ⟨f,⟨t,g⟩,hw⟩:=Sat.lone.1 hw;have b:=t.bounds g;refine (Zlh (Zps t g) (t.nodK g.rise) (λ k hk=>by have:=b.2.2.2.2.2.2 k hk;omega) (λ e he=>by have:=b.2.2.2.2.2.1 e he;omega) hw).u1 λ s w hw=>?_;rw [Zt2 t g] at hw;exact ⟨_,rfl,s,rfl,hw.cons λ _ h=>Sat.lone.2 ⟨_,⟨t,g⟩,h⟩⟩
end
end
end Go.Proofs.YtlplemdmegpoeaaGreatDoor


namespace Go.Proofs.YtlplemdmegpoeaaGreatDoor
section
open Go Go.VC Tryz
variable {R R':Cx} {Hs Rest:List HP} {w:World}
theorem Zss {r:RF} (g:ZaP r):(ZA r.L).Nodup:=by
 have key:∀ L:List Zu,(L.Pairwise λ a b=>∀ x∈a.seats,x ∉ b.seats)->(∀ h∈L,Zpc h.seats)->(ZA L).Nodup:=λ L=>by
  induction L with
  |nil=>exact λ _ _=>List.nodup_nil
  |cons h L ih=>
   intro hp hr;obtain ⟨h1,h2⟩:=List.pairwise_cons.1 hp;show (h.seats++ZA L).Nodup;rw [List.nodup_append];refine ⟨?_,ih h2 λ x hx=>hr x (List.mem_cons_of_mem _ hx),λ a ha b hb e=>?_⟩
   ·rw [List.nodup_iff_pairwise_ne]
    exact (ZeV.1 (hr h List.mem_cons_self)).imp λ h=>by omega
   ·subst e
    obtain ⟨y,hy,hyb⟩:=ZbZ.1 hb;exact h1 y hy a ha hyb
 exact key r.L g.apart λ h hh=>(g.each h hh).rise
theorem Zt5 {r:RF} (g:ZaP r) {o:Int} {lab:ByteArray} (h:(ZO r o lab).2=0):∃ A hd C n,Zax r.rows r.grps lab=(n,0)/\r.L=A++hd::C/\hd.owner=o/\ZbB o A=none/\n ∉ ZA r.L/\ZO r o lab=({ r with L:=A++hd.put n::C },0):=by
 unfold ZO at h ⊢;cases hg:ZbB o r.L with
 |none=>rw [hg] at h;cases h
 |some hd=>
  rw [hg] at h;obtain ⟨A,C,hL,hA,ho⟩:=Zat hg;dsimp only at h ⊢;split at h
  ·cases h
  rename_i h1;split at h
  ·cases h
  rename_i h2;split at h
  ·cases h
  rename_i h3;rw [if_neg h1,if_neg h2,if_neg h3];refine ⟨A,hd,C,(Zax r.rows r.grps lab).1,?_,hL,ho,hA,h3,?_⟩
  ·have:(Zax r.rows r.grps lab).2=0:=Classical.byContradiction h1
   rw [<-this]
  ·rw [hL,Zde ho hA]
theorem ZpM {r:RF} {o:Int} {lab:ByteArray} (h:(ZO r o lab).2≠0):(ZO r o lab).1=r/\((ZO r o lab).2=2\/(ZO r o lab).2=7\/(ZO r o lab).2=3):=by
 unfold ZO at h ⊢;split at h
 ·exact ⟨rfl,.inl rfl⟩
 ·split at h
  ·rename_i h1;rw [if_pos h1];exact ⟨rfl,.inl rfl⟩
  rename_i h1;rw [if_neg h1];split at h
  ·rename_i h2;rw [if_pos h2];exact ⟨rfl,.inr (.inl rfl)⟩
  rename_i h2;rw [if_neg h2];split at h
  ·rename_i h3;rw [if_pos h3];exact ⟨rfl,.inr (.inr rfl)⟩
  ·exact absurd rfl h
theorem Zit {h:Zu}:∀ {L:List Zu},ZbB h.owner L=none->∃ A C,Zhi h L=A++h::C/\L=A++C/\ZbB h.owner A=none
 |[],_=>⟨[],[],rfl,rfl,rfl⟩
 |x::L,hn=>by
  rw [Zam] at hn;split at hn
  ·cases hn
  rename_i hx;unfold Zhi;split
  ·obtain ⟨A,C,h1,h2,h3⟩:=Zit hn
   exact ⟨x::A,C,by rw [h1];rfl,by rw [h2];rfl,by rw [Zam,if_neg hx];exact h3⟩
  ·exact ⟨[],x::L,rfl,rfl,rfl⟩
theorem Zpz {r:RF} {o c m:Int} (h:(Zw r o c m).2=0):∃ A C,Zw r o c m=({ r with L:=A++⟨o,c,m,[]⟩::C },0)/\r.L=A++C/\ZbB o A=none:=by
 unfold Zw at h ⊢;split at h
 ·cases h
 rename_i h1;split at h
 ·cases h
 rename_i h2;rw [if_neg h1,if_neg h2];split at h
 ·rename_i h3
  rw [if_pos h3];have hno:ZbB o r.L=none:=by cases e:ZbB o r.L with|none=>rfl|some x=>rw [e] at h2;simp at h2
  obtain ⟨A,C,e1,e2,e3⟩:=Zit (h:=⟨o,c,m,[]⟩) hno;exact ⟨A,C,by rw [e1],e2,e3⟩
 ·rename_i h3;exact absurd h h3
theorem ZlE {r:RF} {o c m:Int} (h:(Zw r o c m).2≠0):(Zw r o c m).1=r:=by
 unfold Zw at h ⊢;split at h
 ·rename_i h1;rw [if_pos h1]
 rename_i h1;rw [if_neg h1];split at h
 ·rename_i h2;rw [if_pos h2]
 rename_i h2;rw [if_neg h2];split at h
 ·exact absurd rfl h
 ·rename_i h3;rw [if_neg h3]
end
section
open Go Go.VC Tryz
open Classical
noncomputable section
structure Pl where
 r:RF
 q:List Wt
abbrev Pl.n (p:Pl):Int:=p.r.num
structure Bk where
 id:Int
 flt:Int
 cls:Int
 many:Int
 state:Int
 till:Int
structure ZE where
 now:Int
 next:Int
 fl:List Pl
 L:List Bk
def ZE.at (b:ZE) (n:Int):Option Pl:=Zs0 Pl.n n b.fl
def ZE.bk (b:ZE) (id:Int):Option Bk:=Zs0 Bk.id id b.L
def ZE.put (b:ZE) (n:Int) (f:Pl->Pl) (L:List Bk):ZE:={ b with fl:=Zdb Pl.n n f b.fl,L:=L }
def ZdG:ZE:=⟨0,1,[],[]⟩
def emS:ByteArray:=ByteArray.empty
def Z1 (e:Int):Rp:=⟨e,emS,0,0,0,0,0,[],[]⟩
def Zuy (id:Int):ByteArray:=VC.strOf (ZsY id)
def ZaH (p:Pl) (x:Bk):Rp:=⟨0,Zuy x.id,x.state,x.flt,x.cls,x.many,x.till,Zj p.r,ZY p.r x.id⟩
def ZaB (b:ZE) (x:Bk):Rp:=match b.at x.flt with
 |none=>Z1 0
 |some p=>ZaH p x
def Zer (w:Wt) (p:Pl):Pl:=⟨(Zw p.r w.id w.cls w.many).1,Zfz w.id p.q⟩
def Zdo (x:Bk):Bk:={ x with state:=2 }
def Ze3 (b:ZE) (n:Int) (w:Wt):ZE:=b.put n (Zer w) (Zdb Bk.id w.id Zdo b.L)
def ZgZ:Nat->Int->ZE->ZE
 |0,_,b=>b
 |k + 1,n,b=>match b.at n with
  |none=>b
  |some p=>match Zae p.q (Zj p.r) with
   |none=>b
   |some w=>ZgZ k n (Ze3 b n w)
def Zy (n:Int) (b:ZE):ZE:=ZgZ 201 n b
def Zbc (b:ZE) (c:Cm):ZE × Rp:=
 if (b.at c.flt).isSome then (b,Z1 7) else if 8<=b.fl.length then (b,Z1 3)
 else if ¬ ZeE c.flt c.rows c.grps c.parts then (b,Z1 1)
 else ({ b with fl:=Zmb Pl.n ⟨ZdA c.flt c.rows c.grps (ZB (Zaw c.rows c.grps) c.parts).1,[]⟩ b.fl },
  ⟨0,emS,0,c.flt,0,0,0,Zj (ZdA c.flt c.rows c.grps (ZB (Zaw c.rows c.grps) c.parts).1),[]⟩)
def ZE.full (b:ZE):Prop:=300<=b.L.length\/28629151<=b.next
def takeP (id cls many:Int) (p:Pl):Pl:={ p with r:=(Zw p.r id cls many).1 }
def Zah (b:ZE) (c:Cm):Bk:=⟨b.next,c.flt,c.cls,c.many,1,c.time⟩
def Zbe (b:ZE) (c:Cm):ZE × Rp:=
 match b.at c.flt with
 |none=>(b,Z1 2)
 |some p=>
  if c.time<=b.now then (b,Z1 1) else if b.full then (b,Z1 3)
  else if (Zw p.r b.next c.cls c.many).2≠0 then (b,Z1 (Zw p.r b.next c.cls c.many).2)
  else ({ b.put c.flt (takeP b.next c.cls c.many) (b.L++[Zah b c]) with next:=b.next + 1 },ZaH (takeP b.next c.cls c.many p) (Zah b c))
def Zb3 (b:ZE) (c:Cm):Wt:=⟨b.next,c.cls,c.many,b.now,c.sc⟩
def ZbJ (b:ZE) (c:Cm):Bk:=⟨b.next,c.flt,c.cls,c.many,3,0⟩
def Zsk (w:Wt) (p:Pl):Pl:={ p with q:=Zis w p.q }
def Zbh (b:ZE) (c:Cm):ZE:={ b.put c.flt (Zsk (Zb3 b c)) (b.L++[ZbJ b c]) with next:=b.next + 1 }
def ZaF (b:ZE) (c:Cm):ZE × Rp:=
 match b.at c.flt with
 |none=>(b,Z1 2)
 |some p=>
  if (p.r.lims.length:Int)<=c.cls then (b,Z1 1) else if b.full then (b,Z1 3)
  else if (Zcd p.q (Zb3 b c)).2≠0 then (b,Z1 (Zcd p.q (Zb3 b c)).2)
  else (Zy c.flt (Zbh b c),match (Zy c.flt (Zbh b c)).bk b.next with
   |none=>Z1 0
   |some x=>ZaB (Zy c.flt (Zbh b c)) x)
def old (now:Int) (x:Bk):Bool:=decide (x.state=1) && decide (x.till<=now)
def Zdu (id:Int) (p:Pl):Pl:={ p with r:=(ZaX p.r id).1 }
def ZcS (b:ZE) (x:Bk):ZE:=b.put x.flt (Zdu x.id) (Zjp Bk.id x.id b.L)
def Zc2:List Bk->ZE->ZE
 |[],b=>b
 |x::l,b=>Zc2 l (if old b.now x then ZcS b x else b)
def Zbn (l:List Int) (b:ZE):ZE:=l.foldl (λ b n=>Zy n b) b
def Zb6 (b:ZE) (t:Int):ZE:=Zc2 b.L { b with now:=t }
def Zay (b:ZE) (c:Cm):ZE × Rp:=
 if c.time<b.now then (b,Z1 7)
 else (Zbn (b.fl.map Pl.n) (Zb6 b c.time),⟨0,emS,0,0,0,0,c.time,[],[]⟩)
def ZaY (b:ZE) (pnr:ByteArray):Option Bk × Int:=
 if (ZaZ (ZQ pnr)).2≠0 then (none,(ZaZ (ZQ pnr)).2) else match b.bk (ZaZ (ZQ pnr)).1 with
  |none=>(none,2)
  |some x=>(some x,0)
def Zbm (x:Bk):Bk:={ x with state:=2,till:=0 }
def Zp9 (id:Int) (p:Pl):Pl:={ p with q:=Zfz id p.q }
def ZfR (b:ZE) (x:Bk):ZE:=if x.state=3 then b.put x.flt (Zp9 x.id) (Zjp Bk.id x.id b.L) else ZcS b x
def ZaU (r:RF) (p:Pl):Pl:={ p with r:=r }
def ZdD (b:ZE) (x:Bk) (c:Cm):ZE × Rp:=
 match b.at x.flt with
 |none=>(b,Z1 0)
 |some p=>
  if c.kind=3 then (if x.state≠1 then (b,Z1 7) else ({ b with L:=Zdb Bk.id x.id Zbm b.L },ZaH p (Zbm x)))
  else if c.kind=4 then (Zy x.flt (ZfR b x),⟨0,c.pnr,0,0,0,0,0,[],[]⟩)
  else if x.state=3 then (b,Z1 7)
  else if c.kind=5 then
   (if (ZO p.r x.id c.lab).2≠0 then (b,Z1 (ZO p.r x.id c.lab).2)
    else (b.put x.flt (ZaU (ZO p.r x.id c.lab).1) b.L,ZaH (ZaU (ZO p.r x.id c.lab).1 p) x))
  else (if (ZM p.r x.id).2.2≠0 then (b,Z1 (ZM p.r x.id).2.2)
    else (b.put x.flt (ZaU (ZM p.r x.id).1) b.L,ZaH (ZaU (ZM p.r x.id).1 p) x))
def ZaT (b:ZE) (c:Cm):Rp:=
 if ¬ Z5 c\/c.kind≠9 then Z1 1
 else if c.pnr≠emS then (match ZaY b c.pnr with
  |(none,e)=>Z1 e
  |(some x,_)=>ZaB b x)
 else match b.at c.flt with
  |none=>Z1 2
  |some p=>⟨0,emS,0,c.flt,0,(p.q.length:Int),0,Zj p.r,[]⟩
def ZG (b:ZE) (c:Cm):ZE × Rp:=
 if ¬ Z5 c then (b,Z1 1)
 else if c.kind=1 then Zbc b c
 else if c.kind=2 then Zbe b c
 else if c.kind=7 then ZaF b c
 else if c.kind=8 then Zay b c
 else if c.kind=9 then (b,ZaT b c)
 else match ZaY b c.pnr with
  |(none,e)=>(b,Z1 e)
  |(some x,_)=>ZdD b x c
def plB (p:Pl):List Int:=Zca (Zby p.r)++Zca (qB p.q)
def bkB (x:Bk):List Int:=Zi [x.id]++(Zi [x.flt]++(Zi [x.cls]++(Zi [x.many]++(Zi [x.state]++Zi [x.till]))))
def Zdy (b:ZE):List Int:=
 Zi [b.now]++(Zi [b.next]++(Zi [(b.fl.length:Int)]++((b.fl.map plB).flatten++(Zi [(b.L.length:Int)]++(b.L.map bkB).flatten))))
def Zr7 (p:Pl) (x:Bk):Prop:=
 if x.state=3 then (∃ w∈p.q,w.id=x.id/\w.cls=x.cls/\w.many=x.many)/\x.cls<p.r.lims.length
 else ∃ h∈p.r.L,h.owner=x.id/\h.cls=x.cls/\h.many=x.many
structure ZtX (next:Int) (x:Bk):Prop where
 id:1<=x.id/\x.id<next
 flt:0<=x.flt/\x.flt<=9999
 cls:0<=x.cls/\x.cls<=9999
 many:0<=x.many/\x.many<=9999
 state:1<=x.state/\x.state<=3
 till:0<=x.till/\x.till<=1099511627776
 free:x.state≠1->x.till=0
structure ZAc (L:List Bk) (p:Pl):Prop where
 has:∀ x∈L,x.flt=p.n->Zr7 p x
 backQ:∀ w∈p.q,∃ x∈L,x.id=w.id/\x.flt=p.n/\x.state=3
 backH:∀ h∈p.r.L,∃ x∈L,x.id=h.owner/\x.flt=p.n/\x.state≠3
structure Core (b:ZE):Prop where
 now:0<=b.now/\b.now<=1099511627776
 next:1<=b.next/\b.next<=28629151
 good:∀ p∈b.fl,ZaP p.r
 qok:∀ p∈b.fl,QOk p.q
 nums:Zbu Pl.n b.fl
 few:b.fl.length<=8
 ids:Zbu Bk.id b.L
 each:∀ x∈b.L,ZtX b.next x
 many:b.L.length<=300
 there:∀ x∈b.L,∃ p∈b.fl,p.n=x.flt
 loc:∀ p∈b.fl,ZAc b.L p
def ZcE (b:ZE):Prop:=∀ x∈b.L,x.state=1->b.now<x.till
def Zf0 (p:Pl):Prop:=Zae p.q (Zj p.r)=none
structure ZaA (b:ZE):Prop where
 core:Core b
 time:ZcE b
 nofit:∀ p∈b.fl,Zf0 p
theorem Ztj:Core ZdG:=
 ⟨⟨by decide,by decide⟩,⟨by decide,by decide⟩,λ _ h=>(by cases h),λ _ h=>(by cases h),List.Pairwise.nil,by decide,List.Pairwise.nil,λ _ h=>(by cases h),by decide,λ _ h=>(by cases h),λ _ h=>(by cases h)⟩
theorem Zxp:ZaA ZdG:=⟨Ztj,λ _ h=>(by cases h),λ _ h=>(by cases h)⟩
theorem Core.swap {b:ZE} (c:Core b) {n:Int} {f:Pl->Pl} {L:List Bk} {next:Int} (hn:b.next<=next/\next<=28629151)
  (hf:∀ p∈b.fl,p.n=n->(f p).n=n/\ZaP (f p).r/\QOk (f p).q/\ZAc L (f p))
  (ids:Zbu Bk.id L) (each:∀ x∈L,ZtX next x) (many:L.length<=300)
  (out:∀ x,x.flt≠n->(x∈L↔x∈b.L)) (here:∀ x∈L,x.flt=n->∃ p∈b.fl,p.n=n):Core { b.put n f L with next:=next }:=by
 have hmem:∀ {p},p∈Zdb Pl.n n f b.fl->∃ q∈b.fl,q.n=p.n/\((q.n=n/\p=f q)\/(q.n≠n/\p=q)):=λ {p} hp=>by
  obtain ⟨q,hq,e⟩:=Zaa.1 hp;by_cases h:q.n=n
  ·rw [if_pos h] at e
   exact ⟨q,hq,by rw [e,(hf q hq h).1,h],.inl ⟨h,e⟩⟩
  ·rw [if_neg h] at e
   exact ⟨q,hq,by rw [e],.inr ⟨h,e⟩⟩
 have hput:∀ {q},q∈b.fl->∃ p∈Zdb Pl.n n f b.fl,p.n=q.n:=λ {q} hq=>by
  by_cases h:q.n=n
  ·exact ⟨f q,Zaa.2 ⟨q,hq,by rw [if_pos h]⟩,by rw [(hf q hq h).1,h]⟩
  ·exact ⟨q,Zaa.2 ⟨q,hq,by rw [if_neg h]⟩,rfl⟩
 refine ⟨c.now,⟨Int.le_trans c.next.1 hn.1,hn.2⟩,λ p hp=>?_,λ p hp=>?_,Ze6 c.nums λ p hp e=>(hf p hp e).1,by show (Zdb Pl.n n f b.fl).length<=8;rw [Zjn];exact c.few,ids,each,many,λ x hx=>?_,λ p hp=>?_⟩
 ·obtain ⟨q,hq,_,⟨h,rfl⟩|⟨h,rfl⟩⟩:=hmem hp
  ·exact (hf q hq h).2.1
  ·exact c.good p hq
 ·obtain ⟨q,hq,_,⟨h,rfl⟩|⟨h,rfl⟩⟩:=hmem hp
  ·exact (hf q hq h).2.2.1
  ·exact c.qok p hq
 ·by_cases h:x.flt=n
  ·obtain ⟨p,hp,e⟩:=here x hx h
   obtain ⟨p',hp',e'⟩:=hput hp;exact ⟨p',hp',by rw [e',e,h]⟩
  ·obtain ⟨p,hp,e⟩:=c.there x ((out x h).1 hx)
   obtain ⟨p',hp',e'⟩:=hput hp;exact ⟨p',hp',by rw [e',e]⟩
 ·obtain ⟨q,hq,_,⟨h,rfl⟩|⟨h,rfl⟩⟩:=hmem hp
  ·exact (hf q hq h).2.2.2
  ·have hl:=c.loc p hq
   refine ⟨λ x hx e=>hl.has x ((out x (by rw [e];exact h)).1 hx) e,λ w hw=>?_,λ o ho=>?_⟩
   ·obtain ⟨x,hx,a1,a2,a3⟩:=hl.backQ w hw
    exact ⟨x,(out x (by rw [a2];exact h)).2 hx,a1,a2,a3⟩
   ·obtain ⟨x,hx,a1,a2,a3⟩:=hl.backH o ho
    exact ⟨x,(out x (by rw [a2];exact h)).2 hx,a1,a2,a3⟩
theorem ZtX.le {n m:Int} {x:Bk} (h:ZtX n x) (hl:n<=m):ZtX m x:=⟨⟨h.id.1,Int.lt_of_lt_of_le h.id.2 hl⟩,h.flt,h.cls,h.many,h.state,h.till,h.free⟩
theorem Z9 {b:ZE} {n:Int} {p:Pl} (h:b.at n=some p):p∈b.fl/\p.n=n:=ZdK h
theorem ZdV {b:ZE} (c:Core b) {n:Int} {p:Pl}:b.at n=some p↔p∈b.fl/\p.n=n:=Zjo c.nums
theorem ZiJ {b:ZE} (c:Core b) {n:Int} {x:Bk}:b.bk n=some x↔x∈b.L/\x.id=n:=Zjo c.ids
theorem Core.at_of {b:ZE} (c:Core b) {x:Bk} (hx:x∈b.L):∃ p,b.at x.flt=some p:=by
 obtain ⟨p,hp,e⟩:=c.there x hx;exact ⟨p,(ZdV c).2 ⟨hp,e⟩⟩
theorem Zyr {b:ZE} {n:Int} {f:Pl->Pl} {L:List Bk} {p:Pl} (hf:(f p).n=n) (c:Core b) (h:b.at n=some p) (c':Zbu Pl.n (Zdb Pl.n n f b.fl)):(b.put n f L).at n=some (f p):=by
 have h1:=Z9 h;exact (Zjo c').2 ⟨Zaa.2 ⟨p,h1.1,by rw [if_pos h1.2]⟩,hf⟩
end
end
section
open Go Go.VC Tryz
variable {r:RF} {o c m:Int}
theorem Zfd (g:ZaP r) (o c m:Int):ZaP (Zw r o c m).1:=by
 obtain ⟨f,_,t⟩:=Zhy g;exact (ZiS t g o c m).2.2
theorem Zrd (g:ZaP r) (o:Int):ZaP (ZaX r o).1:=by
 obtain ⟨f,_,t⟩:=Zhy g;exact (ZmN t g o).2.2
theorem Zhm (g:ZaP r) (o:Int) (lab:ByteArray):ZaP (ZO r o lab).1:=by
 obtain ⟨f,_,t⟩:=Zhy g;exact (ZmL t g o lab λ k h=>Zrm h).2.2
theorem Zhn (g:ZaP r) (o:Int):ZaP (ZM r o).1:=by
 obtain ⟨f,_,t⟩:=Zhy g;exact (ZiT t g o).2.2.1
theorem Zcb:(Zw r o c m).1.num=r.num/\(Zw r o c m).1.lims=r.lims:=by
 by_cases h:(Zw r o c m).2=0
 ·obtain ⟨A,C,e,_,_⟩:=Zpz h
  rw [e];exact ⟨rfl,rfl⟩
 ·rw [ZlE h]
  exact ⟨rfl,rfl⟩
theorem Zd0 (h:(Zw r o c m).2=0) {x:Zu}:x∈(Zw r o c m).1.L↔x=⟨o,c,m,[]⟩\/x∈r.L:=by
 obtain ⟨A,C,e,hL,_⟩:=Zpz h;rw [e,hL];dsimp only;rw [List.mem_append,List.mem_cons,List.mem_append];constructor
 ·rintro (h|h|h)<;>simp [h]
 ·rintro (h|h|h)<;>simp [h]
theorem ZnT (h:(Zw r o c m).2=0):(1<=o/\o<=28629151)/\ZbB o r.L=none/\(ZaE r.lims r.sold c m).2=0/\Zw r o c m=({ r with L:=Zhi ⟨o,c,m,[]⟩ r.L },0):=by
 unfold Zw at h ⊢;split at h
 ·cases h
 rename_i h1;split at h
 ·cases h
 rename_i h2;rw [if_neg h1,if_neg h2];split at h
 ·rename_i h3
  rw [if_pos h3];exact ⟨by omega,by cases e:ZbB o r.L with|none=>rfl|some x=>rw [e] at h2;simp at h2,h3,rfl⟩
 ·rename_i h3;exact absurd h h3
theorem Zpy (h:(Zw r o c m).2=0):(Zw r o c m).1.sold=r.sold.set c.toNat (r.sold.getD c.toNat 0 + m)/\0<=c/\c<r.lims.length/\1<=m:=by
 obtain ⟨_,_,h3,e⟩:=ZnT h;obtain ⟨_,_,c0,c1,m0⟩:=Zg5 h3;refine ⟨?_,c0,c1,m0⟩;rw [e];exact (Zdx (n:=r.lims.length) (ZbA ⟨o,c,m,[]⟩ r.L) c0 c1).symm
theorem Zne {x y:Nat->Int}:∀ {k:Nat},(∀ i,i<k->x i<=y i)->mnF x k<=mnF y k
 |0,_=>Int.le_refl _
 |k + 1,h=>by
  have h1:=Zne (k:=k) λ i hi=>h i (by omega);have h2:=h k (by omega);unfold mnF;split<;>split<;>omega
theorem Ze5 (r:RF):(Zj r).length=r.lims.length:=by simp [Zj]
theorem Zhd {k:Nat} (h:k<r.lims.length):(Zj r).getD k 0=(ZaW r.lims r.sold k).1:=by
 unfold Zj;rw [List.getD_eq_getElem?_getD];simp [h]
theorem Zgv (g:ZaP r) {k:Nat} (h:k<r.lims.length):(ZaW r.lims r.sold k).1=mnF (ZcP r.lims r.sold) (k + 1)/\(ZaW r.lims r.sold k).2=0:=by
 unfold ZaW;rw [if_pos ⟨g.nest,by omega,by omega⟩];exact ⟨by rw [Int.toNat_natCast],rfl⟩
theorem ZpA (g:ZaP r) (h:(Zw r o c m).2=0) {k:Nat} (hk:k<r.lims.length):(Zj (Zw r o c m).1).getD k 0<=(Zj r).getD k 0:=by
 obtain ⟨hs,c0,c1,m0⟩:=Zpy h;have hl:=(Zcb (r:=r) (o:=o) (c:=c) (m:=m)).2;have g':=Zfd g o c m;rw [Zhd hk,Zhd (by rw [hl];exact hk),(Zgv g hk).1,(Zgv g' (by rw [hl];exact hk)).1,hl,hs];refine Zne λ i hi=>?_;unfold ZcP;have hlen:r.sold.length=r.lims.length:=ZaI _ _;have:=ZdO (sold:=r.sold) (c:=c.toNat) (m:=m) (by omega) (r.lims.length - i) i (by omega);rw [this];split<;>omega
theorem ZpB (g:ZaP r) {w:Wt} (hw:w.Ok) (hf:Zcf (Zj r) w=true) (hn:ZbB w.id r.L=none):(Zw r w.id w.cls w.many).2=0:=by
 obtain ⟨⟨a1,a2⟩,⟨b1,b2⟩,⟨c1,c2⟩,_⟩:=hw;unfold Zcf at hf;simp only [Bool.and_eq_true,decide_eq_true_eq] at hf;rw [Ze5] at hf;rw [Zhd (by omega)] at hf;have hv:=Zgv g (k:=w.cls.toNat) (by omega);have e:((w.cls.toNat:Nat):Int)=w.cls:=by omega
 rw [e] at hf hv;have hs:(ZaE r.lims r.sold w.cls w.many).2=0:=by
  unfold ZaE;rw [if_neg (by rw [hv.2];omega),if_neg (by omega)]
 unfold Zw;rw [if_neg (by omega),hn,if_neg (by simp),if_pos hs]
theorem Zrk (g:ZaP r) (h:(Zw r o c m).2=0) {w:Wt} (hw:0<=w.cls) (hf:Zcf (Zj (Zw r o c m).1) w=true):Zcf (Zj r) w=true:=by
 unfold Zcf at *;simp only [Bool.and_eq_true,decide_eq_true_eq] at *;rw [Ze5] at *;rw [(Zcb (r:=r) (o:=o) (c:=c) (m:=m)).2] at hf;have:=ZpA g h (k:=w.cls.toNat) (by omega);omega
theorem Zdl:(ZaX r o).1.num=r.num/\(ZaX r o).1.lims=r.lims:=by
 unfold ZaX;split<;>exact ⟨rfl,rfl⟩
theorem Zs6 (g:ZaP r) {x:Zu}:x∈(ZaX r o).1.L↔x∈r.L/\x.owner≠o:=by
 unfold ZaX;cases hg:ZbB o r.L with
 |none=>
  dsimp only;exact ⟨λ h=>⟨h,Zcy.1 hg x h⟩,λ h=>h.1⟩
 |some hd=>
  obtain ⟨A,C,hL,hA,ho⟩:=Zat hg;have hr:=g.rise;dsimp only;rw [hL] at hr ⊢;rw [ZgA ho hA];have hp:=List.pairwise_append.1 hr;have hc:=List.pairwise_cons.1 hp.2.1;rw [List.mem_append,List.mem_append,List.mem_cons];constructor
  ·rintro (h|h)
   ·exact ⟨.inl h,Zcy.1 hA x h⟩
   ·exact ⟨.inr (.inr h),by have:=hc.1 x h;omega⟩
  ·rintro ⟨h|rfl|h,hn⟩
   ·exact .inl h
   ·exact absurd ho hn
   ·exact .inr h
structure ZcF (r r':RF):Prop where
 num:r'.num=r.num
 lims:r'.lims=r.lims
 rows:r'.rows=r.rows
 grps:r'.grps=r.grps
 each:∃ A hd hd' C,r.L=A++hd::C/\r'.L=A++hd'::C/\hd'.owner=hd.owner/\hd'.cls=hd.cls/\hd'.many=hd.many
theorem ZcF.sold {r':RF} (h:ZcF r r'):r'.sold=r.sold:=by
 obtain ⟨A,hd,hd',C,e1,e2,_,e4,e5⟩:=h.each;unfold RF.sold Z2;rw [h.lims];apply List.map_congr_left;intro k _;rw [e1,e2,Zej,Zej,Zc6,Zc6,e4,e5]
theorem ZcF.lefts {r':RF} (h:ZcF r r'):Zj r'=Zj r:=by
 unfold Zj;rw [h.lims,h.sold]
theorem ZcF.mem {r':RF} (h:ZcF r r') {x:Zu} (hx:x∈r.L):∃ y∈r'.L,y.owner=x.owner/\y.cls=x.cls/\y.many=x.many:=by
 obtain ⟨A,hd,hd',C,e1,e2,e3,e4,e5⟩:=h.each;rw [e1,List.mem_append,List.mem_cons] at hx;rw [e2];rcases hx with hx|rfl|hx
 ·exact ⟨x,by simp [hx],rfl,rfl,rfl⟩
 ·exact ⟨hd',by simp,e3,e4,e5⟩
 ·exact ⟨x,by simp [hx],rfl,rfl,rfl⟩
theorem ZcF.symm {r':RF} (h:ZcF r r'):ZcF r' r:=by
 obtain ⟨A,hd,hd',C,e1,e2,e3,e4,e5⟩:=h.each;exact ⟨h.num.symm,h.lims.symm,h.rows.symm,h.grps.symm,A,hd',hd,C,e2,e1,e3.symm,e4.symm,e5.symm⟩
theorem ZlH (g:ZaP r) {lab:ByteArray} (h:(ZO r o lab).2=0):ZcF r (ZO r o lab).1:=by
 obtain ⟨A,hd,C,n,_,hL,_,_,_,e⟩:=Zt5 g h;rw [e];exact ⟨rfl,rfl,rfl,rfl,A,hd,hd.put n,C,hL,rfl,rfl,rfl,rfl⟩
theorem ZmC (h:(ZM r o).2.2=0):ZcF r (ZM r o).1:=by
 unfold ZM at *;cases hg:ZbB o r.L with
 |none=>rw [hg] at h;cases h
 |some hd=>
  obtain ⟨A,C,hL,hA,ho⟩:=Zat hg;rw [hg] at h;dsimp only at h ⊢;split at h
  ·cases h
  ·rename_i h1
   rw [if_neg h1];split at h
   ·rename_i h2
    rw [if_pos h2];refine ⟨rfl,rfl,rfl,rfl,A,hd,{ hd with seats:=(Z0 r.rows r.grps (ZA r.L) hd.many).1 },C,hL,?_,rfl,rfl,rfl⟩;show ZnZ o _ r.L=_;rw [hL];exact Zde ho hA
   ·rename_i h2;exact absurd h h2
theorem ZmX {lab:ByteArray} (h:(ZO r o lab).2≠0):(ZO r o lab).1=r:=(ZpM h).1
theorem ZrY (h:(ZM r o).2.2≠0):(ZM r o).1=r:=by
 unfold ZM at *;cases hg:ZbB o r.L with
 |none=>rfl
 |some hd=>
  rw [hg] at h;dsimp only at h ⊢;split
  ·rfl
  ·rename_i h1
   rw [if_neg h1] at h;split
   ·rename_i h2;rw [if_pos h2] at h;exact absurd rfl h
   ·rfl
end
section
open Go Go.VC Tryz
variable {b:ZE} {n:Int} {p:Pl} {w:Wt} {x:Bk}
theorem Core.uniq (c:Core b) {x y:Bk} (hx:x∈b.L) (hy:y∈b.L) (e:x.id=y.id):x=y:=c.ids.uniq hx hy e
theorem Core.uniqP (c:Core b) {p q:Pl} (hp:p∈b.fl) (hq:q∈b.fl) (e:p.n=q.n):p=q:=c.nums.uniq hp hq e
theorem Core.waits (c:Core b) (hp:p∈b.fl) (hw:w∈p.q):∃ x∈b.L,x.id=w.id/\x.flt=p.n/\x.state=3/\x.cls=w.cls/\x.many=w.many:=by
 obtain ⟨x,hx,e1,e2,e3⟩:=(c.loc p hp).backQ w hw;have h:=(c.loc p hp).has x hx e2;unfold Zr7 at h;rw [if_pos e3] at h;obtain ⟨⟨w',hw',a1,a2,a3⟩,_⟩:=h;have:w'=w:=by
  have hq:=(c.qok p hp).ids;have key:∀ {q:List Wt},Zyw q->∀ {a b:Wt},a∈q->b∈q->a.id=b.id->a=b:=by
   intro q
   induction q with
   |nil=>intro _ a b ha;cases ha
   |cons y q ih=>
    intro h a b ha hb e;have hp:=List.pairwise_cons.1 h;rcases List.mem_cons.1 ha with e1|h1
    ·rcases List.mem_cons.1 hb with e2|h2
     ·rw [e1,e2]
     ·rw [e1] at e;exact absurd e (hp.1 b h2)
    ·rcases List.mem_cons.1 hb with e2|h2
     ·rw [e2] at e;exact absurd e.symm (hp.1 a h1)
     ·exact ih hp.2 h1 h2 e
  exact key hq hw' hw (by omega)
 rw [this] at a2 a3;exact ⟨x,hx,e1,e2,e3,a2.symm,a3.symm⟩
theorem Core.noHold (c:Core b) (hp:p∈b.fl) (hw:w∈p.q):ZbB w.id p.r.L=none:=by
 rw [Zcy];intro h hh e;obtain ⟨x,hx,e1,e2,e3,_⟩:=c.waits hp hw;obtain ⟨y,hy,a1,a2,a3⟩:=(c.loc p hp).backH h hh;have:=c.uniq hx hy (by omega);rw [this] at e3;exact a3 e3
theorem Zdd:(Zer w p).n=p.n:=Zcb.1
theorem Zgz (c:Core b) (hp:p∈b.fl) (hw:Zae p.q (Zj p.r)=some w):w∈p.q/\Zcf (Zj p.r) w=true/\(Zw p.r w.id w.cls w.many).2=0:=by
 obtain ⟨h1,h2⟩:=Zoo hw;exact ⟨h1,h2,ZpB (c.good p hp) ((c.qok p hp).ok w h1) h2 (c.noHold hp h1)⟩
theorem ZhB (c:Core b) (hp:p∈b.fl) (hn:p.n=n) (hf:Zae p.q (Zj p.r)=some w):Core (Ze3 b n w):=by
 obtain ⟨hw,hfit,htake⟩:=Zgz c hp hf;obtain ⟨x,hx,e1,e2,e3,e4,e5⟩:=c.waits hp hw;have hq:=c.qok p hp;refine c.swap (next:=b.next) ⟨Int.le_refl _,c.next.2⟩ (λ p' hp' hn'=>?_) (Ze6 c.ids λ y _ e=>e) (λ y hy=>?_) (by show (Zdb Bk.id w.id Zdo b.L).length<=300;rw [Zjn];exact c.many) (λ y hy=>?_) λ y _ _=>⟨p,hp,hn⟩
 ·obtain rfl:p'=p:=c.uniqP hp' hp (by omega)
  refine ⟨by rw [Zdd];exact hn,Zfd (c.good _ hp) _ _ _,hq.del _,?_⟩;have hl:=c.loc _ hp;refine ⟨λ y hy e=>?_,λ v hv=>?_,λ h hh=>?_⟩
  ·obtain ⟨z,hz,rfl⟩:=Zaa.1 hy
   by_cases hid:z.id=w.id
   ·rw [if_pos hid]
    obtain rfl:z=x:=c.uniq hz hx (by omega);unfold Zr7;rw [if_neg (by show (2:Int)≠3;omega)];exact ⟨⟨w.id,w.cls,w.many,[]⟩,(Zd0 htake).2 (.inl rfl),hid.symm,e4.symm,e5.symm⟩
   ·rw [if_neg hid] at e ⊢
    have hz2:=hl.has z hz (by rw [e,Zdd]);unfold Zr7 at *;by_cases h3:z.state=3
    ·rw [if_pos h3] at hz2 ⊢
     obtain ⟨⟨v,hv,a1,a2,a3⟩,a4⟩:=hz2;refine ⟨⟨v,(ZjJ hq.ids).2 ⟨hv,by omega⟩,a1,a2,a3⟩,?_⟩;show z.cls<((Zw _ _ _ _).1.lims.length:Int);rw [Zcb.2];exact a4
    ·rw [if_neg h3] at hz2 ⊢
     obtain ⟨h,hh,a1,a2,a3⟩:=hz2;exact ⟨h,(Zd0 htake).2 (.inr hh),a1,a2,a3⟩
  ·obtain ⟨hv1,hv2⟩:=(ZjJ hq.ids).1 hv
   obtain ⟨y,hy,a1,a2,a3⟩:=hl.backQ v hv1;exact ⟨y,Zaa.2 ⟨y,hy,by rw [if_neg (by omega)]⟩,a1,by rw [a2,Zdd],a3⟩
  ·rcases (Zd0 htake).1 hh with rfl|hh
   ·exact ⟨Zdo x,Zaa.2 ⟨x,hx,by rw [if_pos e1]⟩,e1,by show x.flt=_;rw [e2,Zdd],by show (2:Int)≠3;omega⟩
   ·obtain ⟨y,hy,a1,a2,a3⟩:=hl.backH h hh
    refine ⟨y,Zaa.2 ⟨y,hy,?_⟩,a1,by rw [a2,Zdd],a3⟩;rw [if_neg λ e=>?_];obtain rfl:y=x:=c.uniq hy hx (by omega);exact a3 e3
 ·obtain ⟨z,hz,rfl⟩:=Zaa.1 hy
  have hb:=c.each z hz;by_cases hid:z.id=w.id
  ·rw [if_pos hid]
   obtain rfl:z=x:=c.uniq hz hx (by omega);exact ⟨hb.id,hb.flt,hb.cls,hb.many,⟨by show (1:Int)<=2;omega,by show (2:Int)<=3;omega⟩,hb.till,λ _=>hb.free (by omega)⟩
  ·rw [if_neg hid];exact hb
 ·constructor
  ·intro h
   obtain ⟨z,hz,rfl⟩:=Zaa.1 h;by_cases hid:z.id=w.id
   ·rw [if_pos hid] at hy
    obtain rfl:z=x:=c.uniq hz hx (by omega);exact absurd (e2.trans hn) hy
   ·rw [if_neg hid];exact hz
  ·intro h
   refine Zaa.2 ⟨y,h,?_⟩;rw [if_neg λ e=>?_];obtain rfl:y=x:=c.uniq h hx (by omega);exact hy (e2.trans hn)
theorem Zl4 (c:Core b) (hp:b.at n=some p):(Ze3 b n w).at n=some (Zer w p):=
 Zyr (by rw [Zdd];exact (Z9 hp).2) c hp (Ze6 c.nums λ q _ e=>by rw [Zdd];exact e)
theorem Zuw {q:Pl} (h:q∈(Ze3 b n w).fl):q.n=n\/q∈b.fl:=by
 obtain ⟨z,hz,rfl⟩:=Zaa.1 h;by_cases e:z.n=n
 ·rw [if_pos e];exact .inl (by rw [Zdd];exact e)
 ·rw [if_neg e];exact .inr hz
theorem Zl3 (t:ZcE b):ZcE (Ze3 b n w):=by
 intro x hx hs;obtain ⟨z,hz,rfl⟩:=Zaa.1 hx;by_cases e:z.id=w.id
 ·rw [if_pos e] at hs;exact absurd hs (by show (2:Int)≠1;omega)
 ·rw [if_neg e] at hs ⊢;exact t z hz hs
theorem ZjK {id:Int} {q:List Wt} (h:ZdN id q=true):(Zfz id q).length + 1=q.length:=by
 obtain ⟨A,w,C,e,_,_,e2⟩:=ZiG h;rw [e2,e];simp;omega
structure Zcj (n:Int) (b b':ZE):Prop where
 now:b'.now=b.now
 next:b'.next=b.next
 keys:b'.fl.map Pl.n=b.fl.map Pl.n
 others:∀ q∈b'.fl,q.n=n\/q∈b.fl
 ids:b'.L.map Bk.id=b.L.map Bk.id
 bk:∀ y∈b'.L,∃ x∈b.L,y.id=x.id/\y.flt=x.flt/\y.cls=x.cls/\y.many=x.many/\y.till=x.till
theorem Zcj.refl (n:Int) (b:ZE):Zcj n b b:=⟨rfl,rfl,rfl,λ _ h=>.inr h,rfl,λ y hy=>⟨y,hy,rfl,rfl,rfl,rfl,rfl⟩⟩
theorem Zcj.trans {b1 b2 b3:ZE} (h1:Zcj n b1 b2) (h2:Zcj n b2 b3):Zcj n b1 b3:=
 ⟨h2.now.trans h1.now,h2.next.trans h1.next,h2.keys.trans h1.keys,λ q hq=>by
  rcases h2.others q hq with h|h
  ·exact .inl h
  ·exact h1.others q h,h2.ids.trans h1.ids,λ y hy=>by
  obtain ⟨x,hx,a1,a2,a3,a4,a5⟩:=h2.bk y hy;obtain ⟨z,hz,c1,c2,c3,c4,c5⟩:=h1.bk x hx;exact ⟨z,hz,by omega,by omega,by omega,by omega,by omega⟩⟩
theorem Ze7 {α:Type} {k:α->Int} {n:Int} {f:α->α} (hf:∀ x,k x=n->k (f x)=n):∀ l:List α,(Zdb k n f l).map k=l.map k
 |[]=>rfl
 |a::l=>by
  show k (if k a=n then f a else a)::(Zdb k n f l).map k=_
  rw [Ze7 hf l,List.map_cons];split
  ·rename_i e;rw [hf a e,e]
  ·rfl
theorem ZqY:Zcj n b (Ze3 b n w):=by
 refine ⟨rfl,rfl,Ze7 (λ q e=>by rw [Zdd];exact e) _,λ q hq=>Zuw hq,Ze7 (k:=Bk.id) (f:=Zdo) (λ y e=>e) b.L,λ y hy=>?_⟩;obtain ⟨z,hz,rfl⟩:=Zaa.1 hy;refine ⟨z,hz,?_⟩;split<;>exact ⟨rfl,rfl,rfl,rfl,rfl⟩
theorem Zqk:∀ (k:Nat) {b:ZE},Core b->Core (ZgZ k n b)/\Zcj n b (ZgZ k n b)/\(ZcE b->ZcE (ZgZ k n b))/\((∀ p,b.at n=some p->p.q.length<k)->∀ p∈(ZgZ k n b).fl,p.n=n->Zf0 p)
 |0,b,c=>⟨c,Zcj.refl n b,λ t=>t,λ h p hp e=>absurd (h p ((ZdV c).2 ⟨hp,e⟩)) (by omega)⟩
 |k + 1,b,c=>by
  unfold ZgZ;cases ha:b.at n with
  |none=>
   refine ⟨c,Zcj.refl n b,λ t=>t,λ _ p hp e=>?_⟩;rw [(ZdV c).2 ⟨hp,e⟩] at ha;cases ha
  |some p=>
   dsimp only;have hp:=Z9 ha;cases hq:Zae p.q (Zj p.r) with
   |none=>
    refine ⟨c,Zcj.refl n b,λ t=>t,λ _ p' hp' e=>?_⟩;obtain rfl:p'=p:=c.uniqP hp' hp.1 (by rw [e,hp.2]);exact hq
   |some w=>
    dsimp only;have c':=ZhB c hp.1 hp.2 hq;obtain ⟨i1,i2,i3,i4⟩:=Zqk k c';refine ⟨i1,ZqY.trans i2,λ t=>i3 (Zl3 t),λ h=>i4 λ p' hp'=>?_⟩;rw [Zl4 c ha] at hp';cases hp';have h1:=h p rfl;have hm:=(Zgz c hp.1 hq).1;have h2:=ZjK (Zfb.2 ⟨w,hm,rfl⟩);show (Zfz w.id p.q).length<k;omega
theorem Zbb (c:Core b):Core (Zy n b)/\Zcj n b (Zy n b)/\(ZcE b->ZcE (Zy n b))/\∀ p∈(Zy n b).fl,p.n=n->Zf0 p:=by
 obtain ⟨h1,h2,h3,h4⟩:=Zqk (n:=n) 201 c;exact ⟨h1,h2,h3,h4 λ p hp=>by have:=(c.qok p (Z9 hp).1).len;omega⟩
theorem Zrx (c:Core b) {r:RF} (g:ZaP r) (hL:r.L=[]) (hn:b.at r.num=none) (hf:b.fl.length<8):Core { b with fl:=Zmb Pl.n ⟨r,[]⟩ b.fl }:=by
 have hno:=ZdL.1 hn;refine ⟨c.now,c.next,λ p hp=>?_,λ p hp=>?_,Zk3 c.nums hno,by show (Zmb Pl.n _ b.fl).length<=8;rw [Znj];omega,c.ids,c.each,c.many,λ x hx=>?_,λ p hp=>?_⟩
 ·rcases Zdj.1 hp with rfl|hp
  ·exact g
  ·exact c.good p hp
 ·rcases Zdj.1 hp with rfl|hp
  ·exact QOk.nil
  ·exact c.qok p hp
 ·obtain ⟨p,hp,e⟩:=c.there x hx
  exact ⟨p,Zdj.2 (.inr hp),e⟩
 ·rcases Zdj.1 hp with rfl|hp
  ·refine ⟨λ x hx e=>?_,λ w hw=>(by cases hw),λ h hh=>?_⟩
   ·obtain ⟨p,hp,e2⟩:=c.there x hx
    exact absurd (e2.trans e) (hno p hp)
   ·rw [show (Pl.mk r []).r.L=r.L from rfl,hL] at hh;cases hh
  ·exact c.loc p hp
theorem ZnA (c:Core b) (hx:x∈b.L) {f:Pl->Pl} (hf:∀ p∈b.fl,p.n=x.flt->(f p).n=x.flt/\ZaP (f p).r/\QOk (f p).q/\(f p).r.lims=p.r.lims/\(∀ w,w∈(f p).q↔w∈p.q/\w.id≠x.id)/\∀ h,h∈(f p).r.L↔h∈p.r.L/\h.owner≠x.id):
  Core (b.put x.flt f (Zjp Bk.id x.id b.L)):=by
 refine c.swap (next:=b.next) ⟨Int.le_refl _,c.next.2⟩ (λ p hp hn=>?_) (ZqZ c.ids) (λ y hy=>c.each y (Zce.1 hy).1) (Nat.le_trans (List.length_filter_le _ _) c.many) (λ y hy=>?_) λ y _ _=>c.there x hx
 ·obtain ⟨f1,f2,f3,f6,f4,f5⟩:=hf p hp hn
  have hl:=c.loc p hp;refine ⟨f1,f2,f3,λ y hy e=>?_,λ w hw=>?_,λ h hh=>?_⟩
  ·obtain ⟨hy1,hy2⟩:=Zce.1 hy
   have h:=hl.has y hy1 (by rw [e,f1,hn]);unfold Zr7 at *;by_cases h3:y.state=3
   ·rw [if_pos h3] at h ⊢
    obtain ⟨⟨w,hw,a1,a2,a3⟩,a4⟩:=h;exact ⟨⟨w,(f4 w).2 ⟨hw,by omega⟩,a1,a2,a3⟩,by rw [f6];exact a4⟩
   ·rw [if_neg h3] at h ⊢
    obtain ⟨h,hh,a1,a2,a3⟩:=h;exact ⟨h,(f5 h).2 ⟨hh,by omega⟩,a1,a2,a3⟩
  ·obtain ⟨hw1,hw2⟩:=(f4 w).1 hw
   obtain ⟨y,hy,a1,a2,a3⟩:=hl.backQ w hw1;exact ⟨y,Zce.2 ⟨hy,by omega⟩,a1,by rw [a2,f1,hn],a3⟩
  ·obtain ⟨hh1,hh2⟩:=(f5 h).1 hh
   obtain ⟨y,hy,a1,a2,a3⟩:=hl.backH h hh1;exact ⟨y,Zce.2 ⟨hy,by omega⟩,a1,by rw [a2,f1,hn],a3⟩
 ·refine Zce.trans ⟨λ h=>h.1,λ h=>⟨h,λ e=>hy ?_⟩⟩
  rw [c.uniq h hx e]
theorem Zfo (c:Core b) (hx:x∈b.L) (hs:x.state≠3):Core (ZcS b x):=by
 refine ZnA c hx λ p hp hn=>⟨by show (ZaX _ _).1.num=_;rw [Zdl.1];exact hn,Zrd (c.good p hp) _,c.qok p hp,Zdl.2,λ w=>⟨λ hw=>⟨hw,λ e=>?_⟩,λ h=>h.1⟩,λ h=>Zs6 (c.good p hp)⟩;obtain ⟨y,hy,e1,_,e3,_⟩:=c.waits hp hw;rw [c.uniq hy hx (by omega)] at e3;exact hs e3
theorem ZhC (c:Core b) (hx:x∈b.L):Core (ZfR b x):=by
 unfold ZfR;split
 ·rename_i hs
  refine ZnA c hx λ p hp hn=>⟨hn,c.good p hp,(c.qok p hp).del _,rfl,λ w=>ZjJ (c.qok p hp).ids,λ h=>⟨λ hh=>⟨hh,λ e=>?_⟩,λ hh=>hh.1⟩⟩;obtain ⟨y,hy,a1,a2,a3⟩:=(c.loc p hp).backH h hh;rw [c.uniq hy hx (by omega)] at a3;exact a3 hs
 ·rename_i hs
  exact Zfo c hx hs
theorem Zop {f:Pl->Pl} {L:List Bk} (t:ZcE b) (h:∀ y∈L,y.state=1->y∈b.L):ZcE (b.put n f L):=λ y hy hs=>t y (h y hy hs) hs
theorem Zml (t:ZcE b):ZcE (ZfR b x):=by
 unfold ZfR ZcS;split<;>exact Zop t λ y hy _=>(Zce.1 hy).1
theorem ZuI {q:Pl} (h:q∈(ZfR b x).fl):q.n=x.flt\/q∈b.fl:=by
 unfold ZfR ZcS at h;split at h<;>
 ·obtain ⟨z,hz,rfl⟩:=Zaa.1 h
  by_cases e:z.n=x.flt
  ·rw [if_pos e]
   exact .inl (by first|exact e|(show (ZaX _ _).1.num=_;rw [Zdl.1];exact e))
  ·rw [if_neg e];exact .inr hz
end
section
open Go Go.VC Tryz
variable {b:ZE} {n:Int} {p:Pl} {w:Wt} {x:Bk} {c:Cm}
theorem ZaV {α:Type} {l:List α} {a y:α}:y∈l++[a]↔y∈l\/y=a:=by simp
theorem Core.fresh (k:Core b) {y:Bk} (hy:y∈b.L):y.id<b.next:=(k.each y hy).id.2
theorem ZnB (k:Core b) (hx:ZtX (b.next + 1) x) (hid:x.id=b.next) (hf:¬ b.full) (hp:p∈b.fl) (hn:p.n=x.flt) {f:Pl->Pl} (hl:(f p).n=p.n/\ZaP (f p).r/\QOk (f p).q/\ZAc (b.L++[x]) (f p)):
  Core { b.put x.flt f (b.L++[x]) with next:=b.next + 1 }:=by
 unfold ZE.full at hf;refine k.swap (next:=b.next + 1) ⟨by omega,by omega⟩ (λ p' hp' hn'=>?_) (ZoK k.ids λ y hy=>by rw [hid];exact k.fresh hy) (λ y hy=>?_) (by rw [List.length_append,List.length_singleton];omega) (λ y hy=>?_) λ y _ _=>⟨p,hp,hn⟩
 ·obtain rfl:p'=p:=k.uniqP hp' hp (by omega)
  exact ⟨by rw [hl.1];exact hn,hl.2.1,hl.2.2.1,hl.2.2.2⟩
 ·rcases ZaV.1 hy with hy|rfl
  ·exact (k.each y hy).le (by omega)
  ·exact hx
 ·refine ZaV.trans ⟨λ h=>?_,λ h=>.inl h⟩
  rcases h with h|rfl
  ·exact h
  ·exact absurd rfl hy
theorem Zfn (k:Core b) (hc:Z5 c) (hp:b.at c.flt=some p) (hf:¬ b.full) (ht:(Zw p.r b.next c.cls c.many).2=0):
  Core { b.put c.flt (takeP b.next c.cls c.many) (b.L++[Zah b c]) with next:=b.next + 1 }:=by
 obtain ⟨hp1,hp2⟩:=Z9 hp;have hnx:=k.next;refine ZnB k (x:=Zah b c) ⟨⟨hnx.1,by show b.next<b.next + 1;omega⟩,hc.flt,hc.cls,hc.many,⟨by show (1:Int)<=1;omega,by show (1:Int)<=3;omega⟩,hc.time,λ h=>absurd rfl h⟩ rfl hf hp1 hp2 ?_;refine ⟨Zcb.1,Zfd (k.good p hp1) _ _ _,k.qok p hp1,?_⟩;have hl:=k.loc p hp1;have hnum:(takeP b.next c.cls c.many p).n=p.n:=Zcb.1;refine ⟨λ y hy e=>?_,λ v hv=>?_,λ h hh=>?_⟩
 ·rcases ZaV.1 hy with hy|rfl
  ·have h:=hl.has y hy (by rw [e,hnum])
   unfold Zr7 at *;by_cases h3:y.state=3
   ·rw [if_pos h3] at h ⊢
    exact ⟨h.1,by show y.cls<((Zw _ _ _ _).1.lims.length:Int);rw [Zcb.2];exact h.2⟩
   ·rw [if_neg h3] at h ⊢
    obtain ⟨h,hh,a⟩:=h;exact ⟨h,(Zd0 ht).2 (.inr hh),a⟩
  ·unfold Zr7
   rw [if_neg (by show (1:Int)≠3;omega)];exact ⟨⟨b.next,c.cls,c.many,[]⟩,(Zd0 ht).2 (.inl rfl),rfl,rfl,rfl⟩
 ·obtain ⟨y,hy,a1,a2,a3⟩:=hl.backQ v hv
  exact ⟨y,ZaV.2 (.inl hy),a1,by rw [a2,hnum],a3⟩
 ·rcases (Zd0 ht).1 hh with rfl|hh
  ·exact ⟨Zah b c,ZaV.2 (.inr rfl),rfl,by show c.flt=_;rw [hnum];exact hp2.symm,by show (1:Int)≠3;omega⟩
  ·obtain ⟨y,hy,a1,a2,a3⟩:=hl.backH h hh
   exact ⟨y,ZaV.2 (.inl hy),a1,by rw [a2,hnum],a3⟩
theorem Zig {q:List Wt} (h:(Zcd q w).2=0):w.Ok/\ZdN w.id q=false/\q.length<200/\Zcd q w=(Zis w q,0):=by
 unfold Zcd at *;split at h
 ·cases h
 rename_i h1;split at h
 ·cases h
 rename_i h2;split at h
 ·cases h
 rename_i h3;rw [if_neg h1,if_neg h2,if_neg h3];exact ⟨by simpa using h1,by simpa using h2,by omega,rfl⟩
theorem Zfm (k:Core b) (hc:Z5 c) (hs:c.sc<18446744073709551616) (hp:b.at c.flt=some p) (hcl:¬ (p.r.lims.length:Int)<=c.cls) (hf:¬ b.full) (hq:(Zcd p.q (Zb3 b c)).2=0):Core (Zbh b c):=by
 obtain ⟨hp1,hp2⟩:=Z9 hp;obtain ⟨q1,q2,q3,_⟩:=Zig hq;have hnx:=k.next;refine ZnB k (x:=ZbJ b c) ⟨⟨hnx.1,by show b.next<b.next + 1;omega⟩,hc.flt,hc.cls,hc.many,⟨by show (1:Int)<=3;omega,by show (3:Int)<=3;omega⟩,⟨Int.le_refl _,by show (0:Int)<=_;omega⟩,λ _=>rfl⟩ rfl hf hp1 hp2 ?_;refine ⟨rfl,k.good p hp1,(k.qok p hp1).ins q1 hs q2 q3,?_⟩;have hl:=k.loc p hp1;refine ⟨λ y hy e=>?_,λ v hv=>?_,λ h hh=>?_⟩
 ·rcases ZaV.1 hy with hy|rfl
  ·have h:=hl.has y hy e
   unfold Zr7 at *;by_cases h3:y.state=3
   ·rw [if_pos h3] at h ⊢
    obtain ⟨⟨v,hv,a⟩,a4⟩:=h;exact ⟨⟨v,ZcM.2 (.inr hv),a⟩,a4⟩
   ·rw [if_neg h3] at h ⊢
    exact h
  ·unfold Zr7
   rw [if_pos (by rfl)];exact ⟨⟨Zb3 b c,ZcM.2 (.inl rfl),rfl,rfl,rfl⟩,by show c.cls<(p.r.lims.length:Int);omega⟩
 ·rcases ZcM.1 hv with rfl|hv
  ·exact ⟨ZbJ b c,ZaV.2 (.inr rfl),rfl,hp2.symm,rfl⟩
  ·obtain ⟨y,hy,a⟩:=hl.backQ v hv
   exact ⟨y,ZaV.2 (.inl hy),a⟩
 ·obtain ⟨y,hy,a⟩:=hl.backH h hh
  exact ⟨y,ZaV.2 (.inl hy),a⟩
theorem ZhA (k:Core b) (hx:x∈b.L) (hs:x.state=1):Core { b with L:=Zdb Bk.id x.id Zbm b.L }:=by
 have hmem:∀ {y},y∈Zdb Bk.id x.id Zbm b.L->y=Zbm x\/(y∈b.L/\y.id≠x.id):=λ {y} hy=>by
  obtain ⟨z,hz,rfl⟩:=Zaa.1 hy;by_cases e:z.id=x.id
  ·rw [if_pos e,k.uniq hz hx e];exact .inl rfl
  ·rw [if_neg e];exact .inr ⟨hz,e⟩
 have hput:∀ {y},y∈b.L->y.id≠x.id->y∈Zdb Bk.id x.id Zbm b.L:=λ {y} hy e=>Zaa.2 ⟨y,hy,by rw [if_neg e]⟩;have hnew:Zbm x∈Zdb Bk.id x.id Zbm b.L:=Zaa.2 ⟨x,hx,by rw [if_pos rfl]⟩;refine ⟨k.now,k.next,k.good,k.qok,k.nums,k.few,Ze6 k.ids λ _ _ e=>e,λ y hy=>?_,by show (Zdb Bk.id _ _ b.L).length<=_;rw [Zjn];exact k.many,λ y hy=>?_,λ p hp=>?_⟩
 ·rcases hmem hy with rfl|⟨hy,_⟩
  ·have hb:=k.each x hx
   exact ⟨hb.id,hb.flt,hb.cls,hb.many,⟨by show (1:Int)<=2;omega,by show (2:Int)<=3;omega⟩,⟨Int.le_refl _,by show (0:Int)<=_;omega⟩,λ _=>rfl⟩
  ·exact k.each y hy
 ·rcases hmem hy with rfl|⟨hy,_⟩
  ·exact k.there x hx
  ·exact k.there y hy
 ·have hl:=k.loc p hp
  refine ⟨λ y hy e=>?_,λ w hw=>?_,λ h hh=>?_⟩
  ·rcases hmem hy with rfl|⟨hy,_⟩
   ·have h:=hl.has x hx e
    unfold Zr7 at *;rw [if_neg (by omega)] at h;rw [if_neg (by show (2:Int)≠3;omega)];exact h
   ·exact hl.has y hy e
  ·obtain ⟨y,hy,a1,a2,a3⟩:=hl.backQ w hw
   refine ⟨y,hput hy λ e=>?_,a1,a2,a3⟩;rw [k.uniq hy hx e] at a3;omega
  ·obtain ⟨y,hy,a1,a2,a3⟩:=hl.backH h hh
   by_cases e:y.id=x.id
   ·rw [k.uniq hy hx e] at a1 a2
    exact ⟨Zbm x,hnew,a1,a2,by show (2:Int)≠3;omega⟩
   ·exact ⟨y,hput hy e,a1,a2,a3⟩
theorem Zlk (k:Core b) {r:RF} (hp:b.at n=some p) (g:ZaP r) (h:ZcF p.r r):Core (b.put n (ZaU r) b.L):=by
 obtain ⟨hp1,hp2⟩:=Z9 hp;refine k.swap (next:=b.next) ⟨Int.le_refl _,k.next.2⟩ (λ p' hp' hn'=>?_) k.ids k.each k.many (λ y _=>Iff.rfl) λ y _ _=>⟨p,hp1,hp2⟩;obtain rfl:p'=p:=k.uniqP hp' hp1 (by omega);have hl:=k.loc _ hp1;have hnum:(ZaU r p').n=p'.n:=h.num;refine ⟨by rw [hnum];exact hp2,g,k.qok p' hp1,λ y hy e=>?_,λ w hw=>?_,λ o ho=>?_⟩
 ·have h2:=hl.has y hy (by rw [e,hnum])
  unfold Zr7 at *;by_cases h3:y.state=3
  ·rw [if_pos h3] at h2 ⊢
   exact ⟨h2.1,by show y.cls<(r.lims.length:Int);rw [h.lims];exact h2.2⟩
  ·rw [if_neg h3] at h2 ⊢
   obtain ⟨o,ho,a1,a2,a3⟩:=h2;obtain ⟨o',ho',c1,c2,c3⟩:=h.mem ho;exact ⟨o',ho',by omega,by omega,by omega⟩
 ·obtain ⟨y,hy,a1,a2,a3⟩:=hl.backQ w hw
  exact ⟨y,hy,a1,by rw [a2,hnum],a3⟩
 ·obtain ⟨o',ho',c1,_,_⟩:=h.symm.mem ho
  obtain ⟨y,hy,a1,a2,a3⟩:=hl.backH o' ho';exact ⟨y,hy,by omega,by rw [a2,hnum],a3⟩
theorem ZjN (k:Core b) {t:Int} (h:0<=t/\t<=1099511627776):Core { b with now:=t }:=⟨h,k.next,k.good,k.qok,k.nums,k.few,k.ids,k.each,k.many,k.there,k.loc⟩
theorem Zte:(ZcS b x).now=b.now:=rfl
theorem Zro:∀ (l:List Bk) {b:ZE},Core b->(∀ x∈l,x∈b.L)->Zbu Bk.id l->
  Core (Zc2 l b)/\(Zc2 l b).now=b.now/\(Zc2 l b).next=b.next/\((Zc2 l b).fl.map Pl.n=b.fl.map Pl.n)/\∀ y,y∈(Zc2 l b).L↔y∈b.L/\¬ (y∈l/\old b.now y=true)
 |[],b,k,_,_=>⟨k,rfl,rfl,rfl,λ y=>by simp [Zc2]⟩
 |x::l,b,k,hl,hr=>by
  have hp:=List.pairwise_cons.1 hr;have hx:=hl x (by simp);unfold Zc2;by_cases ho:old b.now x=true
  ·rw [if_pos ho]
   have hs:x.state=1:=by unfold old at ho;simp at ho;exact ho.1
   have k':=Zfo k hx (by omega);have hin:∀ y∈l,y∈(ZcS b x).L:=λ y hy=>Zce.2 ⟨hl y (by simp [hy]),by have:=hp.1 y hy;omega⟩;obtain ⟨i1,i2,i3,i4,i5⟩:=Zro l k' hin hp.2;refine ⟨i1,i2,i3,i4.trans (Ze7 (λ q e=>by show (ZaX _ _).1.num=_;rw [Zdl.1];exact e) _),λ y=>?_⟩;rw [i5,Zte];have hm:y∈(ZcS b x).L↔y∈b.L/\y.id≠x.id:=Zce;rw [hm,List.mem_cons];constructor
   ·rintro ⟨⟨h1,h2⟩,h3⟩
    refine ⟨h1,λ⟨h4,h5⟩=>?_⟩;rcases h4 with rfl|h4
    ·exact h2 rfl
    ·exact h3 ⟨h4,h5⟩
   ·rintro ⟨h1,h2⟩
    refine ⟨⟨h1,λ e=>h2 ⟨.inl (k.uniq h1 hx e),?_⟩⟩,λ⟨h4,h5⟩=>h2 ⟨.inr h4,h5⟩⟩;rw [k.uniq h1 hx e];exact ho
  ·rw [if_neg ho]
   obtain ⟨i1,i2,i3,i4,i5⟩:=Zro l k (λ y hy=>hl y (by simp [hy])) hp.2;refine ⟨i1,i2,i3,i4,λ y=>?_⟩;rw [i5,List.mem_cons];constructor
   ·rintro ⟨h1,h2⟩
    refine ⟨h1,λ⟨h4,h5⟩=>?_⟩;rcases h4 with rfl|h4
    ·exact ho h5
    ·exact h2 ⟨h4,h5⟩
   ·rintro ⟨h1,h2⟩
    exact ⟨h1,λ⟨h4,h5⟩=>h2 ⟨.inr h4,h5⟩⟩
theorem ZgH (k:Core b) {t:Int} (h:0<=t/\t<=1099511627776):Core (Zb6 b t)/\ZcE (Zb6 b t)/\(Zb6 b t).now=t/\(Zb6 b t).next=b.next/\(Zb6 b t).fl.map Pl.n=b.fl.map Pl.n:=by
 obtain ⟨i1,i2,i3,i4,i5⟩:=Zro b.L (ZjN k h) (λ x hx=>hx) k.ids;refine ⟨i1,λ y hy hs=>?_,i2,i3,i4⟩;obtain ⟨h1,h2⟩:=(i5 y).1 hy;show (Zb6 b t).now<_;rw [show (Zb6 b t).now=t from i2]
 refine Int.not_le.1 λ h3=>h2 ⟨h1,?_⟩;unfold old;simp [hs];exact h3
theorem Zih:∀ (l:List Int) {b:ZE},Core b->ZcE b->∀ S:Int->Prop,(∀ p∈b.fl,S p.n->Zf0 p)->
  Core (Zbn l b)/\ZcE (Zbn l b)/\(Zbn l b).now=b.now/\(Zbn l b).next=b.next/\(Zbn l b).fl.map Pl.n=b.fl.map Pl.n/\∀ p∈(Zbn l b).fl,(S p.n\/p.n∈l)->Zf0 p
 |[],b,k,t,S,h=>⟨k,t,rfl,rfl,rfl,λ p hp e=>h p hp (by simpa using e)⟩
 |n::l,b,k,t,S,h=>by
  obtain ⟨p1,p2,p3,p4⟩:=Zbb (n:=n) k;obtain ⟨i1,i2,i3,i4,i5,i6⟩:=Zih l p1 (p3 t) (λ k=>S k\/k=n) λ p hp e=>by
   by_cases hn:p.n=n
   ·exact p4 p hp hn
   ·rcases p2.others p hp with h2|h2
    ·exact absurd h2 hn
    ·exact h p h2 (e.resolve_right hn)
  refine ⟨i1,i2,i3.trans p2.now,i4.trans p2.next,i5.trans p2.keys,λ p hp e=>i6 p hp ?_⟩;rcases e with e|e
  ·exact .inl (.inl e)
  ·rcases List.mem_cons.1 e with e|e
   ·exact .inl (.inr e)
   ·exact .inr e
theorem ZaA.promoted (k:Core b) (t:ZcE b) (h:∀ p∈b.fl,p.n=n\/Zf0 p):ZaA (Zy n b):=by
 obtain ⟨p1,p2,p3,p4⟩:=Zbb (n:=n) k;refine ⟨p1,p3 t,λ p hp=>?_⟩;by_cases e:p.n=n
 ·exact p4 p hp e
 ·rcases p2.others p hp with h2|h2
  ·exact absurd h2 e
  ·exact (h p h2).resolve_left e
theorem Zqz {r:RF}:Zf0 ⟨r,[]⟩:=rfl
theorem Zov (g:ZaP p.r) (hq:QOk p.q) (h:Zf0 p) {id cls many:Int} (ht:(Zw p.r id cls many).2=0):Zf0 (takeP id cls many p):=by
 unfold Zf0 Zae at *;rw [List.find?_eq_none] at *;intro w hw hf;exact h w hw (Zrk g ht (hq.ok w hw).2.1.1 hf)
theorem Zow {r:RF} (h:Zf0 p) (hs:ZcF p.r r):Zf0 (ZaU r p):=by
 unfold Zf0 at *;show Zae p.q (Zj r)=none;rw [hs.lefts];exact h
theorem Zqh {f:Pl->Pl} {L:List Bk} {q:Pl} (h:q∈(b.put n f L).fl):(∃ p∈b.fl,p.n=n/\q=f p)\/(q∈b.fl/\q.n≠n):=by
 obtain ⟨z,hz,rfl⟩:=Zaa.1 h;by_cases e:z.n=n
 ·rw [if_pos e];exact .inl ⟨z,hz,e,rfl⟩
 ·rw [if_neg e];exact .inr ⟨hz,e⟩
theorem Zup (k:ZaA b):ZaA (Zbc b c).1:=by
 unfold Zbc;split
 ·exact k
 rename_i h1;split
 ·exact k
 rename_i h2;split
 ·exact k
 rename_i h3;have hn:b.at c.flt=none:=by cases e:b.at c.flt with|none=>rfl|some p=>rw [e] at h1;simp at h1
 have h3:ZeE c.flt c.rows c.grps c.parts:=Classical.byContradiction h3;refine ⟨Zrx k.core (Zgy h3) rfl hn (by omega),k.time,λ p hp=>?_⟩;rcases Zdj.1 hp with rfl|hp
 ·exact Zqz
 ·exact k.nofit p hp
theorem Zuq (k:ZaA b) (hc:Z5 c):ZaA (Zbe b c).1:=by
 unfold Zbe;cases hp:b.at c.flt with
 |none=>exact k
 |some p=>
  dsimp only;split
  ·exact k
  rename_i h1;split
  ·exact k
  rename_i h2;split
  ·exact k
  rename_i h3;have h3:(Zw p.r b.next c.cls c.many).2=0:=Classical.byContradiction h3;obtain ⟨hp1,hp2⟩:=Z9 hp;refine ⟨Zfn k.core hc hp h2 h3,λ y hy hs=>?_,λ q hq=>?_⟩
  ·rcases ZaV.1 hy with hy|rfl
   ·exact k.time y hy hs
   ·show b.now<c.time;omega
  ·rcases Zqh (b:=b) (L:=b.L) hq with ⟨z,hz,e,rfl⟩|⟨hq,_⟩
   ·obtain rfl:z=p:=k.core.uniqP hz hp1 (by omega)
    exact Zov (k.core.good _ hz) (k.core.qok _ hz) (k.nofit _ hz) h3
   ·exact k.nofit q hq
theorem Zuo (k:ZaA b) (hc:Z5 c) (hs:c.sc<18446744073709551616):ZaA (ZaF b c).1:=by
 unfold ZaF;cases hp:b.at c.flt with
 |none=>exact k
 |some p=>
  dsimp only;split
  ·exact k
  rename_i h1;split
  ·exact k
  rename_i h2;split
  ·exact k
  rename_i h3;have h3:(Zcd p.q (Zb3 b c)).2=0:=Classical.byContradiction h3;refine ZaA.promoted (Zfm k.core hc hs hp h1 h2 h3) (λ y hy hs=>?_) λ q hq=>?_
  ·rcases ZaV.1 hy with hy|rfl
   ·exact k.time y hy hs
   ·exact absurd hs (by show (3:Int)≠1;omega)
  ·rcases Zqh (b:=b) (L:=b.L) hq with ⟨z,hz,e,rfl⟩|⟨hq,_⟩
   ·exact .inl e
   ·exact .inr (k.nofit q hq)
theorem ZsQ (k:ZaA b) (hc:Z5 c):ZaA (Zay b c).1:=by
 unfold Zay;split
 ·exact k
 obtain ⟨t1,t2,t3,t4,t5⟩:=ZgH k.core hc.time;obtain ⟨p1,p2,p3,p4,p5,p6⟩:=Zih (b.fl.map Pl.n) t1 t2 (λ _=>False) λ p _ h=>h.elim;refine ⟨p1,p2,λ p hp=>p6 p hp (.inr ?_)⟩;rw [<-t5,<-p5];exact List.mem_map_of_mem hp
theorem Zxo (k:ZaA b) (hx:x∈b.L):ZaA (ZdD b x c).1:=by
 unfold ZdD;cases hp:b.at x.flt with
 |none=>exact k
 |some p=>
  obtain ⟨hp1,hp2⟩:=Z9 hp;dsimp only;split
  ·split
   ·exact k
   ·rename_i h
    have h:x.state=1:=Classical.byContradiction h;refine ⟨ZhA k.core hx h,λ y hy hs=>?_,k.nofit⟩;obtain ⟨z,hz,rfl⟩:=Zaa.1 hy;by_cases e:z.id=x.id
    ·rw [if_pos e] at hs;exact absurd hs (by show (2:Int)≠1;omega)
    ·rw [if_neg e] at hs ⊢;exact k.time z hz hs
  ·split
   ·exact ZaA.promoted (ZhC k.core hx) (Zml k.time) λ q hq=>(ZuI hq).imp_right (k.nofit q)
   ·split
    ·exact k
    ·have seat:∀ r,ZaP r->ZcF p.r r->ZaA (b.put x.flt (ZaU r) b.L):=λ r g hs=>by
      refine ⟨Zlk k.core hp g hs,λ y hy=>k.time y hy,λ q hq=>?_⟩;rcases Zqh (b:=b) (L:=b.L) hq with ⟨z,hz,e,rfl⟩|⟨hq,_⟩
      ·obtain rfl:z=p:=k.core.uniqP hz hp1 (by omega)
       exact Zow (k.nofit _ hz) hs
      ·exact k.nofit q hq
     split
     ·split
      ·exact k
      ·rename_i h
       exact seat _ (Zhm (k.core.good p hp1) _ _) (ZlH (k.core.good p hp1) (Classical.byContradiction h))
     ·split
      ·exact k
      ·rename_i h
       exact seat _ (Zhn (k.core.good p hp1) _) (ZmC (Classical.byContradiction h))
theorem Zg7 {s:ByteArray} {e:Int} (h:ZaY b s=(some x,e)):x∈b.L:=by
 unfold ZaY at h;split at h
 ·cases h
 ·split at h
  ·cases h
  ·rename_i y hy
   cases h;exact (ZdK hy).1
theorem Zna (k:ZaA b) (hs:c.sc<18446744073709551616):ZaA (ZG b c).1:=by
 unfold ZG;split
 ·exact k
 rename_i hc;have hc:Z5 c:=Classical.byContradiction hc;split
 ·exact Zup k
 split
 ·exact Zuq k hc
 split
 ·exact Zuo k hc hs
 split
 ·exact ZsQ k hc
 split
 ·exact k
 split
 ·exact k
 ·rename_i hnm
  exact Zxo k (Zg7 hnm)
theorem ZgJ {b:ZE} {x:Bk}:(ZaB b x).code=0:=by
 unfold ZaB;split<;>rfl
theorem Ztc (h:(ZaF b c).2.code≠0):ZaF b c=(b,Z1 (ZaF b c).2.code):=by
 unfold ZaF at *;cases hp:b.at c.flt with
 |none=>rfl
 |some p=>
  rw [hp] at h;dsimp only at h ⊢;split
  ·rfl
  rename_i h1;rw [if_neg h1] at h;split
  ·rfl
  rename_i h2;rw [if_neg h2] at h;split
  ·rfl
  rename_i h3;rw [if_neg h3] at h;refine absurd ?_ h;dsimp only;split
  ·rfl
  ·exact ZgJ
theorem ZhX (k:ZaA b) (hc:Z5 c) (hs:c.sc<18446744073709551616):
  ((ZaF b c).2.code≠0/\(ZaF b c).1=b)\/
  (∃ p y,b.at c.flt=some p/\¬ (p.r.lims.length:Int)<=c.cls/\¬ b.full/\(Zcd p.q (Zb3 b c)).2=0/\Core (Zbh b c)/\
   y∈(Zy c.flt (Zbh b c)).L/\y.id=b.next/\y.flt=c.flt/\y.cls=c.cls/\y.many=c.many/\y.till=0/\
   ZaF b c=(Zy c.flt (Zbh b c),ZaB (Zy c.flt (Zbh b c)) y)):=by
 unfold ZaF;cases hp:b.at c.flt with
 |none=>exact .inl ⟨by show (2:Int)≠0;omega,rfl⟩
 |some p=>
  dsimp only;split
  ·exact .inl ⟨by show (1:Int)≠0;omega,rfl⟩
  rename_i h1;split
  ·exact .inl ⟨by show (3:Int)≠0;omega,rfl⟩
  rename_i h2;split
  ·rename_i h3;exact .inl ⟨h3,rfl⟩
  rename_i h3;have h3:(Zcd p.q (Zb3 b c)).2=0:=Classical.byContradiction h3;have kc:=Zfm k.core hc hs hp h1 h2 h3;obtain ⟨p1,p2,_,_⟩:=Zbb (n:=c.flt) kc;have hid:b.next∈(Zy c.flt (Zbh b c)).L.map Bk.id:=by
   rw [p2.ids];exact List.mem_map.2 ⟨ZbJ b c,ZaV.2 (.inr rfl),rfl⟩
  obtain ⟨y,hy,he⟩:=List.mem_map.1 hid;obtain ⟨z,hz,a1,a2,a3,a4,a5⟩:=p2.bk y hy;have hzx:z=ZbJ b c:=by
   rcases ZaV.1 hz with hz|rfl
   ·have:=k.core.fresh hz;omega
   ·rfl
  subst hzx;refine .inr ⟨p,y,rfl,h1,h2,h3,kc,hy,he,a2,a3,a4,a5,?_⟩;rw [(ZiJ p1).2 ⟨hy,he⟩]
end
section
open Go Go.VC Tryz
variable {b:ZE} {n:Int} {p:Pl} {w:Wt} {x:Bk} {c:Cm} {r:RF}
theorem ZtC {f:Nat->Int}:∀ {k:Nat},(∀ i,i<k->0<=f i)->0<=mnF f k/\mnF f k<=10000
 |0,_=>by show (0:Int)<=10000/\(10000:Int)<=10000;omega
 |k + 1,h=>by
  have h1:=ZtC (k:=k) λ i hi=>h i (by omega);have h2:=h k (by omega);unfold mnF;split<;>omega
theorem Zgu (g:ZaP r):(Zj r).length<=8/\∀ y∈Zj r,0<=y/\y<=10000:=by
 have h8:=(Zb1 g).2.2;refine ⟨by rw [Ze5];exact h8,λ y hy=>?_⟩;obtain ⟨k,hk,rfl⟩:=List.mem_map.1 hy;have hk:=List.mem_range.1 hk;rw [(Zgv g hk).1];refine ZtC λ i hi=>?_;have h:=(ZL.1 g.nest).2.2 i (by omega);unfold ZcP;omega
theorem Zuz {q:Fin 60} {m:Fin 10}:(ZdJ (q.1 + 1) m.1).length<=3:=by
 have:∀ q:Fin 60,∀ m:Fin 10,(ZdJ (q.1 + 1) m.1).length<=3:=by decide +kernel
 exact this q m
theorem ZqT {n:Int} {g:List Int} {k:Int}:(Zjl n g k).1.size<=3:=by
 unfold Zjl;split
 ·rename_i h
  obtain ⟨a,b,q,m,_,_,b1,b2,hq,hm,e,_⟩:=Zma h;dsimp only;rw [e,Zh0];exact Zuz (q:=⟨q,hq⟩) (m:=⟨m,by omega⟩)
 ·exact Nat.zero_le _
theorem ZqR (g:ZaP r) (o:Int):(ZY r o).length<=600/\∀ s∈ZY r o,s.size<=3:=by
 unfold ZY;cases h:ZbB o r.L with
 |none=>exact ⟨by simp,λ s hs=>(by cases hs)⟩
 |some hd=>
  obtain ⟨hm,_⟩:=(Zfe g.rise.ne).1 h;have h1:=(g.each hd hm).few;have h2:=g.len.2 hd hm;dsimp only;unfold Za3;refine ⟨by rw [List.length_map];omega,λ s hs=>?_⟩;obtain ⟨k,_,rfl⟩:=List.mem_map.1 hs;exact ZqT
theorem ZqI (id:Int):(Zuy id).size=6:=by
 unfold Zuy;rw [Zh0,Zjh]
theorem Zdz {n:Int} (g:ZaP p.r) (h:ZtX n x):Zw2 (ZaH p x):=by
 obtain ⟨l1,l2⟩:=Zgu g;obtain ⟨b1,b2⟩:=ZqR g x.id;have h1:=h.flt;have h2:=h.cls;have h3:=h.many;have h4:=h.state;have h5:=h.till;refine ⟨by show (0:Int)<=0/\(0:Int)<=_;omega,by show (Zuy x.id).size<=16;rw [ZqI];omega,?_,?_,?_,?_,?_,l1,λ y hy=>?_,b1,λ s hs=>?_⟩
 ·show 0<=x.state/\x.state<=_;omega
 ·show 0<=x.flt/\x.flt<=_;omega
 ·show 0<=x.cls/\x.cls<=_;omega
 ·show 0<=x.many/\x.many<=_;omega
 ·show 0<=x.till/\x.till<=_;omega
 ·have:=l2 y hy;omega
 ·have:=b2 s hs;omega
theorem ZeU {e f m t:Int} {s:ByteArray} {l:List Int} (he:0<=e/\e<=1099511627776) (hf:0<=f/\f<=1099511627776) (hm:0<=m/\m<=1099511627776) (ht:0<=t/\t<=1099511627776) (hs:s.size<=16) (hl:l.length<=8/\∀ y∈l,0<=y/\y<=10000):Zw2 ⟨e,s,0,f,0,m,t,l,[]⟩:=
 ⟨he,hs,by show (0:Int)<=0/\(0:Int)<=_;omega,hf,by show (0:Int)<=0/\(0:Int)<=_;omega,hm,ht,hl.1,λ y hy=>by have:=hl.2 y hy;omega,by show ([]:List ByteArray).length<=_;simp,λ y hy=>(by cases hy)⟩
theorem Zao {e:Int} (he:0<=e/\e<=1099511627776):Zw2 (Z1 e):=
 ZeU he (by omega) (by omega) (by omega) (by show emS.size<=16;decide) ⟨by simp,λ y hy=>(by cases hy)⟩
theorem Zh9 (k:Core b) (hx:x∈b.L):Zw2 (ZaB b x):=by
 obtain ⟨p,hp⟩:=k.at_of hx;unfold ZaB;rw [hp];exact Zdz (k.good p (Z9 hp).1) (k.each x hx)
theorem ZpC {o c m:Int}:0<=(Zw r o c m).2/\(Zw r o c m).2<=7:=by
 unfold Zw;split
 ·(dsimp only;omega)
 ·split
  ·(dsimp only;omega)
  ·split
   ·(dsimp only;omega)
   ·dsimp only
    unfold ZaE;split
    ·(dsimp only;omega)
    ·split<;>(dsimp only;omega)
theorem Zqf {q:List Wt}:0<=(Zcd q w).2/\(Zcd q w).2<=7:=by
 unfold Zcd;split
 ·(dsimp only;omega)
 ·split
  ·(dsimp only;omega)
  ·split<;>(dsimp only;omega)
theorem ZpN {o:Int} {lab:ByteArray}:0<=(ZO r o lab).2/\(ZO r o lab).2<=7:=by
 by_cases h:(ZO r o lab).2=0
 ·omega
 ·have:=(ZpM h).2;omega
theorem ZrZ (g:ZaP r) {o:Int}:0<=(ZM r o).2.2/\(ZM r o).2.2<=7:=by
 obtain ⟨f,_,t⟩:=Zhy g;have:=(ZiT t g o).2.2.2;omega
theorem ZsX {l:List Int}:0<=(ZaZ l).2/\(ZaZ l).2<=7:=by
 unfold ZaZ;split
 ·(dsimp only;omega)
 ·split<;>(dsimp only;omega)
theorem Zil {s:ByteArray}:0<=(ZaY b s).2/\(ZaY b s).2<=7:=by
 unfold ZaY;split
 ·exact ZsX
 ·split<;>(dsimp only;omega)
theorem ZjF:emS.size<=16:=by decide
theorem Zky (k:ZaA b):Zw2 (ZaT b c):=by
 unfold ZaT;split
 ·exact Zao (by omega)
 rename_i h1;split
 ·split
  ·rename_i e h
   have:=Zil (b:=b) (s:=c.pnr);rw [h] at this;exact Zao (by dsimp only at this;omega)
  ·rename_i h
   exact Zh9 k.core (Zg7 h)
 ·split
  ·exact Zao (by omega)
  ·rename_i p hp
   have hp:=Z9 hp;have hc:Z5 c:=Classical.byContradiction λ h=>h1 (.inl h);have h2:=hc.flt;have h3:=(k.core.qok p hp.1).len;unfold Zcu at h2;exact ZeU (by omega) (by omega) (by omega) (by omega) ZjF (Zgu (k.core.good p hp.1))
theorem Zoa (k:ZaA b) (hs:c.sc<18446744073709551616):Zw2 (ZG b c).2:=by
 have k':=Zna k hs;unfold ZG at *;split
 ·exact Zao (by omega)
 rename_i hc;have hc:Z5 c:=Classical.byContradiction hc;have hcf:=hc.flt;unfold Zcu at hcf;split
 ·unfold Zbc
  split
  ·exact Zao (by omega)
  ·split
   ·exact Zao (by omega)
   ·split
    ·exact Zao (by omega)
    ·rename_i h
     have h:ZeE c.flt c.rows c.grps c.parts:=Classical.byContradiction h;exact ZeU (by omega) (by omega) (by omega) (by omega) ZjF (Zgu (Zgy h))
 split
 ·unfold Zbe
  cases hp:b.at c.flt with
  |none=>exact Zao (by omega)
  |some p=>
   obtain ⟨hp1,hp2⟩:=Z9 hp;have:=ZpC (r:=p.r) (o:=b.next) (c:=c.cls) (m:=c.many);dsimp only;split
   ·exact Zao (by omega)
   rename_i h1;split
   ·exact Zao (by omega)
   rename_i h2;split
   ·exact Zao (by omega)
   ·rename_i h3
    have k2:=Zfn k.core hc hp h2 (Classical.byContradiction h3);exact Zdz (n:=b.next + 1) (Zfd (k.core.good p hp1) _ _ _) (k2.each (Zah b c) (ZaV.2 (.inr rfl)))
 split
 ·rcases ZhX k hc hs with ⟨h,h'⟩|⟨_,y,_,_,_,_,kc,hy,_,_,_,_,_,e⟩
  ·rw [Ztc h]
   refine Zao ?_;unfold ZaF at h ⊢;cases hp:b.at c.flt with
   |none=>show (0:Int)<=2/\(2:Int)<=_;omega
   |some p=>
    have:=Zqf (w:=Zb3 b c) (q:=p.q);rw [hp] at h;dsimp only at h ⊢;by_cases h1:(p.r.lims.length:Int)<=c.cls
    ·rw [if_pos h1];show (0:Int)<=1/\(1:Int)<=_;omega
    rw [if_neg h1] at h ⊢;by_cases h2:b.full
    ·rw [if_pos h2];show (0:Int)<=3/\(3:Int)<=_;omega
    rw [if_neg h2] at h ⊢;by_cases h3:(Zcd p.q (Zb3 b c)).2≠0
    ·rw [if_pos h3];show 0<=(Zcd p.q (Zb3 b c)).2/\(Zcd p.q (Zb3 b c)).2<=_;omega
    ·rw [if_neg h3] at h
     refine absurd ?_ h;dsimp only;split
     ·rfl
     ·exact ZgJ
  ·rw [e]
   exact Zh9 (Zbb (n:=c.flt) kc).1 hy
 split
 ·unfold Zay
  split
  ·exact Zao (by omega)
  ·exact ZeU (by omega) (by omega) (by omega) hc.time ZjF ⟨by simp,λ y hy=>(by cases hy)⟩
 split
 ·exact Zky k
 split
 ·rename_i e h
  have:=Zil (b:=b) (s:=c.pnr);rw [h] at this;exact Zao (by dsimp only at this;omega)
 ·rename_i x e h
  have hx:=Zg7 h;obtain ⟨p,hp⟩:=k.core.at_of hx;obtain ⟨hp1,hp2⟩:=Z9 hp;have g:=k.core.good p hp1;have hb:=k.core.each x hx;have s1:=ZpN (r:=p.r) (o:=x.id) (lab:=c.lab);have s2:=ZrZ g (o:=x.id);unfold ZdD;rw [hp];dsimp only;split
  ·split
   ·exact Zao (by omega)
   ·rename_i h3
    have h3:x.state=1:=Classical.byContradiction h3;exact Zdz (n:=b.next) g ((ZhA k.core hx h3).each (Zbm x) (Zaa.2 ⟨x,hx,by rw [if_pos rfl]⟩))
  ·split
   ·exact ZeU (by omega) (by omega) (by omega) (by omega) hc.pnr ⟨by simp,λ y hy=>(by cases hy)⟩
   ·split
    ·exact Zao (by omega)
    ·split
     ·split
      ·exact Zao (by omega)
      ·exact Zdz (p:=ZaU _ p) (Zhm g _ _) hb
     ·split
      ·exact Zao (by omega)
      ·exact Zdz (p:=ZaU _ p) (Zhn g _) hb
end
section
open Go Go.VC Tryz
open Classical
noncomputable section
variable {b:ZE} {n:Int} {p:Pl} {w:Wt} {x:Bk} {r:RF}
theorem Zpx (g:ZaP r):(ZA r.L).length<=600:=by
 have h1:=Zss g;have h4:=(ZbR r.rows r.grps).2;have h2:=ZsS (m:=(List.range 600).map λ (k:Nat)=>(k:Int)) h1 λ x hx=>by
  obtain ⟨h,hh,hx⟩:=ZbZ.1 hx;have:=(g.each h hh).seats x hx;exact List.mem_map.2 ⟨x.toNat,List.mem_range.2 (by omega),by omega⟩
 rw [List.length_map,List.length_range] at h2;exact h2
theorem Zf9:∀ {L:List Zu},(∀ h∈L,Zge h)->(Z3 L).length<=36 * L.length + 9 * (ZA L).length
 |[],_=>by simp [Z3,ZA]
 |h::L,hin=>by
  have ih:=Zf9 λ x hx=>hin x (List.mem_cons_of_mem h hx);have hh:=hin h List.mem_cons_self;have s3:ZcO [h.owner,h.cls,h.many]:=by
   intro y hy;have:=hh.o;have:=hh.c;have:=hh.m;simp at hy;omega
  have h1:=ZI (ZaS s3);have h2:=Zb0 (l:=h.seats) (λ y hy=>by have:=hh.s y hy;omega) (by have:=hh.n;omega);have e1:Z3 (h::L)=ZdM h++Z3 L:=by simp [Z3]
  have e2:ZA (h::L)=h.seats++ZA L:=by simp [ZA]
  have e3:(ZdM h).length=(Zi [h.owner,h.cls,h.many]).length + (Zcw h.seats).length:=by unfold ZdM;rw [List.length_append]
  rw [e1,e2,List.length_append,List.length_append,List.length_cons,e3];simp only [List.length_cons,List.length_nil] at h1;omega
theorem ZfG (g:ZaP r):(Zby r).length<=28000:=by
 have s:=Zef g;obtain ⟨l1,l2,l3⟩:=ZW.1 g.lay;obtain ⟨m1,m2,m3⟩:=Zb1 g;have hlen:=g.len.1;have ht:=Zpx g;have u2:ZcO [r.num,r.rows]:=by intro y hy;have:=s.num;have:=s.rows;simp at hy;omega
 have u1:ZcO [(r.L.length:Int)]:=by intro y hy;simp at hy;omega
 have h1:=ZI (ZaS u2);have h2:=Zb0 s.grps (by omega);have h3:=Zb0 s.lims (by omega);have h4:=ZI (ZaS u1);have h5:=Zf9 (Zjv g);simp only [List.length_cons,List.length_nil] at h1 h4;unfold Zby ZtJ;simp only [List.length_append];omega
theorem Zs9 {x:Nat} (h:x<18446744073709551616):(ZzY x).length<=9:=Zbd (ZtF h)
theorem ZJ {x:Int} (h:0<=x/\x<18446744073709551616):(Zi [x]).length<=9:=by
 have:=ZI (l:=[x]) λ y hy=>by rw [List.mem_singleton.1 hy];exact h
 simpa using this
theorem Zlz (h:w.Ok) (hf:w.sc<18446744073709551616):(wtB w).length<=45:=by
 obtain ⟨h1,h2,h3,h4⟩:=h;have a1:=ZJ (x:=w.id) (by omega);have a2:=ZJ (x:=w.cls) (by omega);have a3:=ZJ (x:=w.many) (by omega);have a4:=ZJ (x:=w.time) (by omega);have a5:=Zs9 hf;unfold wtB;simp only [List.length_append];omega
theorem ZbF {α:Type} {code:α->List Int} {m:Nat}:∀ {l:List α},(∀ x∈l,(code x).length<=m)->((l.map code).flatten).length<=m * l.length
 |[],_=>by simp
 |a::l,h=>by
  have h1:=h a (by simp);have h2:=ZbF (l:=l) λ x hx=>h x (by simp [hx]);rw [List.map_cons,List.flatten_cons,List.length_append,List.length_cons,Nat.mul_succ];omega
theorem Zqg {q:List Wt} (h:QOk q):(qB q).length<=9009:=by
 have h1:=ZJ (x:=(q.length:Int)) (by have:=h.len;omega);have h2:=ZbF (l:=q) (code:=wtB) (m:=45) λ w hw=>Zlz (h.ok w hw) (h.fl w hw);have:=h.len;unfold qB;rw [List.length_append];omega
theorem Zdv {d:List Int} (h:d.length<1000000):(Zca d).length<=d.length + 9:=by
 have:=Zbd (n:=d.length) (by omega);unfold Zca;rw [List.length_append];omega
theorem ZlZ (g:ZaP p.r) (h:QOk p.q):(plB p).length<=38000:=by
 have h1:=ZfG g;have h2:=Zqg h;have h3:=Zdv (d:=Zby p.r) (by omega);have h4:=Zdv (d:=qB p.q) (by omega);unfold plB;rw [List.length_append];omega
theorem ZjV {n:Int} (hn:n<=28629151) (h:ZtX n x):(bkB x).length<=54:=by
 have:=h.id;have:=h.flt;have:=h.cls;have:=h.many;have:=h.state;have:=h.till;have a0:=ZJ (x:=x.id) (by omega);have a1:=ZJ (x:=x.flt) (by omega);have a2:=ZJ (x:=x.cls) (by omega);have a3:=ZJ (x:=x.many) (by omega);have a4:=ZJ (x:=x.state) (by omega);have a5:=ZJ (x:=x.till) (by omega);unfold bkB;simp only [List.length_append];omega
theorem ZpO (k:Core b):(Zdy b).length<=400000:=by
 have h1:=k.now;have h2:=k.next;have h3:=k.few;have h4:=k.many;have a1:=ZJ (x:=b.now) (by omega);have a2:=ZJ (x:=b.next) (by omega);have a3:=ZJ (x:=(b.fl.length:Int)) (by omega);have a4:=ZJ (x:=(b.L.length:Int)) (by omega);have a5:=ZbF (l:=b.fl) (code:=plB) (m:=38000) λ p hp=>ZlZ (k.good p hp) (k.qok p hp);have a6:=ZbF (l:=b.L) (code:=bkB) (m:=54) λ x hx=>ZjV h2.2 (k.each x hx);unfold Zdy;simp only [List.length_append];omega
end
end
section
open Go Go.VC Tryz
set_option maxRecDepth 10000
def B135 (d:Nat) (K:nK) (w : nW):Prop:=
 Ext prog 210 #[.float .f64 d] w λ c b=>
 ∃ a,(c=.returned (.int .u64 a))/\
 Br (ZnH BinOp.and IntKind.u64 a 9223372036854775808 !=0)
 (K (.int .u64 (IntKind.u64.wrap (↑(BitVec.ofInt IntKind.u64.bits (if IntKind.u64.signed=true then -1 else IntKind.u64.max) ^^^ BitVec.ofInt IntKind.u64.bits a).toNat:Int))) b)
 (K (.int .u64 (ZnH BinOp.or IntKind.u64 a 9223372036854775808)) b)
theorem Zwp (a:Nat) (K:nK) (w : nW) (h:B135 a K w):Zk prog 135 #[.float .f64 a] w K:=cq (sk:=.leaf) h func135
def B243 (b:Nat) (c:Nat) (K:nK) (w : nW):Prop:=
 nC 277 #[.float .f64 b,.float .f64 c] w λ d e=>
 ∃ a,(d=.returned (nI a))/\
 K (nI a) e
theorem Zvw (a:Nat) (b:Nat) (K:nK) (w : nW) (h:B243 a b K w):Zk prog 243 #[.float .f64 a,.float .f64 b] w K:=cq (sk:=.leaf) h func243
def B277 (c:Nat) (d:Nat) (K:nK) (w : nW):Prop:=
 nC 293 #[.float .f64 c] w λ j l=>
 ∃ i,(j=.returned (.bool i))/\
 nC 293 #[.float .f64 d] l λ k b=>
 ∃ e,(k=.returned (.bool e))/\
 Br i
 (Br e
 (K (nI 0) b)
 (K (nI ((-1))) b))
 (Br e
 (K (nI 1) b)
 (∃ f:Bool,(∀ a,(λ a=>a=b) a->((do eqGuard BinOp.lss 35 (Operand.tmp 14) (Operand.tmp 15) (.float .f64 c) (.float .f64 d);binOp BinOp.lss 35 (.float .f64 c) (.float .f64 d):Sem Value)).run prog a=.ok (.bool f) a)/\
 Br f
 (K (nI ((-1))) b)
 (∃ g:Bool,(∀ a,(λ a=>a=b) a->((do eqGuard BinOp.gtr 35 (Operand.tmp 17) (Operand.tmp 18) (.float .f64 c) (.float .f64 d);binOp BinOp.gtr 35 (.float .f64 c) (.float .f64 d):Sem Value)).run prog a=.ok (.bool g) a)/\
 Br g
 (K (nI 1) b)
 (K (nI 0) b))))
theorem Zve (a:Nat) (b:Nat) (K:nK) (w : nW) (h:B277 a b K w):Zk prog 277 #[.float .f64 a,.float .f64 b] w K:=cq (sk:=.leaf) h func277
def B293 (b:Nat) (K:nK) (w : nW):Prop:=
 ∃ c:Bool,(∀ a,(λ a=>a=w) a->((do eqGuard BinOp.neq 35 (Operand.tmp 3) (Operand.tmp 4) (.float .f64 b) (.float .f64 b);binOp BinOp.neq 35 (.float .f64 b) (.float .f64 b):Sem Value)).run prog a=.ok (.bool c) a)/\
 K (.bool c) w
theorem Zva (a:Nat) (K:nK) (w : nW) (h:B293 a K w):Zk prog 293 #[.float .f64 a] w K:=cq (sk:=.leaf) h func293
def B244 (c:Int) (d:Int) (K:nK) (w : nW):Prop:=
 nC 278 #[nI c] w λ f i=>
 ∃ e,(f=.returned (.bool e))/\
 nC 278 #[nI d] i λ g a=>
 ∃ b,(g=.returned (.bool b))/\
 Br e
 (Br b
 (K (nI 0) a)
 (K (nI ((-1))) a))
 (Br b
 (K (nI 1) a)
 (Br (decide (c<d))
 (K (nI ((-1))) a)
 (Br (decide (c>d))
 (K (nI 1) a)
 (K (nI 0) a))))
theorem Zvv (a:Int) (b:Int) (K:nK) (w : nW) (h:B244 a b K w):Zk prog 244 #[nI a,nI b] w K:=cq (sk:=.leaf) h func244
def B242 (f:Sl) (K:nK) (w : nW):Prop:=
 ∃ (d:Int->World->Prop) (g:Int->World->Nat),(d 0 w)/\∀ (k:Env) (b:Int) (c:World),d b c->
 Br (decide (b<(↑f.len:Int)))
 (Rng b f.len (Zb f.a λ i=>
 ∃ e,(Aw c (Addr.add i b.toNat) [nI e])/\
 Br (e !=0)
 (K (nI e) c)
 ((d (wI (b + 1)) c)/\g (wI (b + 1)) c<g b c)))
 (K (nI 0) c)
def ZyV:Sk:=(.seq .leaf (.seq .leaf (.seq (.seq .leaf (.block (.loop [8] [(.int .i64)] [2,5,8,9,10,11,12,13,14,15,16] .leaf))) .leaf)))
theorem Zvx (b:Sl) (K:nK) (w : nW) (h:B242 b K w):Zk prog 242 #[b.v] w K:=cq (sk:=ZyV) h func242
def B100  (K:nK) (w : nW):Prop:=
 New (.cells #[.slice none 0 0] 190 (0,0)) (λ a b=>
 K (.pointer ((some ⟨a,0,none⟩))) b) w
theorem ZwV  (K:nK) (w : nW) (h:B100  K w):Zk prog 100 #[] w K:=cq (sk:=.leaf) h func100
def B172 (z:Int) (A:Int) (C:Int) (D:Int) (E:Nat) (I:Int) (J:Int) (L:Int) (M:Int) (N:Nat) (K:nK) (w : nW):Prop:=
 New (.cells #[nI z,nI A,nI C,nI D,.float .f64 E] 192 (0,0)) (λ b F=>
 New (.cells #[nI I,nI J,nI L,nI M,.float .f64 N] 192 (0,0)) (λ c G=>
 Drw G λ a H=>
 ∃ n,(At a ⟨c,0 + 4,none⟩ [.float .f64 n])/\
 ∃ d,(At a ⟨b,0 + 4,none⟩ [.float .f64 d])/\
 ∃ f,(At a ⟨b,0 + 3,none⟩ [nI f])/\
 ∃ g,(At a ⟨c,0 + 3,none⟩ [nI g])/\
 ∃ j,(At a ⟨b,0,none⟩ [nI j])/\
 ∃ k,(At a ⟨c,0,none⟩ [nI k])/\
 nC 243 #[.float .f64 n,.float .f64 d] H λ u o=>
 ∃ e,(u=.returned (nI e))/\
 (a o)/\
 nC 244 #[nI f,nI g] o λ v p=>
 ∃ i,(v=.returned (nI i))/\
 (a p)/\
 nC 244 #[nI j,nI k] p λ x q=>
 ∃ l,(x=.returned (nI l))/\
 (a q)/\
 New (.cells #[nI e,nI i,nI l] 3 (0,0)) (λ t r=>
 (a r)/\
 nC 242 #[.slice ((some ⟨t,0,none⟩)) 3 3] r λ y s=>
 ∃ m,(y=.returned (nI m))/\
 (a s)/\
 K (nI m) s) q) F) w
theorem Zwc (a:Int) (b:Int) (c:Int) (d:Int) (e:Nat) (f:Int) (g:Int) (i:Int) (j:Int) (k:Nat) (K:nK) (w : nW) (h:B172 a b c d e f g i j k K w):Zk prog 172 #[.agg #[nI a,nI b,nI c,nI d,.float .f64 e],.agg #[nI f,nI g,nI i,nI j,.float .f64 k]] w K:=cq (sk:=.leaf) h func172
def B169 (t:Int) (u:Int) (v:Int) (x:Int) (y:Nat) (K:nK) (w : nW):Prop:=
 New (.cells #[nI t,nI u,nI v,nI x,.float .f64 y] 192 (0,0)) (λ b o=>
 ∃ m,(Aw o ⟨b,0,none⟩ [nI m])/\
 nC 239 #[nI m,nI 1,nI 28629151] o λ p c=>
 ∃ n,(p=.returned (.bool n))/\
 Br n
 (∃ f,(Aw c ⟨b,0 + 1,none⟩ [nI f])/\
 nC 239 #[nI f,nI 0,nI 7] c λ q d=>
 ∃ g,(q=.returned (.bool g))/\
 Br g
 (∃ i,(Aw d ⟨b,0 + 2,none⟩ [nI i])/\
 nC 239 #[nI i,nI 1,nI 600] d λ r e=>
 ∃ j,(r=.returned (.bool j))/\
 Br j
 (∃ k,(Aw e ⟨b,0 + 3,none⟩ [nI k])/\
 nC 239 #[nI k,nI 0,nI 1099511627776] e λ s z=>
 ∃ l,(s=.returned (.bool l))/\
 K (.bool l) z)
 (K (.bool false) e))
 (K (.bool false) d))
 (K (.bool false) c)) w
theorem Zwf (a:Int) (b:Int) (c:Int) (d:Int) (e:Nat) (K:nK) (w : nW) (h:B169 a b c d e K w):Zk prog 169 #[.agg #[nI a,nI b,nI c,nI d,.float .f64 e]] w K:=cq (sk:=.leaf) h func169
def B239 (a:Int) (c:Int) (b:Int) (K:nK) (w : nW):Prop:=
 Br (decide (a >= c))
 (K (.bool (decide (a<=b))) w)
 (K (.bool false) w)
theorem ZvA (c:Int) (b:Int) (a:Int) (K:nK) (w : nW) (h:B239 c b a K w):Zk prog 239 #[nI c,nI b,nI a] w K:=cq (sk:=.leaf) h func239
def B170 (j:Option Addr) (i:Int) (K:nK) (w : nW):Prop:=
 New (.cells #[nI i] 3 (0,0)) (λ f d=>
 Zb j λ e=>
 ∃ b:Sl,(Aw d (Addr.add e 0) [b.v])/\
 nC 240 #[b.v,.func (.func 241) #[] #[.pointer ((some ⟨f,0,none⟩))]] d λ g l=>
 ∃ c,(g=.returned (nI c))/\
 K (nI c) l) w
theorem Zwe (b:Option Addr) (a:Int) (K:nK) (w : nW) (h:B170 b a K w):Zk prog 170 #[.pointer b,nI a] w K:=cq (sk:=.leaf) h func170
def B241 (i:Int) (j:Int) (k:Int) (l:Int) (m:Nat) (g:Option Addr) (K:nK) (w : nW):Prop:=
 New (.cells #[nI i,nI j,nI k,nI l,.float .f64 m] 192 (0,0)) (λ f b=>
 ∃ c,(Aw b ⟨f,0,none⟩ [nI c])/\
 Zb g λ e=>
 ∃ d,(Aw b e [nI d])/\
 K (.bool (c==d)) b) w
theorem Zvy (b:Int) (c:Int) (d:Int) (e:Int) (f:Nat) (a:Option Addr) (K:nK) (w : nW) (h:B241 b c d e f a K w):Zk prog 241 #[.agg #[nI b,nI c,nI d,nI e,.float .f64 f],.pointer a] w K:=cq (sk:=.leaf) h func241
def B102 (f:Option Addr) (ai:Int) (aj:Int) (ak:Int) (al:Int) (am:Nat) (K:nK) (w : nW):Prop:=
 New (.cells #[nI ai,nI aj,nI ak,nI al,.float .f64 am] 168 (0,0)) (λ o T=>
 ∃ L M N O Q,(Aw T ⟨o,0,none⟩ [nI L,nI M,nI N,nI O,.float .f64 Q])/\
 New (.cells #[nI 0,nI 0,nI 0,nI 0,.float .f64 0] 192 (0,0)) (λ i an=>
 ∃ l,(St 192 ⟨i,0,none⟩ (.agg #[nI L,nI M,nI N,nI O,.float .f64 Q]) an l)/\
 ∃ p q r s t,(Aw l ⟨i,0,none⟩ [nI p,nI q,nI r,nI s,.float .f64 t])/\
 nC 169 #[.agg #[nI p,nI q,nI r,nI s,.float .f64 t]] l λ ad m=>
 ∃ u,(ad=.returned (.bool u))/\
 Br (!u)
 (K (nI 1) m)
 (∃ v,(Aw m ⟨o,0,none⟩ [nI v])/\
 nC 170 #[.pointer f,nI v] m λ ae k=>
 ∃ x,(ae=.returned (nI x))/\
 Br (decide (x >= 0))
 (K (nI 7) k)
 (Zb f λ Y=>
 ∃ j:Sl,(Aw k (Addr.add Y 0) [j.v])/\
 Br (decide ((↑j.len:Int) >= 200))
 (K (nI 3) k)
 (Drw k λ n ao=>
 Zb f λ Z=>
 ∃ c:Sl,(At n (Addr.add Z 0) [c.v])/\
 ∃ y z A C D,(At n ⟨i,0,none⟩ [nI y,nI z,nI A,nI C,.float .f64 D])/\
 nC 171 #[c.v,.agg #[nI y,nI z,nI A,nI C,.float .f64 D],.func (.func 172) #[] #[]] ao λ af ap=>
 ∃ E ah,(af=.returned (.tuple #[nI E,.bool ah]))/\
 Drw ap λ g aq=>
 Zb f λ aa=>
 ∃ d:Sl,(At g (Addr.add aa 0) [d.v])/\
 ∃ F G H I J,(At g ⟨i,0,none⟩ [nI F,nI G,nI H,nI I,.float .f64 J])/\
 New (.cells #[nI F,nI G,nI H,nI I,.float .f64 J] 192 (0,0)) (λ ac X=>
 (g X)/\
 nC 173 #[d.v,nI E,.slice ((some ⟨ac,0,none⟩)) 1 1] X λ ag U=>
 ∃ e:Sl,(ag=.returned (e.v))/\
 (g U)/\
 Zb f λ ab=>
 ∃ V,(St 188 (Addr.add ab 0) (e.v) U V)/\
 K (nI 0) V) aq)))) T) w
theorem ZwT (a:Option Addr) (b:Int) (c:Int) (d:Int) (e:Int) (f:Nat) (K:nK) (w : nW) (h:B102 a b c d e f K w):Zk prog 102 #[.pointer a,.agg #[nI b,nI c,nI d,nI e,.float .f64 f]] w K:=cq (sk:=.leaf) h func102
def B105 (e:Option Addr) (m:Int) (K:nK) (w : nW):Prop:=
 nC 170 #[.pointer e,nI m] w λ k f=>
 ∃ d,(k=.returned (nI d))/\
 Br (decide (d<0))
 (K (nI 2) f)
 (Zb e λ i=>
 ∃ b:Sl,(Aw f (Addr.add i 0) [b.v])/\
 nC 176 #[b.v,nI d,nI (wI (d + 1))] f λ l o=>
 ∃ c:Sl,(l=.returned (c.v))/\
 Zb e λ j=>
 ∃ g,(St 188 (Addr.add j 0) (c.v) o g)/\
 K (nI 0) g)
theorem ZwQ (b:Option Addr) (a:Int) (K:nK) (w : nW) (h:B105 b a K w):Zk prog 105 #[.pointer b,nI a] w K:=cq (sk:=.leaf) h func105
def B56 (C:Option Addr) (K:nK) (w : nW):Prop:=
 Zb C λ z=>
 ∃ d:Sl,(Aw w (Addr.add z 0) [d.v])/\
 ∃ (i:Sl->Int->World->Prop) (x:Sl->Int->World->Nat),(i ⟨none,0,0⟩ 0 w)/\∀ (F:Env) (b:Sl) (c:Int) (g:World),i b c g->
 Br (decide (c<(↑d.len:Int)))
 (Rng c d.len (Zb d.a λ y=>
 ∃ m n o p q,(Aw g (Addr.add y (ZaD c.toNat 5)) [nI m,nI n,nI o,nI p,.float .f64 q])/\
 New (.cells #[nI 0,nI 0,nI 0,nI 0,.float .f64 0] 192 (0,0)) (λ l D=>
 ∃ j,(St 192 ⟨l,0,none⟩ (.agg #[nI m,nI n,nI o,nI p,.float .f64 q]) D j)/\
 ∃ r s t u v,(Aw j ⟨l,0,none⟩ [nI r,nI s,nI t,nI u,.float .f64 v])/\
 New (.cells #[nI r,nI s,nI t,nI u,.float .f64 v] 168 (0,0)) (λ A E=>
 ∃ k:World,∃ e:Sl,((Builtin.append_ #[100,100] 100 #[b.v,.slice ((some ⟨A,0,none⟩)) 1 1]).run prog E=.ok (e.v) k)/\
 (i e (wI (c + 1)) k)/\x e (wI (c + 1)) k<x b c g) j) g))
 (K (b.v) g)
def sk56:Sk:=(.seq .leaf (.seq .leaf (.seq (.seq .leaf (.block (.loop [3,11] [.sl,(.int .i64)] [3,5,11,12,13,14,15,16,17,18,19,20] .leaf))) .leaf)))
theorem ZxX (a:Option Addr) (K:nK) (w : nW) (h:B56 a K w):Zk prog 56 #[.pointer a] w K:=cq (sk:=sk56) h func56
def B174 (Z:Option Addr) (m:Sl) (K:nK) (w : nW):Prop:=
 New (.cells #[nI 0,nI 0,nI 0,nI 0,.float .f64 0] 168 (0,0)) (λ k T=>
 Zb Z λ Y=>
 ∃ d:Sl,(Aw T (Addr.add Y 0) [d.v])/\
 ∃ (i:Int->World->Prop) (l:Int->World->Nat),(i 0 T)/\∀ (ab:Env) (b:Int) (e:World),i b e->
 Br (decide (b<(↑d.len:Int)))
 (Rng b d.len (Zb d.a λ V=>
 ∃ q r s t u,(Aw e (Addr.add V (ZaD b.toNat 5)) [nI q,nI r,nI s,nI t,.float .f64 u])/\
 New (.cells #[nI 0,nI 0,nI 0,nI 0,.float .f64 0] 192 (0,0)) (λ g aa=>
 ∃ U,(St 192 ⟨g,0,none⟩ (.agg #[nI q,nI r,nI s,nI t,.float .f64 u]) aa U)/\
 Drw U λ j f=>
 ∃ v,(At j ⟨g,0 + 1,none⟩ [nI v])/\
 Br (decide (v<(↑m.len:Int)))
 (∃ x,(At j ⟨g,0 + 2,none⟩ [nI x])/\
 ∃ n,(At j ⟨g,0 + 1,none⟩ [nI n])/\
 Rng n m.len (Zb m.a λ X=>
 ∃ y,(At j (Addr.add X n.toNat) [nI y])/\
 Br (decide (x<=y))
 (∃ z A C D E,(Aw f ⟨g,0,none⟩ [nI z,nI A,nI C,nI D,.float .f64 E])/\
 ∃ o,(St 168 ⟨k,0,none⟩ (.agg #[nI z,nI A,nI C,nI D,.float .f64 E]) f o)/\
 ∃ F G H I J,(Aw o ⟨k,0,none⟩ [nI F,nI G,nI H,nI I,.float .f64 J])/\
 K (.tuple #[.agg #[nI F,nI G,nI H,nI I,.float .f64 J],.bool true]) o)
 ((i (wI (b + 1)) f)/\l (wI (b + 1)) f<l b e)))
 ((i (wI (b + 1)) f)/\l (wI (b + 1)) f<l b e)) e))
 (∃ p,(St 168 ⟨k,0,none⟩ (.agg #[nI 0,nI 0,nI 0,nI 0,.float .f64 0]) e p)/\
 ∃ L M N O Q,(Aw p ⟨k,0,none⟩ [nI L,nI M,nI N,nI O,.float .f64 Q])/\
 K (.tuple #[.agg #[nI L,nI M,nI N,nI O,.float .f64 Q],.bool false]) p)) w
def Zzi:Sk:=(.seq .leaf (.seq (.seq .leaf (.block (.loop [13] [(.int .i64)] [5,7,13,14,15,16,17,18,19,20,21,22,23,24,25,26,27,28,29,30,31,32,33,34,35,36,37] .leaf))) .leaf))
theorem Zwa (c:Option Addr) (b:Sl) (K:nK) (w : nW) (h:B174 c b K w):Zk prog 174 #[.pointer c,b.v] w K:=cq (sk:=Zzi) h func174
def B65 (t:Option Addr) (K:nK) (w : nW):Prop:=
 Zb t λ U=>
 ∃ o:Sl,(Aw w (Addr.add U 0) [o.v])/\
 nC 128 #[.int .u64 (IntKind.u64.wrap (↑o.len:Int))] w λ X I=>
 ∃ p:Sl,(X=.returned (p.v))/\
 Zb t λ Q=>
 ∃ j:Sl,(Aw I (Addr.add Q 0) [j.v])/\
 ∃ (q:Sl->Int->World->Prop) (N:Sl->Int->World->Nat),(q p 0 I)/\∀ (ad:Env) (g:Sl) (d:Int) (n:World),q g d n->
 Br (decide (d<(↑j.len:Int)))
 (Rng d j.len (Zb j.a λ T=>
 ∃ u v x y z,(Aw n (Addr.add T (ZaD d.toNat 5)) [nI u,nI v,nI x,nI y,.float .f64 z])/\
 New (.cells #[nI 0,nI 0,nI 0,nI 0,.float .f64 0] 192 (0,0)) (λ i aa=>
 ∃ J,(St 192 ⟨i,0,none⟩ (.agg #[nI u,nI v,nI x,nI y,.float .f64 z]) aa J)/\
 Drw J λ b ab=>
 ∃ A,(At b ⟨i,0,none⟩ [nI A])/\
 ∃ C,(At b ⟨i,0 + 1,none⟩ [nI C])/\
 ∃ D,(At b ⟨i,0 + 2,none⟩ [nI D])/\
 ∃ E,(At b ⟨i,0 + 3,none⟩ [nI E])/\
 ∃ F,(At b ⟨i,0 + 4,none⟩ [.float .f64 F])/\
 nC 135 #[.float .f64 F] ab λ Y L=>
 ∃ G,(Y=.returned (.int .u64 G))/\
 (b L)/\
 New (.cells #[.int .u64 (IntKind.u64.wrap A),.int .u64 (IntKind.u64.wrap C),.int .u64 (IntKind.u64.wrap D),.int .u64 (IntKind.u64.wrap E),.int .u64 G] 141 (0,0)) (λ V M=>
 (b M)/\
 ∃ (r:Sl->Int->World->Prop) (O:Sl->Int->World->Nat),(r g 0 M)/\∀ (ae:Env) (c:Sl) (e:Int) (l:World),r c e l->
 Br (decide (e<(↑5:Int)))
 (Rng e 5 (∃ H,(Aw l (Addr.add ⟨V,0,none⟩ e.toNat) [.int .u64 H])/\
 nC 128 #[.int .u64 H] l λ Z ac=>
 ∃ k:Sl,(Z=.returned (k.v))/\
 ∃ s:World,∃ m:Sl,((Builtin.append_ #[47,47] 47 #[c.v,k.v]).run prog ac=.ok (m.v) s)/\
 (r m (wI (e + 1)) s)/\O m (wI (e + 1)) s<O c e l))
 ((q c (wI (d + 1)) l)/\N c (wI (d + 1)) l<N g d n)) L) n))
 (K (g.v) n)
def sk65:Sk:=(.seq .leaf (.seq .leaf (.seq (.seq .leaf (.block (.loop [3,20] [.sl,(.int .i64)] [3,5,7,20,21,22,23,24,25,26,27,28,29,30,31,32,33,34,35,36,37,38,39,40,41,42,43,44,45,46,47,48,49,50,51,52,53,54,55] (.seq .leaf (.seq .leaf (.seq (.block (.seq .leaf (.seq .leaf (.block (.loop [3,46] [.sl,(.int .i64)] [3,7,46,47,48,49,50,51,52,53,54] .leaf))))) .leaf)))))) .leaf)))
theorem ZxQ (a:Option Addr) (K:nK) (w : nW) (h:B65 a K w):Zk prog 65 #[.pointer a] w K:=cq (sk:=sk65) h func65
def B240 (e:Sl) (q:Value) (K:nK) (w : nW):Prop:=
 ∃ (d:Int->World->Prop) (n:Int->World->Nat),(d 0 w)/\∀ (s:Env) (b:Int) (c:World),d b c->
 Br (decide (b<(↑e.len:Int)))
 (Rng b e.len (Zb e.a λ o=>
 ∃ g i j k l,(Aw c (Addr.add o (ZaD b.toNat 5)) [nI g,nI i,nI j,nI k,.float .f64 l])/\
 Zda prog cl q [.agg #[nI g,nI i,nI j,nI k,.float .f64 l]] c λ p f=>
 ∃ m,(p=.returned (.bool m))/\
 Br m
 (K (nI b) f)
 ((d (wI (b + 1)) f)/\n (wI (b + 1)) f<n b c)))
 (K (nI ((-1))) c)
def ZyW:Sk:=(.seq .leaf (.seq (.seq .leaf (.block (.loop [8] [(.int .i64)] [4,5,8,9,10,11,12,13,14,15,16,17,18] .leaf))) .leaf))
theorem Zvz (b:Sl) (c:Value) (K:nK) (w : nW) (h:B240 b c K w):Zk prog 240 #[b.v,c] w K:=cq (sk:=ZyW) h func240
def B171 (d:Sl) (U:Int) (V:Int) (X:Int) (Y:Int) (Z:Nat) (m:Value) (K:nK) (w : nW):Prop:=
 New (.cells #[nI U,nI V,nI X,nI Y,.float .f64 Z] 192 (0,0)) (λ l aa=>
 ∃ (f:Int->Int->World->Prop) (i:Int->Int->World->Nat),(f 0 ((↑d.len:Int)) aa)/\∀ (ad:Env) (b:Int) (c:Int) (e:World),f b c e->
 Br (decide (b<c))
 (Drw e λ j ab=>
 Rng (wI (Zf3 IntKind.u64 (IntKind.u64.wrap (wI (b + c))) 1)) d.len (Zb d.a λ N=>
 ∃ n o p q r,(At j (Addr.add N (ZaD (wI (Zf3 IntKind.u64 (IntKind.u64.wrap (wI (b + c))) 1)).toNat 5)) [nI n,nI o,nI p,nI q,.float .f64 r])/\
 ∃ s t u v x,(At j ⟨l,0,none⟩ [nI s,nI t,nI u,nI v,.float .f64 x])/\
 Zda prog cl m [.agg #[nI n,nI o,nI p,nI q,.float .f64 r],.agg #[nI s,nI t,nI u,nI v,.float .f64 x]] ab λ Q g=>
 ∃ y,(Q=.returned (nI y))/\
 Br (decide (y<0))
 ((f (wI (wI (Zf3 IntKind.u64 (IntKind.u64.wrap (wI (b + c))) 1) + 1)) c g)/\i (wI (wI (Zf3 IntKind.u64 (IntKind.u64.wrap (wI (b + c))) 1) + 1)) c g<i b c e)
 ((f b (wI (Zf3 IntKind.u64 (IntKind.u64.wrap (wI (b + c))) 1)) g)/\i b (wI (Zf3 IntKind.u64 (IntKind.u64.wrap (wI (b + c))) 1)) g<i b c e)))
 (Drw e λ k M=>
 Br (decide (b<(↑d.len:Int)))
 (Rng b d.len (Zb d.a λ O=>
 ∃ z A C D E,(At k (Addr.add O (ZaD b.toNat 5)) [nI z,nI A,nI C,nI D,.float .f64 E])/\
 ∃ F G H I J,(At k ⟨l,0,none⟩ [nI F,nI G,nI H,nI I,.float .f64 J])/\
 Zda prog cl m [.agg #[nI z,nI A,nI C,nI D,.float .f64 E],.agg #[nI F,nI G,nI H,nI I,.float .f64 J]] M λ T ac=>
 ∃ L,(T=.returned (nI L))/\
 K (.tuple #[nI b,.bool (L==0)]) ac))
 (K (.tuple #[nI b,.bool false]) M))) w
def Zzj:Sk:=(.seq .leaf (.seq .leaf (.seq .leaf (.seq (.block (.loop [9,10] [(.int .i64),(.int .i64)] [9,10,11,15,16,17,18,19,20,21,22,23,24,25,26,27,28,29,30,31,32,33,34] .leaf)) .leaf))))
theorem Zwd (b:Sl) (d:Int) (e:Int) (f:Int) (g:Int) (i:Nat) (c:Value) (K:nK) (w : nW) (h:B171 b d e f g i c K w):Zk prog 171 #[b.v,.agg #[nI d,nI e,nI f,nI g,.float .f64 i],c] w K:=cq (sk:=Zzj) h func171
def B173 (b:Sl) (d:Int) (c:Sl) (K:nK) (w : nW):Prop:=
 ((0:Int)<=d)/\
 ((d:Int)<=(↑b.len:Int))/\
 Br ((↑c.len:Int)==0)
 (K (b.v) w)
 (Br (d==(↑b.len:Int))
 (∃ i:World,∃ f:Sl,((Builtin.append_ #[188,188] 188 #[b.v,c.v]).run prog w=.ok (f.v) i)/\
 K (f.v) i)
 (Br (decide (wI ((↑b.len:Int) + (↑c.len:Int))>(↑b.cap:Int)))
 (((0:Int)<=d)/\
 ((d:Int)<=(↑b.cap:Int))/\
 ∃ k:World,∃ e:Sl,((Builtin.append_ #[188,3] 188 #[.slice b.a d.toNat b.cap,nI (wI (wI ((↑b.len:Int) + (↑c.len:Int)) - d))]).run prog w=.ok (e.v) k)/\
 ((0:Int)<=d)/\
 ((d:Int)<=(↑e.len:Int))/\
 ∃ l:World,∃ s:Int,((Builtin.copy_ #[188,188] 3 #[.slice (ZbI e.a d.toNat e.cap 5) (e.len - d.toNat) (e.cap - d.toNat),c.v]).run prog k=.ok (nI s) l)/\
 Drw l λ C z=>
 ((0:Int)<=wI (d + (↑c.len:Int)))/\
 ((wI (d + (↑c.len:Int)):Int)<=(↑e.len:Int))/\
 ((0:Int)<=d)/\
 ((d:Int)<=(↑b.len:Int))/\
 ∃ m:World,∃ t:Int,((Builtin.copy_ #[188,188] 3 #[.slice (ZbI e.a (wI (d + (↑c.len:Int))).toNat e.cap 5) (e.len - (wI (d + (↑c.len:Int))).toNat) (e.cap - (wI (d + (↑c.len:Int))).toNat),.slice (ZbI b.a d.toNat b.cap 5) (b.len - d.toNat) (b.cap - d.toNat)]).run prog z=.ok (nI t) m)/\
 K (e.v) m)
 (((0:Int)<=wI ((↑b.len:Int) + (↑c.len:Int)))/\
 ((wI ((↑b.len:Int) + (↑c.len:Int)):Int)<=(↑b.cap:Int))/\
 ((0:Int)<=wI (d + (↑c.len:Int)))/\
 ((wI (d + (↑c.len:Int)):Int)<=(↑(wI ((↑b.len:Int) + (↑c.len:Int))).toNat:Int))/\
 Ext prog 245 #[c.v,.slice (ZbI b.a (wI (d + (↑c.len:Int))).toNat b.cap 5) ((wI ((↑b.len:Int) + (↑c.len:Int))).toNat - (wI (d + (↑c.len:Int))).toNat) (b.cap - (wI (d + (↑c.len:Int))).toNat)] w λ q n=>
 ∃ g,(q=.returned (.bool g))/\
 Br (!g)
 (Drw n λ D A=>
 ((0:Int)<=wI (d + (↑c.len:Int)))/\
 ((wI (d + (↑c.len:Int)):Int)<=(↑(wI ((↑b.len:Int) + (↑c.len:Int))).toNat:Int))/\
 ((0:Int)<=d)/\
 ((d:Int)<=(↑(wI ((↑b.len:Int) + (↑c.len:Int))).toNat:Int))/\
 ∃ o:World,∃ u:Int,((Builtin.copy_ #[188,188] 3 #[.slice (ZbI b.a (wI (d + (↑c.len:Int))).toNat b.cap 5) ((wI ((↑b.len:Int) + (↑c.len:Int))).toNat - (wI (d + (↑c.len:Int))).toNat) (b.cap - (wI (d + (↑c.len:Int))).toNat),.slice (ZbI b.a d.toNat b.cap 5) ((wI ((↑b.len:Int) + (↑c.len:Int))).toNat - d.toNat) (b.cap - d.toNat)]).run prog A=.ok (nI u) o)/\
 ((0:Int)<=d)/\
 ((d:Int)<=(↑(wI ((↑b.len:Int) + (↑c.len:Int))).toNat:Int))/\
 ∃ p:World,∃ v:Int,((Builtin.copy_ #[188,188] 3 #[.slice (ZbI b.a d.toNat b.cap 5) ((wI ((↑b.len:Int) + (↑c.len:Int))).toNat - d.toNat) (b.cap - d.toNat),c.v]).run prog o=.ok (nI v) p)/\
 K (.slice b.a ((wI ((↑b.len:Int) + (↑c.len:Int))).toNat) b.cap) p)
 (((0:Int)<=(↑b.len:Int))/\
 (((↑b.len:Int):Int)<=(↑(wI ((↑b.len:Int) + (↑c.len:Int))).toNat:Int))/\
 ∃ j:World,∃ x:Int,((Builtin.copy_ #[188,188] 3 #[.slice (ZbI b.a (↑b.len:Int).toNat b.cap 5) ((wI ((↑b.len:Int) + (↑c.len:Int))).toNat - (↑b.len:Int).toNat) (b.cap - (↑b.len:Int).toNat),c.v]).run prog n=.ok (nI x) j)/\
 ((0:Int)<=d)/\
 ((d:Int)<=(↑(wI ((↑b.len:Int) + (↑c.len:Int))).toNat:Int))/\
 nC 246 #[.slice (ZbI b.a d.toNat b.cap 5) ((wI ((↑b.len:Int) + (↑c.len:Int))).toNat - d.toNat) (b.cap - d.toNat),nI ((↑c.len:Int))] j λ r y=>
 (r=.returned (.tuple #[]))/\
 K (.slice b.a ((wI ((↑b.len:Int) + (↑c.len:Int))).toNat) b.cap) y))))
theorem Zwb (b:Sl) (d:Int) (c:Sl) (K:nK) (w : nW) (h:B173 b d c K w):Zk prog 173 #[b.v,nI d,c.v] w K:=cq (sk:=.leaf) h func173
def B176 (b:Sl) (e:Int) (d:Int) (K:nK) (w : nW):Prop:=
 ((0:Int)<=(↑b.len:Int))/\
 (((↑b.len:Int):Int)<=(↑b.cap:Int))/\
 ((0:Int)<=d)/\
 ((d:Int)<=(↑(↑b.len:Int).toNat:Int))/\
 ((0:Int)<=e)/\
 ((e:Int)<=(↑d.toNat:Int))/\
 Br (e==d)
 (K (b.v) w)
 (Drw w λ j i=>
 ((0:Int)<=e)/\
 ((e:Int)<=(↑b.cap:Int))/\
 ((0:Int)<=d)/\
 ((d:Int)<=(↑b.len:Int))/\
 ∃ f:World,∃ c:Sl,((Builtin.append_ #[188,188] 188 #[.slice b.a e.toNat b.cap,.slice (ZbI b.a d.toNat b.cap 5) (b.len - d.toNat) (b.cap - d.toNat)]).run prog i=.ok (c.v) f)/\
 ((0:Int)<=(↑b.len:Int))/\
 (((↑b.len:Int):Int)<=(↑c.cap:Int))/\
 ((0:Int)<=(↑c.len:Int))/\
 (((↑c.len:Int):Int)<=(↑(↑b.len:Int).toNat:Int))/\
 ∃ g:World,((Builtin.clear_ #[188] 0 #[.slice (ZbI c.a (↑c.len:Int).toNat c.cap 5) ((↑b.len:Int).toNat - (↑c.len:Int).toNat) (c.cap - (↑c.len:Int).toNat)]).run prog f=.ok (.tuple #[]) g)/\
 K (c.v) g)
theorem Zv8 (b:Sl) (c:Int) (d:Int) (K:nK) (w : nW) (h:B176 b c d K w):Zk prog 176 #[b.v,nI c,nI d] w K:=cq (sk:=.leaf) h func176
def B182  (K:nK) (w : nW):Prop:=
 New (.cells #[nI 0] 3 (0,0)) (λ a e=>
 New (.cells #[nI 0] 3 (0,0)) (λ b f=>
 ∃ c,(St 3 ⟨a,0,none⟩ (nI 0) f c)/\
 ∃ d,(St 3 ⟨b,0,none⟩ (nI 2) c d)/\
 K (.func (.func 254) #[] #[.pointer ((some ⟨a,0,none⟩)),.pointer ((some ⟨b,0,none⟩))]) d) e) w
theorem Zv3  (K:nK) (w : nW) (h:B182  K w):Zk prog 182 #[] w K:=cq (sk:=.leaf) h func182
def B254 (o:Int) (b:Option Addr) (c:Option Addr) (K:nK) (w : nW):Prop:=
 Zb b λ m=>
 ∃ i,(Aw w m [nI i])/\
 Zb c λ n=>
 ∃ j,(Aw w n [nI j])/\
 ∃ d:World,((Instr.storeAt 3 (.pointer b) (nI ((wI (i + wI (j * o))).tmod 31))).run prog w=.ok () d)/\
 Zb c λ k=>
 ∃ f,(Aw d k [nI f])/\
 ∃ e:World,((Instr.storeAt 3 (.pointer c) (nI (wI (f + 1)))).run prog d=.ok () e)/\
 Zb b λ l=>
 ∃ g,(Aw e l [nI g])/\
 K (nI g) e
theorem Zvo (c:Int) (a:Option Addr) (b:Option Addr) (K:nK) (w : nW) (h:B254 c a b K w):Zk prog 254 #[nI c,.pointer a,.pointer b] w K:=cq (sk:=.leaf) h func254
def B121 (m:Int) (K:nK) (w : nW):Prop:=
 ∃ (r:World->Prop),(Br (decide (m<0))
 (K (.tuple #[.string (ByteArray.mk #[]),nI 1]) w)
 (Br (decide (m >= 28629151))
 (K (.tuple #[.string (ByteArray.mk #[]),nI 1]) w)
 (r  w)))/\
 ∀ (L:Env)  (z:World),r  z->
 New (.cells #[.int .u8 0,.int .u8 0,.int .u8 0,.int .u8 0,.int .u8 0,.int .u8 0] 255 (0,0)) (λ l I=>
 New (.cells #[nI 0,nI 0,nI 0,nI 0,nI 0] 256 (0,0)) (λ s J=>
 ∃ (j:Int->Int->World->Prop) (E:Int->Int->World->Nat),(j m 4 J)/\∀ (M:Env) (d:Int) (b:Int) (g:World),j d b g->
 Br (decide (b >= 0))
 (Rng b 5 (∃ q,(St 3 (Addr.add ⟨s,0,none⟩ b.toNat) (nI (d.tmod 31)) g q)/\
 (j (wI (d.tdiv 31)) (wI (b - 1)) q)/\E (wI (d.tdiv 31)) (wI (b - 1)) q<E d b g))
 (nC 182 #[] g λ G A=>
 ∃ t:Value,(G=.returned (t))/\
 ∃ n:List Value,(n.length=5)/\
 (Aw A ⟨s,0,none⟩ n)/\
 ∃ (k:Int->Int->World->Prop) (F:Int->Int->World->Nat),(k 0 0 A)/\∀ (N:Env) (e:Int) (a:Int) (i:World),k e a i->
 Br (decide (a<5))
 (Rng a 5 (∃ f:Int,(n.toArray[a.toNat]? =some (nI f))/\
 ∃ u:UInt8,((0:Int)<=f)/\
 ((ByteArray.mk #[65,66,67,68,69,70,71,72,74,75,76,77,78,80,81,82,84,85,86,87,88,89,90,50,51,52,53,54,55,56,57])[f.toNat]? =some u)/\
 Rng a 6 (∃ C,(St 5 (Addr.add ⟨l,0,none⟩ a.toNat) (.int .u8 ((↑u.toNat:Int))) i C)/\
 Zda prog cl t [nI f] C λ H D=>
 ∃ o,(H=.returned (nI o))/\
 (k o (wI (a + 1)) D)/\F o (wI (a + 1)) D<F e a i)))
 (∃ v:UInt8,((0:Int)<=(wI (31 - e)).tmod 31)/\
 ((ByteArray.mk #[65,66,67,68,69,70,71,72,74,75,76,77,78,80,81,82,84,85,86,87,88,89,90,50,51,52,53,54,55,56,57])[((wI (31 - e)).tmod 31).toNat]? =some v)/\
 ∃ p,(St 5 (Addr.add ⟨l,0,none⟩ 5) (.int .u8 ((↑v.toNat:Int))) i p)/\
 ∃ x:Addr,(some (Addr.mk l 0 none)=some x)/\
 ∃ y:ByteArray,(∀ c,(λ c=>c=p) c->((convert 47 9 (.slice ((some (x))) 6 6))).run prog c=.ok (.string y) c)/\
 K (.tuple #[.string y,nI 0]) p))) I) z
def Zzu:Sk:=(.seq .leaf (.cut [] [] [2,3,11,12,13,14,15,16] .leaf (.seq .leaf (.seq .leaf (.seq (.seq .leaf (.block (.loop [0,6] [(.int .i64),(.int .i64)] [0,6,17,18,19,20,21,22,23,24,25,26] .leaf))) (.seq .leaf (.seq (.seq .leaf (.block (.loop [8,29] [(.int .i64),(.int .i64)] [8,9,10,29,30,31,32,33,34,35,36,37,38,39,40] .leaf))) .leaf)))))))
theorem ZwA (a:Int) (K:nK) (w : nW) (h:B121 a K w):Zk prog 121 #[nI a] w K:=cq (sk:=Zzu) h func121
def B108 (l:ByteArray) (K:nK) (w : nW):Prop:=
 Br ((↑l.size:Int) !=6)
 (K (.tuple #[nI 0,nI 6]) w)
 (nC 182 #[] w λ r v=>
 ∃ m:Value,(r=.returned (m))/\
 New (.stringIter l 0) (λ q x=>
 ∃ (e:Int->Int->World->Prop) (g:Int->Int->World->Nat),(e 0 0 x)/\∀ (A:Env) (a:Int) (b:Int) (f:World),e a b f->
 Ztr ((some ⟨q,0,none⟩)) (λ u k y=>
 nC 183 #[.string (ByteArray.mk #[65,66,67,68,69,70,71,72,74,75,76,77,78,80,81,82,84,85,86,87,88,89,90,50,51,52,53,54,55,56,57]),.int .u8 (IntKind.u8.wrap k)] y λ s o=>
 ∃ c,(s=.returned (nI c))/\
 ∃ (i:Bool->World->Prop),(Br (decide (c<0))
 (i true o)
 (i (decide (k>90)) o))/\
 ∀ (C:Env) (n:Bool) (d:World),i n d->
 Br n
 (K (.tuple #[nI 0,nI 6]) d)
 (Br (decide (u<5))
 (Zda prog cl m [nI c] d λ t p=>
 ∃ j,(t=.returned (nI j))/\
 (e (wI (wI (a * 31) + c)) j p)/\g (wI (wI (a * 31) + c)) j p<g a b f)
 (Br ((wI (b + c)).tmod 31 !=0)
 (K (.tuple #[nI 0,nI 6]) d)
 ((e a b d)/\g a b d<g a b f))))
 (λ z=>
 K (.tuple #[nI a,nI 0]) z) f) v)
def ZzD:Sk:=(.seq .leaf (.seq .leaf (.seq .leaf (.seq (.seq .leaf (.block (.loop [5,6] [(.int .i64),(.int .i64)] [2,3,5,6,7,8,9,16,17,18,19,20,21,22,23,24,25,26,27,28,29,30,31,32,33,34,35,36,37,38,39,40,41,42,43,44,45] (.seq .leaf (.seq .leaf (.block (.seq .leaf (.seq .leaf (.block (.cut [23] [.bool] [23,24,25,26,27,28,29] .leaf .leaf)))))))))) .leaf))))
theorem ZwN (a:ByteArray) (K:nK) (w : nW) (h:B108 a K w):Zk prog 108 #[.string a] w K:=cq (sk:=ZzD) h func108
def B183 (d:ByteArray) (b:Int) (K:nK) (w : nW):Prop:=
 nC 255 #[.string d,.int .u8 b] w λ c e=>
 ∃ a,(c=.returned (nI a))/\
 K (nI a) e
theorem Zv2 (b:ByteArray) (a:Int) (K:nK) (w : nW) (h:B183 b a K w):Zk prog 183 #[.string b,.int .u8 a] w K:=cq (sk:=.leaf) h func183
def B255 (d:ByteArray) (b:Int) (K:nK) (w : nW):Prop:=
 Ext prog 285 #[.string d,.int .u8 b] w λ c e=>
 ∃ a,(c=.returned (nI a))/\
 K (nI a) e
theorem Zvn (b:ByteArray) (a:Int) (K:nK) (w : nW) (h:B255 b a K w):Zk prog 255 #[.string b,.int .u8 a] w K:=cq (sk:=.leaf) h func255
end
end Go.Proofs.YtlplemdmegpoeaaGreatDoor
