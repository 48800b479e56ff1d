/- Floats, plain, part 3: the part of some seats. No program. No condition. -/
import Derived.Test.YtlplemdmegpoeaaGreatDoorB2
import Derived.Laws.Externs
import Derived.Lib.Overlaps
import Derived.Shelf.SlIterI.Nil
import Derived.Shelf.SlIterI.Collect
import Derived.Shelf.SlIterI.Sorted
import Derived.Shelf.SortM.Plain
import Derived.Shelf.SortM.SortNone
import Derived.Ground.GgzProg
import Derived.Ground.SlgmProg
import Derived.Test.YtlplemdmegpoeaaGreatDoorProg
set_option linter.unusedVariables false
set_option linter.unusedSimpArgs false
namespace Go.VC
section
open Ieee
def Ztn (p mp dp:Nat):Prop:=double.read p=.number false mp (-(dp:Int))
theorem Zvq {n:Nat} (h:n<=10001):∃ d,Ztn (fw n) (n * 2 ^ d) d:=ZwJ h
theorem Ztx:Ztn 0 0 1074:=by unfold Ztn;decide
theorem Zt0 {x:Nat} (h0:double.order x 0=some .gt) (h1:double.order x 4607182418800017408≠some .gt) (h2:double.order x 4607182418800017408≠some .eq):∃ m d,Ztn x m d/\0<m/\m<2 ^ d:=by
 have e0:double.read 0=.number false 0 (-1074):=by decide
 have e1:double.read 4607182418800017408=.number false 4503599627370496 (-52):=by decide
 unfold Format.order at h0 h1 h2;rw [e0] at h0;rw [e1] at h1 h2;generalize hx:double.read x=dx at h0 h1 h2;cases dx with
 |nan s f=>simp [Datum.order] at h0
 |infinity s=>
  cases s
  ·exact absurd rfl h1
  ·simp [Datum.order] at h0
 |number s m e=>
  unfold Datum.order at h0 h1 h2;simp only [ne_eq,Option.some.injEq] at h0 h1 h2;have hg:=Int.compare_eq_gt.1 h0;have hz:signed false 0 (-1074 - min e (-1074)).toNat=0:=by simp [signed]
  rw [hz] at hg;cases s with
  |true=>
   exfalso;unfold signed at hg;rw [if_pos rfl] at hg;generalize m<<<(e - min e (-1074)).toNat=y at hg;omega
  |false=>
   have hm:0<m:=by
    rcases Nat.eq_zero_or_pos m with h|h
    ·subst h;simp [signed] at hg
    ·exact h
   have hlt:signed false m (e - min e (-52)).toNat<signed false 4503599627370496 (-52 - min e (-52)).toNat:=by
    rcases Int.lt_trichotomy (signed false m (e - min e (-52)).toNat) (signed false 4503599627370496 (-52 - min e (-52)).toNat) with h|h|h
    ·exact h
    ·exact absurd (Int.compare_eq_eq.2 h) h2
    ·exact absurd (Int.compare_eq_gt.2 h) h1
   unfold signed at hlt;rw [if_neg (by simp),if_neg (by simp),Nat.shiftLeft_eq,Nat.shiftLeft_eq] at hlt;have hlt:m * 2 ^ (e - min e (-52)).toNat<4503599627370496 * 2 ^ (-52 - min e (-52)).toNat:=Int.ofNat_lt.1 hlt;have hneg:e<0:=by
    by_cases he:0<=e
    ·exfalso
     have a1:min e (-52)=-52:=by omega
     rw [a1,show (-52 - (-52):Int).toNat=0 from rfl,Nat.pow_zero,Nat.mul_one] at hlt
     have:2 ^ 52<=2 ^ (e - -52).toNat:=Nat.pow_le_pow_right (by omega) (by omega);have:1 * 2 ^ (e - -52).toNat<=m * 2 ^ (e - -52).toNat:=Nat.mul_le_mul_right _ hm;omega
    ·omega
   refine ⟨m,(-e).toNat,?_,hm,?_⟩
   ·unfold Ztn;rw [hx,show (-((-e).toNat:Int))=e by omega]
   ·by_cases h52: -52<=e
    ·have a1:min e (-52)=-52:=by omega
     rw [a1,show (-52 - (-52):Int).toNat=0 from rfl,Nat.pow_zero,Nat.mul_one] at hlt
     have a2:(2:Nat) ^ 52=2 ^ (-e).toNat * 2 ^ (e - -52).toNat:=by rw [<-Nat.pow_add];congr 1;omega
     have a3:m * 2 ^ (e - -52).toNat<2 ^ (-e).toNat * 2 ^ (e - -52).toNat:=by rw [<-a2];omega
     exact Nat.lt_of_mul_lt_mul_right a3
    ·have a1:min e (-52)=e:=by omega
     rw [a1,show (e - e).toNat=0 by omega,Nat.pow_zero,Nat.mul_one] at hlt;have a2:2 ^ (-e).toNat=2 ^ 52 * 2 ^ (-52 - e).toNat:=by rw [<-Nat.pow_add];congr 1;omega
     rw [a2];exact hlt
theorem Zt1 {x m d s:Nat} (hx:Ztn x m d) (hlt:m<2 ^ d) (hs:s<=10000):∃ p mp dp,double.mul x (fw s)=some p/\Ztn p mp dp/\mp<=s * 2 ^ dp:=by
 obtain ⟨ds,hd⟩:=Zvq (n:=s) (by omega);have hmul:double.mul x (fw s)=some (double.nearest false (m * (s * 2 ^ ds)) (-((d + ds:Nat):Int))):=by
  unfold Format.mul;rw [hx,hd];show some (double.write (.number (false ^^ false) (m * (s * 2 ^ ds)) (-(d:Int) + -(ds:Int))))=_;rw [show (-(d:Int) + -(ds:Int))=-((d + ds:Nat):Int) by omega];rfl
 rcases Nat.eq_zero_or_pos s with h0|h0
 ·subst h0
  refine ⟨_,0,1074,hmul,?_,by omega⟩;rw [Nat.zero_mul,Nat.mul_zero];unfold Format.nearest;rw [if_pos rfl];exact Ztx
 ·have hb:m * (s * 2 ^ ds)<s * 2 ^ (d + ds):=by
   have a1:s * 2 ^ (d + ds)=2 ^ d * (s * 2 ^ ds):=by rw [Nat.pow_add,Nat.mul_left_comm]
   rw [a1];exact Nat.mul_lt_mul_of_pos_right hlt (Nat.mul_pos h0 (Nat.two_pow_pos _))
  obtain ⟨mp,dp,hr,hle⟩:=ZrB hs hb;exact ⟨_,mp,dp,hmul,hr,hle⟩
theorem Zpr {p mp dp:Nat} (hp:Ztn p mp dp):double.write ((double.read p).integral .down)=fw (mp / 2 ^ dp):=by
 rw [hp];unfold Datum.integral;simp only;rw [show (-(dp:Int)).toNat=0 by omega,Nat.shiftLeft_zero,show (- -(dp:Int)).toNat=dp by omega,Zof];rfl
theorem ZzO {n:Nat} (h:n<=10001):(double.read (fw n)).toInt .zero=some (n:Int):=by
 obtain ⟨d,hd⟩:=Zvq h;unfold Datum.toInt;rw [hd];unfold Datum.integral;simp only;rw [show (-(d:Int)).toNat=0 by omega,Nat.shiftLeft_zero,show (- -(d:Int)).toNat=d by omega];have:Toward.zero.cut false (n * 2 ^ d) d=n:=by
  have:Toward.zero.cut false (n * 2 ^ d) d=Toward.down.cut false (n * 2 ^ d) d:=by
   unfold Toward.cut;simp
  rw [this,Zof,Nat.mul_div_cancel _ (Nat.two_pow_pos d)]
 rw [this];simp [signed]
end
end Go.VC
namespace Go.Proofs.YtlplemdmegpoeaaGreatDoor
section
open Go Go.VC Ieee Tryz
variable {R:Cx} {Hs Rest:List HP} {w:World}
def ZzQ (x s:Nat):Nat:=match double.mul x (fw s) with
 |some p=>(match double.read p with| .number _ m e=>m / 2 ^ (-e).toNat|_=>0)
 |none=>0
def ZAW (x:Nat):Bool:=double.order x 0==some .gt
def Zus (x:Nat):Bool:=double.order x 4607182418800017408==some .gt||double.order x 4607182418800017408==some .eq
def ZdV (x:Nat) (s:Int):Int × Int:=
 if s<0\/s>10000 then (0,1) else if ZAW x=false then (0,0) else if Zus x=true then (s,0) else ((ZzQ x s.toNat:Nat),0)
theorem ZwL {x s:Nat} (h0:ZAW x=true) (h1:Zus x=false) (hs:s<=10000):∃ p mp dp,double.mul x (fw s)=some p/\Ztn p mp dp/\mp<=s * 2 ^ dp/\ZzQ x s=mp / 2 ^ dp/\ZzQ x s<=s:=by
 unfold ZAW at h0;unfold Zus at h1;simp only [Bool.or_eq_false_iff,beq_eq_false_iff_ne,ne_eq] at h1;obtain ⟨m,d,hx,_,hlt⟩:=Zt0 (beq_iff_eq.1 h0) h1.1 h1.2;obtain ⟨p,mp,dp,hp,hn,hle⟩:=Zt1 hx hlt hs;have e:ZzQ x s=mp / 2 ^ dp:=by
  unfold ZzQ;rw [hp];unfold Ztn at hn;simp only [hn];rw [show (-(-(dp:Int))).toNat=dp by omega]
 refine ⟨p,mp,dp,hp,hn,hle,e,?_⟩;rw [e];exact Nat.div_le_of_le_mul (by rw [Nat.mul_comm];exact hle)
theorem ZvC (t1 t2:Operand) (T:TypeId) (x y:Nat) (w:World):((do eqGuard BinOp.gtr T t1 t2 (.float .f64 x) (.float .f64 y);binOp BinOp.gtr T (.float .f64 x) (.float .f64 y):Sem Value)).run prog w=.ok (.bool (double.order x y==some .gt)) w:=by
 simp [eqGuard,binOp,Op.floatCmp,FloatKind.format]
theorem ZzY (t1 t2:Operand) (T:TypeId) (x y:Nat) (w:World):((do eqGuard BinOp.geq T t1 t2 (.float .f64 x) (.float .f64 y);binOp BinOp.geq T (.float .f64 x) (.float .f64 y):Sem Value)).run prog w=.ok (.bool (double.order x y==some .gt||double.order x y==some .eq)) w:=by
 simp [eqGuard,binOp,Op.floatCmp,FloatKind.format]
theorem ZzX (t1 t2:Operand) (T:TypeId) (x y:Nat) (w:World):((do eqGuard BinOp.neq T t1 t2 (.float .f64 x) (.float .f64 y);binOp BinOp.neq T (.float .f64 x) (.float .f64 y):Sem Value)).run prog w=.ok (.bool (double.order x y !=some .eq)) w:=by
 simp [eqGuard,binOp,Op.floatCmp,FloatKind.format]
theorem Zwt (t1 t2:Operand) (T:TypeId) {x y p:Nat} (h:double.mul x y=some p) (w:World):((do eqGuard BinOp.mul T t1 t2 (.float .f64 x) (.float .f64 y);binOp BinOp.mul T (.float .f64 x) (.float .f64 y):Sem Value)).run prog w=.ok (.float .f64 p) w:=by
 simp [eqGuard,binOp,Op.floatArith,FloatKind.format,h]
theorem ZvU (n:Nat) (w:World):(convert 3 35 (.int .i64 n)).run prog w=.ok (.float .f64 (fw n)) w:=by
 have h:FloatKind.f64.nearest (n:Int)=fw n:=by
  unfold FloatKind.nearest FloatKind.encode FloatKind.format;rw [decide_eq_false (show ¬ (n:Int)<0 by omega),Int.natAbs_natCast];rfl
 simp [convert,run_underlying underlying3,run_underlying underlying35,Conv.intToFloat,h]
theorem ZvT {n:Nat} (hn:n<=10001) (w:World):(convert 35 3 (.float .f64 (fw n))).run prog w=.ok (.int .i64 n) w:=by
 have h:(FloatKind.f64.decode (fw n)).toInt .zero=some (n:Int):=ZzO hn;have hr:IntKind.i64.min<=(n:Int)/\(n:Int)<=IntKind.i64.max:=by
  have h1:IntKind.i64.min=-9223372036854775808:=by decide
  have h2:IntKind.i64.max=9223372036854775807:=by decide
  omega
 simp [convert,run_underlying underlying3,run_underlying underlying35,Conv.floatToInt,h,hr];intro h2;omega
theorem ZwN : (f291.name == "runtime.NumGoroutine") = false := by kernel_rfl
theorem ZwQ:f291.body.isNone=true:=by kernel_rfl
theorem ZwM:Extern.findNext f291=none:=by kernel_rfl
theorem ZwP : Extern.find f291 = some (Extern.MathFloor.toIntegral "math.archFloor" .down) := by kernel_rfl
theorem Zsj {p m : Nat} {e : Int} (hd : FloatKind.f64.decode p = .number false m e) : Extern.MathFloor.toIntegral "math.archFloor" .down #[.float .f64 p] = pure (.float .f64 (FloatKind.f64.encode ((Datum.number false m e).integral .down))) := by
 unfold Extern.MathFloor.toIntegral;generalize FloatKind.decode FloatKind.f64=D at hd ⊢
 conv=>lhs;whnf
 rw [hd]
theorem Zps {p mp dp:Nat} (hp:Ztn p mp dp) (hw:Sat R Hs w):Zo prog 276 #[.float .f64 p] w λ v w'=>v=.float .f64 (fw (mp / 2 ^ dp))/\Sat R Hs w':=by
 apply Zxq;refine ⟨.float .f64 (fw (mp / 2 ^ dp)),w,?_,_,rfl,rfl,hw⟩;rw [run_callFunc_extern func291 ZwN ZwQ ZwM ZwP];have hd:FloatKind.f64.decode p=.number false mp (-(dp:Int)):=hp;have hf:FloatKind.f64.encode ((Datum.number false mp (-(dp:Int))).integral .down)=fw (mp / 2 ^ dp):=by
  have:=Zpr hp;rw [show double.read p=.number false mp (-(dp:Int)) from hp] at this
  exact this
 rw [Zsj hd,hf];rfl
theorem Zpb {x:Nat} {s:Int} (hw:Sat R Hs w):Zo prog 235 #[.float .f64 x,.int .i64 s] w λ v w'=>v=.tuple #[.int .i64 (ZdV x s).1,.int .i64 (ZdV x s).2]/\Sat R Hs w':=by
 apply ZxN;refine ⟨λ t w=>t=decide (s<0\/s>10000)/\Sat R Hs w,Br.d (λ h=>⟨by rw [decide_eq_true (.inl h)],hw⟩) (λ h=>⟨by rw [decide_eq_decide];omega,hw⟩),?_⟩;clear hw;rintro _ _ w ⟨rfl,hw⟩;unfold ZdV;refine Br.d (λ h=>⟨by rw [if_pos h],hw⟩) (λ h=>?_);rw [if_neg h];refine ⟨ZAW x,λ w' e=>ZvC _ _ _ _ _ _,Br.nb (λ h1=>⟨by rw [if_pos h1],hw⟩) (λ h1=>?_)⟩;rw [if_neg (by rw [h1];simp)];refine ⟨Zus x,λ w' e=>ZzY _ _ _ _ _ _,Br.mk (λ h2=>⟨by rw [if_pos h2],hw⟩) (λ h2=>?_)⟩;rw [if_neg (by rw [h2];simp)];obtain ⟨n,rfl⟩:=Int.eq_ofNat_of_zero_le (show 0<=s by omega);obtain ⟨p,mp,dp,hp,hn,hle,e,he⟩:=ZwL (s:=n) h1 h2 (by omega);refine ⟨w,_,ZvU n w,_,λ w' _=>Zwt _ _ _ hp w',?_⟩;refine (Zps hn hw).use ?_;rintro _ w ⟨rfl,hw⟩;rw [<-e];refine ⟨_,rfl,_,λ w' _=>ZvT (by omega) w',?_,hw⟩;rw [Int.toNat_natCast]
end
section
open Go Go.VC Tryz
variable {R:Cx} {Hs Rest:List HP} {w:World}
theorem _root_.Go.VC.Ro.ixF {xs:List Nat} {s:Sl} {S:World->Prop} {i:Int} (hr:Ro R s (xs.map (Value.float .f64))) (hS:∀ w,S w->Sat R Hs w) (j:Nat) (hi:i=j) (hj:j<xs.length) {F:Nat->Prop} (h:F xs[j]):
  Rng i s.len (Zd s.a λ a=>∃ t:Nat,(At S (a.add i.toNat) [.float .f64 t])/\F t):=by
 subst hi;obtain ⟨a,ha,hat⟩:=hr.addr (k:=j) (by rw [List.length_map];exact hj);have hl:=hr.len;rw [List.length_map] at hl;exact Rng.mk (by omega) (by omega) (Zd.mk ha ⟨_,by have:=hat hS;rw [List.getElem_map] at this;exact this,h⟩)
def ZcP (s:Int):Int->List Nat->List Int
 |_,[]=>[]
 |last,x::xs=>(if last<(ZdV x s).1 then last else (ZdV x s).1)::ZcP s (if last<(ZdV x s).1 then last else (ZdV x s).1) xs
def Zac (s:Int) (parts:List Nat):List Int × Int:=if s<0\/s>10000\/parts.length<1\/parts.length>8 then ([],1) else (s::ZcP s s parts.tail,0)
theorem Zfs (s:Int):∀ (xs:List Nat) (last:Int),(ZcP s last xs).length=xs.length
 |[],_=>rfl
 |x::xs,last=>by simp [ZcP,Zfs s xs]
theorem ZiW (s:Int):∀ (xs:List Nat) (last:Int) (x:Nat),ZcP s last (xs++[x])=ZcP s last xs++
  [if (last::ZcP s last xs).getD xs.length 0<(ZdV x s).1 then (last::ZcP s last xs).getD xs.length 0 else (ZdV x s).1]
 |[],last,x=>by simp [ZcP]
 |y::xs,last,x=>by
  simp only [List.cons_append,ZcP,ZiW s xs,List.length_cons,List.getD_cons_succ]
abbrev Zi3 (l:List Nat):List Value:=l.map (Value.float .f64)
abbrev Zg (l:List Int):List Value:=l.map (Value.int .i64)
theorem ZmG {s:Int} {sp:Sl} {parts:List Nat} (hp:SlR R.m sp (Zi3 parts)) (hw:Sat R Hs w):
  Zo prog 163 #[.int .i64 s,.slice sp.a sp.len sp.cap] w λ v w'=>∃ t:Sl,v=.tuple #[.slice t.a t.len t.cap,.int .i64 (Zac s parts).2]/\Sat R (Own t 3 (Zg (Zac s parts).1)::Hs) w':=by
 have hlen:=hp.len;rw [List.length_map] at hlen;have bad:(s<0\/s>10000\/parts.length<1\/parts.length>8)->∀ w,Sat R Hs w->∃ t:Sl,Value.tuple #[.slice none 0 0,.int .i64 1]=.tuple #[.slice t.a t.len t.cap,.int .i64 (Zac s parts).2]/\Sat R (Own t 3 (Zg (Zac s parts).1)::Hs) w:=λ h w hw=>by
  unfold Zac;rw [if_pos h];exact ⟨⟨none,0,0⟩,rfl,Own.nil hw⟩
 apply Zys;refine ⟨λ w=>(0<=s/\s<=10000/\1<=parts.length/\parts.length<=8)/\Sat R Hs w,?_,?_⟩
 ·refine (ZeT hw).use ?_
  rintro _ w ⟨rfl,hw⟩;unfold inR;refine ⟨_,rfl,Br.nd (λ h=>bad (by omega) _ hw) (λ h1=>Br.d (λ h=>bad (by omega) _ hw) (λ h2=>Br.d (λ h=>bad (by omega) _ hw) (λ h3=>⟨⟨by omega,by omega,by omega,by omega⟩,hw⟩)))⟩
 clear hw;rintro _ w ⟨⟨h1,h2,h3,h4⟩,hw⟩;have e:Zac s parts=(s::ZcP s s parts.tail,0):=by unfold Zac;rw [if_neg (by omega)]
 rw [e];clear bad;refine Zb hw λ b w hw=>⟨by omega,by omega,?_⟩;have hw:Sat R (Own ⟨some ⟨b,0,none⟩,1,1⟩ 3 (Zg [s])::Hs) w:=Zc4 hw;have hd:=(hp.drop (k:=1) (by rw [List.length_map];omega)).ro (by rw [List.length_drop,List.length_map];omega);have hdl:(Zi3 parts).drop 1=Zi3 parts.tail:=by simp [Zi3,List.drop_one,List.map_tail]
 rw [hdl] at hd;have htl:parts.tail.length=parts.length - 1:=List.length_tail;have hslen:(sp.len - Int.toNat 1:Nat)=parts.tail.length:=by rw [htl];show sp.len - 1=_;omega
 refine ⟨λ so i w=>∃ j:Nat,i=j/\j<=parts.tail.length/\Sat R (Own so 3 (Zg (s::ZcP s s (parts.tail.take j)))::Hs) w,λ _ i _=>parts.tail.length - i.toNat,⟨0,rfl,by omega,hw⟩,?_⟩;clear hw;rintro _ so _ w ⟨j,rfl,hj,hw⟩;refine Br.d (λ h=>?_) (λ h=>?_)
 ·have hj2:j<parts.tail.length:=by omega
  refine Ro.ixF hd (eqS hw) j rfl hj2 ?_;refine (Zpb hw).use ?_;rintro _ w ⟨rfl,hw⟩;refine ⟨_,_,rfl,?_⟩;have hl:(s::ZcP s s (parts.tail.take j)).length=j + 1:=by rw [List.length_cons,Zfs,List.length_take];omega
  refine Own.ix hw (eqS hw) j rfl (by omega) ?_;refine Zdg Ztt hw (by omega) λ so' w hw=>?_;rw [Zl (by omega) (by omega)];refine ⟨⟨j + 1,by omega,by omega,?_⟩,by dsimp only;omega⟩;rw [List.take_add_one,List.getElem?_eq_getElem hj2];simp only [Option.toList_some];rw [ZiW,List.length_take,show min j parts.tail.length=j by omega,Zaf (by omega)];exact hw
 ·rw [List.take_of_length_le (by omega)] at hw
  exact ⟨so,rfl,hw⟩
theorem ZnP (s:Int) (h0:0<=s) (h1:s<=10000):∀ (xs:List Nat) (last:Int),0<=last->last<=10000->∀ k (h:k<(ZcP s last xs).length),(0<=(ZcP s last xs)[k]/\(ZcP s last xs)[k]<=10000)/\(ZcP s last xs)[k]<=(last::ZcP s last xs).getD k 0
 |[],last,_,_,k,h=>by simp [ZcP] at h
 |x::xs,last,a,b,k,h=>by
  have hlv:0<=(ZdV x s).1:=by
   unfold ZdV;split
   ·simp
   ·split
    ·simp
    ·split
     ·exact h0
     ·simp
  rcases k with _|k
  ·simp only [ZcP,List.getElem_cons_zero,List.getD_cons_zero]
   split<;>omega
  ·simp only [ZcP,List.getElem_cons_succ,List.getD_cons_succ]
   exact ZnP s h0 h1 xs _ (by split<;>omega) (by split<;>omega) k (by simpa [ZcP] using h)
theorem ZrN {s:Int} {parts:List Nat} (h:(Zac s parts).2=0):ZjR (Zac s parts).1=true/\(Zac s parts).1.getD 0 0=s:=by
 unfold Zac at *;split at h
 ·simp at h
 ·rename_i hn
  rw [if_neg hn];refine ⟨ZaP.2 ⟨⟨by simp,?_⟩,λ k hk=>?_⟩,rfl⟩
  ·simp only [List.length_cons,Zfs,List.length_tail];omega
  ·rcases k with _|k
   ·simp;omega
   ·have:=ZnP s (by omega) (by omega) parts.tail s (by omega) (by omega) k (by simpa using hk)
    simp only [List.getElem_cons_succ];exact ⟨this.1,λ _=>by rw [show k + 1 - 1=k by omega];exact this.2⟩
end
section
open Go Go.VC Tryz
variable {R:Cx} {Hs Rest:List HP} {w:World}
def ZpS (l:List Int):Prop:=∀ i j (hj:j<l.length),(hij:i<j)->l[i]<l[j]
def Zga (n:Int):List Int->List Int
 |[]=>[n]
 |x::l=>if x<n then x::Zga n l else n::x::l
theorem Zr6 {n:Int}:∀ {l:List Int} {p:Nat},p<=l.length->(∀ k (h:k<l.length),k<p->l[k]<n)->(∀ k (h:k<l.length),p<=k->n<=l[k])->Zga n l=l.take p++n::l.drop p
 |[],p,hp,_,_=>by
  obtain rfl:p=0:=by simpa using hp
  rfl
 |x::l,0,_,_,h2=>by
  have:=h2 0 (by simp) (by omega);simp only [List.getElem_cons_zero] at this;unfold Zga;rw [if_neg (by omega)];rfl
 |x::l,p + 1,hp,h1,h2=>by
  have h0:=h1 0 (by simp) (by omega);simp only [List.getElem_cons_zero] at h0;unfold Zga;rw [if_pos h0,Zr6 (p:=p) (by simpa using hp) (λ k h hk=>by have:=h1 (k + 1) (by simpa using h) (by omega);simpa using this) (λ k h hk=>by have:=h2 (k + 1) (by simpa using h) (by omega);simpa using this)];rfl
theorem Zse {a b:Nat} (h:a + b<=1000000000000000000):IntKind.i64.wrap (Zgu .u64 (IntKind.u64.wrap (IntKind.i64.wrap ((a:Int) + b))) 1)=((a + b) / 2:Nat):=by
 rw [Zl (x:=(a:Int) + b) (by omega) (by omega),IntKind.wrap_u64];have e:Zgu .u64 (((a:Int) + b) % 18446744073709551616) 1=(((a + b) / 2:Nat):Int):=by
  unfold Zgu;show Int.fdiv _ 2=_;rw [Int.fdiv_eq_ediv_of_nonneg _ (by omega)];omega
 rw [e,Zl (by omega) (by omega)]
theorem Zpl {x:Int} (hw:Sat R Hs w):Zo prog 281 #[.int .i64 x] w λ v w'=>v=.bool false/\Sat R Hs w':=by
 apply Zxn;exact ⟨by simp,hw⟩
theorem ZsT {x:Int} (hw:Sat R Hs w):Zo prog 278 #[.int .i64 x] w λ v w'=>v=.bool false/\Sat R Hs w':=by
 apply ZsQ;exact ⟨by simp,hw⟩
theorem ZrQ {x y:Int} (hw:Sat R Hs w):Zo prog 267 #[.int .i64 x,.int .i64 y] w λ v w'=>v=.bool (decide (x<y))/\Sat R Hs w':=by
 apply Zxv;refine (ZsT hw).use ?_;rintro _ w ⟨rfl,hw⟩;exact ⟨_,rfl,Br.f rfl ⟨rfl,hw⟩⟩
theorem ZlX {s:Sl} {l:List Int} {n:Int} (hs:RoI R s l) (hr:ZpS l) (hl:l.length<=1000000000) (hw:Sat R Hs w):
  Zo prog 248 #[.slice s.a s.len s.cap,.int .i64 n] w λ v w'=>∃ (p:Nat) (b:Bool),v=.tuple #[.int .i64 p,.bool b]/\p<=l.length/\(∀ k (h:k<l.length),k<p->l[k]<n)/\(∀ k (h:k<l.length),p<=k->n<=l[k])/\Sat R Hs w':=by
 have hlen:=hs.len;apply ZxC;refine ⟨λ i j w=>∃ a b:Nat,i=a/\j=b/\a<=b/\b<=l.length/\(∀ k (h:k<l.length),k<a->l[k]<n)/\(∀ k (h:k<l.length),b<=k->n<=l[k])/\Sat R Hs w,λ i j _=>j.toNat - i.toNat,⟨0,l.length,rfl,by rw [hlen],by omega,by omega,λ k _ h=>by omega,λ k h h'=>by omega,hw⟩,?_⟩;clear hw;rintro _ _ _ w ⟨a,b,rfl,rfl,hab,hb,h1,h2,hw⟩;rw [Zse (by omega)];refine Br.d (λ h=>?_) (λ h=>?_)
 ·have hm:(a + b) / 2<l.length:=by omega
  refine Ro.ix hs (eqS hw) ((a + b) / 2) rfl hm ?_;refine (ZrQ hw).use ?_;rintro _ w ⟨rfl,hw⟩;refine ⟨_,rfl,Br.d (λ h3=>?_) (λ h3=>?_)⟩
  ·rw [show IntKind.i64.wrap ((((a + b) / 2:Nat):Int) + 1)=(((a + b) / 2 + 1:Nat):Int) from Zl (by omega) (by omega)]
   refine ⟨⟨(a + b) / 2 + 1,b,rfl,rfl,by omega,hb,λ k hk hk2=>?_,h2,hw⟩,by dsimp only;omega⟩;by_cases hkm:k=(a + b) / 2
   ·subst hkm;exact h3
   ·have:=hr k ((a + b) / 2) hm (by omega);omega
  ·refine ⟨⟨a,(a + b) / 2,rfl,rfl,by omega,by omega,h1,λ k hk hk2=>?_,hw⟩,by dsimp only;omega⟩
   by_cases hkm:k=(a + b) / 2
   ·subst hkm;omega
   ·have:=hr ((a + b) / 2) k hk (by omega);omega
 ·obtain rfl:a=b:=by omega
  have fin:∀ (t:Bool) w,Sat R Hs w->∃ (p:Nat) (b:Bool),Value.tuple #[.int .i64 a,.bool t]=.tuple #[.int .i64 p,.bool b]/\p<=l.length/\(∀ k (h:k<l.length),k<p->l[k]<n)/\(∀ k (h:k<l.length),p<=k->n<=l[k])/\Sat R Hs w:=λ t w hw=>⟨a,t,rfl,hb,h1,h2,hw⟩;refine Br.d (λ h3=>?_) (λ h3=>fin _ _ hw);have ha:a<l.length:=by omega
  refine Ro.ix hs (eqS hw) a rfl ha ?_;refine Br.e (λ h4=>fin _ _ hw) (λ h4=>?_);refine Ro.ix hs (eqS hw) a rfl ha ?_;refine (Zpl hw).use ?_;rintro _ w ⟨rfl,hw⟩;exact ⟨_,rfl,Br.f rfl (fin _ _ hw)⟩
end
end Go.Proofs.YtlplemdmegpoeaaGreatDoor
namespace Go.VC
section
variable {P:Program} {R:Cx} {Hs Rest:List HP} {w:World} {s:Sl} {T:TypeId}
theorem ZfI {dT sT ty elem:TypeId} {b o dLen dCap sLen sCap:Nat} {a:Addr} {cs l:List Value} {fr:Nat × Nat} {K:Int->World->Prop} (hu:P.underlying dT=some (.slice elem)) (hs:(P.info? elem).map (·.size)=some 1)
  (hw:Sat R (pts b (.cells l.toArray T fr)::Hs) w) (hfr:ZnG l.length fr) (hn:cs.length=Nat.min sLen dLen) (hfit:o + cs.length<=l.length) (hsrc:∀ j v,cs[j]? =some v->w.cell? (a.add j)=some v) (h1:Za0 cs=true)
  (k:∀ t w',Sat R (pts b (.cells (ZeI l o cs).toArray T fr)::Hs) w'->K t w'):
  ∃ w',∃ t:Int,(Builtin.copy_ #[dT,sT] ty #[.slice (some ⟨b,o,none⟩) dLen dCap,.slice (some a) sLen sCap]).run P w=.ok (.int .i64 t) w'/\K t w':=by
 have hat:=hw.at;have hr:=run_copy_cells (P:=P) w dT sT ty elem b o dLen dCap a sLen sCap cs hu hs hn hsrc (λ j hj=>by rw [Zaz hat];simp;omega) (λ j hj=>ZcH hat hfr (by omega)) (λ v hv=>List.all_eq_true.1 h1 v hv);exact ⟨_,_,hr,k _ _ (ZaL cs l o w hw)⟩
theorem Zid {t1 t2 ty:TypeId} {bytes k n:Nat} {kd kn:IntKind} {z:Value} {xs:List Value} {K:Sl->World->Prop} (ht:P.underlying t1=some (.slice T)) (htn:P.underlying t2=some (.int kn)) (hi:elB P T bytes=true)
  (h0:0<n) (hk:k<xs.length) (hc:s.cap<k + n) (hb:2 * (k + n) * bytes<=281474976710656) (hb':k + n<=9223372036854775807) (hw:Sat R (Own s T xs::Hs) w)
  (h:∀ t w' ys,ys.length=n->Sat R (Own t T (xs.take k++ys)::Own s T xs::Hs) w'->K t w'):
  ∃ w',∃ t:Sl,(Builtin.append_ #[t1,t2] ty #[.slice s.a k s.cap,.int kd n]).run P w=.ok (.slice t.a t.len t.cap) w'/\K t w':=by
 obtain ⟨i,z,hi,hz,hsize,hbytes,hzc⟩:=ZmW hi;rcases Own.cases hw with ⟨_,rfl,_⟩|⟨b,rest,fr,rfl,hfr,hp⟩
 ·simp at hk
 have hat:=hp.at;dsimp only at hc ⊢;have hcap:Builtin.nextslicecap (k + n) (xs++rest).length * i.bytes<=281474976710656:=by
  have h2:Builtin.nextslicecap (k + n) (xs++rest).length<=2 * (k + n):=by
   unfold Builtin.nextslicecap;split
   ·omega
   ·split
    ·omega
    ·have:=nextslicecap_le_wide hc
     unfold Builtin.nextslicecap at this;rw [if_neg (by assumption),if_neg (by assumption)] at this;omega
  rw [hbytes];exact Nat.le_trans (Nat.mul_le_mul_right _ h2) hb
 have hold:(Builtin.firstCells i.size k (.slice (some ⟨b,0,none⟩) k (xs++rest).length)).run P w.drew=.ok (xs.take k).toArray w.drew:=by
  refine run_firstCells_some w.drew i.size k ⟨b,0,none⟩ k _ (xs.take k) (by rw [hsize,List.length_take];omega) ?_;intro j u hj;rw [World.cell?_drew,Zz,Zaz hat,Nat.zero_add];obtain ⟨hlt,rfl⟩:=List.getElem?_eq_some_iff.1 hj;rw [List.length_take] at hlt;rw [List.getElem?_append_left (by omega),List.getElem?_eq_getElem (by omega),List.getElem_take]
 have hwr:IntKind.i64.wrap (n:Int)=n:=by rw [IntKind.wrap_i64];omega
 have hn:¬ (k + n<=(xs++rest).length):=by omega
 have h63':¬ (9223372036854775807<((k:Int) + (n:Int))):=by omega
 have h48':¬ (281474976710656<Builtin.nextslicecap (k + n) (xs++rest).length * i.bytes):=by omega
 have h48i:¬ (281474976710656<(n:Int) * (i.bytes:Int)):=by
  rw [<-Int.natCast_mul,hbytes];have:n * bytes<=2 * (k + n) * bytes:=Nat.mul_le_mul_right _ (by omega);omega
 have hneg:¬ ((n:Int)<0):=by omega
 have hn0:n≠0:=by omega
 have hns:¬ (n * i.size=0):=by rw [hsize];omega
 have hg:=grownCap_ge w (k + n) (xs++rest).length T;have hr:(Builtin.append_ #[t1,t2] ty #[.slice (some ⟨b,0,none⟩) k (xs++rest).length,.int kd n]).run P w=
   .ok (.slice (some ⟨w.heap.size,0,none⟩) (k + n) (grownCap w (k + n) (xs++rest).length T)) (w.drew.alloc (.cells ((xs.take k).toArray++Builtin.zeroCells z.cells n++Builtin.zeroCells z.cells (grownCap w (k + n) (xs++rest).length T - (k + n))) T)):=by
  simp only [List.length_append] at hn h48' hold ⊢;simp [Builtin.append_,run_underlying ht,run_underlying htn,sizeOf,typeInfo,zeroValue,hi,hz,asInt,asIntOf,hwr,hn,hneg,hns,h63',h48',h48i,Question.forced,hold,newRow,grownCap]
 have hzs:∀ m,(Builtin.zeroCells z.cells m).size=m:=λ m=>by simp [Builtin.zeroCells,hzc]
 refine ⟨_,⟨some ⟨w.heap.size,0,none⟩,k + n,grownCap w (k + n) (xs++rest).length T⟩,hr,h _ _ (Builtin.zeroCells z.cells n).toList (by rw [Array.length_toList,hzs]) ?_⟩;have h3:=Sat.alloc (Obj.cells ((xs.take k).toArray++Builtin.zeroCells z.cells n++Builtin.zeroCells z.cells (grownCap w (k + n) (xs++rest).length T - (k + n))) T) (Sat.drew hp);have e:Obj.cells ((xs.take k).toArray++Builtin.zeroCells z.cells n++Builtin.zeroCells z.cells (grownCap w (k + n) (xs++rest).length T - (k + n))) T=.cells ((xs.take k++(Builtin.zeroCells z.cells n).toList)++(Builtin.zeroCells z.cells (grownCap w (k + n) (xs++rest).length T - (k + n))).toList).toArray T (0,0):=by
  congr 1
  apply Array.ext';simp
 rw [e] at h3 ⊢;have h4:=Own.of_pts (Sat.swap h3) hfr;have h5:=Own.of_pts (Sat.swap h4);have e2:(⟨some ⟨w.drew.heap.size,0,none⟩,(xs.take k++(Builtin.zeroCells z.cells n).toList).length,((xs.take k++(Builtin.zeroCells z.cells n).toList)++(Builtin.zeroCells z.cells (grownCap w (k + n) (xs++rest).length T - (k + n))).toList).length⟩:Sl)=⟨some ⟨w.heap.size,0,none⟩,k + n,grownCap w (k + n) (xs++rest).length T⟩:=by
  have:(xs.take k).length=k:=by rw [List.length_take];omega
  simp only [List.length_append,Array.length_toList,hzs,World.size_drew,this] at hg ⊢
  congr 1
  omega
 rw [e2] at h5;exact h5
end
end Go.VC
namespace Go.Proofs.YtlplemdmegpoeaaGreatDoor
section
open Go Go.VC Tryz
variable {R:Cx} {Hs Rest:List HP} {w:World}
theorem Zwh : (f282.name == "runtime.NumGoroutine") = false := by kernel_rfl
theorem Zwj:f282.body.isNone=true:=by kernel_rfl
theorem Zwg:Extern.findNext f282=none:=by kernel_rfl
theorem Zwi:∃ tR,Extern.find f282=some (Extern.SlicesOverlaps.overlaps #[ 30,30 ] #[tR]):=⟨4,by kernel_rfl⟩
theorem szI1:Zhc prog 3=1:=by kernel_rfl
theorem szI (w:World):(sizeOf 3).run prog w=.ok 1 w:=by
 obtain ⟨i,hi⟩:=Zni (P:=prog) (t:=3) (by rw [szI1];decide);have:=Za6 hi w;rw [szI1] at this;exact this
abbrev Zzb (n:Int) (T:TypeId):Obj:=.cells [.int .i64 n].toArray T (0,0)
theorem ZfH {b k m:Nat} (h:m≠k):Zcn (some ⟨b,0,none⟩) k m 1=some ⟨b,k,none⟩:=by
 simp only [Zcn,if_neg h,Option.map_some,Zz];simp
theorem ZjC {b1 b2 o:Nat} {n:Int} {T1 T2:TypeId} {l:List Value} {fr:Nat × Nat} {la lc:Nat} {Q:Ending->World->Prop} (hl:l≠[])
  (hw:Sat R (pts b2 (.cells l.toArray T2 fr)::pts b1 (Zzb n T1)::Hs) w) (k:Q (.returned (.bool false)) w):
  Ext prog 282 #[.slice (some ⟨b1,0,none⟩) 1 1,.slice (some ⟨b2,o,none⟩) la lc] w Q:=by
 have h2:=hw.at;have h1:=hw.swap.at;have hne:b1≠b2:=by
  rintro rfl;obtain ⟨h,hA,hd,h',hB,hd',_⟩:=hw;rw [show h=_ from hA] at hd hd'
  rw [show h'=_ from hB] at hd'
  have:=hd' b1 (by simp [Z1.one]);simp only [Cx.add,Z1.add,Z1.one] at this;split at this<;>simp_all
 obtain ⟨tR,hf⟩:=Zwi;refine ⟨.bool false,w,?_,k⟩;rw [run_callFunc_extern func282 Zwh Zwj Zwg hf];rw [Lib.run_overlaps_apart (P:=prog) w 30 tR 3 underlying30 1 (λ w=>szI w) ⟨b1,0,none⟩ ⟨b2,o,none⟩ 1 1 la lc hne T1 T2 1 l.length ?_ ?_ ?_ ?_ ?_]
 ·rfl
 ·simp only [World.shape?,h1];rfl
 ·simp only [World.shape?,h2];simp
 ·cases l with
  |nil=>exact absurd rfl hl
  |cons a l=>simp
 ·simp [World.frozen?,h1]
 ·simp [World.frozen?,h1]
end
section
open Go Go.VC Tryz
variable {R:Cx} {Hs Rest:List HP} {w:World}
theorem ZgS {A B C V:List Value} {p:Nat} (hp:A.length=p) (hB:B.length=V.length):ZeI (A++B++C) p V=A++V++C:=by
 rw [ZeX _ _ _ (by simp only [List.length_append];omega)];have e1:(A++B++C).take p=A:=by rw [List.append_assoc,List.take_left' hp]
 have e2:(A++B++C).drop (p + V.length)=C:=by rw [List.drop_left' (by rw [List.length_append];omega)]
 rw [e1,e2]
theorem put2 {A ys D rest:List Value} {x:Value} {p:Nat} (hA:A.length=p) (hy:ys.length=D.length + 1):ZeI (ZeI ((A++ys)++rest) p [x]) (p + 1) D=(A++x::D)++rest:=by
 match ys,hy with
 |y0::ys',hy=>
  have h1:ZeI ((A++y0::ys')++rest) p [x]=A++[x]++(ys'++rest):=by
   have:=ZgS (A:=A) (B:=[y0]) (C:=ys'++rest) (V:=[x]) hA rfl;rw [<-this];simp
  have h2:=ZgS (A:=A++[x]) (B:=ys') (C:=rest) (V:=D) (p:=p + 1) (by simp [hA]) (by simpa using hy);rw [h1,<-List.append_assoc,h2];simp
theorem ZBL {A D rest:List Value} {x:Value} {p:Nat} (hA:A.length=p) (hr:1<=rest.length):ZeI (ZeI ((A++D)++rest) (p + 1) D) p [x]=(A++x::D)++rest.drop 1:=by
 match rest,hr with
 |r0::rest',_=>
  obtain ⟨y0,ys',hy,hl⟩:∃ y0 ys',D++[r0]=y0::ys'/\ys'.length=D.length:=by
   cases D with
   |nil=>exact ⟨r0,[],rfl,rfl⟩
   |cons d D=>exact ⟨d,D++[r0],rfl,by simp⟩
  have e:(A++D)++r0::rest'=(A++[y0])++ys'++rest':=by
   have:(A++D)++r0::rest'=A++(D++[r0])++rest':=by simp
   rw [this,hy];simp
  rw [e,ZgS (p:=p + 1) (by simp [hA]) hl];have:=ZgS (A:=A) (B:=[y0]) (C:=D++rest') (V:=[x]) hA rfl;rw [show (A++[y0])++D++rest'=A++[y0]++(D++rest') by simp,this];simp
theorem Zqs {b:Nat} {n:Int} {T:TypeId} (h:w.heap[b]? =some (Zzb n T)):∀ j v,[Value.int .i64 n][j]? =some v->w.cell? ((⟨b,0,none⟩:Addr).add j)=some v:=by
 intro j v hj;rw [Zz,Zaz h,Nat.zero_add];exact hj
theorem Znm {b p:Nat} {xs rest:List Value} {T:TypeId} {fr:Nat × Nat} (h:w.heap[b]? =some (.cells (xs++rest).toArray T fr)) (_hp:p<=xs.length):∀ j v,(xs.drop p)[j]? =some v->w.cell? ((⟨b,p,none⟩:Addr).add j)=some v:=by
 intro j v hj;rw [Zz,Zaz h];rw [List.getElem?_drop] at hj;have hlt:=(List.getElem?_eq_some_iff.1 hj).1;rw [List.getElem?_append_left (by omega)];exact hj
theorem ZmO {s:Sl} {l:List Int} {n:Int} {p b:Nat} {T:TypeId} (hl:l.length<=1000000000) (hp:p<=l.length) (hw:Sat R (Own s 3 (Zg l)::pts b (Zzb n T)::Hs) w):
  Zo prog 249 #[.slice s.a s.len s.cap,.int .i64 p,.slice (some ⟨b,0,none⟩) 1 1] w λ v w'=>∃ t:Sl,v=.slice t.a t.len t.cap/\Sat R (Own t 3 (Zg (l.take p++n::l.drop p))::pts b (Zzb n T)::Hs) w':=by
 have hlen:=Own.len hw;have hcap:=Own.cap hw;rw [List.length_map] at hlen;refine ZxB s p ⟨some ⟨b,0,none⟩,1,1⟩ _ _ ?_;unfold B249;dsimp only;have w1:IntKind.i64.wrap ((s.len:Int) + ((1:Nat):Int))=((l.length + 1:Nat):Int):=by rw [Zl (by omega) (by omega)];omega
 have w2:IntKind.i64.wrap (((l.length + 1:Nat):Int) - p)=((l.length + 1 - p:Nat):Int):=by rw [Zl (by omega) (by omega)];omega
 have w3:IntKind.i64.wrap ((p:Int) + ((1:Nat):Int))=((p + 1:Nat):Int):=by rw [Zl (by omega) (by omega)];omega
 rw [w1,w2,w3];simp only [Int.toNat_natCast];refine ⟨by omega,by omega,Br.f rfl (Br.e (λ h=>?_) (λ h=>Br.d (λ h2=>?_) (λ h2=>?_)))⟩
 ·-- behind all
  refine ZcL Ztt hw (Ztk Ztt.hk 1 hw rfl) (Zfn _ _) (by rw [List.length_map];omega) (by rw [List.length_map];omega) λ t w hw=>⟨t,rfl,?_⟩;have e:Zg l++[Value.int .i64 n]=Zg (l.take p++n::l.drop p):=by
   rw [List.take_of_length_le (by omega),List.drop_eq_nil_of_le (by omega)];simp
  rw [e] at hw;exact hw
 ·-- no room
  refine ⟨by omega,by omega,?_⟩;refine Zid (z:=.int .i64 0) underlying30 underlying3 Ztt.hi (by omega) (by rw [List.length_map];omega) (by omega) (by omega) (by omega) hw λ t w ys hys hw=>?_;have htl:=Own.len hw;rw [List.length_append,List.length_take,List.length_map,hys] at htl;refine ⟨by omega,by omega,?_⟩;rcases Own.cases hw with ⟨_,h0,_⟩|⟨b',rest,fr,rfl,hfr,hw⟩
  ·have:=congrArg List.length h0
   rw [List.length_append,hys,List.length_nil] at this;omega
  dsimp only at htl ⊢;have hA:((Zg l).take p).length=p:=by rw [List.length_take,List.length_map];omega
  have hxs:((Zg l).take p++ys).length=l.length + 1:=by rw [List.length_append,hA,hys];omega
  have hb1:=(hw.takeP (b:=b) inferInstance).at;rw [hxs,ZfH (by rw [List.length_append,hxs];omega)];refine ZfI underlying30 (by kernel_rfl) hw hfr (cs:=[.int .i64 n]) (by show 1=min _ _;omega) (by rw [List.length_append,hxs];show p + 1<=_;omega) (Zqs hb1) rfl λ _ w hw=>?_;refine Zu hw λ w hw=>⟨by omega,by omega,by omega,by omega,?_⟩;rcases Own.cases hw.swap with ⟨_,h0,_⟩|⟨bs,rest2,fr2,rfl,hfr2,hws⟩
  ·have h3:l.length=0:=by
    have:=congrArg List.length h0;rw [List.length_map] at this;exact this
   omega
  clear w1 w2 w3;dsimp only at hlen hcap h h2 ⊢;rw [List.length_map] at h;have hsat:=hws.at;rw [ZfH (by rw [List.length_append,hxs];omega),ZfH (by rw [List.length_append,List.length_map];omega)];refine ZfI underlying30 (by kernel_rfl) hws.swap (by rw [Zbw];exact hfr) (cs:=(Zg l).drop p) (by rw [List.length_drop,List.length_map];show _=min _ _;omega)
   (by rw [Zbw,List.length_append,hxs,List.length_drop,List.length_map];omega) (Znm hsat (by rw [List.length_map];omega)) (by rw [<-List.map_drop];exact Zfn _ _) λ _ w hw=>?_
  rw [put2 hA (by rw [hys,List.length_drop,List.length_map];omega)] at hw;have e:(Zg l).take p++Value.int .i64 n::(Zg l).drop p=Zg (l.take p++n::l.drop p):=by simp [List.map_take,List.map_drop]
  have hel:(Zg (l.take p++n::l.drop p)).length=l.length + 1:=by simp;omega
  rw [e] at hw;have hfin:=Own.of_pts hw (by have:=hfr;rw [List.length_append,hxs] at this;rw [List.length_append,hel];exact this);rw [hel] at hfin;refine ⟨⟨some ⟨b',0,none⟩,l.length + 1,(Zg (l.take p++n::l.drop p)++rest).length⟩,?_,?_⟩
  ·dsimp only
   have c1:((Zg l).take p++ys++rest).length=l.length + 1 + rest.length:=List.length_append.trans (by rw [hxs]);have c2:(Zg (l.take p++n::l.drop p)++rest).length=l.length + 1 + rest.length:=List.length_append.trans (by rw [hel]);rw [c1,c2]
  ·exact Sat.cons (λ R' h=>h.drop) hfin
 ·-- room
  rcases Own.cases hw with ⟨_,h0,_⟩|⟨bs,rest,fr,rfl,hfr,hws⟩
  ·have h3:l.length=0:=by
    have:=congrArg List.length h0;rw [List.length_map] at this;exact this
   omega
  clear w1 w2 w3;dsimp only at hlen hcap h h2 ⊢;rw [List.length_map] at h;have hA:((Zg l).take p).length=p:=by rw [List.length_take,List.length_map];omega
  have hcl:(Zg l++rest).length=l.length + rest.length:=by rw [List.length_append,List.length_map]
  have hroom:1<=rest.length:=by
   rw [hcl] at h2;omega
  refine ⟨by omega,by omega,by omega,by omega,?_⟩;rw [ZfH (by omega)];refine ZjC (by intro h0;have h5:=congrArg List.length h0;rw [hcl,List.length_nil] at h5;omega) hws ?_;refine ⟨_,rfl,Br.t rfl ?_⟩;refine Zu hws λ w hws=>⟨by omega,by omega,by omega,by omega,?_⟩;rw [ZfH (by omega)];have hsat:=hws.at;refine ZfI underlying30 (by kernel_rfl) hws hfr (cs:=(Zg l).drop p) (by rw [List.length_drop,List.length_map];show _=min _ _;omega)
   (by rw [hcl,List.length_drop,List.length_map];omega) (Znm hsat (by rw [List.length_map];omega)) (by rw [<-List.map_drop];exact Zfn _ _) λ _ w hw=>?_
  refine ⟨by omega,by omega,?_⟩;have hb1:=hw.swap.at;refine ZfI underlying30 (by kernel_rfl) hw (by rw [Zbw];exact hfr) (cs:=[.int .i64 n]) (by show 1=min _ _;omega) (by rw [Zbw,hcl];show p + 1<=_;omega) (Zqs hb1) rfl λ _ w hw=>?_;have e0:Zg l++rest=((Zg l).take p++(Zg l).drop p)++rest:=by rw [List.take_append_drop]
  rw [e0,ZBL hA hroom] at hw;have e:(Zg l).take p++Value.int .i64 n::(Zg l).drop p=Zg (l.take p++n::l.drop p):=by simp [List.map_take,List.map_drop]
  have hel:(Zg (l.take p++n::l.drop p)).length=l.length + 1:=by simp;omega
  rw [e] at hw;have hll:(Zg (l.take p++n::l.drop p)++rest.drop 1).length=(Zg l++rest).length:=by rw [List.length_append,hel,hcl,List.length_drop];omega
  have hfin:=Own.of_pts hw (by rw [hll];exact hfr);rw [hel,hll] at hfin;exact ⟨_,rfl,hfin⟩
end
end Go.Proofs.YtlplemdmegpoeaaGreatDoor
namespace Go.VC
section
variable {P:Program} {R R' R'':Cx} {Hs Rest:List HP} {w:World} {s:Sl} {T:TypeId}
instance:ZaW Int where
 enc:=Value.int .i64
 desc:=.int .i64
 same a b:=by
  show (if IntKind.i64=IntKind.i64 then some (a==b) else none)=some (a==b)
  rw [if_pos rfl]
 bits a:=by
  have:∀ n,Instr.sameBits n (.int .i64 a) (.int .i64 a)=(IntKind.i64==IntKind.i64 && a==a):=λ n=>by cases n<;>rfl
  rw [this];simp
 eq a b h:=beq_iff_eq.1 h
 check P em K a w h:=by
  show (Instr.checkKey em (9999 + 1) K (.int .i64 a)).run P w=_;unfold Instr.checkKey;simp [run_underlying h]
theorem ZM.out {xs:List Value} (h:Sat R (ZM s xs::Hs) w):∃ R',R.Ext R'/\SlR R'.m s xs/\Sat R' Hs w/\∀ Hs' w',Sat R' Hs' w'->Sat R (ZM s xs::Hs') w':=by
 obtain ⟨x,hd,hs,hw,hx⟩:=ZM.lend h;exact ⟨R.add x,Cx.Ext.add,hs,hw,λ Hs' w' h=>ZM.back hd hx h⟩
end
end Go.VC
namespace Go.Proofs.YtlplemdmegpoeaaGreatDoor
section
open Go Go.VC Tryz
variable {R:Cx} {Hs Rest:List HP} {w:World}
structure ZJ where
 owner:Int
 cls:Int
 many:Int
 seats:List Int
structure PF where
 num:Int
 rows:Int
 grps:List Int
 lims:List Int
 sold:List Int
 hs:List (Int × ZJ)
 own:List (Int × Int)
abbrev ZT (h:ZJ) (s:Sl):Obj:=.cells [.int .i64 h.owner,.int .i64 h.cls,.int .i64 h.many,.slice s.a s.len s.cap].toArray 197 (0,0)
def ZfR (b:Nat) (h:ZJ):HP:=exs λ s:Sl=>ZaI [pts b (ZT h s),Own s 3 (Zg h.seats)]
abbrev HE:=Int × Nat × ZJ
def ZO (E:List HE):HP:=ZaI (E.map λ e=>ZfR e.2.1 e.2.2)
abbrev ZZ (E:List HE):List (Int × Value):=E.map λ e=>(e.1,.pointer (some ⟨e.2.1,0,none⟩))
abbrev hEr (E:List HE):List (Int × ZJ):=E.map λ e=>(e.1,e.2.2)
abbrev Zbj (l:List (Int × Int)):List (Int × Value):=l.map λ e=>(e.1,.int .i64 e.2)
abbrev Z2 (f:PF) (sg sl ss:Sl) (hm om:Nat):Obj:=
 .cells [.int .i64 f.num,.int .i64 f.rows,.slice sg.a sg.len sg.cap,.slice sl.a sl.len sl.cap,.slice ss.a ss.len ss.cap,.map (some hm),.map (some om)].toArray 186 (0,0)
abbrev FO (p hm om:Nat) (sg sl ss:Sl) (E:List HE) (f:PF) (Hs:List HP):List HP:=
 pts p (Z2 f sg sl ss hm om)::MapAt hm (ZZ E)::MapAt om (Zbj f.own)::ZO E::Hs
structure FX where
 hm:Nat
 om:Nat
 sg:Sl
 sl:Sl
 ss:Sl
 E:List HE
def Zn (p:Nat) (f:PF):HP:=exs λ x:FX=>
 ZaI [pur (hEr x.E=f.hs),ZM x.sg (Zg f.grps),ZM x.sl (Zg f.lims),ZM x.ss (Zg f.sold),pts p (Z2 f x.sg x.sl x.ss x.hm x.om),MapAt x.hm (ZZ x.E),MapAt x.om (Zbj f.own),ZO x.E]
theorem Sat.flight {p:Nat} {f:PF}:Sat R (Zn p f::Hs) w↔∃ hm om sg sl ss E,hEr E=f.hs/\Sat R (ZM sg (Zg f.grps)::ZM sl (Zg f.lims)::ZM ss (Zg f.sold)::FO p hm om sg sl ss E f Hs) w:=by
 unfold Zn;rw [Sat.exs];constructor
 ·rintro ⟨⟨hm,om,sg,sl,ss,E⟩,h⟩
  obtain ⟨h1,h2⟩:=Sat.pur.1 (Sat.star.1 h);exact ⟨hm,om,sg,sl,ss,E,h1,h2⟩
 ·rintro ⟨hm,om,sg,sl,ss,E,h1,h2⟩
  exact ⟨⟨hm,om,sg,sl,ss,E⟩,Sat.star.2 (Sat.pur.2 ⟨h1,h2⟩)⟩
theorem Sat.flightO {p:Nat} {f:PF} (hw:Sat R (Zn p f::Hs) w):∃ hm om sg sl ss E R',hEr E=f.hs/\R.Ext R'/\SlR R'.m sg (Zg f.grps)/\SlR R'.m sl (Zg f.lims)/\SlR R'.m ss (Zg f.sold)/\Sat R' (FO p hm om sg sl ss E f Hs) w/\
  ∀ Hs' w',Sat R' Hs' w'->Sat R (ZM sg (Zg f.grps)::ZM sl (Zg f.lims)::ZM ss (Zg f.sold)::Hs') w':=by
 obtain ⟨hm,om,sg,sl,ss,E,hE,hw⟩:=Sat.flight.1 hw;obtain ⟨R1,e1,g1,hw,b1⟩:=ZM.out hw;obtain ⟨R2,e2,g2,hw,b2⟩:=ZM.out hw;obtain ⟨R3,e3,g3,hw,b3⟩:=ZM.out hw;exact ⟨hm,om,sg,sl,ss,E,R3,hE,e1.trans (e2.trans e3),e3.slR (e2.slR g1),e3.slR g2,g3,hw,λ Hs' w' h=>b1 _ _ (b2 _ _ (b3 _ _ h))⟩
theorem Sat.flightC {p hm om:Nat} {sg sl ss:Sl} {E:List HE} {f:PF} (hE:hEr E=f.hs) (hw:Sat R (ZM sg (Zg f.grps)::ZM sl (Zg f.lims)::ZM ss (Zg f.sold)::FO p hm om sg sl ss E f Hs) w):Sat R (Zn p f::Hs) w:=
 Sat.flight.2 ⟨hm,om,sg,sl,ss,E,hE,hw⟩
theorem Sat.hold {b:Nat} {h:ZJ}:Sat R (ZfR b h::Hs) w↔∃ s:Sl,Sat R (pts b (ZT h s)::Own s 3 (Zg h.seats)::Hs) w:=by
 unfold ZfR;rw [Sat.exs];exact ⟨λ⟨s,h⟩=>⟨s,Sat.star.1 h⟩,λ⟨s,h⟩=>⟨s,Sat.star.2 h⟩⟩
theorem Sat.holds {a b:List HE} {e:HE}:Sat R (ZO (a++e::b)::Hs) w↔Sat R (ZfR e.2.1 e.2.2::ZO (a++b)::Hs) w:=by
 have p:((a++e::b).map λ e:HE=>ZfR e.2.1 e.2.2).Perm (ZfR e.2.1 e.2.2::(a++b).map λ e:HE=>ZfR e.2.1 e.2.2):=by
  rw [List.map_append,List.map_cons,List.map_append];exact List.perm_middle
 unfold ZO;constructor
 ·intro h
  have h1:=(Sat.star.1 h).perm (p.append_right Hs);exact h1.cons λ _ h=>Sat.star.2 h
 ·intro h
  have h1:Sat R ((ZfR e.2.1 e.2.2::(a++b).map λ e:HE=>ZfR e.2.1 e.2.2)++Hs) w:=h.cons λ _ h=>Sat.star.1 h;exact Sat.star.2 (h1.perm (p.symm.append_right Hs))
abbrev ZBR:Ztv prog 183 Int 3 227 (.pointer none):=⟨underlying183,underlying3,zeroValue227⟩
abbrev ZBO:Ztv prog 184 Int 3 3 (.int .i64 0):=⟨underlying184,underlying3,zeroValue3⟩
theorem ZhN (k:Int) (E:List HE):ZD k (ZZ E)=(ZD k E).map λ x=>.pointer (some ⟨x.1,0,none⟩):=ZfD (λ x:Nat × ZJ=>Value.pointer (some ⟨x.1,0,none⟩)) k E
theorem Zbk (k:Int) (E:List HE):ZD k (hEr E)=(ZD k E).map (·.2):=ZfD (λ x:Nat × ZJ=>x.2) k E
theorem Zrs (k:Int) (l:List (Int × Int)):ZD k (Zbj l)=(ZD k l).map (Value.int .i64):=ZfD (Value.int .i64) k l
theorem ZcF {m:Nat} {E:List HE} (hw:Sat R (MapAt m (ZZ E)::Hs) w) (k:Int) (c:Bool):
  (Instr.lookup 183 (.map (some m)) (.int .i64 k) c).run prog w=.ok (if c then .tuple #[.pointer ((ZD k E).map λ x=>⟨x.1,0,none⟩),.bool (ZD k E).isSome] else .pointer ((ZD k E).map λ x=>⟨x.1,0,none⟩)) w:=by
 have h:=MapAt.look ZBR hw k c;rw [ZhN] at h;rw [show Value.int .i64 k=ZaW.enc k from rfl,h]
 cases ZD k E<;>rfl
theorem ZnB {m:Nat} {l:List (Int × Int)} (hw:Sat R (MapAt m (Zbj l)::Hs) w) (k:Int) (c:Bool):
  (Instr.lookup 184 (.map (some m)) (.int .i64 k) c).run prog w=.ok (if c then .tuple #[.int .i64 ((ZD k l).getD 0),.bool (ZD k l).isSome] else .int .i64 ((ZD k l).getD 0)) w:=by
 have h:=MapAt.look ZBO hw k c;rw [Zrs] at h;rw [show Value.int .i64 k=ZaW.enc k from rfl,h]
 cases ZD k l<;>rfl
end
section
open Go Go.VC Tryz
variable {R:Cx} {Hs Rest:List HP} {w:World}
theorem Zno {α β γ:Type} [BEq α] (f:β->γ) (k:α) (v:β):∀ l:List (α × β),ZeG k (f v) (l.map λ e=>(e.1,f e.2))=(ZeG k v l).map λ e=>(e.1,f e.2)
 |[]=>rfl
 |e::l=>by
  simp only [List.map_cons,ZeG];split
  ·rfl
  ·rw [Zno f k v l];rfl
theorem Zob {α β γ:Type} [BEq α] (f:β->γ) (k:α):∀ l:List (α × β),Ze9 k (l.map λ e=>(e.1,f e.2))=(Ze9 k l).map λ e=>(e.1,f e.2)
 |[]=>rfl
 |e::l=>by
  simp only [List.map_cons,Ze9];split
  ·rfl
  ·rw [Zob f k l];rfl
theorem ZtT {α β γ:Type} [BEq α] (f:β->γ) (k:α) (v:β) (l:List (α × β)):Zci k (f v) (l.map λ e=>(e.1,f e.2))=(Zci k v l).map λ e=>(e.1,f e.2):=by
 unfold Zci;rw [ZfD,Option.isSome_map];split
 ·exact Zno f k v l
 ·simp
def ZJ.put (h:ZJ) (n:Int):ZJ:={ h with seats:=Zga n h.seats }
theorem Zg9 {p hm om b:Nat} {sg sl ss:Sl} {a c:List HE} {k n:Int} {h:ZJ} {f:PF} (hr:ZpS h.seats) (hl:h.seats.length<=1000000000) (hw:Sat R (FO p hm om sg sl ss (a++(k,b,h)::c) f Hs) w):
  Zo prog 178 #[.pointer (some ⟨p,0,none⟩),.pointer (some ⟨b,0,none⟩),.int .i64 n] w λ v w'=>v=.tuple #[]/\Sat R (FO p hm om sg sl ss (a++(k,b,h.put n)::c) { f with own:=Zci n h.owner f.own } Hs) w':=by
 have hw:=hw.take (ZO (a++(k,b,h)::c));obtain ⟨s,hw⟩:=Sat.hold.1 (Sat.holds.1 hw);apply Zyd;refine Zd.mk rfl ⟨s,oA hw,?_⟩;obtain ⟨R',hro,_,hw',back⟩:=Own.lend (hw.take (Own s 3 (Zg h.seats))) (by rw [List.length_map];omega);refine (ZlX (l:=h.seats) hro hr hl hw').use ?_;clear hw hw';rintro _ w ⟨q,bb,rfl,hq,h1,h2,hw⟩;have hw:=(back hw).swap;refine ⟨_,_,rfl,Zd.mk rfl ⟨s,oA hw,?_⟩⟩;refine Zb hw λ bn w hw=>?_;refine (ZmO (T:=3) hl hq (hw.take (Own s 3 (Zg h.seats)))).use ?_;clear hw;rintro _ w ⟨t,rfl,hw⟩;rw [<-Zr6 hq h1 h2] at hw;refine ⟨_,rfl,Zd.mk rfl ?_⟩;refine Za hw (by kernel_rfl) rfl (by simp [Value.cells]) λ w hw=>?_;have hw:Sat R (pts b (ZT (h.put n) t)::Own t 3 (Zg (Zga n h.seats))::pts bn (Zzb n 3)::ZO (a++c)::pts p (Z2 f sg sl ss hm om)::MapAt hm (ZZ (a++(k,b,h)::c))::MapAt om (Zbj f.own)::Hs) w:=hw;refine Zu hw λ w hw=>?_;refine Zd.mk rfl ⟨some om,oS,Zd.mk rfl ⟨h.owner,by rw [Zz];exact oS,?_⟩⟩;refine MapAt.put ZBO (hw.take (MapAt om (Zbj f.own))) n (.int .i64 h.owner) λ w hw=>⟨rfl,?_⟩;rw [ZtT (Value.int .i64) n h.owner f.own] at hw;have hw:=(hw.take (pts bn (Zzb n 3))).drop;have hw:Sat R (pts b (ZT (h.put n) t)::Own t 3 (Zg (h.put n).seats)::MapAt om (Zbj (Zci n h.owner f.own))::ZO (a++c)::pts p (Z2 f sg sl ss hm om)::MapAt hm (ZZ (a++(k,b,h)::c))::Hs) w:=
  (hw.take (Own t 3 (Zg (Zga n h.seats)))).take (pts b (ZT (h.put n) t))
 have hw:=Sat.hold.2 ⟨t,hw⟩;have hw:=(Sat.holds (e:=((k,b,h.put n):HE)) (a:=a) (b:=c)).2 (hw.cons λ _ h=>h.take (ZO (a++c)));have e:ZZ (a++(k,b,h.put n)::c)=ZZ (a++(k,b,h)::c):=by simp [ZZ]
 show Sat R (pts p (Z2 f sg sl ss hm om)::MapAt hm (ZZ (a++(k,b,h.put n)::c))::MapAt om (Zbj (Zci n h.owner f.own))::ZO (a++(k,b,h.put n)::c)::Hs) w;rw [e];exact ((hw.take (MapAt om (Zbj (Zci n h.owner f.own)))).take (MapAt hm (ZZ (a++(k,b,h)::c)))).take (pts p (Z2 f sg sl ss hm om))
theorem ZlH {p:Nat} {f:PF} (hw:Sat R (Zn p f::Hs) w):Zo prog 160 #[.pointer (some ⟨p,0,none⟩)] w λ v w'=>v=.int .i64 f.num/\Sat R (Zn p f::Hs) w':=by
 obtain ⟨hm,om,sg,sl,ss,E,hE,hw2⟩:=Sat.flight.1 hw;apply Zyu;exact Zd.mk rfl ⟨f.num,by rw [Zz];exact At.own (eqS hw2) (by exact ⟨rfl,trivial⟩),rfl,hw⟩
def ZdM (n:Int) (g:List Int) (l:List Int):List ByteArray:=l.map λ k=>(Zuo n g k).1
theorem ZBW:El prog 31 31 9 16:=⟨underlying31,⟨_,underlying31⟩,by kernel_rfl⟩
theorem ZoZ (l:List ByteArray):Za0 (l.map Value.string)=true:=by unfold Za0;simp [Value.oneCell']
theorem ZhK {p hm om:Nat} {sg sl ss sq:Sl} {f:PF} {l:List Int} [tk:ZeO p Hs (Z2 f sg sl ss hm om) Rest] (hg:RoI R sg f.grps) (hl:RoI R sq l) (hlen:l.length<=1000000) (hw:Sat R Hs w):
  Zo prog 181 #[.pointer (some ⟨p,0,none⟩),.slice sq.a sq.len sq.cap] w λ v w'=>∃ t:Sl,v=.slice t.a t.len t.cap/\Sat R (Own t 9 ((ZdM f.rows f.grps l).map Value.string)::Hs) w':=by
 have hll:=hl.len;apply Zyb;refine ⟨λ so i w=>∃ j:Nat,i=j/\j<=l.length/\Sat R (Own so 9 ((ZdM f.rows f.grps (l.take j)).map Value.string)::Hs) w,λ _ i _=>l.length - i.toNat,⟨0,rfl,by omega,Own.nil hw⟩,?_⟩;clear hw;rintro _ so _ w ⟨j,rfl,hj,hw⟩;refine Br.d (λ h=>?_) (λ h=>?_)
 ·have hj2:j<l.length:=by omega
  refine Ro.ix hl (eqS hw) j rfl hj2 ?_;refine Zd.mk rfl ⟨f.rows,sg,At.own (l:=[.int .i64 f.num,.int .i64 f.rows,.slice sg.a sg.len sg.cap,.slice sl.a sl.len sl.cap,.slice ss.a ss.len ss.cap,.map (some hm),.map (some om)]) (t:=ZeO.tail (t:=tk)) (eqS hw) (by exact ⟨rfl,rfl,trivial⟩),?_⟩;refine (Zpk hg hw).use ?_;rintro _ w ⟨rfl,hw⟩;have hlab:(ZdM f.rows f.grps (l.take j)).length=j:=by unfold ZdM;rw [List.length_map,List.length_take];omega
  refine ⟨_,_,rfl,?_⟩;refine Zfk ZBW hw (ZoZ _) rfl (by rw [List.length_map,hlab];omega) (by rw [List.length_map,hlab];omega) λ t w hw=>?_;rw [Zl (by omega) (by omega)];refine ⟨⟨j + 1,by omega,by omega,?_⟩,by dsimp only;omega⟩;have e:(ZdM f.rows f.grps (l.take (j + 1))).map Value.string=(ZdM f.rows f.grps (l.take j)).map Value.string++[.string (Zuo f.rows f.grps l[j]).1]:=by
   unfold ZdM;rw [List.take_add_one,List.getElem?_eq_getElem hj2,Option.toList_some,List.map_append,List.map_append];rfl
  rw [e];exact hw
 ·rw [List.take_of_length_le (by omega)] at hw
  exact ⟨so,rfl,hw⟩
end
section
open Go Go.VC Tryz
variable {R:Cx} {Hs Rest:List HP} {w:World}
theorem ZbX {K:Nat->World->Prop} (hw:Sat R Hs w) (k:∀ m w',Sat R (MapAt (α:=Int) m []::Hs) w'->K m w'):New (.map #[] 0) K w:=
 Zb hw λ m w hw=>k m w (MapAt.new rfl hw)
theorem Zdt {n:Nat} {K:Sl->World->Prop} (hn:n<=1000) (hw:Sat R Hs w) (k:∀ s w',Sat R (Own s 3 (Zg (List.replicate n 0))::Hs) w'->K s w'):
  ∃ w',∃ t:Sl,(Instr.makeSlice 30 (.int .i64 (n:Int)) (.int .i64 (n:Int))).run prog w=.ok (.slice t.a t.len t.cap) w'/\K t w':=
 Zlr (bytes:=8) (z:=.int .i64 0) underlying30 (by kernel_rfl) zeroValue3 rfl (by omega) (by omega) hw λ s w hw=>k s w (by
  rw [show Zg (List.replicate n 0)=List.replicate n (.int .i64 0) by simp [Zg]];exact hw)
def Zag (num rows:Int) (grps lims:List Int):PF:=⟨num,rows,grps,lims,List.replicate lims.length 0,[],[]⟩
theorem Zi7 {num rows:Int} {sg sl:Sl} {grps lims:List Int} (hl:lims.length<=1000) (hw:Sat R (ZM sg (Zg grps)::ZM sl (Zg lims)::Hs) w):
  Zo prog 167 #[.int .i64 num,.agg #[.int .i64 rows,.slice sg.a sg.len sg.cap],.slice sl.a sl.len sl.cap] w λ v w'=>∃ p,v=.pointer (some ⟨p,0,none⟩)/\Sat R (Zn p (Zag num rows grps lims)::Hs) w':=by
 have hlen:sl.len=lims.length:=by
  obtain ⟨_,_,h,_⟩:=ZM.out hw.swap;have:=h.len;rw [List.length_map] at this;exact this
 apply Zyo;refine Zb hw λ b4 w hw=>?_;have hw:Sat R (pts b4 (ZgM rows sg)::ZM sg (Zg grps)::ZM sl (Zg lims)::Hs) w:=hw;refine Zu hw λ w hw=>?_;rw [hlen];have fin:∀ {hm om:Nat} {ss:Sl} {w:World} (_:Sat R (MapAt (α:=Int) om []::MapAt (α:=Int) hm []::Own ss 3 (Zg (List.replicate lims.length 0))::pts b4 (ZgM rows sg)::ZM sg (Zg grps)::ZM sl (Zg lims)::Hs) w),
   New (.cells #[.int .i64 num,.int .i64 rows,.slice sg.a sg.len sg.cap,.slice sl.a lims.length sl.cap,.slice ss.a ss.len ss.cap,.map (some hm),.map (some om)] 186 (0,0))
    (λ p w=>Sat R (pts b4 (ZgM rows sg)::ZM sg (Zg grps)::ZM sl (Zg lims)::Hs) w/\∃ p',Value.pointer (some ⟨p,0,none⟩)=.pointer (some ⟨p',0,none⟩)/\Sat R (Zn p' (Zag num rows grps lims)::Hs) w) w:=λ {hm om ss w} hw=>by
  refine Zb hw λ p w hw=>⟨hw.drop.drop.drop.drop,p,rfl,?_⟩;refine Sat.flight.2 ⟨hm,om,sg,sl,ss,[],rfl,?_⟩;have ec:(Obj.cells #[.int .i64 num,.int .i64 rows,.slice sg.a sg.len sg.cap,.slice sl.a lims.length sl.cap,.slice ss.a ss.len ss.cap,.map (some hm),.map (some om)] 186 (0,0))=Z2 (Zag num rows grps lims) sg sl ss hm om:=by rw [<-hlen];rfl
  rw [ec] at hw;have hw:=(hw.take (pts b4 (ZgM rows sg))).drop;have hw:=hw.take (Own ss 3 (Zg (List.replicate lims.length 0)));have hw:Sat R (ZM ss (Zg (List.replicate lims.length 0))::pts p (Z2 (Zag num rows grps lims) sg sl ss hm om)::MapAt (α:=Int) om []::MapAt (α:=Int) hm []::ZM sg (Zg grps)::ZM sl (Zg lims)::Hs) w:=Own.reads hw;have h2:Sat R (ZO []::ZM ss (Zg (List.replicate lims.length 0))::pts p (Z2 (Zag num rows grps lims) sg sl ss hm om)::MapAt (α:=Int) om []::MapAt (α:=Int) hm []::ZM sg (Zg grps)::ZM sl (Zg lims)::Hs) w:=Sat.star.2 hw;have h3:=(((((((h2.take (ZO [])).take (MapAt (α:=Int) om [])).take (MapAt (α:=Int) hm [])).take (pts p (Z2 (Zag num rows grps lims) sg sl ss hm om))).take (ZM ss (Zg (List.replicate lims.length 0)))).take (ZM sl (Zg lims))).take (ZM sg (Zg grps)));exact h3
 refine ⟨rows,sg,At.own Zhj (by exact ⟨rfl,rfl,trivial⟩),?_,?_,?_⟩
 ·refine Zdt hl hw λ ss w hw=>⟨hw.drop,?_,?_⟩
  ·refine ZbX hw λ hm w hw=>⟨hw.drop.drop,ZbX hw λ om w hw=>⟨hw.drop.drop.drop,fin hw⟩⟩
  ·refine ZbX hw λ om w hw=>⟨hw.drop.drop,ZbX hw λ hm w hw=>⟨hw.drop.drop.drop,fin hw.swap⟩⟩
 ·refine ZbX hw λ hm w hw=>⟨hw.drop,?_,?_⟩
  ·refine Zdt hl hw λ ss w hw=>⟨hw.drop.drop,ZbX hw λ om w hw=>⟨hw.drop.drop.drop,fin ((hw.take (MapAt (α:=Int) hm [])).take (MapAt (α:=Int) om []))⟩⟩
  ·refine ZbX hw λ om w hw=>⟨hw.drop.drop,Zdt hl hw λ ss w hw=>⟨hw.drop.drop.drop,fin ((hw.take (MapAt (α:=Int) hm [])).take (MapAt (α:=Int) om []))⟩⟩
 ·refine ZbX hw λ om w hw=>⟨hw.drop,?_,?_⟩
  ·refine Zdt hl hw λ ss w hw=>⟨hw.drop.drop,ZbX hw λ hm w hw=>⟨hw.drop.drop.drop,fin ((hw.take (MapAt (α:=Int) hm [])).take (MapAt (α:=Int) om []))⟩⟩
  ·refine ZbX hw λ hm w hw=>⟨hw.drop.drop,Zdt hl hw λ ss w hw=>⟨hw.drop.drop.drop,fin ((hw.take (MapAt (α:=Int) hm [])).take (MapAt (α:=Int) om []))⟩⟩
end
section
open Go Go.VC Tryz
variable {R:Cx} {Hs Rest:List HP} {w:World}
def ZjI (num rows:Int) (grps:List Int) (parts:List Nat):Prop:=1<=num/\num<=9999/\ZeJ rows grps=true/\(Zac (Za5 rows grps) parts).2=0
theorem Zpa {s:Int} {parts:List Nat}:(Zac s parts).1.length<=8:=by
 unfold Zac;split
 ·simp
 ·simp only [List.length_cons,Zfs,List.length_tail];omega
theorem Zpp {num rows:Int} {sg sp:Sl} {grps:List Int} {parts:List Nat} (hg:RoI R sg grps) (hp:SlR R.m sp (Zi3 parts)) (hw:Sat R Hs w):
  Zo prog 98 #[.int .i64 num,.agg #[.int .i64 rows,.slice sg.a sg.len sg.cap],.slice sp.a sp.len sp.cap] w λ v w'=>
   (¬ ZjI num rows grps parts/\v=.tuple #[.pointer none,.int .i64 1]/\Sat R Hs w')\/
   (ZjI num rows grps parts/\∃ p,v=.tuple #[.pointer (some ⟨p,0,none⟩),.int .i64 0]/\Sat R (Zn p (Zag num rows grps (Zac (Za5 rows grps) parts).1)::Hs) w'):=by
 apply Zz2;refine Zb hw λ b4 w hw=>?_;have hw:Sat R (pts b4 (ZgM rows sg)::Hs) w:=hw;refine ⟨rows,sg,At.own (eqS hw) (by exact ⟨rfl,rfl,trivial⟩),?_⟩;refine (ZbU hg hw).use ?_;rintro _ w ⟨rfl,hw⟩;refine ⟨_,rfl,?_⟩;refine (ZmG hp hw).use ?_;rintro _ w ⟨t,rfl,hw⟩;have bad:¬ ZjI num rows grps parts->∀ {w},Sat R (Own t 3 (Zg (Zac (Za5 rows grps) parts).1)::pts b4 (ZgM rows sg)::Hs) w->(¬ ZjI num rows grps parts/\Value.tuple #[.pointer none,.int .i64 1]=.tuple #[.pointer none,.int .i64 1]/\Sat R Hs w)\/
   (ZjI num rows grps parts/\∃ p,Value.tuple #[.pointer none,.int .i64 1]=.tuple #[.pointer (some ⟨p,0,none⟩),.int .i64 0]/\Sat R (Zn p (Zag num rows grps (Zac (Za5 rows grps) parts).1)::Hs) w):=λ h w hw=>.inl ⟨h,rfl,hw.drop.drop⟩
 refine ⟨_,_,rfl,Br.d (λ h=>bad (λ h2=>by have:=h2.1;omega) hw) (λ h1=>Br.d (λ h=>bad (λ h2=>by have:=h2.2.1;omega) hw) (λ h2=>?_))⟩;refine ⟨rows,sg,At.own (eqS hw) (by exact ⟨rfl,rfl,trivial⟩),?_⟩;refine (Zei hg hw).use ?_;rintro _ w ⟨rfl,hw⟩;refine ⟨_,rfl,Br.nb (λ h=>bad (λ h2=>by have h5:=h2.2.2.1;rw [h] at h5;cases h5) hw) (λ h3=>Br.ne (λ h=>bad (λ h2=>h h2.2.2.2) hw) (λ h4=>?_))⟩;refine ⟨sg,oA hw,?_⟩;obtain ⟨l1,_,_⟩:=Zan.1 h3;refine (Ze5 hg (by omega) hw).use ?_;rintro _ w ⟨tg,rfl,hw⟩;refine ⟨tg,rfl,?_⟩;refine Za hw (by kernel_rfl) rfl (by simp [Value.cells]) λ w hw=>?_;have hw:Sat R (pts b4 (ZgM rows tg)::Own tg 3 (Zg grps)::Own t 3 (Zg (Zac (Za5 rows grps) parts).1)::Hs) w:=hw;refine ⟨rows,tg,At.own (eqS hw) (by exact ⟨rfl,rfl,trivial⟩),?_⟩;have hw:Sat R (ZM tg (Zg grps)::ZM t (Zg (Zac (Za5 rows grps) parts).1)::Hs) w:=Sat.cons (λ _ h=>Own.reads h) (Own.reads hw.drop);refine (Zi7 (by have:=Zpa (s:=Za5 rows grps) (parts:=parts);omega) hw).use ?_;rintro _ w ⟨p,rfl,hw⟩;exact ⟨_,rfl,.inr ⟨⟨by omega,by omega,h3,h4⟩,p,rfl,hw⟩⟩
def Zbi (f:PF) (owner cls many:Int):PF × Int:=
 if owner<1\/owner>28629151 then (f,1) else if (ZD owner f.hs).isSome then (f,7)
 else if (Za7 f.lims f.sold cls many).2=0 then ({ f with sold:=(Za7 f.lims f.sold cls many).1,hs:=f.hs++[(owner,⟨owner,cls,many,[]⟩)] },0) else (f,(Za7 f.lims f.sold cls many).2)
theorem Zir {p:Nat} {f:PF} {owner cls many:Int} (hl:f.lims.length<=1000) (hs:f.sold.length<=1000) (hw:Sat R (Zn p f::Hs) w):
  Zo prog 101 #[.pointer (some ⟨p,0,none⟩),.int .i64 owner,.int .i64 cls,.int .i64 many] w λ v w'=>v=.int .i64 (Zbi f owner cls many).2/\Sat R (Zn p (Zbi f owner cls many).1::Hs) w':=by
 obtain ⟨hm,om,sg,sl,ss,E,R',hE,_,_,rl,rs,hw,back⟩:=Sat.flightO hw;have same:∀ {w},Sat R' (FO p hm om sg sl ss E f Hs) w->Sat R (Zn p f::Hs) w:=λ hw=>Sat.flightC hE (back _ _ hw);have eget:(ZD owner f.hs).isSome=(ZD owner E).isSome:=by rw [<-hE,Zbk,Option.isSome_map]
 apply ZyX;refine Zd.mk rfl ⟨some hm,oA hw,(ZD owner E).map (λ x=>⟨x.1,0,none⟩),(ZD owner E).isSome,λ w' e=>by rw [show w'=w from e];exact ZcF (hw.take (MapAt hm (ZZ E))) owner true,?_⟩
 refine ⟨λ w=>(1<=owner/\owner<=28629151/\(ZD owner E).isSome=false)/\Sat R' (FO p hm om sg sl ss E f Hs) w,?_,?_⟩
 ·refine Br.d (λ h=>?_) (λ h1=>Br.d (λ h=>?_) (λ h2=>Br.mk (λ h=>?_) (λ h=>⟨⟨by omega,by omega,h⟩,hw⟩)))
  ·rw [show Zbi f owner cls many=(f,1) by unfold Zbi;rw [if_pos (.inl h)]];exact ⟨rfl,same hw⟩
  ·rw [show Zbi f owner cls many=(f,1) by unfold Zbi;rw [if_pos (.inr h)]];exact ⟨rfl,same hw⟩
  ·rw [show Zbi f owner cls many=(f,7) by unfold Zbi;rw [if_neg (by omega),if_pos (by rw [eget];exact h)]];exact ⟨rfl,same hw⟩
 clear hw;rintro _ w ⟨⟨h1,h2,h3⟩,hw⟩;have e:Zbi f owner cls many=if (Za7 f.lims f.sold cls many).2=0 then ({ f with sold:=(Za7 f.lims f.sold cls many).1,hs:=f.hs++[(owner,⟨owner,cls,many,[]⟩)] },0) else (f,(Za7 f.lims f.sold cls many).2):=by
  unfold Zbi;rw [if_neg (by omega),if_neg (by rw [eget,h3];simp)]
 rw [e];refine Zu hw λ w hw=>?_;refine Zd.mk rfl ⟨sl,oS,Zd.mk rfl ⟨ss,oS,?_⟩⟩;refine (ZqC (rl.ro (by rw [List.length_map];omega)) (rs.ro (by rw [List.length_map];omega)) hw).use ?_;rintro _ w ⟨t,rfl,hw⟩;refine ⟨_,_,rfl,Br.e (λ h4=>?_) (λ h4=>?_)⟩
 ·rw [if_pos h4,h4]
  refine Zd.mk rfl ?_;refine Za hw (by kernel_rfl) rfl (by simp [Value.cells]) λ w hw=>?_;have hw:Sat R' (pts p (Z2 f sg sl t hm om)::Own t 3 (Zg (Za7 f.lims f.sold cls many).1)::MapAt hm (ZZ E)::MapAt om (Zbj f.own)::ZO E::Hs) w:=hw;refine Zd.mk rfl ⟨some hm,oA hw,?_⟩;refine Zb hw λ b w hw=>?_;have hw:Sat R' (pts b (ZT ⟨owner,cls,many,[]⟩ ⟨none,0,0⟩)::pts p (Z2 f sg sl t hm om)::Own t 3 (Zg (Za7 f.lims f.sold cls many).1)::MapAt hm (ZZ E)::MapAt om (Zbj f.own)::ZO E::Hs) w:=hw;refine MapAt.put ZBR (hw.take (MapAt hm (ZZ E))) owner (.pointer (some ⟨b,0,none⟩)) λ w hw=>⟨rfl,?_⟩;have ep:Zci owner (Value.pointer (some ⟨b,0,none⟩)) (ZZ E)=ZZ (E++[(owner,b,⟨owner,cls,many,[]⟩)]):=by
   unfold Zci;rw [ZhN,Option.isSome_map,h3];simp [ZZ]
  rw [ep] at hw;have hw:=hw.take (ZO E);have hw:=hw.take (pts b (ZT ⟨owner,cls,many,[]⟩ ⟨none,0,0⟩));have hw:=(Sat.hold (b:=b) (h:=⟨owner,cls,many,[]⟩)).2 ⟨⟨none,0,0⟩,hw.cons λ _ h=>Own.nil (T:=3) h⟩;rw [<-List.append_nil E] at hw;have hw:=(Sat.holds (e:=((owner,b,⟨owner,cls,many,[]⟩):HE)) (a:=E) (b:=[])).2 hw;rw [List.append_nil] at hw;have hw:=hw.take (Own t 3 (Zg (Za7 f.lims f.sold cls many).1));have hw:=back _ _ (Own.reads hw);refine Sat.flight.2 ⟨hm,om,sg,sl,t,E++[(owner,b,⟨owner,cls,many,[]⟩)],by rw [<-hE];simp [hEr],?_⟩;have hw:=(hw.take (ZM ss (Zg f.sold))).drop;exact (((((hw.take (ZO (E++[(owner,b,⟨owner,cls,many,[]⟩)]))).take (MapAt om (Zbj f.own))).take (MapAt hm (ZZ (E++[(owner,b,⟨owner,cls,many,[]⟩)])))).take (pts p (Z2 f sg sl t hm om))).take (ZM t (Zg (Za7 f.lims f.sold cls many).1))).take (ZM sl (Zg f.lims))|>.take (ZM sg (Zg f.grps))
 ·rw [if_neg h4];exact ⟨rfl,same hw.drop⟩
end
section
open Go Go.VC Tryz
variable {R:Cx} {Hs Rest:List HP} {w:World}
abbrev FO1 (p hm om b:Nat) (sg sl ss s:Sl) (E Er:List HE) (f:PF) (h:ZJ) (own:List (Int × Int)) (Hs:List HP):List HP:=
 pts b (ZT h s)::Own s 3 (Zg h.seats)::ZO Er::pts p (Z2 f sg sl ss hm om)::MapAt hm (ZZ E)::MapAt om (Zbj own)::Hs
theorem FO.open {p hm om b:Nat} {sg sl ss:Sl} {a c:List HE} {k:Int} {h:ZJ} {f:PF} (hw:Sat R (FO p hm om sg sl ss (a++(k,b,h)::c) f Hs) w):∃ s,Sat R (FO1 p hm om b sg sl ss s (a++(k,b,h)::c) (a++c) f h f.own Hs) w:=
 Sat.hold.1 (Sat.holds.1 (hw.take (ZO (a++(k,b,h)::c))))
theorem FO.close {p hm om b:Nat} {sg sl ss s:Sl} {a c:List HE} {k:Int} {h h':ZJ} {f:PF} {own:List (Int × Int)} (hw:Sat R (FO1 p hm om b sg sl ss s (a++(k,b,h)::c) (a++c) f h' own Hs) w):
  Sat R (FO p hm om sg sl ss (a++(k,b,h')::c) { f with own:=own } Hs) w:=by
 have hw:=(Sat.hold (b:=b) (h:=h')).2 ⟨s,hw⟩;have hw:=(Sat.holds (e:=((k,b,h'):HE)) (a:=a) (b:=c)).2 hw;have e:ZZ (a++(k,b,h')::c)=ZZ (a++(k,b,h)::c):=by simp [ZZ]
 show Sat R (pts p (Z2 f sg sl ss hm om)::MapAt hm (ZZ (a++(k,b,h')::c))::MapAt om (Zbj own)::ZO (a++(k,b,h')::c)::Hs) w;rw [e];exact ((hw.take (MapAt om (Zbj own))).take (MapAt hm (ZZ (a++(k,b,h)::c)))).take (pts p (Z2 f sg sl ss hm om))
theorem ZsW {p hm om:Nat} {sg sl ss:Sl} {E:List HE} {f:PF} {owner:Int} {lab:ByteArray} (hg:RoI R sg f.grps) (hsz:lab.size<=9223372036854775807) (hw:Sat R (FO p hm om sg sl ss E f Hs) w):
  Zo prog 177 #[.pointer (some ⟨p,0,none⟩),.int .i64 owner,.string lab] w λ v w'=>
   v=.tuple #[.pointer ((ZD owner E).map λ x=>⟨x.1,0,none⟩),.int .i64 (Zbe f.rows f.grps lab).1,.bool ((ZD owner E).isSome && (Zbe f.rows f.grps lab).2==0)]/\Sat R (FO p hm om sg sl ss E f Hs) w':=by
 apply Zye;refine Zd.mk rfl ⟨some hm,oA hw,(ZD owner E).map (λ x=>⟨x.1,0,none⟩),(ZD owner E).isSome,λ w' e=>by rw [show w'=w from e];exact ZcF (hw.take (MapAt hm (ZZ E))) owner true,?_⟩
 refine Zd.mk rfl ⟨f.rows,sg,At.own (eqS hw) (by exact ⟨rfl,rfl,trivial⟩),?_⟩;refine (Zsn hg hsz hw).use ?_;rintro _ w ⟨rfl,hw⟩;refine ⟨_,_,rfl,Br.mk (λ h=>⟨?_,hw⟩) (λ h=>⟨?_,hw⟩)⟩
 ·rw [h];rfl
 ·rw [h];rfl
def ZeV (f:PF) (owner:Int) (lab:ByteArray):PF × Int:=
 match ZD owner f.hs with
 |none=>(f,2)
 |some h=>if (Zbe f.rows f.grps lab).2≠0 then (f,2) else if (h.seats.length:Int) >= h.many then (f,7)
  else if (ZD (Zbe f.rows f.grps lab).1 f.own).isSome then (f,3)
  else ({ f with hs:=ZeG owner (h.put (Zbe f.rows f.grps lab).1) f.hs,own:=Zci (Zbe f.rows f.grps lab).1 h.owner f.own },0)
theorem ZcG (a:List HE) (k:Int) (b:Nat) (h:ZJ) (c:List HE):hEr (a++(k,b,h)::c)=hEr a++(k,h)::hEr c:=by simp [hEr]
theorem Ze3 (k:Int):(k==k)=true:=beq_self_eq_true k
theorem ZoK {p:Nat} {f:PF} {owner:Int} {lab:ByteArray} (hgl:f.grps.length<=1000) (hsz:lab.size<=9223372036854775807) (hR:∀ e∈f.hs,ZpS e.2.seats/\e.2.seats.length<=1000000) (hw:Sat R (Zn p f::Hs) w):
  Zo prog 106 #[.pointer (some ⟨p,0,none⟩),.int .i64 owner,.string lab] w λ v w'=>v=.int .i64 (ZeV f owner lab).2/\Sat R (Zn p (ZeV f owner lab).1::Hs) w':=by
 obtain ⟨hm,om,sg,sl,ss,E,R',hE,_,rg,_,_,hw,back⟩:=Sat.flightO hw;have same:∀ {w},Sat R' (FO p hm om sg sl ss E f Hs) w->Sat R (Zn p f::Hs) w:=λ hw=>Sat.flightC hE (back _ _ hw);apply ZyS;refine (ZsW (rg.ro (by rw [List.length_map];omega)) hsz hw).use ?_;clear hw;rintro _ w ⟨rfl,hw⟩;refine ⟨_,_,_,rfl,Zd.mk rfl ⟨some om,oA hw,(ZD (Zbe f.rows f.grps lab).1 f.own).getD 0,(ZD (Zbe f.rows f.grps lab).1 f.own).isSome,λ w' e=>by rw [show w'=w from e];exact ZnB (hw.take (MapAt om (Zbj f.own))) _ true,?_⟩⟩
 cases hget:ZD owner E with
 |none=>
  have e:ZeV f owner lab=(f,2):=by unfold ZeV;rw [<-hE,Zbk,hget];rfl
  rw [e];exact Br.t rfl ⟨rfl,same hw⟩
 |some x=>
  obtain ⟨b,h⟩:=x;have hgf:ZD owner f.hs=some h:=by rw [<-hE,Zbk,hget];rfl
  obtain ⟨a,c,rfl,hna⟩:=Zar hget;obtain ⟨hr,hl⟩:=hR (owner,h) (by rw [<-hE,ZcG];simp);by_cases h2:(Zbe f.rows f.grps lab).2=0
  ·refine Br.f (by rw [h2];rfl) ?_
   obtain ⟨s,hw⟩:=FO.open hw;have hsl:=Own.len (hw.take (Own s 3 (Zg h.seats)));rw [List.length_map] at hsl;refine Zu hw λ w hw=>?_;refine Zd.mk rfl ⟨s,oS,Zd.mk rfl ⟨h.many,oS,?_⟩⟩;refine Br.d (λ h3=>?_) (λ h3=>?_)
   ·have e:ZeV f owner lab=(f,7):=by unfold ZeV;rw [hgf];dsimp only;rw [if_neg (by rw [h2];simp),if_pos (by omega)]
    rw [e];exact ⟨rfl,same (FO.close hw)⟩
   ·refine Br.mk (λ h4=>?_) (λ h4=>?_)
    ·have e:ZeV f owner lab=(f,3):=by unfold ZeV;rw [hgf];dsimp only;rw [if_neg (by rw [h2];simp),if_neg (by omega),if_pos h4]
     rw [e];exact ⟨rfl,same (FO.close hw)⟩
    ·have e:ZeV f owner lab=({ f with hs:=ZeG owner (h.put (Zbe f.rows f.grps lab).1) f.hs,own:=Zci (Zbe f.rows f.grps lab).1 h.owner f.own },0):=by
      unfold ZeV;rw [hgf];dsimp only;rw [if_neg (by rw [h2];simp),if_neg (by omega),if_neg (by rw [h4];simp)]
     rw [e];have hw:Sat R' (FO p hm om sg sl ss (a++(owner,b,h)::c) f Hs) w:=FO.close hw;refine (Zg9 hr (by omega) hw).use ?_;rintro _ w ⟨rfl,hw⟩;refine ⟨rfl,rfl,?_⟩;refine Sat.flight.2 ⟨hm,om,sg,sl,ss,a++(owner,b,h.put (Zbe f.rows f.grps lab).1)::c,?_,back _ _ hw⟩;show _=ZeG owner _ f.hs;rw [<-hE,ZcG,ZcG,Zff (by rw [Zbk,hna];rfl) (Ze3 owner)]
  ·have e:ZeV f owner lab=(f,2):=by unfold ZeV;rw [hgf];dsimp only;rw [if_pos h2]
   rw [e];exact Br.t (by simp [h2]) ⟨rfl,same hw⟩
end
section
open Go Go.VC Tryz
variable {R:Cx} {Hs Rest:List HP} {w:World}
def Ze2 (f:PF) (owner:Int):List ByteArray:=match ZD owner f.hs with|none=>[]|some h=>ZdM f.rows f.grps h.seats
theorem Zlv {p:Nat} {f:PF} {owner:Int} (hgl:f.grps.length<=1000) (hR:∀ e∈f.hs,e.2.seats.length<=1000000) (hw:Sat R (Zn p f::Hs) w):
  Zo prog 122 #[.pointer (some ⟨p,0,none⟩),.int .i64 owner] w λ v w'=>∃ t:Sl,v=.slice t.a t.len t.cap/\Sat R (Own t 9 ((Ze2 f owner).map Value.string)::Zn p f::Hs) w':=by
 obtain ⟨hm,om,sg,sl,ss,E,R',hE,_,rg,_,_,hw,back⟩:=Sat.flightO hw;apply ZyO;refine Zd.mk rfl ⟨some hm,oA hw,(ZD owner E).map (λ x=>⟨x.1,0,none⟩),(ZD owner E).isSome,λ w' e=>by rw [show w'=w from e];exact ZcF (hw.take (MapAt hm (ZZ E))) owner true,?_⟩
 cases hget:ZD owner E with
 |none=>
  have e:Ze2 f owner=[]:=by unfold Ze2;rw [<-hE,Zbk,hget];rfl
  rw [e];exact Br.t rfl ⟨⟨none,0,0⟩,rfl,Own.nil (Sat.flightC hE (back _ _ hw))⟩
 |some x=>
  obtain ⟨b,h⟩:=x;have hgf:ZD owner f.hs=some h:=by rw [<-hE,Zbk,hget];rfl
  have e:Ze2 f owner=ZdM f.rows f.grps h.seats:=by unfold Ze2;rw [hgf]
  rw [e];obtain ⟨a,c,rfl,hna⟩:=Zar hget;have hl:h.seats.length<=1000000:=hR (owner,h) (by rw [<-hE,ZcG];simp);refine Br.f rfl (Zd.mk rfl ?_);obtain ⟨s,hw⟩:=FO.open hw;refine ⟨s,oA hw,?_⟩;obtain ⟨R2,hro,hmono,hw2,back2⟩:=Own.lend (hw.take (Own s 3 (Zg h.seats))) (by rw [List.length_map];omega);refine (ZhK (f:=f) (hm:=hm) (om:=om) (sg:=sg) (sl:=sl) (ss:=ss) (hmono _ _ (rg.ro (by rw [List.length_map];omega))) hro hl hw2).use ?_;clear hw hw2;rintro _ w ⟨t,rfl,hw⟩;refine ⟨t,rfl,t,rfl,?_⟩;have hw:=(back2 hw).swap;have hw:=back _ _ (Sat.cons (λ _ h5=>FO.close (f:=f) (h5.take (pts b (ZT h s)))) hw);exact Sat.cons (λ _ h5=>Sat.flightC hE h5) (hw.take (Own t 9 ((ZdM f.rows f.grps h.seats).map Value.string)))
end
section
open Go Go.VC Tryz
variable {R:Cx} {Hs Rest:List HP} {w:World}
def ZiX (f:PF):List Int:=(List.range f.lims.length).map λ (k:Nat)=>(ZbA f.lims f.sold k).1
def ZbS (f:PF) (j:Nat):List Int:=(List.range f.lims.length).map λ (k:Nat)=>if k<j then (ZbA f.lims f.sold k).1 else 0
theorem ZmH (f:PF) {j:Nat} (h:j<f.lims.length):(ZbS f j).set j (ZbA f.lims f.sold j).1=ZbS f (j + 1):=by
 apply List.ext_getElem
 ·simp [ZbS]
 ·intro i h1 h2
  simp only [ZbS,List.length_set,List.length_map,List.length_range] at h1 h2;rw [List.getElem_set];simp only [ZbS,List.getElem_map,List.getElem_range];split
  ·rename_i h3;subst h3;rw [if_pos (by omega)]
  ·by_cases h4:i<j
   ·rw [if_pos h4,if_pos (by omega)]
   ·rw [if_neg h4,if_neg (by omega)]
theorem Zpf {p:Nat} {f:PF} (hl:f.lims.length<=1000) (hs:f.sold.length<=1000) (hw:Sat R (Zn p f::Hs) w):
  Zo prog 55 #[.pointer (some ⟨p,0,none⟩)] w λ v w'=>∃ t:Sl,v=.slice t.a t.len t.cap/\Sat R (Own t 3 (Zg (ZiX f))::Zn p f::Hs) w':=by
 obtain ⟨hm,om,sg,sl,ss,E,R',hE,_,_,rl,rs,hw,back⟩:=Sat.flightO hw;have hsl:sl.len=f.lims.length:=by have:=rl.len;rw [List.length_map] at this;exact this
 apply ZAn;refine Zd.mk rfl ⟨sl,oA hw,?_⟩;rw [hsl];refine Zdt hl hw λ t w hw=>?_;have e0:List.replicate f.lims.length (0:Int)=ZbS f 0:=by
  apply List.ext_getElem
  ·simp [ZbS]
  ·intro i h1 h2;simp [ZbS]
 rw [e0] at hw;refine ⟨λ i w=>∃ j:Nat,i=j/\j<=f.lims.length/\Sat R' (Own t 3 (Zg (ZbS f j))::FO p hm om sg sl ss E f Hs) w,λ i _=>f.lims.length - i.toNat,⟨0,rfl,by omega,hw⟩,?_⟩;clear hw;rintro _ _ w ⟨j,rfl,hj,hw⟩;have htl:=Own.len hw;simp only [ZbS,List.length_map,List.length_range] at htl;refine Br.d (λ h=>?_) (λ h=>?_)
 ·have hj2:j<f.lims.length:=by omega
  refine Zu hw λ w hw=>?_;refine Zd.mk rfl ⟨sl,oS,Zd.mk rfl ⟨ss,oS,?_⟩⟩;refine (ZhI (rl.ro (by rw [List.length_map];omega)) (rs.ro (by rw [List.length_map];omega)) hw).use ?_;rintro _ w ⟨rfl,hw⟩;refine ⟨_,_,rfl,?_⟩;refine Own.store (by kernel_rfl) hw (by simp [ZbS];exact hj2) λ w hw=>?_;rw [ZmH f hj2] at hw;rw [Zl (by omega) (by omega)];exact ⟨⟨j + 1,by omega,by omega,hw⟩,by dsimp only;omega⟩
 ·obtain rfl:j=f.lims.length:=by omega
  have e1:ZbS f f.lims.length=ZiX f:=by
   unfold ZbS ZiX;refine List.map_congr_left λ k hk=>?_;rw [if_pos (List.mem_range.1 hk)]
  rw [e1] at hw;refine ⟨t,rfl,?_⟩;have hw:=back _ _ hw;exact Sat.cons (λ _ h5=>Sat.flightC hE h5) (hw.take (Own t 3 (Zg (ZiX f))))
def Zch (l:List Int) (own:List (Int × Int)):List (Int × Int):=l.foldl (λ o n=>Ze9 n o) own
def Zj4 (f:PF) (owner:Int):PF × Int:=
 match ZD owner f.hs with
 |none=>(f,2)
 |some h=>({ f with own:=Zch h.seats f.own,sold:=(ZfO f.lims f.sold h.cls h.many).1,hs:=Ze9 owner f.hs },0)
theorem Zpn {p:Nat} {f:PF} {owner:Int} (hll:f.lims.length<=1000) (hls:f.sold.length<=1000) (hR:∀ e∈f.hs,e.2.seats.length<=1000000) (hw:Sat R (Zn p f::Hs) w):
  Zo prog 104 #[.pointer (some ⟨p,0,none⟩),.int .i64 owner] w λ v w'=>v=.int .i64 (Zj4 f owner).2/\Sat R (Zn p (Zj4 f owner).1::Hs) w':=by
 obtain ⟨hm,om,sg,sl,ss,E,R',hE,_,_,rl,rs,hw,back⟩:=Sat.flightO hw;apply ZyU;refine Zd.mk rfl ⟨some hm,oA hw,(ZD owner E).map (λ x=>⟨x.1,0,none⟩),(ZD owner E).isSome,λ w' e=>by rw [show w'=w from e];exact ZcF (hw.take (MapAt hm (ZZ E))) owner true,?_⟩
 cases hget:ZD owner E with
 |none=>
  have e:Zj4 f owner=(f,2):=by unfold Zj4;rw [<-hE,Zbk,hget];rfl
  rw [e];exact Br.t rfl ⟨rfl,Sat.flightC hE (back _ _ hw)⟩
 |some x=>
  obtain ⟨b,h⟩:=x;have hgf:ZD owner f.hs=some h:=by rw [<-hE,Zbk,hget];rfl
  have e:Zj4 f owner=({ f with own:=Zch h.seats f.own,sold:=(ZfO f.lims f.sold h.cls h.many).1,hs:=Ze9 owner f.hs },0):=by unfold Zj4;rw [hgf]
  rw [e];obtain ⟨a,c,rfl,hna⟩:=Zar hget;have hl:h.seats.length<=1000000:=hR (owner,h) (by rw [<-hE,ZcG];simp);refine Br.f rfl (Zd.mk rfl ?_);obtain ⟨s,hw⟩:=FO.open hw;have hsl:=Own.len (hw.take (Own s 3 (Zg h.seats)));rw [List.length_map] at hsl;refine ⟨s,oA hw,?_⟩;refine ⟨λ i w=>∃ j:Nat,i=j/\j<=h.seats.length/\Sat R' (FO1 p hm om b sg sl ss s (a++(owner,b,h)::c) (a++c) f h (Zch (h.seats.take j) f.own) Hs) w,λ i _=>h.seats.length - i.toNat,⟨0,rfl,by omega,hw⟩,?_⟩;clear hw;rintro _ _ w ⟨j,rfl,hj,hw⟩;refine Br.d (λ h2=>?_) (λ h2=>?_)
  ·have hj2:j<h.seats.length:=by omega
   refine Own.ix (hw.take (Own s 3 (Zg h.seats))) (eqS (hw.take (Own s 3 (Zg h.seats)))) j rfl hj2 ?_;refine Zd.mk rfl ⟨some om,oA hw,?_⟩;refine MapAt.del ZBO (hw.take (MapAt om (Zbj (Zch (h.seats.take j) f.own)))) h.seats[j] λ w hw=>?_;rw [Zob (Value.int .i64) h.seats[j] (Zch (h.seats.take j) f.own)] at hw;have ed:Ze9 h.seats[j] (Zch (h.seats.take j) f.own)=Zch (h.seats.take (j + 1)) f.own:=by
    unfold Zch;rw [List.take_add_one,List.getElem?_eq_getElem hj2,Option.toList_some,List.foldl_append];rfl
   rw [ed] at hw;rw [Zl (by omega) (by omega)];refine ⟨⟨j + 1,by omega,by omega,?_⟩,by dsimp only;omega⟩;exact ((((hw.take (MapAt hm (ZZ (a++(owner,b,h)::c)))).take (pts p (Z2 f sg sl ss hm om))).take (ZO (a++c))).take (Own s 3 (Zg h.seats))).take (pts b (ZT h s))
  ·rw [List.take_of_length_le (by omega)] at hw
   refine Zu hw λ w hw=>?_;refine Zd.mk rfl ⟨sl,oS,Zd.mk rfl ⟨ss,oS,Zd.mk rfl ⟨h.cls,oS,Zd.mk rfl ⟨h.many,oS,?_⟩⟩⟩⟩;refine (Ztc (rl.ro (by rw [List.length_map];omega)) (rs.ro (by rw [List.length_map];omega)) hw).use ?_;rintro _ w ⟨t,rfl,hw⟩;refine ⟨_,_,rfl,Zd.mk rfl ?_⟩;refine Za hw (by kernel_rfl) rfl (by simp [Value.cells]) λ w hw=>?_;have hw:Sat R' (pts p (Z2 f sg sl t hm om)::Own t 3 (Zg (ZfO f.lims f.sold h.cls h.many).1)::pts b (ZT h s)::Own s 3 (Zg h.seats)::ZO (a++c)::MapAt hm (ZZ (a++(owner,b,h)::c))::MapAt om (Zbj (Zch h.seats f.own))::Hs) w:=hw;refine Zd.mk rfl ⟨some hm,oA hw,?_⟩;refine MapAt.del ZBR (hw.take (MapAt hm (ZZ (a++(owner,b,h)::c)))) owner λ w hw=>⟨rfl,?_⟩;have ep:Ze9 owner (ZZ (a++(owner,b,h)::c))=ZZ (a++c):=by
    rw [show ZZ (a++(owner,b,h)::c)=ZZ a++(owner,Value.pointer (some ⟨b,0,none⟩))::ZZ c by simp [ZZ],Zey (by rw [ZhN,hna];rfl) (Ze3 owner)];simp [ZZ]
   rw [ep] at hw;have hw:=(hw.take (pts b (ZT h s))).drop;have hw:=(hw.take (Own s 3 (Zg h.seats))).drop;have hw:=hw.take (Own t 3 (Zg (ZfO f.lims f.sold h.cls h.many).1));have hw:=back _ _ (Own.reads hw);have hw:=(hw.take (ZM ss (Zg f.sold))).drop;refine Sat.flight.2 ⟨hm,om,sg,sl,t,a++c,?_,?_⟩
   ·show _=Ze9 owner f.hs
    rw [<-hE,ZcG,Zey (by rw [Zbk,hna];rfl) (Ze3 owner)];simp [hEr]
   ·exact (((((hw.take (ZO (a++c))).take (MapAt om (Zbj (Zch h.seats f.own)))).take (MapAt hm (ZZ (a++c)))).take (pts p (Z2 f sg sl t hm om))).take (ZM t (Zg (ZfO f.lims f.sold h.cls h.many).1))).take (ZM sl (Zg f.lims))|>.take (ZM sg (Zg f.grps))
end
end Go.Proofs.YtlplemdmegpoeaaGreatDoor
namespace Go.Proofs
section
open Go.Shelf
def Tryz.sorted61_ren:Go.Shelf.Ren:=⟨λ|6=>61|8=>129|9=>130|11=>206|13=>208|12=>207|23=>270|24=>205|14=>261|15=>262|16=>263|17=>264|18=>265|19=>266|20=>267|21=>268|22=>269|25=>286|26=>287|27=>288|28=>289|29=>290|30=>278|31=>297|n=>n,λ|26=>3|28=>116|24=>30|0=>0|3=>3|37=>264|48=>306|50=>141|4=>4|40=>299|39=>298|45=>230|5=>5|9=>9|51=>313|55=>317|57=>321|58=>293|33=>159|n=>n,λ|n=>n⟩
theorem Tryz.sorted61:Go.Proofs.SlLaysZI.n6 Tryz.prog Tryz.sorted61_ren:={
  mixed:=by kernel_rfl
  f6:=⟨Tryz.f61.name,by decide,Tryz.func61.trans (congrArg some (by kernel_rfl))⟩
  f8:=⟨Tryz.f129.name,by decide,Tryz.func129.trans (congrArg some (by kernel_rfl))⟩
  f11:=⟨Tryz.f206.name,by decide,Tryz.func206.trans (congrArg some (by kernel_rfl))⟩
  t0:=Tryz.underlying0
  a0:=Tryz.isAgg0
  z0:=Tryz.sizeOf0
  v0:=Tryz.zeroValue0
  t24:=Tryz.underlying30
  a24:=Tryz.isAgg30
  z24:=Tryz.sizeOf30
  v24:=Tryz.zeroValue30
  t26:=Tryz.underlying3
  a26:=Tryz.isAgg3
  z26:=Tryz.sizeOf3
  v26:=Tryz.zeroValue3
  t28:=Tryz.underlying116
  a28:=Tryz.isAgg116
  z28:=Tryz.sizeOf116
  v28:=Tryz.zeroValue116
  i26:=by kernel_rfl }
def Tryz.sort130_ren:Go.Shelf.Ren:=⟨λ|5=>130|8=>208|7=>207|19=>270|20=>205|10=>261|11=>262|12=>263|13=>264|14=>265|15=>266|16=>267|17=>268|18=>269|30=>286|31=>287|32=>288|33=>289|34=>290|35=>278|40=>297|n=>n,λ|23=>30|25=>3|3=>3|32=>264|22=>30|0=>0|44=>306|46=>141|4=>4|36=>299|35=>298|41=>230|5=>5|9=>9|53=>313|57=>317|63=>321|64=>293|n=>n,λ|n=>n⟩
theorem Tryz.sort130:Go.Proofs.SlLaysM.n5 Tryz.prog Tryz.sort130_ren:={
  mixed:=by kernel_rfl
  f5:=⟨Tryz.f130.name,by decide,Tryz.func130.trans (congrArg some (by kernel_rfl))⟩
  f7:=⟨Tryz.f207.name,by decide,Tryz.func207.trans (congrArg some (by kernel_rfl))⟩
  f8:=Tryz.func208.trans (congrArg some (by kernel_rfl))
  f10:=⟨Tryz.f261.name,by decide,Tryz.func261.trans (congrArg some (by kernel_rfl))⟩
  f11:=⟨Tryz.f262.name,by decide,Tryz.func262.trans (congrArg some (by kernel_rfl))⟩
  f12:=⟨Tryz.f263.name,by decide,Tryz.func263.trans (congrArg some (by kernel_rfl))⟩
  f13:=⟨Tryz.f264.name,by decide,Tryz.func264.trans (congrArg some (by kernel_rfl))⟩
  f14:=⟨Tryz.f265.name,by decide,Tryz.func265.trans (congrArg some (by kernel_rfl))⟩
  f15:=⟨Tryz.f266.name,by decide,Tryz.func266.trans (congrArg some (by kernel_rfl))⟩
  f16:=⟨Tryz.f267.name,by decide,Tryz.func267.trans (congrArg some (by kernel_rfl))⟩
  f17:=⟨Tryz.f268.name,by decide,Tryz.func268.trans (congrArg some (by kernel_rfl))⟩
  f18:=⟨Tryz.f269.name,by decide,Tryz.func269.trans (congrArg some (by kernel_rfl))⟩
  f19:=Tryz.func270.trans (congrArg some (by kernel_rfl))
  f20:=Tryz.func205.trans (congrArg some (by kernel_rfl))
  f30:=⟨Tryz.f286.name,by decide,Tryz.func286.trans (congrArg some (by kernel_rfl))⟩
  f31:=Tryz.func287.trans (congrArg some (by kernel_rfl))
  f32:=Tryz.func288.trans (congrArg some (by kernel_rfl))
  f33:=⟨Tryz.f289.name,by decide,Tryz.func289.trans (congrArg some (by kernel_rfl))⟩
  f34:=⟨Tryz.f290.name,by decide,Tryz.func290.trans (congrArg some (by kernel_rfl))⟩
  f35:=⟨Tryz.f278.name,by decide,Tryz.func278.trans (congrArg some (by kernel_rfl))⟩
  f40:=⟨Tryz.f297.name,by decide,Tryz.func297.trans (congrArg some (by kernel_rfl))⟩
  t0:=Tryz.underlying0
  a0:=Tryz.isAgg0
  z0:=Tryz.sizeOf0
  v0:=Tryz.zeroValue0
  t3:=Tryz.underlying3
  a3:=Tryz.isAgg3
  z3:=Tryz.sizeOf3
  v3:=Tryz.zeroValue3
  t4:=Tryz.underlying4
  a4:=Tryz.isAgg4
  z4:=Tryz.sizeOf4
  v4:=Tryz.zeroValue4
  t5:=Tryz.underlying5
  a5:=Tryz.isAgg5
  z5:=Tryz.sizeOf5
  v5:=Tryz.zeroValue5
  t9:=Tryz.underlying9
  a9:=Tryz.isAgg9
  z9:=Tryz.sizeOf9
  v9:=Tryz.zeroValue9
  t22:=Tryz.underlying30
  a22:=Tryz.isAgg30
  z22:=Tryz.sizeOf30
  v22:=Tryz.zeroValue30
  t23:=Tryz.underlying30
  a23:=Tryz.isAgg30
  z23:=Tryz.sizeOf30
  v23:=Tryz.zeroValue30
  t25:=Tryz.underlying3
  a25:=Tryz.isAgg3
  z25:=Tryz.sizeOf3
  v25:=Tryz.zeroValue3
  t32:=Tryz.underlying264
  a32:=Tryz.isAgg264
  z32:=Tryz.sizeOf264
  v32:=Tryz.zeroValue264
  t35:=Tryz.underlying298
  a35:=Tryz.isAgg298
  z35:=Tryz.sizeOf298
  v35:=Tryz.zeroValue298
  t36:=Tryz.underlying299
  a36:=Tryz.isAgg299
  z36:=Tryz.sizeOf299
  v36:=Tryz.zeroValue299
  t41:=Tryz.underlying230
  a41:=Tryz.isAgg230
  z41:=Tryz.sizeOf230
  v41:=Tryz.zeroValue230
  t44:=Tryz.underlying306
  a44:=Tryz.isAgg306
  z44:=Tryz.sizeOf306
  v44:=Tryz.zeroValue306
  t46:=Tryz.underlying141
  a46:=Tryz.isAgg141
  z46:=Tryz.sizeOf141
  v46:=Tryz.zeroValue141
  t53:=Tryz.underlying313
  a53:=Tryz.isAgg313
  z53:=Tryz.sizeOf313
  v53:=Tryz.zeroValue313
  t57:=Tryz.underlying317
  a57:=Tryz.isAgg317
  z57:=Tryz.sizeOf317
  v57:=Tryz.zeroValue317
  t63:=Tryz.underlying321
  a63:=Tryz.isAgg321
  z63:=Tryz.sizeOf321
  v63:=Tryz.zeroValue321
  t64:=Tryz.underlying293
  a64:=Tryz.isAgg293
  z64:=Tryz.sizeOf293
  v64:=Tryz.zeroValue293 }
open Go.RowKit Go.Maps Go.Sort Go.Shelf in
theorem Tryz.sorts61 (m:Nat):AnyZI.SortsIn Tryz.prog Tryz.sorted61_ren Fence.wide m:=
  ⟨λ blk off cap ss W hH hblk hsz=>callsIn_wide.2 (AnyM.slices_Sort_int Tryz.sort130 blk off cap ss W hH hblk hsz),
   λ p cap W=>callsIn_wide.2 (AnyM.slices_Sort_int_none Tryz.sort130 p cap W)⟩
def Tryz.collect129_ren:Go.Shelf.Ren:=⟨λ|8=>129|11=>206|n=>n,λ|26=>3|28=>116|24=>30|0=>0|33=>159|4=>4|n=>n,λ|n=>n⟩
theorem Tryz.collect129:Go.Proofs.SlLaysZI.n8 Tryz.prog Tryz.collect129_ren:={
  mixed:=by kernel_rfl
  f8:=⟨Tryz.f129.name,by decide,Tryz.func129.trans (congrArg some (by kernel_rfl))⟩
  f11:=⟨Tryz.f206.name,by decide,Tryz.func206.trans (congrArg some (by kernel_rfl))⟩
  t0:=Tryz.underlying0
  a0:=Tryz.isAgg0
  z0:=Tryz.sizeOf0
  v0:=Tryz.zeroValue0
  t24:=Tryz.underlying30
  a24:=Tryz.isAgg30
  z24:=Tryz.sizeOf30
  v24:=Tryz.zeroValue30
  t26:=Tryz.underlying3
  a26:=Tryz.isAgg3
  z26:=Tryz.sizeOf3
  v26:=Tryz.zeroValue3
  t28:=Tryz.underlying116
  a28:=Tryz.isAgg116
  z28:=Tryz.sizeOf116
  v28:=Tryz.zeroValue116
  i26:=by kernel_rfl }
def Tryz.keys209_ren:Go.Shelf.Ren:=⟨λ|7=>209|10=>271|n=>n,λ|23=>183|26=>3|3=>227|28=>116|0=>0|27=>115|33=>159|4=>4|n=>n,λ|n=>n⟩
theorem Tryz.keys209:Go.Proofs.SlLaysZI.n7 Tryz.prog Tryz.keys209_ren:={
  mixed:=by kernel_rfl
  f7:=⟨Tryz.f209.name,by decide,Tryz.func209.trans (congrArg some (by kernel_rfl))⟩
  f10:=⟨Tryz.f271.name,by decide,Tryz.func271.trans (congrArg some (by kernel_rfl))⟩
  t0:=Tryz.underlying0
  a0:=Tryz.isAgg0
  z0:=Tryz.sizeOf0
  v0:=Tryz.zeroValue0
  t4:=Tryz.underlying4
  a4:=Tryz.isAgg4
  z4:=Tryz.sizeOf4
  v4:=Tryz.zeroValue4
  t23:=Tryz.underlying183
  a23:=Tryz.isAgg183
  z23:=Tryz.sizeOf183
  v23:=Tryz.zeroValue183
  t26:=Tryz.underlying3
  a26:=Tryz.isAgg3
  z26:=Tryz.sizeOf3
  v26:=Tryz.zeroValue3
  t27:=Tryz.underlying115
  a27:=Tryz.isAgg115
  z27:=Tryz.sizeOf115
  v27:=Tryz.zeroValue115
  t28:=Tryz.underlying116
  a28:=Tryz.isAgg116
  z28:=Tryz.sizeOf116
  v28:=Tryz.zeroValue116
  t33:=Tryz.underlying159
  a33:=Tryz.isAgg159
  z33:=Tryz.sizeOf159
  v33:=Tryz.zeroValue159 }
open Go.RowKit Go.Maps Go.Sort Go.Shelf in
theorem Tryz.maps_Keys_209 (mb:Option Nat) (W:World):CallsIn Fence.wide 5 Tryz.prog 209 #[.map mb] W λ e w'=>e=.returned (.func (.func 271) #[] #[.pointer (some ⟨W.heap.size,0,none⟩)])/\w'=W.alloc (.cells #[.map mb] 183):=
  AnyZI.keys_in Tryz.keys209 Fence.wide 5 trivial rfl mb W
open Go.RowKit Go.Maps Go.Sort Go.Shelf in
theorem Tryz.slices_Sorted_keys_61_209 {H:Type} (b nn:Nat) (D0:DataW H) (R:Value->Option (DataW H × List MemPlace)) (w:World) (hown:w.ownsMap Tryz.prog 3 R b nn D0) (hmax:Maps.size D0<=maxLen) (hbytes:Maps.size D0 * 8<=140737488355328):
    CallsIn Fence.wide 5 Tryz.prog 61 #[.func (.func 271) #[] #[.pointer (some ⟨w.heap.size,0,none⟩)]] (w.alloc (.cells #[.map (some b)] 183)) λ e w'=>∃ (v:Value) (ss:List Int),e=.returned v/\ss.Perm (intKeys D0)/\
      w'.ownsRow (w.alloc (.cells #[.map (some b)] 183)).heap.size 3 1 v ss.length ((ss.mergeSort (λ x y=>decide (x<=y))).map encZ)/\(v=.slice none 0 0↔ss=[])/\Below (w.alloc (.cells #[.map (some b)] 183)).heap.size (w.alloc (.cells #[.map (some b)] 183)) w':=by
  have hbl:=hown.lt;have hseq:SeqGives Fence.wide 2 Tryz.prog 271 #[.pointer (some ⟨w.heap.size,0,none⟩)] encZ (λ ss=>ss.Perm (intKeys D0)) (Maps.size D0) (w.alloc (.cells #[.map (some b)] 183)):=
    AnyZI.keys_gives (ρ:=Tryz.keys209_ren) { Tryz.keys209 with } Fence.wide _ trivial rfl (by omega) w.heap.size b nn D0 _ (by simp) (by simp) (by
      obtain ⟨es,clock,hb,Ft,hs,hD⟩:=hown;exact ⟨es,clock,(Below.heap_alloc _ _ b hbl).trans hb,Ft,hs,hD⟩)
  exact AnyZI.sorted_in Tryz.sorted61 Fence.wide 5 trivial trivial trivial trivial rfl (by omega) (Tryz.sorts61 _) (enters_of Tryz.func130 (by kernel_rfl) rfl) 271 #[.pointer (some ⟨w.heap.size,0,none⟩)] trivial (enters_of Tryz.func271 (by kernel_rfl) rfl) _ _ hmax hbytes _ hseq
def Tryz.keys66_ren:Go.Shelf.Ren:=⟨λ|7=>66|10=>136|n=>n,λ|23=>78|26=>3|3=>86|28=>116|0=>0|27=>115|33=>159|4=>4|n=>n,λ|n=>n⟩
theorem Tryz.keys66:Go.Proofs.SlLaysZI.n7 Tryz.prog Tryz.keys66_ren:={
  mixed:=by kernel_rfl
  f7:=⟨Tryz.f66.name,by decide,Tryz.func66.trans (congrArg some (by kernel_rfl))⟩
  f10:=⟨Tryz.f136.name,by decide,Tryz.func136.trans (congrArg some (by kernel_rfl))⟩
  t0:=Tryz.underlying0
  a0:=Tryz.isAgg0
  z0:=Tryz.sizeOf0
  v0:=Tryz.zeroValue0
  t4:=Tryz.underlying4
  a4:=Tryz.isAgg4
  z4:=Tryz.sizeOf4
  v4:=Tryz.zeroValue4
  t23:=Tryz.underlying78
  a23:=Tryz.isAgg78
  z23:=Tryz.sizeOf78
  v23:=Tryz.zeroValue78
  t26:=Tryz.underlying3
  a26:=Tryz.isAgg3
  z26:=Tryz.sizeOf3
  v26:=Tryz.zeroValue3
  t27:=Tryz.underlying115
  a27:=Tryz.isAgg115
  z27:=Tryz.sizeOf115
  v27:=Tryz.zeroValue115
  t28:=Tryz.underlying116
  a28:=Tryz.isAgg116
  z28:=Tryz.sizeOf116
  v28:=Tryz.zeroValue116
  t33:=Tryz.underlying159
  a33:=Tryz.isAgg159
  z33:=Tryz.sizeOf159
  v33:=Tryz.zeroValue159 }
open Go.RowKit Go.Maps Go.Sort Go.Shelf in
theorem Tryz.maps_Keys_66 (mb:Option Nat) (W:World):CallsIn Fence.wide 5 Tryz.prog 66 #[.map mb] W λ e w'=>e=.returned (.func (.func 136) #[] #[.pointer (some ⟨W.heap.size,0,none⟩)])/\w'=W.alloc (.cells #[.map mb] 78):=
  AnyZI.keys_in Tryz.keys66 Fence.wide 5 trivial rfl mb W
open Go.RowKit Go.Maps Go.Sort Go.Shelf in
theorem Tryz.slices_Sorted_keys_61_66 {H:Type} (b nn:Nat) (D0:DataW H) (R:Value->Option (DataW H × List MemPlace)) (w:World) (hown:w.ownsMap Tryz.prog 3 R b nn D0) (hmax:Maps.size D0<=maxLen) (hbytes:Maps.size D0 * 8<=140737488355328):
    CallsIn Fence.wide 5 Tryz.prog 61 #[.func (.func 136) #[] #[.pointer (some ⟨w.heap.size,0,none⟩)]] (w.alloc (.cells #[.map (some b)] 78)) λ e w'=>∃ (v:Value) (ss:List Int),e=.returned v/\ss.Perm (intKeys D0)/\
      w'.ownsRow (w.alloc (.cells #[.map (some b)] 78)).heap.size 3 1 v ss.length ((ss.mergeSort (λ x y=>decide (x<=y))).map encZ)/\(v=.slice none 0 0↔ss=[])/\Below (w.alloc (.cells #[.map (some b)] 78)).heap.size (w.alloc (.cells #[.map (some b)] 78)) w':=by
  have hbl:=hown.lt;have hseq:SeqGives Fence.wide 2 Tryz.prog 136 #[.pointer (some ⟨w.heap.size,0,none⟩)] encZ (λ ss=>ss.Perm (intKeys D0)) (Maps.size D0) (w.alloc (.cells #[.map (some b)] 78)):=
    AnyZI.keys_gives (ρ:=Tryz.keys66_ren) { Tryz.keys66 with } Fence.wide _ trivial rfl (by omega) w.heap.size b nn D0 _ (by simp) (by simp) (by
      obtain ⟨es,clock,hb,Ft,hs,hD⟩:=hown;exact ⟨es,clock,(Below.heap_alloc _ _ b hbl).trans hb,Ft,hs,hD⟩)
  exact AnyZI.sorted_in Tryz.sorted61 Fence.wide 5 trivial trivial trivial trivial rfl (by omega) (Tryz.sorts61 _) (enters_of Tryz.func130 (by kernel_rfl) rfl) 136 #[.pointer (some ⟨w.heap.size,0,none⟩)] trivial (enters_of Tryz.func136 (by kernel_rfl) rfl) _ _ hmax hbytes _ hseq
def Tryz.keys82_ren:Go.Shelf.Ren:=⟨λ|7=>82|10=>147|n=>n,λ|23=>126|26=>3|3=>131|28=>116|0=>0|27=>115|33=>159|4=>4|n=>n,λ|n=>n⟩
theorem Tryz.keys82:Go.Proofs.SlLaysZI.n7 Tryz.prog Tryz.keys82_ren:={
  mixed:=by kernel_rfl
  f7:=⟨Tryz.f82.name,by decide,Tryz.func82.trans (congrArg some (by kernel_rfl))⟩
  f10:=⟨Tryz.f147.name,by decide,Tryz.func147.trans (congrArg some (by kernel_rfl))⟩
  t0:=Tryz.underlying0
  a0:=Tryz.isAgg0
  z0:=Tryz.sizeOf0
  v0:=Tryz.zeroValue0
  t4:=Tryz.underlying4
  a4:=Tryz.isAgg4
  z4:=Tryz.sizeOf4
  v4:=Tryz.zeroValue4
  t23:=Tryz.underlying126
  a23:=Tryz.isAgg126
  z23:=Tryz.sizeOf126
  v23:=Tryz.zeroValue126
  t26:=Tryz.underlying3
  a26:=Tryz.isAgg3
  z26:=Tryz.sizeOf3
  v26:=Tryz.zeroValue3
  t27:=Tryz.underlying115
  a27:=Tryz.isAgg115
  z27:=Tryz.sizeOf115
  v27:=Tryz.zeroValue115
  t28:=Tryz.underlying116
  a28:=Tryz.isAgg116
  z28:=Tryz.sizeOf116
  v28:=Tryz.zeroValue116
  t33:=Tryz.underlying159
  a33:=Tryz.isAgg159
  z33:=Tryz.sizeOf159
  v33:=Tryz.zeroValue159 }
open Go.RowKit Go.Maps Go.Sort Go.Shelf in
theorem Tryz.maps_Keys_82 (mb:Option Nat) (W:World):CallsIn Fence.wide 5 Tryz.prog 82 #[.map mb] W λ e w'=>e=.returned (.func (.func 147) #[] #[.pointer (some ⟨W.heap.size,0,none⟩)])/\w'=W.alloc (.cells #[.map mb] 126):=
  AnyZI.keys_in Tryz.keys82 Fence.wide 5 trivial rfl mb W
open Go.RowKit Go.Maps Go.Sort Go.Shelf in
theorem Tryz.slices_Sorted_keys_61_82 {H:Type} (b nn:Nat) (D0:DataW H) (R:Value->Option (DataW H × List MemPlace)) (w:World) (hown:w.ownsMap Tryz.prog 3 R b nn D0) (hmax:Maps.size D0<=maxLen) (hbytes:Maps.size D0 * 8<=140737488355328):
    CallsIn Fence.wide 5 Tryz.prog 61 #[.func (.func 147) #[] #[.pointer (some ⟨w.heap.size,0,none⟩)]] (w.alloc (.cells #[.map (some b)] 126)) λ e w'=>∃ (v:Value) (ss:List Int),e=.returned v/\ss.Perm (intKeys D0)/\
      w'.ownsRow (w.alloc (.cells #[.map (some b)] 126)).heap.size 3 1 v ss.length ((ss.mergeSort (λ x y=>decide (x<=y))).map encZ)/\(v=.slice none 0 0↔ss=[])/\Below (w.alloc (.cells #[.map (some b)] 126)).heap.size (w.alloc (.cells #[.map (some b)] 126)) w':=by
  have hbl:=hown.lt;have hseq:SeqGives Fence.wide 2 Tryz.prog 147 #[.pointer (some ⟨w.heap.size,0,none⟩)] encZ (λ ss=>ss.Perm (intKeys D0)) (Maps.size D0) (w.alloc (.cells #[.map (some b)] 126)):=
    AnyZI.keys_gives (ρ:=Tryz.keys82_ren) { Tryz.keys82 with } Fence.wide _ trivial rfl (by omega) w.heap.size b nn D0 _ (by simp) (by simp) (by
      obtain ⟨es,clock,hb,Ft,hs,hD⟩:=hown;exact ⟨es,clock,(Below.heap_alloc _ _ b hbl).trans hb,Ft,hs,hD⟩)
  exact AnyZI.sorted_in Tryz.sorted61 Fence.wide 5 trivial trivial trivial trivial rfl (by omega) (Tryz.sorts61 _) (enters_of Tryz.func130 (by kernel_rfl) rfl) 147 #[.pointer (some ⟨w.heap.size,0,none⟩)] trivial (enters_of Tryz.func147 (by kernel_rfl) rfl) _ _ hmax hbytes _ hseq
def Tryz.keys180_ren:Go.Shelf.Ren:=⟨λ|7=>180|10=>252|n=>n,λ|23=>184|26=>3|3=>3|28=>116|0=>0|27=>115|33=>159|4=>4|n=>n,λ|n=>n⟩
theorem Tryz.keys180:Go.Proofs.SlLaysZI.n7 Tryz.prog Tryz.keys180_ren:={
  mixed:=by kernel_rfl
  f7:=⟨Tryz.f180.name,by decide,Tryz.func180.trans (congrArg some (by kernel_rfl))⟩
  f10:=⟨Tryz.f252.name,by decide,Tryz.func252.trans (congrArg some (by kernel_rfl))⟩
  t0:=Tryz.underlying0
  a0:=Tryz.isAgg0
  z0:=Tryz.sizeOf0
  v0:=Tryz.zeroValue0
  t4:=Tryz.underlying4
  a4:=Tryz.isAgg4
  z4:=Tryz.sizeOf4
  v4:=Tryz.zeroValue4
  t23:=Tryz.underlying184
  a23:=Tryz.isAgg184
  z23:=Tryz.sizeOf184
  v23:=Tryz.zeroValue184
  t26:=Tryz.underlying3
  a26:=Tryz.isAgg3
  z26:=Tryz.sizeOf3
  v26:=Tryz.zeroValue3
  t27:=Tryz.underlying115
  a27:=Tryz.isAgg115
  z27:=Tryz.sizeOf115
  v27:=Tryz.zeroValue115
  t28:=Tryz.underlying116
  a28:=Tryz.isAgg116
  z28:=Tryz.sizeOf116
  v28:=Tryz.zeroValue116
  t33:=Tryz.underlying159
  a33:=Tryz.isAgg159
  z33:=Tryz.sizeOf159
  v33:=Tryz.zeroValue159 }
open Go.RowKit Go.Maps Go.Sort Go.Shelf in
theorem Tryz.maps_Keys_180 (mb:Option Nat) (W:World):CallsIn Fence.wide 5 Tryz.prog 180 #[.map mb] W λ e w'=>e=.returned (.func (.func 252) #[] #[.pointer (some ⟨W.heap.size,0,none⟩)])/\w'=W.alloc (.cells #[.map mb] 184):=
  AnyZI.keys_in Tryz.keys180 Fence.wide 5 trivial rfl mb W
open Go.RowKit Go.Maps Go.Sort Go.Shelf in
theorem Tryz.slices_Collect_keys_129_180 {H:Type} (b nn:Nat) (D0:DataW H) (R:Value->Option (DataW H × List MemPlace)) (w:World) (hown:w.ownsMap Tryz.prog 3 R b nn D0) (hmax:Maps.size D0<=maxLen) (hbytes:Maps.size D0 * 8<=140737488355328):
    CallsIn Fence.wide 4 Tryz.prog 129 #[.func (.func 252) #[] #[.pointer (some ⟨w.heap.size,0,none⟩)]] (w.alloc (.cells #[.map (some b)] 184)) λ e w'=>∃ (v:Value) (ss:List Int),e=.returned v/\ss.Perm (intKeys D0)/\
      w'.ownsRow (w.alloc (.cells #[.map (some b)] 184)).heap.size 3 1 v ss.length (ss.map encZ)/\(v=.slice none 0 0↔ss=[])/\Below (w.alloc (.cells #[.map (some b)] 184)).heap.size (w.alloc (.cells #[.map (some b)] 184)) w':=by
  have hbl:=hown.lt;have hseq:SeqGives Fence.wide 2 Tryz.prog 252 #[.pointer (some ⟨w.heap.size,0,none⟩)] encZ (λ ss=>ss.Perm (intKeys D0)) (Maps.size D0) (w.alloc (.cells #[.map (some b)] 184)):=
    AnyZI.keys_gives (ρ:=Tryz.keys180_ren) { Tryz.keys180 with } Fence.wide _ trivial rfl (by omega) w.heap.size b nn D0 _ (by simp) (by simp) (by
      obtain ⟨es,clock,hb,Ft,hs,hD⟩:=hown;exact ⟨es,clock,(Below.heap_alloc _ _ b hbl).trans hb,Ft,hs,hD⟩)
  exact AnyZI.collect_in Tryz.collect129 Fence.wide 4 trivial trivial rfl (by omega) 252 #[.pointer (some ⟨w.heap.size,0,none⟩)] trivial (enters_of Tryz.func252 (by kernel_rfl) rfl) _ _ hmax hbytes _ hseq
def Tryz.keys62_ren:Go.Shelf.Ren:=⟨λ|7=>62|10=>131|n=>n,λ|23=>77|26=>3|3=>97|28=>116|0=>0|27=>115|33=>159|4=>4|n=>n,λ|n=>n⟩
theorem Tryz.keys62:Go.Proofs.SlLaysZI.n7 Tryz.prog Tryz.keys62_ren:={
  mixed:=by kernel_rfl
  f7:=⟨Tryz.f62.name,by decide,Tryz.func62.trans (congrArg some (by kernel_rfl))⟩
  f10:=⟨Tryz.f131.name,by decide,Tryz.func131.trans (congrArg some (by kernel_rfl))⟩
  t0:=Tryz.underlying0
  a0:=Tryz.isAgg0
  z0:=Tryz.sizeOf0
  v0:=Tryz.zeroValue0
  t4:=Tryz.underlying4
  a4:=Tryz.isAgg4
  z4:=Tryz.sizeOf4
  v4:=Tryz.zeroValue4
  t23:=Tryz.underlying77
  a23:=Tryz.isAgg77
  z23:=Tryz.sizeOf77
  v23:=Tryz.zeroValue77
  t26:=Tryz.underlying3
  a26:=Tryz.isAgg3
  z26:=Tryz.sizeOf3
  v26:=Tryz.zeroValue3
  t27:=Tryz.underlying115
  a27:=Tryz.isAgg115
  z27:=Tryz.sizeOf115
  v27:=Tryz.zeroValue115
  t28:=Tryz.underlying116
  a28:=Tryz.isAgg116
  z28:=Tryz.sizeOf116
  v28:=Tryz.zeroValue116
  t33:=Tryz.underlying159
  a33:=Tryz.isAgg159
  z33:=Tryz.sizeOf159
  v33:=Tryz.zeroValue159 }
open Go.RowKit Go.Maps Go.Sort Go.Shelf in
theorem Tryz.maps_Keys_62 (mb:Option Nat) (W:World):CallsIn Fence.wide 5 Tryz.prog 62 #[.map mb] W λ e w'=>e=.returned (.func (.func 131) #[] #[.pointer (some ⟨W.heap.size,0,none⟩)])/\w'=W.alloc (.cells #[.map mb] 77):=
  AnyZI.keys_in Tryz.keys62 Fence.wide 5 trivial rfl mb W
open Go.RowKit Go.Maps Go.Sort Go.Shelf in
theorem Tryz.slices_Sorted_keys_61_62 {H:Type} (b nn:Nat) (D0:DataW H) (R:Value->Option (DataW H × List MemPlace)) (w:World) (hown:w.ownsMap Tryz.prog 3 R b nn D0) (hmax:Maps.size D0<=maxLen) (hbytes:Maps.size D0 * 8<=140737488355328):
    CallsIn Fence.wide 5 Tryz.prog 61 #[.func (.func 131) #[] #[.pointer (some ⟨w.heap.size,0,none⟩)]] (w.alloc (.cells #[.map (some b)] 77)) λ e w'=>∃ (v:Value) (ss:List Int),e=.returned v/\ss.Perm (intKeys D0)/\
      w'.ownsRow (w.alloc (.cells #[.map (some b)] 77)).heap.size 3 1 v ss.length ((ss.mergeSort (λ x y=>decide (x<=y))).map encZ)/\(v=.slice none 0 0↔ss=[])/\Below (w.alloc (.cells #[.map (some b)] 77)).heap.size (w.alloc (.cells #[.map (some b)] 77)) w':=by
  have hbl:=hown.lt;have hseq:SeqGives Fence.wide 2 Tryz.prog 131 #[.pointer (some ⟨w.heap.size,0,none⟩)] encZ (λ ss=>ss.Perm (intKeys D0)) (Maps.size D0) (w.alloc (.cells #[.map (some b)] 77)):=
    AnyZI.keys_gives (ρ:=Tryz.keys62_ren) { Tryz.keys62 with } Fence.wide _ trivial rfl (by omega) w.heap.size b nn D0 _ (by simp) (by simp) (by
      obtain ⟨es,clock,hb,Ft,hs,hD⟩:=hown;exact ⟨es,clock,(Below.heap_alloc _ _ b hbl).trans hb,Ft,hs,hD⟩)
  exact AnyZI.sorted_in Tryz.sorted61 Fence.wide 5 trivial trivial trivial trivial rfl (by omega) (Tryz.sorts61 _) (enters_of Tryz.func130 (by kernel_rfl) rfl) 131 #[.pointer (some ⟨w.heap.size,0,none⟩)] trivial (enters_of Tryz.func131 (by kernel_rfl) rfl) _ _ hmax hbytes _ hseq
end
end Go.Proofs
namespace Go.Proofs.YtlplemdmegpoeaaGreatDoor
section
open Go Go.VC Tryz
variable {R:Cx} {Hs Rest:List HP} {w:World}
theorem Zlz {m c:Nat} {l:List (En Int)} {es:List (Int × Value)} (hs:Zbp l=es) (hst:ZbZ l c) (hu:(es.map (·.1)).Nodup) (hn:∀ k∈es.map (·.1),-4611686018427387904<=k/\k<=4611686018427387904) (hlen:es.length<=1000000)
  (hm:w.heap[m]? =some (.map (l.map mkE).toArray c)):
  ∃ D0:DataW Unit,w.ownsMap prog 3 (λ _=>some (.nil,[])) m 1000000 D0/\Maps.size D0<=1000000/\∀ ss:List Int,ss.Perm (intKeys D0)->ss.Perm (es.map (·.1)):=by
 have hkeys:l.map (·.1)=es.map (·.1):=by rw [<-hs];simp [Zbp,Function.comp_def]
 have hlen2:l.length=es.length:=by have:=congrArg List.length hkeys;simpa using this
 have hkey:∀ e∈l,keyOf prog 3 (mkE e).key=some (.int .i64 e.1):=λ e he=>by
  have hm:e.1∈es.map (·.1):=by rw [<-hkeys];exact List.mem_map_of_mem he
  have hsz:=hn _ hm;have hwf:(Lit.int .i64 e.1).wf=true:=by
   have h1:IntKind.i64.min=-9223372036854775808:=by decide
   have h2:IntKind.i64.max=9223372036854775807:=by decide
   simp only [Lit.wf,Bool.and_eq_true,decide_eq_true_eq];omega
  simp only [keyOf,underlying3,mkE,mapKey,ZaW.enc];rw [if_pos ⟨trivial,hwf⟩]
 have hrd:∀ e∈l,WideElems.rd prog 3 (λ _=>some ((.nil:DataW Unit),[])) (mkE e)=some (.int .i64 e.1,.nil):=λ e he=>by
  unfold WideElems.rd;rw [hkey e he];rfl
 have hrg:((l.map mkE).map (WideElems.rg prog 3 (λ _=>some ((.nil:DataW Unit),[]))))=l.map λ e=>(.int .i64 e.1,.nil):=by
  rw [List.map_map];apply List.map_congr_left;intro e he;simp only [Function.comp,WideElems.rg,hrd e he,Option.getD_some]
 refine ⟨_,⟨(l.map mkE).toArray,c,hm,⟨by simp [maxLen];omega,?_,?_⟩,by simp;omega,rfl⟩,?_,?_⟩
 ·refine ⟨λ x hx=>?_,?_,?_⟩
  ·simp only [List.mem_map] at hx
   obtain ⟨e,he,rfl⟩:=hx;exact hst.1 e he
  ·have:=hst.2;simpa [mkE,Function.comp_def] using this
  ·have h2:(l.map (·.1)).Nodup:=by rw [hkeys];exact hu
   have e1:((l.map mkE).toArray.toList.map (·.key))=(l.map (·.1)).map (Value.int .i64):=by simp [mkE,Function.comp_def,ZaW.enc]
   rw [e1];exact List.Pairwise.map _ (λ a b hab h=>hab (by injection h)) h2
 ·intro x hx
  simp only [List.mem_map] at hx;obtain ⟨e,he,rfl⟩:=hx;exact ⟨_,hrd e he⟩
 ·simp only [Maps.size,hrg]
  rw [(WideShapes.sorted_perm _).length_eq];simp;omega
 ·intro ss hss
  refine hss.trans ?_;simp only [intKeys,hrg];refine ((WideShapes.sorted_perm _).map _).trans ?_;rw [List.map_map,<-hkeys];exact List.Perm.of_eq (List.map_congr_left λ e _=>rfl)
theorem Zfy {m c:Nat} {l:List (En Int)} {es:List (Int × Value)} (hs:Zbp l=es) (hst:ZbZ l c) (hu:(es.map (·.1)).Nodup) (hn:∀ k∈es.map (·.1),-1000000000<=k/\k<=1000000000) (hlen:es.length<=1000000)
  (hm:w.heap[m]? =some (.map (l.map mkE).toArray c)):
  ∃ D0:DataW Unit,w.ownsMap prog 3 (λ _=>some (.nil,[])) m 1000000 D0/\Maps.size D0<=1000000/\∀ ss:List Int,ss.Perm (intKeys D0)->ss.Perm (es.map (·.1)):=Zlz hs hst hu (λ k hk=>by have:=hn k hk;omega) hlen hm
end
section
open Go Go.VC Tryz
variable {R:Cx} {Hs Rest:List HP} {w:World}
def ZgI (l:List Int):List Int:=l.mergeSort λ x y=>decide (x<=y)
theorem Zdd {a b:List Int} (h:a.Perm b):ZgI a=ZgI b:=by
 have tr:∀ a b c:Int,decide (a<=b)=true->decide (b<=c)=true->decide (a<=c)=true:=λ a b c h1 h2=>by simp only [decide_eq_true_eq] at *;omega
 have to:∀ a b:Int,(decide (a<=b)||decide (b<=a))=true:=λ a b=>by simp only [Bool.or_eq_true,decide_eq_true_eq];omega
 have s1:=List.pairwise_mergeSort tr to a;have s2:=List.pairwise_mergeSort tr to b;have p:(a.mergeSort λ x y=>decide (x<=y)).Perm (b.mergeSort λ x y=>decide (x<=y)):=(List.mergeSort_perm a _).trans (h.trans (List.mergeSort_perm b _).symm);exact List.Perm.eq_of_pairwise (λ a b _ _ h1 h2=>by simp only [decide_eq_true_eq] at h1 h2;omega) s1 s2 p
theorem ZkO {m:Nat} {es:List (Int × Value)} {K:Sl->World->Prop} (hu:(es.map (·.1)).Nodup) (hn:∀ k∈es.map (·.1),-1000000000<=k/\k<=1000000000) (hlen:es.length<=1000000) (hw:Sat R (MapAt m es::Hs) w)
  (k:∀ s w',Sat R (Own s 3 (Zg (ZgI (es.map (·.1))))::MapAt m es::Hs) w'->K s w'):
  Calls prog 209 #[.map (some m)] w λ e w1=>∃ t:Value,e=.returned t/\Calls prog 61 #[t] w1 λ e w2=>∃ t:Sl,e=.returned (.slice t.a t.len t.cap)/\K t w2:=by
 obtain ⟨l,c,hs,hst,hp⟩:=MapAt.iff.1 hw;obtain ⟨D0,hown,hsz,hperm⟩:=Zfy hs hst hu hn hlen hp.at;refine (callsIn_wide.1 (Tryz.maps_Keys_209 (some m) w)).mono ?_;rintro _ _ ⟨rfl,rfl⟩;refine ⟨_,rfl,?_⟩;refine (callsIn_wide.1 (Tryz.slices_Sorted_keys_61_209 m _ D0 _ w hown (by unfold maxLen;omega) (by omega))).mono ?_;rintro _ w' ⟨v,ss,rfl,hS,hrow,hnil,hb⟩;have hw1:Sat R (MapAt m es::Hs) (w.alloc (.cells #[.map (some m)] 183)):=(Sat.alloc _ hw).drop;obtain ⟨s,rfl,h3⟩:=Sat.ownsRow hw1 hb hrow;refine ⟨s,rfl,k s _ ?_⟩;rw [<-Zdd (hperm ss hS)];exact h3
theorem Zkn {m:Nat} {es:List (Int × Value)} {S:World->Prop} {K:Sl->World->Prop} (hu:(es.map (·.1)).Nodup) (hn:∀ k∈es.map (·.1),-1000000000<=k/\k<=1000000000) (hlen:es.length<=1000000) (hw:Sat R (MapAt m es::Hs) w)
  (hS:∀ w',Sat R (MapAt m es::Hs) w'->S w')
  (k:∀ s ks w',ks.Perm (es.map (·.1))->Sat R (Own s 3 (Zg ks)::MapAt m es::Hs) w'->K s w'):
  Calls prog 180 #[.map (some m)] w λ e w1=>∃ t:Value,e=.returned t/\S w1/\Calls prog 129 #[t] w1 λ e w2=>∃ t:Sl,e=.returned (.slice t.a t.len t.cap)/\S w2/\K t w2:=by
 obtain ⟨l,c,hs,hst,hp⟩:=MapAt.iff.1 hw;obtain ⟨D0,hown,hsz,hperm⟩:=Zfy hs hst hu hn hlen hp.at;refine (callsIn_wide.1 (Tryz.maps_Keys_180 (some m) w)).mono ?_;rintro _ _ ⟨rfl,rfl⟩;have hw1:Sat R (MapAt m es::Hs) (w.alloc (.cells #[.map (some m)] 184)):=(Sat.alloc _ hw).drop;refine ⟨_,rfl,hS _ hw1,?_⟩;refine (callsIn_wide.1 (Tryz.slices_Collect_keys_129_180 m _ D0 _ w hown (by unfold maxLen;omega) (by omega))).mono ?_;rintro _ w' ⟨v,ss,rfl,hS2,hrow,hnil,hb⟩;obtain ⟨s,rfl,h3⟩:=Sat.ownsRow hw1 hb hrow;exact ⟨s,rfl,hS _ h3.drop,k s ss _ (hperm ss hS2) h3⟩
end
section
open Go Go.VC Tryz
variable {R:Cx} {Hs Rest:List HP} {w:World}
theorem ZpJ {n:Int} {g a b:List Int} {many:Int} (h:a.Perm b):Zaq n g a many=Zaq n g b many:=by
 have:Zbc a=Zbc b:=by
  funext j
  unfold Zbc;rw [decide_eq_decide];exact h.mem_iff
 unfold Zaq;rw [this]
theorem Zpo {u:Nat->Bool} {N i j:Nat} (hj:j<(Zay u N).length) (hij:i<j):(Zay u N)[i]<(Zay u N)[j]:=by
 have h1:=Zj8 (List.getElem?_eq_getElem (show i<(Zay u N).length by omega));have h2:=Zj8 (List.getElem?_eq_getElem hj);by_cases h:(Zay u N)[i]<(Zay u N)[j]
 ·exact h
 ·exfalso
  have h3:=Zsh (u:=u) (j:=(Zay u N)[j]) ((Zay u N)[i] - (Zay u N)[j]);rw [show (Zay u N)[j] + ((Zay u N)[i] - (Zay u N)[j])=(Zay u N)[i] by omega,h1.2.2,h2.2.2] at h3;omega
theorem Zm5 (u z:Nat->Bool) (N many:Nat):(∃ k,(ZeN u z N many).1=Zkx k many)\/(ZeN u z N many).1=[]\/(ZeN u z N many).1=(Zay u N).take many:=by
 unfold ZeN;split
 ·exact .inl ⟨_,rfl⟩
 ·split
  ·exact .inr (.inl rfl)
  ·exact .inr (.inr rfl)
theorem ZkZ {l:List Nat} (h:∀ i j (hj:j<l.length) (hij:i<j),l[i]<l[j]):ZpS (l.map λ (j:Nat)=>(j:Int)):=λ i j hj hij=>by
 rw [List.length_map] at hj;simp only [List.getElem_map];have:=h i j hj hij;omega
theorem Zl2 {n:Int} {g taken:List Int} {many:Int}:ZpS (Zaq n g taken many).1:=by
 unfold Zaq;split
 ·intro i j hj hij;simp at hj
 ·dsimp only
  rcases Zm5 (Zbc taken) (zF g) (Za5 n g).toNat many.toNat with ⟨k,h⟩|h|h
  ·rw [h]
   exact ZkZ λ i j hj hij=>by simp only [Zkx,List.getElem_map,List.getElem_range];omega
  ·rw [h];intro i j hj hij;simp at hj
  ·rw [h]
   exact ZkZ λ i j hj hij=>by
    rw [List.length_take] at hj;simp only [List.getElem_take];exact Zpo (by omega) hij
theorem Zu4 {n:Int} {g taken:List Int} {many:Int}:(Zaq n g taken many).1.length<=600:=by
 have hb:=Zc7 n g;unfold Zaq;split
 ·simp
 rename_i hm;simp only [List.length_map];unfold ZeN;split
 ·rw [ZgR];omega
 ·split
  ·simp
  ·simp only [List.length_take];omega
theorem ZgW {n:Int}:∀ {l:List Int},(∀ x∈l,x<n)->Zga n l=l++[n]
 |[],_=>rfl
 |x::l,h=>by
  unfold Zga;rw [if_pos (h x List.mem_cons_self),ZgW λ y hy=>h y (List.mem_cons_of_mem _ hy)];rfl
theorem ZqO {l:List Int} (h:ZpS l) (j:Nat):ZpS (l.take j):=λ i k hk hik=>by
 rw [List.length_take] at hk;simp only [List.getElem_take];exact h i k (by omega) hik
theorem ZtO {l:List Int} (h:ZpS l) {j:Nat} (hj:j<l.length):Zga l[j] (l.take j)=l.take (j + 1):=by
 rw [ZgW,List.take_add_one,List.getElem?_eq_getElem hj,Option.toList_some];intro x hx;obtain ⟨i,hi,rfl⟩:=List.getElem_of_mem hx;rw [List.length_take] at hi;rw [List.getElem_take];exact h i j hj (by omega)
def ZdT (o:Int) (l:List Int) (own:List (Int × Int)):List (Int × Int):=l.foldl (λ p n=>Zci n o p) own
def ZgO (f:PF) (owner:Int):PF × List ByteArray × Int:=
 match ZD owner f.hs with
 |none=>(f,[],2)
 |some h=>if h.seats.length>0 then (f,[],7)
  else ({ f with hs:=ZeG owner { h with seats:=(Zaq f.rows f.grps (f.own.map (·.1)) h.many).1 } f.hs,own:=ZdT h.owner (Zaq f.rows f.grps (f.own.map (·.1)) h.many).1 f.own },
   ZdM f.rows f.grps (Zaq f.rows f.grps (f.own.map (·.1)) h.many).1,(Zaq f.rows f.grps (f.own.map (·.1)) h.many).2)
theorem ZpK {p:Nat} {f:PF} {owner:Int} (hgl:f.grps.length<=1000) (hu:(f.own.map (·.1)).Nodup) (hk:∀ k∈f.own.map (·.1),-1000000000<=k/\k<=1000000000) (hol:f.own.length<=1000000) (hw:Sat R (Zn p f::Hs) w):
  Zo prog 107 #[.pointer (some ⟨p,0,none⟩),.int .i64 owner] w λ v w'=>∃ t:Sl,v=.tuple #[.slice t.a t.len t.cap,.int .i64 (ZgO f owner).2.2]/\Sat R (Own t 9 ((ZgO f owner).2.1.map Value.string)::Zn p (ZgO f owner).1::Hs) w':=by
 obtain ⟨hm,om,sg,sl,ss,E,R',hE,_,rg,_,_,hw,back⟩:=Sat.flightO hw;have rgo:RoI R' sg f.grps:=rg.ro (by rw [List.length_map];omega);apply ZyR;refine Zd.mk rfl ⟨some hm,oA hw,(ZD owner E).map (λ x=>⟨x.1,0,none⟩),(ZD owner E).isSome,λ w' e=>by rw [show w'=w from e];exact ZcF (hw.take (MapAt hm (ZZ E))) owner true,?_⟩
 cases hget:ZD owner E with
 |none=>
  have e:ZgO f owner=(f,[],2):=by unfold ZgO;rw [<-hE,Zbk,hget];rfl
  rw [e];exact Br.t rfl ⟨⟨none,0,0⟩,rfl,Own.nil (Sat.flightC hE (back _ _ hw))⟩
 |some x=>
  obtain ⟨b,h⟩:=x;have hgf:ZD owner f.hs=some h:=by rw [<-hE,Zbk,hget];rfl
  obtain ⟨a,c,rfl,hna⟩:=Zar hget;refine Br.f rfl (Zd.mk rfl ?_);obtain ⟨s,hw⟩:=FO.open hw;have hsl:=Own.len (hw.take (Own s 3 (Zg h.seats)));rw [List.length_map] at hsl;refine ⟨s,oA hw,Br.d (λ h1=>?_) (λ h1=>?_)⟩
  ·have e:ZgO f owner=(f,[],7):=by unfold ZgO;rw [hgf];dsimp only;rw [if_pos (by omega)]
   rw [e];exact ⟨⟨none,0,0⟩,rfl,Own.nil (Sat.flightC hE (back _ _ (FO.close hw)))⟩
  have hse:h.seats=[]:=List.length_eq_zero_iff.1 (by omega);have e:ZgO f owner=({ f with hs:=ZeG owner { h with seats:=(Zaq f.rows f.grps (f.own.map (·.1)) h.many).1 } f.hs,own:=ZdT h.owner (Zaq f.rows f.grps (f.own.map (·.1)) h.many).1 f.own },
   ZdM f.rows f.grps (Zaq f.rows f.grps (f.own.map (·.1)) h.many).1,(Zaq f.rows f.grps (f.own.map (·.1)) h.many).2):=by unfold ZgO;rw [hgf];dsimp only;rw [if_neg (by omega)]
  rw [e];refine Zu hw λ w hw=>?_;refine Zd.mk rfl ⟨f.rows,sg,At.own Zhj (by exact ⟨rfl,rfl,trivial⟩),Zd.mk rfl ⟨some om,oS,Zd.mk rfl ⟨h.many,oS,?_⟩⟩⟩;have hown:(Zbj f.own).map (·.1)=f.own.map (·.1):=by simp [Zbj,Function.comp_def]
  refine Zkn (es:=Zbj f.own) (by rw [hown];exact hu) (by rw [hown];exact hk) (by rw [List.length_map];exact hol) (hw.take (MapAt om (Zbj f.own)))
   (λ w' h5=>((((h5.take (MapAt hm (ZZ (a++(owner,b,h)::c)))).take (pts p (Z2 f sg sl ss hm om))).take (ZO (a++c))).take (Own s 3 (Zg h.seats))).take (pts b (ZT h s))|>.perm (by
    refine List.Perm.cons _ (List.Perm.cons _ (List.Perm.cons _ (List.Perm.cons _ (List.Perm.refl _))))))
   λ tk ks w hks hw=>?_
  rw [hown] at hks;obtain ⟨R2,hro,hmono,hw2,back2⟩:=Own.lend hw (by rw [List.length_map];have:=hks.length_eq;rw [List.length_map] at this;omega);refine (Zs6 (taken:=ks) (hmono _ _ rgo) hro hw2).use ?_;clear hw hw2;rintro _ w ⟨t,rfl,hw⟩;have hw:=(back2 hw).drop;rw [ZpJ hks] at hw ⊢;have hri:=Zl2 (n:=f.rows) (g:=f.grps) (taken:=f.own.map (·.1)) (many:=h.many);have hln:=Zu4 (n:=f.rows) (g:=f.grps) (taken:=f.own.map (·.1)) (many:=h.many);generalize Zaq f.rows f.grps (f.own.map (·.1)) h.many=r at *;refine ⟨_,_,rfl,?_,?_⟩
  ·exact ((((hw.drop.take (MapAt hm (ZZ (a++(owner,b,h)::c)))).take (pts p (Z2 f sg sl ss hm om))).take (ZO (a++c))).take (Own s 3 (Zg h.seats))).take (pts b (ZT h s))|>.perm (by
    refine List.Perm.cons _ (List.Perm.cons _ (List.Perm.cons _ (List.Perm.cons _ (List.Perm.refl _)))))
  obtain ⟨R3,e3,ht,hw,back3⟩:=ZM.out hw;have hto:RoI R3 t r.1:=ht.ro (by rw [List.length_map];omega);have htl:=hto.len;have hw:Sat R3 (FO p hm om sg sl ss (a++(owner,b,h)::c) f Hs) w:=FO.close (((((hw.take (MapAt hm (ZZ (a++(owner,b,h)::c)))).take (pts p (Z2 f sg sl ss hm om))).take (ZO (a++c))).take (Own s 3 (Zg h.seats))).take (pts b (ZT h s))|>.perm (by
    refine List.Perm.cons _ (List.Perm.cons _ (List.Perm.cons _ (List.Perm.cons _ (List.Perm.refl _))))))
  refine ⟨λ i w=>∃ j:Nat,i=j/\j<=r.1.length/\Sat R3 (FO p hm om sg sl ss (a++(owner,b,{ h with seats:=r.1.take j })::c) { f with own:=ZdT h.owner (r.1.take j) f.own } Hs) w,λ i _=>r.1.length - i.toNat,⟨0,rfl,by omega,?_⟩,?_⟩
  ·have eh:({ h with seats:=r.1.take 0 }:ZJ)=h:=by rw [List.take_zero,<-hse]
   rw [eh];exact hw
  clear hw;rintro _ _ w ⟨j,rfl,hj,hw⟩;refine Br.d (λ h2=>?_) (λ h2=>?_)
  ·have hj2:j<r.1.length:=by omega
   refine Ro.ix hto (eqS hw) j rfl hj2 ?_;refine (Zg9 (h:={ h with seats:=r.1.take j }) (ZqO hri j) (by simp only [List.length_take];omega) hw).use ?_;rintro _ w ⟨rfl,hw⟩;rw [Zl (by omega) (by omega)];refine ⟨rfl,⟨j + 1,by omega,by omega,?_⟩,by dsimp only;omega⟩;have eh:ZJ.put { h with seats:=r.1.take j } r.1[j]={ h with seats:=r.1.take (j + 1) }:=by unfold ZJ.put;rw [ZtO hri hj2]
   have eo:Zci r.1[j] h.owner (ZdT h.owner (r.1.take j) f.own)=ZdT h.owner (r.1.take (j + 1)) f.own:=by
    unfold ZdT;rw [List.take_add_one,List.getElem?_eq_getElem hj2,Option.toList_some,List.foldl_append];rfl
   rw [eh] at hw;rw [<-eo];exact hw
  ·rw [List.take_of_length_le (by omega)] at hw
   refine (ZhK (f:=f) (hm:=hm) (om:=om) (sg:=sg) (sl:=sl) (ss:=ss) (e3.ro rgo) hto (by omega) hw).use ?_;rintro _ w ⟨t2,rfl,hw⟩;refine ⟨t2,rfl,t2,rfl,?_⟩;have hw:=(back3 _ _ hw).drop;have hw:=back _ _ hw;refine Sat.cons (λ R5 h5=>?_) (hw.take (Own t2 9 ((ZdM f.rows f.grps r.1).map Value.string)));refine Sat.flight.2 ⟨hm,om,sg,sl,ss,a++(owner,b,{ h with seats:=r.1 })::c,?_,h5⟩;show _=ZeG owner _ f.hs;rw [<-hE,ZcG,ZcG,Zff (by rw [Zbk,hna];rfl) (Ze3 owner)]
end
section
open Go Go.VC Tryz
variable {R:Cx} {Hs Rest:List HP} {w:World}
theorem ZjZ (n:Int):∀ l:List Int,(Zga n l).length=l.length + 1
 |[]=>rfl
 |x::l=>by
  unfold Zga;split
  ·simp only [List.length_cons,ZjZ n l]
  ·rfl
end
end Go.Proofs.YtlplemdmegpoeaaGreatDoor

namespace Go.Proofs.YtlplemdmegpoeaaGreatDoor
section
open Go Go.VC Tryz
variable {R:Cx} {Hs Rest:List HP} {w:World}
def Zm (l:List Int):List Int:=(l.map λ x=>Zf4 x.toNat).flatten
theorem Zo1 {l:List Int} {k:Nat} (hk:k<l.length):Zm (l.take (k + 1))=Zm (l.take k)++Zf4 l[k].toNat:=by
 unfold Zm;rw [List.take_add_one,List.getElem?_eq_getElem hk,List.map_append,List.flatten_append];simp only [Option.toList_some,List.map_cons,List.map_nil,List.flatten_cons,List.flatten_nil,List.append_nil]
theorem ZX:∀ {l:List Int},(∀ x∈l,0<=x/\x<18446744073709551616)->(Zm l).length<=9 * l.length
 |[],_=>by simp [Zm]
 |x::l,h=>by
  have h1:=h x (List.mem_cons_self ..);have:=Zbx (n:=x.toNat) (by omega);have h2:=ZX (l:=l) λ y hy=>h y (List.mem_cons_of_mem _ hy);unfold Zm at h2 ⊢;rw [List.map_cons,List.flatten_cons,List.length_append,List.length_cons];omega
theorem ZbW:∀ {l:List Int},(∀ x∈l,0<=x/\x<18446744073709551616)->∀ y∈Zm l,0<=y/\y<256
 |[],_=>by simp [Zm]
 |x::l,h=>λ y hy=>by
  have h1:=h x (List.mem_cons_self ..);unfold Zm at hy;rw [List.map_cons,List.flatten_cons,List.mem_append] at hy;rcases hy with hy|hy
  ·exact ZjF (n:=x.toNat) (by omega) y hy
  ·exact ZbW (λ y hy=>h y (List.mem_cons_of_mem _ hy)) y hy
theorem Zhv (a b:List Int):Zm (a++b)=Zm a++Zm b:=by simp [Zm]
def ZgF (p:Nat) (bs:List Int):HP:=exs λ s:Sl=>ZaI [lp p s,Own s 5 (b8 bs)]
theorem Sat.outB {p:Nat} {bs:List Int}:Sat R (ZgF p bs::Hs) w↔∃ s:Sl,Sat R (lp p s::Own s 5 (b8 bs)::Hs) w:=by
 unfold ZgF;rw [Sat.exs];exact ⟨λ⟨s,h⟩=>⟨s,Sat.star.1 h⟩,λ⟨s,h⟩=>⟨s,Sat.star.2 h⟩⟩
theorem Zwa {f:FuncId} {p:Nat} {s:Sl} {xs bs:List Int} (hxs:∀ x∈xs,0<=x/\x<9223372036854775808) (hl:bs.length + 9 * xs.length<=1099511627776) (hs:RoI R s xs) (hw:Sat R (ZgF p bs::Hs) w)
  (hf:∀ {K:Value->World->Prop} {w:World},B132 s (some ⟨p,0,none⟩) K w->Zo prog f #[.slice s.a s.len s.cap,.pointer (some ⟨p,0,none⟩)] w K):
  Zo prog f #[.slice s.a s.len s.cap,.pointer (some ⟨p,0,none⟩)] w λ v w'=>v=.tuple #[]/\Sat R (ZgF p (bs++Zm xs)::Hs) w':=by
 have hlen:=hs.len;apply hf;refine ⟨λ i w=>∃ k:Nat,i=k/\k<=xs.length/\Sat R (ZgF p (bs++Zm (xs.take k))::Hs) w,λ i _=>xs.length - i.toNat,⟨0,rfl,by omega,by simpa [Zm] using hw⟩,?_⟩;clear hw;rintro _ _ w ⟨k,rfl,hk,hw⟩;refine Br.d (λ h=>?_) (λ h=>?_)
 ·have hkx:k<xs.length:=by omega
  have hx:=hxs xs[k] (List.getElem_mem _);have hxt:∀ x∈xs.take k,0<=x/\x<18446744073709551616:=λ x hx=>by have:=hxs x (List.mem_of_mem_take hx);omega
  have hnl:=ZX hxt;rw [List.length_take] at hnl;refine hs.idx (eqS hw) hkx ?_;obtain ⟨s0,hw⟩:=Sat.outB.1 hw;refine Zbf hw λ w hw=>?_;refine Zd.mk rfl ⟨s0,oS,?_⟩;obtain ⟨n,hn⟩:=Int.eq_ofNat_of_zero_le hx.1;rw [hn,Zax (by omega) (by omega)];refine (ZbR (by omega) hw).use ?_;rintro _ w ⟨t,rfl,hw⟩;refine ⟨t,rfl,hw.absorb,?_⟩;have hw:Sat R (Own s0 5 (b8 (bs++Zm (xs.take k)))::Own t 5 (b8 (Zf4 n))::lp p s0::VC.tru::Hs) w:=hw.arr;have hnb:=Zbx (n:=n) (by omega);refine ZfP Zvt (s:=s0) (n:=1099511627790) underlying47 hw (by rw [List.length_append];omega) (by omega) (by omega) λ s2 w hw=>?_;have hw:Sat R (lp p s0::Own s2 5 (b8 (bs++Zm (xs.take k)++Zf4 n))::Hs) w:=by
   have h:Sat R (Own t 5 (b8 (Zf4 n))::VC.tru::lp p s0::Own s2 5 (b8 (bs++Zm (xs.take k)++Zf4 n))::Hs) w:=hw.arr;exact h.drop.drop
  refine Za hw (by kernel_rfl) rfl (by simp [Value.cells]) λ w hw=>?_;have hw:=hw.re (lp p s2);rw [Zl (by omega) (by omega)];refine ⟨⟨k + 1,by omega,by omega,Sat.outB.2 ⟨s2,?_⟩⟩,by dsimp only;omega⟩;rw [Zo1 hkx,hn,Int.toNat_natCast,<-List.append_assoc];exact hw
 ·have:k=xs.length:=by omega
  subst this;rw [List.take_length] at hw;exact ⟨rfl,hw⟩
theorem ZlK {p:Nat} {s:Sl} {xs bs:List Int} (hxs:∀ x∈xs,0<=x/\x<9223372036854775808) (hl:bs.length + 9 * xs.length<=1099511627776) (hs:RoI R s xs) (hw:Sat R (ZgF p bs::Hs) w):
  Zo prog 132 #[.slice s.a s.len s.cap,.pointer (some ⟨p,0,none⟩)] w λ v w'=>v=.tuple #[]/\Sat R (ZgF p (bs++Zm xs)::Hs) w':=
 Zwa hxs hl hs hw λ h=>ZyL _ _ _ _ h
end
section
open Go Go.VC Tryz
variable {R:Cx} {Hs Rest:List HP} {w:World}
def ZqN (h:ZJ) (t:Sl):List Value:=[.int .i64 h.owner,.int .i64 h.cls,.int .i64 h.many,.slice t.a t.len t.cap]
def Zfi (L:List ZJ) (ts:List Sl):List (List Value):=(L.zip ts).map λ x=>ZqN x.1 x.2
def ZdO (L:List ZJ) (ts:List Sl):List HP:=(L.zip ts).map λ x=>ZM x.2 (Zg x.1.seats)
def ZaU (s:Sl) (L:List ZJ):HP:=exs λ ts:List Sl=>ZaI (pur (ts.length=L.length)::ZP 4 s 197 (Zfi L ts)::ZdO L ts)
theorem Sat.holdsL {s:Sl} {L:List ZJ}:Sat R (ZaU s L::Hs) w↔∃ ts:List Sl,ts.length=L.length/\Sat R (ZP 4 s 197 (Zfi L ts)::(ZdO L ts++Hs)) w:=by
 unfold ZaU;rw [Sat.exs];constructor
 ·rintro ⟨ts,h⟩
  obtain ⟨h1,h2⟩:=Sat.pur.1 (Sat.star.1 h);exact ⟨ts,h1,h2⟩
 ·rintro ⟨ts,h1,h2⟩
  exact ⟨ts,Sat.star.2 (Sat.pur.2 ⟨h1,h2⟩)⟩
structure HsR (R:Cx) (s:Sl) (L:List ZJ) (ts:List Sl):Prop where
 len:ts.length=L.length
 rows:RoN 4 R s (Zfi L ts)
 seats:∀ i (h:i<L.length) (h':i<ts.length),SlR R.m ts[i] (Zg L[i].seats)
theorem Ziz:∀ {L:List ZJ} {ts:List Sl} {R:Cx},ts.length=L.length->Sat R (ZdO L ts++Hs) w->∃ R':Cx,R.Ext R'/\(∀ i (h:i<L.length) (h':i<ts.length),SlR R'.m ts[i] (Zg L[i].seats))/\Sat R' Hs w
 |[],_,R,_,hw=>⟨R,Cx.Ext.refl,λ i h=>by simp at h,by simpa [ZdO] using hw⟩
 |h::L,[],R,hl,_=>by simp at hl
 |h::L,t::ts,R,hl,hw=>by
  have hw:Sat R (ZM t (Zg h.seats)::(ZdO L ts++Hs)) w:=hw;obtain ⟨R1,e1,s1,hw⟩:=ZM.leak hw;obtain ⟨R2,e2,s2,hw⟩:=Ziz (by simpa using hl) hw;refine ⟨R2,e1.trans e2,λ i h h'=>?_,hw⟩;rcases i with _|i
  ·exact e2.slR s1
  ·exact s2 i (by simpa using h) (by simpa using h')
theorem ZaU.leak {s:Sl} {L:List ZJ} (hw:Sat R (ZaU s L::Hs) w):∃ (R':Cx) (ts:List Sl),R.Ext R'/\HsR R' s L ts/\Sat R' Hs w:=by
 obtain ⟨ts,hl,hw⟩:=Sat.holdsL.1 hw;obtain ⟨R1,e1,hr,hw⟩:=ZP.leak hw;obtain ⟨R2,e2,hs,hw⟩:=Ziz hl hw;exact ⟨R2,ts,e1.trans e2,⟨hl,e2.roN hr,hs⟩,hw⟩
end
section
open Go Go.VC Tryz
variable {R:Cx} {Hs Rest:List HP} {w:World}
theorem ZdQ {L:List ZJ} {ts:List Sl} (h:ts.length=L.length):(Zfi L ts).length=L.length:=by simp [Zfi,h]
theorem ZtN {L:List ZJ} {ts:List Sl} {k:Nat} (h:k<L.length) (h':k<ts.length) (h2:k<(Zfi L ts).length):(Zfi L ts)[k]=ZqN L[k] ts[k]:=by simp [Zfi]
def ZzM (a b:ZJ):Prop:=a.owner=b.owner/\a.cls=b.cls/\a.many=b.many/\a.seats=b.seats
theorem Zut {a b:ZJ} (h:ZzM a b):a=b:=by
 obtain ⟨h1,h2,h3,h4⟩:=h;cases a;cases b;simp_all
instance:DecidableEq ZJ:=λ a b=>decidable_of_iff (a.owner=b.owner/\a.cls=b.cls/\a.many=b.many/\a.seats=b.seats) ⟨Zut,λ h=>by subst h;exact ⟨rfl,rfl,rfl,rfl⟩⟩
end
section
open Go Go.VC Tryz
variable {R:Cx} {Hs Rest:List HP} {w:World}
structure RF where
 num:Int
 rows:Int
 grps:List Int
 lims:List Int
 L:List ZJ
end
section
open Go Go.VC Tryz
def Zgm (k:Int):List ZJ->Int
 |[]=>0
 |h::L=>(if h.cls=k then h.many else 0) + Zgm k L
def Zal (n:Nat) (L:List ZJ):List Int:=(List.range n).map λ (k:Nat)=>Zgm (k:Int) L
def ZV (L:List ZJ):List Int:=L.flatMap ZJ.seats
theorem Zd8 (k:Int) (h:ZJ) (L:List ZJ):Zgm k (h::L)=(if h.cls=k then h.many else 0) + Zgm k L:=rfl
theorem ZeA (k:Int):∀ A B:List ZJ,Zgm k (A++B)=Zgm k A + Zgm k B
 |[],B=>by simp [Zgm]
 |h::A,B=>by simp only [List.cons_append,Zgm,ZeA k A B];omega
theorem Zdm {k:Int} {A B:List ZJ} (h:A.Perm B):Zgm k A=Zgm k B:=by
 induction h with
 |nil=>rfl
 |cons x _ ih=>simp only [Zgm,ih]
 |swap x y l=>simp only [Zgm];exact Int.add_left_comm _ _ _
 |trans _ _ a b=>exact a.trans b
theorem Zbu (n:Nat) (L:List ZJ):(Zal n L).length=n:=by simp [Zal]
theorem ZdN {n k:Nat} {L:List ZJ} (h:k<(Zal n L).length):(Zal n L)[k]=Zgm (k:Int) L:=by simp [Zal]
theorem ZbM {n k:Nat} {L:List ZJ} (h:k<n):(Zal n L).getD k 0=Zgm (k:Int) L:=by
 rw [List.getD_eq_getElem?_getD,List.getElem?_eq_getElem (by rw [Zbu];exact h),ZdN];rfl
theorem ZkP {n:Nat} {L L':List ZJ} {c:Int} {x:Int} (h0:0<=c) (h1:c<n) (hc:Zgm c L'=x) (ho:∀ k:Nat,(k:Int)≠c->Zgm (k:Int) L'=Zgm (k:Int) L):(Zal n L).set c.toNat x=Zal n L':=by
 apply List.ext_getElem
 ·simp [Zal]
 ·intro i h2 h3
  rw [List.getElem_set];split
  ·rename_i e
   rw [ZdN];rw [<-hc]
   congr 1
   omega
  ·rename_i e
   rw [ZdN,ZdN];exact (ho i (by omega)).symm
theorem Zfc {n:Nat} {h:ZJ} {L L':List ZJ} (p:L'.Perm (h::L)) (h0:0<=h.cls) (h1:h.cls<n):(Zal n L).set h.cls.toNat ((Zal n L).getD h.cls.toNat 0 + h.many)=Zal n L':=by
 refine ZkP h0 h1 ?_ λ k hk=>?_
 ·rw [ZbM (by omega),Zdm p,show ((h.cls.toNat:Nat):Int)=h.cls by omega]
  rw [Zd8,if_pos rfl];omega
 ·rw [Zdm p]
  show (if h.cls=(k:Int) then h.many else 0) + Zgm (k:Int) L=_
  rw [if_neg (λ e=>hk e.symm)];omega
theorem Zqt {n:Nat} {h:ZJ} {L L':List ZJ} (p:L'.Perm (h::L)) (h0:0<=h.cls) (h1:h.cls<n):(Zal n L').set h.cls.toNat ((Zal n L').getD h.cls.toNat 0 - h.many)=Zal n L:=by
 refine ZkP h0 h1 ?_ λ k hk=>?_
 ·rw [ZbM (by omega),Zdm p,show ((h.cls.toNat:Nat):Int)=h.cls by omega]
  show _=(if h.cls=h.cls then h.many else 0) + Zgm h.cls L - h.many
  rw [if_pos rfl];omega
 ·rw [Zdm p]
  show _=(if h.cls=(k:Int) then h.many else 0) + Zgm (k:Int) L
  rw [if_neg (λ e=>hk e.symm)];omega
def Zcg (o:Int):List ZJ->Option ZJ
 |[]=>none
 |h::L=>if h.owner=o then some h else Zcg o L
def ZqA (o:Int) (h':ZJ):List ZJ->List ZJ
 |[]=>[]
 |h::L=>if h.owner=o then h'::L else h::ZqA o h' L
def Zvu (o:Int):List ZJ->List ZJ
 |[]=>[]
 |h::L=>if h.owner=o then L else h::Zvu o L
def ZlC (h:ZJ):List ZJ->List ZJ
 |[]=>[h]
 |x::L=>if x.owner<h.owner then x::ZlC h L else h::x::L
theorem ZaF (o:Int) (h:ZJ) (L:List ZJ):Zcg o (h::L)=if h.owner=o then some h else Zcg o L:=rfl
theorem Zcb {o:Int}:∀ {L:List ZJ},Zcg o L=none↔∀ h∈L,h.owner≠o
 |[]=>by simp [Zcg]
 |h::L=>by
  rw [ZaF];constructor
  ·intro e x hx
   split at e
   ·cases e
   ·rename_i hne
    rcases List.mem_cons.1 hx with rfl|hx
    ·exact hne
    ·exact Zcb.1 e x hx
  ·intro e
   rw [if_neg (e h List.mem_cons_self)];exact Zcb.2 λ x hx=>e x (List.mem_cons_of_mem _ hx)
theorem ZbT {o:Int} {h:ZJ}:∀ {L:List ZJ},Zcg o L=some h->∃ A C,L=A++h::C/\Zcg o A=none/\h.owner=o
 |[],e=>by cases e
 |x::L,e=>by
  rw [ZaF] at e;split at e
  ·rename_i hx;cases e;exact ⟨[],L,rfl,rfl,hx⟩
  ·rename_i hx
   obtain ⟨A,C,rfl,hA,ho⟩:=ZbT e;exact ⟨x::A,C,rfl,by rw [ZaF,if_neg hx];exact hA,ho⟩
theorem Zj5 {o:Int} {h:ZJ} {C:List ZJ} (ho:h.owner=o):∀ {A:List ZJ},Zcg o A=none->Zcg o (A++h::C)=some h
 |[],_=>by show Zcg o (h::C)=_;rw [ZaF,if_pos ho]
 |x::A,e=>by
  rw [ZaF] at e;split at e
  ·cases e
  ·rename_i hx
   show Zcg o (x::(A++h::C))=_;rw [ZaF,if_neg hx];exact Zj5 ho e
theorem Zfe {o:Int} {h h':ZJ} {C:List ZJ} (ho:h.owner=o):∀ {A:List ZJ},Zcg o A=none->ZqA o h' (A++h::C)=A++h'::C
 |[],_=>by show ZqA o h' (h::C)=_;unfold ZqA;rw [if_pos ho];rfl
 |x::A,e=>by
  rw [ZaF] at e;split at e
  ·cases e
  ·rename_i hx
   show ZqA o h' (x::(A++h::C))=_;unfold ZqA;rw [if_neg hx,Zfe ho e];rfl
theorem Zkj {o:Int} {h:ZJ} {C:List ZJ} (ho:h.owner=o):∀ {A:List ZJ},Zcg o A=none->Zvu o (A++h::C)=A++C
 |[],_=>by show Zvu o (h::C)=_;unfold Zvu;rw [if_pos ho];rfl
 |x::A,e=>by
  rw [ZaF] at e;split at e
  ·cases e
  ·rename_i hx
   show Zvu o (x::(A++h::C))=_;unfold Zvu;rw [if_neg hx,Zkj ho e];rfl
theorem ZbB (h:ZJ):∀ L:List ZJ,(ZlC h L).Perm (h::L)
 |[]=>List.Perm.refl _
 |x::L=>by
  unfold ZlC;split
  ·exact ((ZbB h L).cons x).trans (List.Perm.swap _ _ _)
  ·exact List.Perm.refl _
def OwR (L:List ZJ):Prop:=L.Pairwise λ a b=>a.owner<b.owner
theorem OwR.ne {L:List ZJ} (h:OwR L):L.Pairwise λ a b=>a.owner≠b.owner:=h.imp λ h e=>by omega
theorem ZfC {o:Int} {h:ZJ}:∀ {L:List ZJ},(L.Pairwise λ a b=>a.owner≠b.owner)->(Zcg o L=some h↔h∈L/\h.owner=o)
 |[],_=>by simp [Zcg]
 |x::L,hp=>by
  obtain ⟨h1,h2⟩:=List.pairwise_cons.1 hp;rw [ZaF];split
  ·rename_i hx
   constructor
   ·intro e;cases e;exact ⟨List.mem_cons_self,hx⟩
   ·rintro ⟨hm,ho⟩
    rcases List.mem_cons.1 hm with rfl|hm
    ·rfl
    ·exact absurd (hx.trans ho.symm) (h1 h hm)
  ·rename_i hx
   rw [ZfC h2];constructor
   ·rintro ⟨a,b⟩;exact ⟨List.mem_cons_of_mem _ a,b⟩
   ·rintro ⟨hm,ho⟩
    rcases List.mem_cons.1 hm with rfl|hm
    ·exact absurd ho hx
    ·exact ⟨hm,ho⟩
theorem Zsg {o:Int} {A B:List ZJ} (p:A.Perm B) (h:A.Pairwise λ a b=>a.owner≠b.owner):Zcg o A=Zcg o B:=by
 have h':B.Pairwise λ a b=>a.owner≠b.owner:=(p.pairwise_iff λ h=>h.symm).1 h;apply Option.ext;intro x;rw [ZfC h,ZfC h',p.mem_iff]
theorem ZlB {h:ZJ}:∀ {L:List ZJ},OwR L->Zcg h.owner L=none->OwR (ZlC h L)
 |[],_,_=>by simp [OwR,ZlC]
 |x::L,hp,hn=>by
  obtain ⟨h1,h2⟩:=List.pairwise_cons.1 hp;rw [ZaF] at hn;split at hn
  ·cases hn
  rename_i hx;unfold ZlC;split
  ·rename_i hlt
   refine List.pairwise_cons.2 ⟨λ y hy=>?_,ZlB h2 hn⟩;rcases List.mem_cons.1 ((ZbB h L).mem_iff.1 hy) with rfl|hy
   ·exact hlt
   ·exact h1 y hy
  ·rename_i hlt
   refine List.pairwise_cons.2 ⟨λ y hy=>?_,hp⟩;rcases List.mem_cons.1 hy with rfl|hy
   ·omega
   ·have:=h1 y hy;omega
theorem Zwe {A C:List ZJ} {h h':ZJ} (ho:h'.owner=h.owner) (hp:OwR (A++h::C)):OwR (A++h'::C):=by
 unfold OwR at *;rw [List.pairwise_append,List.pairwise_cons] at *;refine ⟨hp.1,⟨λ y hy=>by rw [ho];exact hp.2.1.1 y hy,hp.2.1.2⟩,λ a ha b hb=>?_⟩;rcases List.mem_cons.1 hb with rfl|hb
 ·rw [ho];exact hp.2.2 a ha h List.mem_cons_self
 ·exact hp.2.2 a ha b (List.mem_cons_of_mem _ hb)
theorem Zwf {A C:List ZJ} {h:ZJ} (hp:OwR (A++h::C)):OwR (A++C):=by
 unfold OwR at *;rw [List.pairwise_append,List.pairwise_cons] at hp;rw [List.pairwise_append];exact ⟨hp.1,hp.2.1.2,λ a ha b hb=>hp.2.2 a ha b (List.mem_cons_of_mem _ hb)⟩
def RF.sold (r:RF):List Int:=Zal r.lims.length r.L
def ZN (r:RF) (owner cls many:Int):RF × Int:=
 if owner<1\/owner>28629151 then (r,1) else if (Zcg owner r.L).isSome then (r,7)
 else if (Za7 r.lims r.sold cls many).2=0 then ({ r with L:=ZlC ⟨owner,cls,many,[]⟩ r.L },0) else (r,(Za7 r.lims r.sold cls many).2)
def Zb1 (r:RF) (owner:Int):RF × Int:=
 match Zcg owner r.L with
 |none=>(r,2)
 |some _=>({ r with L:=Zvu owner r.L },0)
def Z6 (r:RF) (owner:Int) (lab:ByteArray):RF × Int:=
 match Zcg owner r.L with
 |none=>(r,2)
 |some h=>if (Zbe r.rows r.grps lab).2≠0 then (r,2) else if (h.seats.length:Int) >= h.many then (r,7)
  else if (Zbe r.rows r.grps lab).1∈ZV r.L then (r,3)
  else ({ r with L:=ZqA owner (h.put (Zbe r.rows r.grps lab).1) r.L },0)
def Zam (r:RF) (owner:Int):RF × List ByteArray × Int:=
 match Zcg owner r.L with
 |none=>(r,[],2)
 |some h=>if h.seats.length>0 then (r,[],7)
  else if (Zaq r.rows r.grps (ZV r.L) h.many).2=0 then ({ r with L:=ZqA owner { h with seats:=(Zaq r.rows r.grps (ZV r.L) h.many).1 } r.L },ZdM r.rows r.grps (Zaq r.rows r.grps (ZV r.L) h.many).1,0)
  else (r,[],(Zaq r.rows r.grps (ZV r.L) h.many).2)
def ZaT (r:RF) (owner:Int):List ByteArray:=match Zcg owner r.L with|none=>[]|some h=>ZdM r.rows r.grps h.seats
def Zr (r:RF):List Int:=(List.range r.lims.length).map λ (k:Nat)=>(ZbA r.lims r.sold k).1
structure ZvJ (n:Nat) (N:Int) (h:ZJ):Prop where
 owner:1<=h.owner/\h.owner<=28629151
 cls:0<=h.cls/\h.cls<n
 many:1<=h.many
 rise:ZpS h.seats
 few:(h.seats.length:Int)<=h.many
 seats:∀ x∈h.seats,0<=x/\x<N
structure ZaK (r:RF):Prop where
 num:1<=r.num/\r.num<=9999
 lay:ZeJ r.rows r.grps=true
 nest:Zad r.lims r.sold=true
 l0:r.lims.getD 0 0=Za5 r.rows r.grps
 rise:OwR r.L
 each:∀ h∈r.L,ZvJ r.lims.length (Za5 r.rows r.grps) h
 apart:r.L.Pairwise λ a b=>∀ x∈a.seats,x ∉ b.seats
structure Tie (f:PF) (r:RF):Prop where
 num:f.num=r.num
 rows:f.rows=r.rows
 grps:f.grps=r.grps
 lims:f.lims=r.lims
 sold:f.sold=r.sold
 hs:(f.hs.map (·.2)).Perm r.L
 key:∀ e∈f.hs,e.2.owner=e.1
 own:∀ n o,ZD n f.own=some o↔∃ h∈r.L,h.owner=o/\n∈h.seats
 nod:(f.own.map (·.1)).Nodup
theorem Znh {o:Int}:∀ {hs:List (Int × ZJ)},(∀ e∈hs,e.2.owner=e.1)->ZD o hs=Zcg o (hs.map (·.2))
 |[],_=>rfl
 |e::hs,h=>by
  have h1:=h e List.mem_cons_self;have ih:=Znh (o:=o) λ x hx=>h x (List.mem_cons_of_mem _ hx);rw [List.map_cons,ZaF,h1,<-ih];show (if o==e.1 then some e.2 else ZD o hs)=_
  by_cases he:e.1=o
  ·rw [if_pos he,if_pos (by rw [he];exact beq_self_eq_true o)]
  ·rw [if_neg he,if_neg (by rw [beq_iff_eq];exact λ e'=>he e'.symm)]
variable {f:PF} {r:RF}
theorem Tie.ne (t:Tie f r) (g:OwR r.L):(f.hs.map (·.2)).Pairwise λ a b=>a.owner≠b.owner:=(t.hs.pairwise_iff λ h=>h.symm).2 g.ne
theorem Tie.get (t:Tie f r) (g:OwR r.L) (o:Int):ZD o f.hs=Zcg o r.L:=by
 rw [Znh t.key,Zsg t.hs (t.ne g)]
theorem Tie.taken (t:Tie f r) (n:Int):(ZD n f.own).isSome=true↔n∈ZV r.L:=by
 unfold ZV;rw [List.mem_flatMap,Option.isSome_iff_exists];constructor
 ·rintro ⟨o,h⟩
  obtain ⟨x,hx,_,hn⟩:=(t.own n o).1 h;exact ⟨x,hx,hn⟩
 ·rintro ⟨x,hx,hn⟩
  exact ⟨x.owner,(t.own n x.owner).2 ⟨x,hx,rfl,hn⟩⟩
end
section
open Go Go.VC Tryz
variable {R:Cx} {Hs Rest:List HP} {w:World}
def ZzN:ZJ:=⟨0,0,0,[]⟩
def ZeQ (f:PF) (k:Int):ZJ:=(ZD k f.hs).getD ZzN
def ZeP (f:PF):List ZJ:=(ZgI (f.hs.map (·.1))).map (ZeQ f)
theorem elH:ElN prog 177 177 197 4 48:=⟨underlying177,⟨_,underlying177⟩,by kernel_rfl⟩
theorem ZaU.nil (hw:Sat R Hs w):Sat R (ZaU ⟨none,0,0⟩ []::Hs) w:=Sat.holdsL.2 ⟨[],rfl,ZP.nil hw⟩
theorem ZoN {L:List ZJ} {ts:List Sl} (hl:ts.length=L.length) (h:ZJ) (t:Sl):Zfi (L++[h]) (ts++[t])=Zfi L ts++[ZqN h t]:=by
 unfold Zfi;rw [List.zip_append hl.symm,List.map_append];rfl
theorem Zml {L:List ZJ} {ts:List Sl} (hl:ts.length=L.length) (h:ZJ) (t:Sl):ZdO (L++[h]) (ts++[t])=ZdO L ts++[ZM t (Zg h.seats)]:=by
 unfold ZdO;rw [List.zip_append hl.symm,List.map_append];rfl
theorem ZaU.snoc {s:Sl} {L:List ZJ} {ts:List Sl} {h:ZJ} {t:Sl} (hl:ts.length=L.length) (hw:Sat R (ZP 4 s 197 (Zfi L ts++[ZqN h t])::ZM t (Zg h.seats)::(ZdO L ts++Hs)) w):Sat R (ZaU s (L++[h])::Hs) w:=by
 refine Sat.holdsL.2 ⟨ts++[t],by simp [hl],?_⟩;rw [ZoN hl,Zml hl,List.append_assoc];exact hw.cons λ _ h5=>h5.perm List.perm_middle.symm
theorem ZhL {p:Nat} {f:PF} (hu:(f.hs.map (·.1)).Nodup) (hn:∀ k∈f.hs.map (·.1),-1000000000<=k/\k<=1000000000) (hlen:f.hs.length<=100000) (hR:∀ e∈f.hs,e.2.seats.length<=1000000) (hw:Sat R (Zn p f::Hs) w):
  Zo prog 134 #[.pointer (some ⟨p,0,none⟩)] w λ v w'=>∃ t:Sl,v=.slice t.a t.len t.cap/\Sat R (ZaU t (ZeP f)::Zn p f::Hs) w':=by
 obtain ⟨hm,om,sg,sl,ss,E,R',hE,_,_,_,_,hw,back⟩:=Sat.flightO hw;have hk1:(ZZ E).map (·.1)=f.hs.map (·.1):=by rw [<-hE];simp [ZZ,hEr,Function.comp_def]
 have hel:(ZZ E).length=f.hs.length:=by rw [<-hE];simp [ZZ,hEr]
 apply ZyJ;refine Zd.mk rfl ⟨some hm,oA hw,?_⟩;refine ZkO (es:=ZZ E) (by rw [hk1];exact hu) (by rw [hk1];exact hn) (by omega) (hw.take (MapAt hm (ZZ E))) λ sk w hw=>?_;rw [hk1] at hw;have hksl:(ZgI (f.hs.map (·.1))).length=f.hs.length:=by unfold ZgI;rw [List.length_mergeSort,List.length_map]
 have hmem:∀ k∈ZgI (f.hs.map (·.1)),k∈f.hs.map (·.1):=λ k hk=>List.mem_mergeSort.1 hk;unfold ZeP;generalize ZgI (f.hs.map (·.1))=ks at *;obtain ⟨R2,e2,hks,hw⟩:=Own.leak hw;have hkl:=hks.len;rw [List.length_map] at hkl;have hro:RoI R2 sk ks:=hks.ro (by rw [List.length_map];omega);have hw:Sat R2 (FO p hm om sg sl ss E f Hs) w:=hw.arr;refine ⟨λ out i w=>∃ j:Nat,i=j/\j<=ks.length/\Sat R2 (ZaU out ((ks.take j).map (ZeQ f))::FO p hm om sg sl ss E f Hs) w,λ _ i _=>ks.length - i.toNat,⟨0,rfl,by omega,ZaU.nil hw⟩,?_⟩;clear hw;rintro _ out _ w ⟨j,rfl,hj,hw⟩;refine Br.d (λ h=>?_) (λ h=>?_)
 ·have hj2:j<ks.length:=by omega
  refine Ro.ix hro (eqS hw) j rfl hj2 ?_;have hkin:(ZD ks[j] E).isSome=true:=by
   have h1:=hmem ks[j] (List.getElem_mem _);rw [<-hE,hEr,List.map_map] at h1;obtain ⟨e,he,hek⟩:=List.mem_map.1 h1;have key:∀ (l:List HE),e∈l->(ZD ks[j] l).isSome=true:=λ l=>by
    induction l with
    |nil=>intro h;cases h
    |cons x l ih=>
     intro h;show (if ks[j]==x.1 then some x.2 else ZD ks[j] l).isSome=true
     split
     ·rfl
     ·rename_i hx
      rcases List.mem_cons.1 h with rfl|h
      ·exact absurd (beq_iff_eq.2 hek.symm) hx
      ·exact ih h
   exact key E he
  obtain ⟨⟨b,h⟩,hget⟩:=Option.isSome_iff_exists.1 hkin;have hof:ZeQ f ks[j]=h:=by unfold ZeQ;rw [<-hE,Zbk,hget];rfl
  have htk:(ks.take (j + 1)).map (ZeQ f)=(ks.take j).map (ZeQ f)++[h]:=by
   rw [List.take_add_one,List.getElem?_eq_getElem hj2,Option.toList_some,List.map_append,List.map_singleton,hof]
  have hLl:((ks.take j).map (ZeQ f)).length=j:=by rw [List.length_map,List.length_take];omega
  generalize (ks.take j).map (ZeQ f)=L at *;generalize ks[j]=k at *;obtain ⟨a,c,rfl,hna⟩:=Zar hget;have hl:h.seats.length<=1000000:=hR (k,h) (by rw [<-hE,ZcG];simp);refine Zd.mk rfl ⟨some hm,oA hw,some ⟨b,0,none⟩,λ w' e=>?_,Zd.mk rfl ?_⟩
  ·rw [show w'=w from e,ZcF (hw.take (MapAt hm (ZZ (a++(k,b,h)::c)))) k false,hget];rfl
  have hw:Sat R2 (FO p hm om sg sl ss (a++(k,b,h)::c) f (ZaU out L::Hs)) w:=hw.arr;obtain ⟨s,hw⟩:=FO.open hw;refine ⟨h.owner,h.cls,h.many,s,At.own (eqS hw) (by exact ⟨rfl,rfl,rfl,rfl,trivial⟩),?_⟩;refine Zb hw λ bh w hw=>?_;have hw:Sat R2 (pts bh (ZT ⟨0,0,0,[]⟩ ⟨none,0,0⟩)::FO1 p hm om b sg sl ss s (a++(k,b,h)::c) (a++c) f h f.own (ZaU out L::Hs)) w:=hw;refine Za hw (by kernel_rfl) rfl (by simp [Value.cells]) λ w hw=>?_;have hw:=hw.re (pts bh (ZT h s));refine ⟨s,oA hw,?_⟩;obtain ⟨R3,hro3,_,hw3,back3⟩:=Own.lend (hw.take (Own s 3 (Zg h.seats))) (by rw [List.length_map];omega);refine (Ze5 hro3 (by omega) hw3).use ?_;clear hw hw3;rintro _ w ⟨t,rfl,hw⟩;have hw:=back3 hw;refine ⟨t,rfl,?_⟩;have hw:Sat R2 (pts bh (ZT h s)::Own t 3 (Zg h.seats)::FO1 p hm om b sg sl ss s (a++(k,b,h)::c) (a++c) f h f.own (ZaU out L::Hs)) w:=hw.arr;refine Za hw (by kernel_rfl) rfl (by simp [Value.cells]) λ w hw=>?_;have hw:=hw.re (pts bh (ZT h t));refine ⟨h.owner,h.cls,h.many,t,At.own (eqS hw) (by exact ⟨rfl,rfl,rfl,rfl,trivial⟩),?_⟩;obtain ⟨ts,hts,hw⟩:=Sat.holdsL.1 (hw.take (ZaU out L));have hrl:=ZdQ hts;refine ZiJ (x:=ZqN h t) elH hw rfl rfl (by omega) (by omega) λ o2 w hw=>?_;rw [Zl (by omega) (by omega)];refine ⟨⟨j + 1,by omega,by omega,?_⟩,by dsimp only;omega⟩;rw [htk];have hw:Sat R2 (ZP 4 o2 197 (Zfi L ts++[ZqN h t])::(ZdO L ts++(Own t 3 (Zg h.seats)::pts bh (ZT h t)::FO1 p hm om b sg sl ss s (a++(k,b,h)::c) (a++c) f h f.own Hs))) w:=
   hw.cons λ _ h5=>h5.perm (List.Perm.append_left _ (Arr.perm (Hs:=_) (Hs':=Own t 3 (Zg h.seats)::pts bh (ZT h t)::FO1 p hm om b sg sl ss s (a++(k,b,h)::c) (a++c) f h f.own Hs)))
  have hw:Sat R2 (ZP 4 o2 197 (Zfi L ts++[ZqN h t])::ZM t (Zg h.seats)::(ZdO L ts++(pts bh (ZT h t)::FO1 p hm om b sg sl ss s (a++(k,b,h)::c) (a++c) f h f.own Hs))) w:=
   hw.cons λ _ h5=>Own.reads (h5.perm List.perm_middle)
  have hw:=ZaU.snoc hts hw;exact hw.cons λ _ h5=>FO.close (f:=f) h5.drop
 ·rw [List.take_of_length_le (by omega)] at hw
  refine ⟨out,rfl,?_⟩;have hw:=e2.back hw;have hw:=back _ _ hw;exact Sat.cons (λ _ h5=>Sat.flightC hE h5) (hw.take (ZaU out (ks.map (ZeQ f))))
end
section
open Go Go.VC Tryz
variable {R:Cx} {Hs Rest:List HP} {w:World}
theorem _root_.Go.VC.Sat.allTru {Hs:List HP}:∀ {R:Cx},Sat R Hs w->Sat R [VC.tru] w:=by
 induction Hs with
 |nil=>exact λ h=>h.tru
 |cons A Hs ih=>exact λ h=>Sat.absorb (h.cons λ _ h=>ih h)
theorem _root_.Go.VC.Sat.restTru2 {A:HP} (h:Sat R (A::Hs) w):Sat R [A,VC.tru] w:=h.cons λ _ h=>h.allTru
theorem _root_.Go.VC.MapAt.len {P:Program} {α:Type} [BEq α] [ZaW α] {m:Nat} {es:List (α × Value)} {T ty:TypeId} (hT:P.underlying T=some (.map (P.mapKeyOf T) (P.mapElemOf T))) (hw:Sat R (MapAt m es::Hs) w):
  (Builtin.len_ #[T] ty #[.map (some m)]).run P w=.ok (.int .i64 es.length) w:=by
 obtain ⟨l,c,hs,hst,hp⟩:=MapAt.iff.1 hw;rw [run_len_map w T ty m _ c hT hp.at];subst hs;simp [goInt,Zbp]
def Zc6 (l:List Int):List Int:=Zm [(l.length:Int)]++Zm l
def ZeL (h:ZJ):List Int:=Zm [h.owner,h.cls,h.many]++Zc6 h.seats
def ZaM (L:List ZJ):List Int:=(L.map ZeL).flatten
def Zvs (num rows:Int) (grps lims:List Int) (L:List ZJ):List Int:=Zm [num,rows]++Zc6 grps++Zc6 lims++Zm [(L.length:Int)]++ZaM L
abbrev ZeF (l:List Int):Prop:=∀ x∈l,0<=x/\x<9223372036854775808
theorem Zcd {l:List Int} (h:ZeF l):∀ x∈l,0<=x/\x<18446744073709551616:=λ x hx=>by have:=h x hx;omega
theorem Zca {l:List Int} (h:ZeF l) (hl:l.length<9223372036854775808):(Zc6 l).length<=9 * l.length + 9:=by
 unfold Zc6;have h1:=ZX (Zcd h);have h2:(Zm [(l.length:Int)]).length<=9:=ZX (by intro y hy;simp at hy;omega);rw [List.length_append];omega
theorem Zfr {l:List Int} (h:ZeF l) (hl:l.length<9223372036854775808):∀ y∈Zc6 l,0<=y/\y<256:=by
 unfold Zc6;intro y hy;rcases List.mem_append.1 hy with hy|hy
 ·exact ZbW (by intro y hy;simp at hy;omega) y hy
 ·exact ZbW (Zcd h) y hy
structure ZgH (h:ZJ):Prop where
 o:0<=h.owner/\h.owner<9223372036854775808
 c:0<=h.cls/\h.cls<9223372036854775808
 m:0<=h.many/\h.many<9223372036854775808
 s:ZeF h.seats
 n:h.seats.length<=1000
theorem ZgH.three {h:ZJ} (a:ZgH h):ZeF [h.owner,h.cls,h.many]:=by
 intro x hx;rcases List.mem_cons.1 hx with rfl|hx
 ·exact a.o
 rcases List.mem_cons.1 hx with rfl|hx
 ·exact a.c
 rw [List.mem_singleton.1 hx];exact a.m
theorem Zr9 {h:ZJ} (a:ZgH h):(ZeL h).length<=9036:=by
 unfold ZeL;have h1:(Zm [h.owner,h.cls,h.many]).length<=27:=ZX (Zcd a.three);have h2:=Zca a.s (by have:=a.n;omega);have:=a.n;rw [List.length_append];omega
theorem Zuu {h:ZJ} (a:ZgH h):∀ y∈ZeL h,0<=y/\y<256:=by
 unfold ZeL;intro y hy;rcases List.mem_append.1 hy with hy|hy
 ·exact ZbW (Zcd a.three) y hy
 ·exact Zfr a.s (by have:=a.n;omega) y hy
theorem Zgb:∀ {L:List ZJ},(∀ h∈L,ZgH h)->(ZaM L).length<=9036 * L.length
 |[],_=>Nat.le_refl _
 |h::L,a=>by
  have h1:=Zr9 (a h List.mem_cons_self);have h2:=Zgb λ x hx=>a x (List.mem_cons_of_mem _ hx);show (ZeL h++ZaM L).length<=_;rw [List.length_append,List.length_cons];omega
theorem ZhM:∀ {L:List ZJ},(∀ h∈L,ZgH h)->∀ y∈ZaM L,0<=y/\y<256
 |[],_=>λ y hy=>by cases hy
 |h::L,a=>by
  intro y hy;have hy:y∈ZeL h++ZaM L:=hy;rcases List.mem_append.1 hy with hy|hy
  ·exact Zuu (a h List.mem_cons_self) y hy
  ·exact ZhM (λ x hx=>a x (List.mem_cons_of_mem _ hx)) y hy
theorem ZmQ {L:List ZJ} {j:Nat} (h:j<L.length):ZaM (L.take (j + 1))=ZaM (L.take j)++ZeL L[j]:=by
 unfold ZaM;rw [List.take_add_one,List.getElem?_eq_getElem h,List.map_append,List.flatten_append];simp only [Option.toList_some,List.map_cons,List.map_nil,List.flatten_cons,List.flatten_nil,List.append_nil]
abbrev Zwb (pb:Nat):Value:=.func (.func 132) #[] #[.pointer (some ⟨pb,0,none⟩)]
abbrev Zig (bp pb:Nat):HP:=pts bp (.cells [Zwb pb].toArray 113 (0,0))
theorem ZjA {bn pb:Nat} {bs xs:List Int} {n:Nat} (hn:n=xs.length) (hxs:ZeF xs) (hl:bs.length + 9 * xs.length<=1099511627776) (hw:Sat R (pts bn (.cells (xs.map (Value.int .i64)).toArray 3 (0,0))::ZgF pb bs::Hs) w):
  Zak prog cl (Zwb pb) [.slice (some ⟨bn,0,none⟩) n n] w λ e w'=>e=.returned (.tuple #[])/\Sat R (ZgF pb (bs++Zm xs)::Hs) w':=by
 refine Zak.mk (by kernel_rfl) ?_;have hw:=Zc4 (n:=n) hw (by rw [List.length_map];exact hn);obtain ⟨R1,hr1,keep1,hw,back1⟩:=Own.lendI hw (by omega);refine (ZlK (s:=⟨some ⟨bn,0,none⟩,n,n⟩) hxs hl hr1 hw).use ?_;rintro _ w ⟨rfl,hw⟩;exact ⟨rfl,(back1 hw).drop⟩
theorem Zgj {bp pb:Nat} {s:Sl} {xs bs:List Int} (hxs:ZeF xs) (hl:bs.length + 9 * xs.length<=1000000000) (hs:RoI R s xs) (hw:Sat R (Zig bp pb::ZgF pb bs::Hs) w):
  Zo prog 133 #[.slice s.a s.len s.cap,.pointer (some ⟨bp,0,none⟩)] w λ v w'=>v=.tuple #[]/\Sat R (Zig bp pb::ZgF pb (bs++Zc6 xs)::Hs) w':=by
 have hsl:=hs.len;have h1:(Zm [(xs.length:Int)]).length<=9:=ZX (by intro y hy;simp at hy;omega);apply ZyK;refine Zd.mk rfl ⟨Zwb pb,oA hw,?_⟩;rw [hsl];refine Zb hw λ bn w hw=>?_;have hw:Sat R (pts bn (.cells ([(xs.length:Int)].map (Value.int .i64)).toArray 3 (0,0))::ZgF pb bs::Zig bp pb::Hs) w:=hw.cons λ _ h=>h.swap;refine (ZjA (n:=1) (by rfl) (by intro y hy;simp at hy;omega) (by simp;omega) hw).mono ?_;rintro _ w ⟨rfl,hw⟩;refine ⟨rfl,Zd.mk rfl ⟨Zwb pb,oA hw,Zak.mk (by kernel_rfl) ?_⟩⟩;rw [<-hsl];refine (ZlK hxs (by rw [List.length_append];omega) hs hw).use ?_;rintro _ w ⟨rfl,hw⟩;refine ⟨rfl,rfl,?_⟩;rw [List.append_assoc] at hw;exact hw.swap
end
end Go.Proofs.YtlplemdmegpoeaaGreatDoor

namespace Go.Proofs.YtlplemdmegpoeaaGreatDoor
section
open Go Go.VC Tryz
section
variable {β:Type}
theorem Zau (k:Int) (e:Int × β) (l:List (Int × β)):ZD k (e::l)=if k=e.1 then some e.2 else ZD k l:=by
 show (if k==e.1 then some e.2 else ZD k l)=_
 by_cases h:k=e.1
 ·rw [if_pos h,if_pos (beq_iff_eq.2 h)]
 ·rw [if_neg h,if_neg (λ h'=>h (beq_iff_eq.1 h'))]
theorem Zes {k:Int}:∀ {l:List (Int × β)},(ZD k l).isSome=true↔k∈l.map (·.1)
 |[]=>by simp [ZD]
 |e::l=>by
  rw [Zau,List.map_cons,List.mem_cons];split
  ·rename_i h;simp [h]
  ·rename_i h;rw [Zes (l:=l)];simp [h]
theorem ZmT {k:Int} {l:List (Int × β)}:ZD k l=none↔k ∉ l.map (·.1):=by
 rw [<-Zes,Option.isSome_iff_ne_none];simp
theorem ZhQ (k:Int):∀ (a b:List (Int × β)),ZD k (a++b)=if k∈a.map (·.1) then ZD k a else ZD k b
 |[],b=>by simp
 |e::a,b=>by
  show ZD k (e::(a++b))=_;rw [Zau,Zau,ZhQ k a b,List.map_cons];by_cases h:k=e.1
  ·rw [if_pos h,if_pos (by rw [h];exact List.mem_cons_self),if_pos h]
  ·rw [if_neg h,if_neg h]
   by_cases h2:k∈a.map (·.1)
   ·rw [if_pos h2,if_pos (List.mem_cons_of_mem _ h2)]
   ·rw [if_neg h2,if_neg]
    intro h3;rcases List.mem_cons.1 h3 with h3|h3
    ·exact h h3
    ·exact h2 h3
theorem ZkV {k:Int} {v:β}:∀ {l:List (Int × β)},(ZeG k v l).map (·.1)=l.map (·.1)
 |[]=>rfl
 |e::l=>by
  show List.map _ (if k==e.1 then (e.1,v)::l else e::ZeG k v l)=_
  split
  ·rfl
  ·rw [List.map_cons,ZkV];rfl
theorem ZhO {k k':Int} {v:β}:∀ {l:List (Int × β)},(ZD k l).isSome=true->ZD k' (ZeG k v l)=if k'=k then some v else ZD k' l
 |[],h=>by cases h
 |e::l,h=>by
  show ZD k' (if k==e.1 then (e.1,v)::l else e::ZeG k v l)=_
  rw [Zau] at h;by_cases h1:k=e.1
  ·rw [if_pos (beq_iff_eq.2 h1),Zau,Zau,h1]
   split<;>rfl
  ·rw [if_neg h1] at h
   rw [if_neg (λ h'=>h1 (beq_iff_eq.1 h')),Zau,Zau,ZhO h];by_cases h2:k'=e.1
   ·rw [if_pos h2,if_pos h2,if_neg (λ h3=>h1 (h3.symm.trans h2))]
   ·rw [if_neg h2,if_neg h2]
theorem ZhP (k k':Int) (v:β) (l:List (Int × β)):ZD k' (Zci k v l)=if k'=k then some v else ZD k' l:=by
 unfold Zci;split
 ·rename_i h;exact ZhO h
 ·rename_i h
  rw [ZhQ];have hk:ZD k l=none:=by cases hg:ZD k l with|none=>rfl|some x=>rw [hg] at h;simp at h
  by_cases h1:k'=k
  ·rw [if_pos h1,if_neg (by rw [h1];exact ZmT.1 hk),Zau,if_pos h1]
  ·rw [if_neg h1]
   by_cases h2:k'∈l.map (·.1)
   ·rw [if_pos h2]
   ·rw [if_neg h2,Zau,if_neg h1,ZmT.2 h2];rfl
theorem Zf2 {k:Int} {v:β} {l:List (Int × β)} (h:(l.map (·.1)).Nodup):((Zci k v l).map (·.1)).Nodup:=by
 unfold Zci;split
 ·rw [ZkV];exact h
 ·rename_i hk
  rw [List.map_append,List.nodup_append];refine ⟨h,by simp,λ a ha b hb=>?_⟩;rw [List.map_cons,List.map_nil,List.mem_singleton] at hb;rintro rfl;rw [hb] at ha;exact hk (Zes.2 ha)
theorem Zkk (k:Int):∀ l:List (Int × β),(Ze9 k l).Sublist l
 |[]=>List.Sublist.refl _
 |e::l=>by
  show (if k==e.1 then l else e::Ze9 k l).Sublist _
  split
  ·exact List.sublist_cons_self _ _
  ·exact (Zkk k l).cons_cons e
theorem Zpv {k:Int} {l:List (Int × β)} (h:(l.map (·.1)).Nodup):((Ze9 k l).map (·.1)).Nodup:=h.sublist ((Zkk k l).map _)
theorem ZlF {k k':Int}:∀ {l:List (Int × β)},(l.map (·.1)).Nodup->ZD k' (Ze9 k l)=if k'=k then none else ZD k' l
 |[],_=>by simp [ZD,Ze9]
 |e::l,h=>by
  rw [List.map_cons,List.nodup_cons] at h;show ZD k' (if k==e.1 then l else e::Ze9 k l)=_
  by_cases h1:k=e.1
  ·rw [if_pos (beq_iff_eq.2 h1),Zau]
   by_cases h2:k'=k
   ·rw [if_pos h2,ZmT];rw [h2,h1];exact h.1
   ·rw [if_neg h2,if_neg (λ h3=>h2 (h3.trans h1.symm))]
  ·rw [if_neg (λ h'=>h1 (beq_iff_eq.1 h')),Zau,Zau,ZlF h.2]
   by_cases h2:k'=e.1
   ·rw [if_pos h2,if_pos h2,if_neg (λ h3=>h1 (h3.symm.trans h2))]
   ·rw [if_neg h2,if_neg h2]
theorem Zpw {l:List Int}:∀ {own:List (Int × Int)},(own.map (·.1)).Nodup->((Zch l own).map (·.1)).Nodup/\∀ n,ZD n (Zch l own)=if n∈l then none else ZD n own:=by
 induction l with
 |nil=>exact λ h=>⟨h,λ n=>by simp [Zch]⟩
 |cons x l ih=>
  intro own h;obtain ⟨h1,h2⟩:=ih (own:=Ze9 x own) (Zpv h);refine ⟨h1,λ n=>?_⟩;have e:Zch (x::l) own=Zch l (Ze9 x own):=rfl;rw [e,h2,ZlF h];by_cases hn:n∈l
  ·rw [if_pos hn,if_pos (List.mem_cons_of_mem _ hn)]
  ·rw [if_neg hn]
   by_cases hx:n=x
   ·rw [if_pos hx,if_pos (by rw [hx];exact List.mem_cons_self)]
   ·rw [if_neg hx,if_neg]
    intro h3;rcases List.mem_cons.1 h3 with h3|h3
    ·exact hx h3
    ·exact hn h3
theorem ZoW {o:Int} {l:List Int}:∀ {own:List (Int × Int)},(own.map (·.1)).Nodup->((ZdT o l own).map (·.1)).Nodup/\∀ n,ZD n (ZdT o l own)=if n∈l then some o else ZD n own:=by
 induction l with
 |nil=>exact λ h=>⟨h,λ n=>by simp [ZdT]⟩
 |cons x l ih=>
  intro own h;obtain ⟨h1,h2⟩:=ih (own:=Zci x o own) (Zf2 h);refine ⟨h1,λ n=>?_⟩;have e:ZdT o (x::l) own=ZdT o l (Zci x o own):=rfl;rw [e,h2,ZhP];by_cases hn:n∈l
  ·rw [if_pos hn,if_pos (List.mem_cons_of_mem _ hn)]
  ·rw [if_neg hn]
   by_cases hx:n=x
   ·rw [if_pos hx,if_pos (by rw [hx];exact List.mem_cons_self)]
   ·rw [if_neg hx,if_neg]
    intro h3;rcases List.mem_cons.1 h3 with h3|h3
    ·exact hx h3
    ·exact hn h3
end
theorem Zbz {n x:Int}:∀ {l:List Int},x∈Zga n l↔x=n\/x∈l
 |[]=>by simp [Zga]
 |y::l=>by
  unfold Zga;split
  ·rw [List.mem_cons,Zbz,List.mem_cons]
   constructor
   ·rintro (h|h|h)
    ·exact .inr (.inl h)
    ·exact .inl h
    ·exact .inr (.inr h)
   ·rintro (h|h|h)
    ·exact .inr (.inl h)
    ·exact .inl h
    ·exact .inr (.inr h)
  ·rw [List.mem_cons]
theorem Zeh {l:List Int}:ZpS l↔l.Pairwise (·<·):=by
 rw [List.pairwise_iff_getElem];exact ⟨λ h i j hi hj hij=>h i j hj hij,λ h i j hj hij=>h i j (by omega) hj hij⟩
theorem ZmP {n:Int}:∀ {l:List Int},l.Pairwise (·<·)->n ∉ l->(Zga n l).Pairwise (·<·)
 |[],_,_=>by simp [Zga]
 |x::l,hp,hn=>by
  obtain ⟨h1,h2⟩:=List.pairwise_cons.1 hp;have hx:n≠x:=λ e=>hn (by rw [e];exact List.mem_cons_self);unfold Zga;split
  ·refine List.pairwise_cons.2 ⟨λ y hy=>?_,ZmP h2 λ h=>hn (List.mem_cons_of_mem _ h)⟩
   rcases Zbz.1 hy with rfl|hy
   ·assumption
   ·exact h1 y hy
  ·refine List.pairwise_cons.2 ⟨λ y hy=>?_,hp⟩
   rcases List.mem_cons.1 hy with rfl|hy
   ·omega
   ·have:=h1 y hy;omega
theorem Zd1 {sold:List Int} {c:Nat} {m:Int} (hc:c<sold.length):∀ (t k:Nat),k + t=sold.length->Za2 (sold.set c (sold.getD c 0 + m)) k=Za2 sold k + (if k<=c then m else 0)
 |0,k,h=>by
  rw [ZcI (by rw [List.length_set];omega),ZcI (by omega),if_neg (by omega)];rfl
 |t + 1,k,h=>by
  have ih:=Zd1 (m:=m) hc t (k + 1) (by omega);rw [Zbm (k:=k) (by rw [List.length_set];omega),Zbm (sold:=sold) (k:=k) (by omega),ih,List.getElem_set];by_cases e:c=k
  ·subst e
   rw [if_pos rfl,if_neg (by omega),if_pos (Nat.le_refl _),Zaf hc];omega
  ·rw [if_neg e]
   by_cases h2:k<=c
   ·rw [if_pos (by omega),if_pos h2];omega
   ·rw [if_neg (by omega),if_neg h2];omega
def Zl7:List ZJ->Int
 |[]=>0
 |h::L=>h.many + Zl7 L
theorem Zfd (n:Nat):Zal n []=List.replicate n 0:=by
 apply List.ext_getElem
 ·simp [Zal]
 ·intro i h1 h2;rw [ZdN];simp [Zgm]
theorem Zge (n:Nat):∀ t k:Nat,k + t=n->Za2 (List.replicate n (0:Int)) k=0
 |0,k,h=>ZcI (by rw [List.length_replicate];omega)
 |t + 1,k,h=>by rw [Zbm (by rw [List.length_replicate];omega),Zge n t (k + 1) (by omega)];simp
theorem ZkI {n:Nat}:∀ {L:List ZJ},(∀ h∈L,0<=h.cls/\h.cls<n)->Za2 (Zal n L) 0=Zl7 L
 |[],_=>by rw [Zfd,Zge n n 0 (by omega)];rfl
 |h::L,hc=>by
  have h0:=hc h List.mem_cons_self;have ih:=ZkI λ x hx=>hc x (List.mem_cons_of_mem _ hx);rw [<-Zfc (List.Perm.refl (h::L)) h0.1 h0.2,Zd1 (by rw [Zbu];omega) n 0 (by rw [Zbu];omega),if_pos (by omega),ih];show _=h.many + Zl7 L;omega
theorem Zh4 {k:Int}:∀ {L:List ZJ},(∀ h∈L,1<=h.many)->0<=Zgm k L
 |[],_=>Int.le_refl _
 |h::L,hm=>by
  have ih:=Zh4 (k:=k) λ x hx=>hm x (List.mem_cons_of_mem _ hx);have h1:=hm h List.mem_cons_self;rw [Zd8];split<;>omega
theorem ZrA {lim a b:List Int} (h:Zad lim a=true) (hl:b.length=a.length) (hb:∀ k,k<lim.length->0<=b.getD k 0/\b.getD k 0<=a.getD k 0):Zad lim b=true:=by
 obtain ⟨h1,h2,h3⟩:=ZS.1 h;refine ZS.2 ⟨h1,hl.trans h2,λ k hk=>⟨⟨(hb k hk).1,Int.le_trans (hb k hk).2 (h3 k hk).1.2⟩,?_⟩⟩;refine Int.le_trans ?_ (h3 k hk).2;have key:∀ t k:Nat,k + t=lim.length->Za2 b k<=Za2 a k:=by
  intro t
  induction t with
  |zero=>intro k hk;rw [ZcI (by omega),ZcI (by omega)];exact Int.le_refl _
  |succ t ih=>
   intro k hk;rw [Zbm (sold:=b) (by omega),Zbm (sold:=a) (by omega)];have e1:=ih (k + 1) (by omega);have e2:=(hb k (by omega)).2;rw [Zaf (by omega),Zaf (by omega)] at e2;omega
 exact key (lim.length - k) k (by omega)
theorem Zhw {lim:List Int} (h:ZjR lim=true):Zad lim (List.replicate lim.length 0)=true:=by
 refine ZS.2 ⟨h,by simp,λ k hk=>?_⟩;rw [Zge lim.length (lim.length - k) k (by omega),List.getD_eq_getElem?_getD];have:=(ZaP.1 h).2 k hk;rw [Zaf hk];simp [hk];omega
theorem Zn2 {a:List Int} (h:∀ k,k<a.length->0<=a.getD k 0):∀ t k:Nat,k + t=a.length->0<=Za2 a k
 |0,k,e=>by rw [ZcI (by omega)];exact Int.le_refl _
 |t + 1,k,e=>by
  have h1:=Zn2 h t (k + 1) (by omega);have h2:=h k (by omega);rw [Zaf (by omega)] at h2;rw [Zbm (by omega)];omega
theorem Zfo {lim sold:List Int} {c many:Int} (h:(Za7 lim sold c many).2=0):
  (Za7 lim sold c many).1=sold.set c.toNat (sold.getD c.toNat 0 + many)/\Zad lim (Za7 lim sold c many).1=true/\0<=c/\c<lim.length/\1<=many:=by
 unfold Za7 at h ⊢;split at h
 ·cases h
 split at h
 ·cases h
 rename_i h1 h2;rw [if_neg h1,if_neg h2];have h3:(ZbA lim sold c).2=0:=Classical.byContradiction λ e=>h1 (.inl e);obtain ⟨hn,hc0,hc1⟩:=ZmI h3;have hl:(ZbA lim sold c).1=mnF (ZdR lim sold) (c.toNat + 1):=by unfold ZbA;rw [if_pos ⟨hn,hc0,hc1⟩]
 rw [hl] at h2;obtain ⟨i1,i2,i3⟩:=ZS.1 hn;have hm:=ZnL (ZdR lim sold) (c.toNat + 1)
 suffices key:Zad lim (sold.set c.toNat (sold.getD c.toNat 0 + many))=true from ⟨rfl,key,hc0,hc1,by omega⟩
 refine ZS.2 ⟨i1,by rw [List.length_set];exact i2,λ k hk=>?_⟩;have hf:=Zd1 (sold:=sold) (c:=c.toNat) (m:=many) (by omega) (lim.length - k) k (by omega);have hk3:=i3 k hk;have hle:Za2 (sold.set c.toNat (sold.getD c.toNat 0 + many)) k<=lim.getD k 0:=by
  rw [hf];split
  ·have h5:mnF (ZdR lim sold) (c.toNat + 1)<=lim.getD k 0 - Za2 sold k:=hm.2.1 k (by omega) (by omega)
   omega
  ·omega
 refine ⟨?_,hle⟩;have hnn:∀ j,j<(sold.set c.toNat (sold.getD c.toNat 0 + many)).length->0<=(sold.set c.toNat (sold.getD c.toNat 0 + many)).getD j 0:=λ j hj=>by
  rw [List.length_set] at hj;rw [Zaf (by rw [List.length_set];exact hj),List.getElem_set];have hj3:=i3 j (by omega);rw [Zaf hj] at hj3;split
  ·rename_i e
   have h9:=i3 c.toNat (by omega);omega
  ·omega
 have h0:=hnn k (by rw [List.length_set];omega);refine ⟨h0,?_⟩;have hs:=Zbm (sold:=sold.set c.toNat (sold.getD c.toNat 0 + many)) (k:=k) (by rw [List.length_set];omega);have hg:=Zn2 hnn (lim.length - (k + 1)) (k + 1) (by rw [List.length_set];omega);have hlk:=((ZaP.1 i1).2 k hk).1.2;rw [Zaf (by rw [List.length_set];omega)];rw [Zaf hk] at hle;omega
variable {f:PF} {r:RF}
theorem ZcD {L:List ZJ} {x:Int}:x∈ZV L↔∃ h∈L,x∈h.seats:=List.mem_flatMap
theorem Zjh (t:Tie f r) (g:ZaK r) (o c m:Int):(Zbi f o c m).2=(ZN r o c m).2/\Tie (Zbi f o c m).1 (ZN r o c m).1/\ZaK (ZN r o c m).1:=by
 unfold Zbi ZN;rw [t.get g.rise,t.lims,t.sold];split
 ·exact ⟨rfl,t,g⟩
 rename_i ho;split
 ·exact ⟨rfl,t,g⟩
 rename_i hn;have hno:Zcg o r.L=none:=by cases e:Zcg o r.L with|none=>rfl|some x=>rw [e] at hn;simp at hn
 split
 ·rename_i hs
  obtain ⟨e1,e2,c0,c1,hm⟩:=Zfo hs;have hsold:(Za7 r.lims r.sold c m).1=Zal r.lims.length (ZlC ⟨o,c,m,[]⟩ r.L):=by
   rw [e1];exact Zfc (h:=⟨o,c,m,[]⟩) (ZbB _ _) c0 c1
  refine ⟨rfl,⟨t.num,t.rows,t.grps,rfl,hsold,?_,?_,?_,t.nod⟩,⟨g.num,g.lay,?_,g.l0,ZlB g.rise hno,?_,?_⟩⟩
  ·show ((f.hs++[(o,(⟨o,c,m,[]⟩:ZJ))]).map (·.2)).Perm _
   rw [List.map_append];refine (List.perm_append_comm.trans ?_).trans (ZbB _ _).symm;exact t.hs.cons _
  ·intro e he
   rcases List.mem_append.1 he with he|he
   ·exact t.key e he
   ·rw [List.mem_singleton.1 he]
  ·intro n o'
   show ZD n f.own=some o'↔_;rw [t.own];constructor
   ·rintro ⟨h,hh,e,hs⟩;exact ⟨h,(ZbB _ _).mem_iff.2 (List.mem_cons_of_mem _ hh),e,hs⟩
   ·rintro ⟨h,hh,e,hs⟩
    rcases List.mem_cons.1 ((ZbB _ _).mem_iff.1 hh) with rfl|hh
    ·cases hs
    ·exact ⟨h,hh,e,hs⟩
  ·show Zad r.lims (Zal r.lims.length (ZlC ⟨o,c,m,[]⟩ r.L))=true
   rw [<-hsold];exact e2
  ·intro h hh
   rcases List.mem_cons.1 ((ZbB _ _).mem_iff.1 hh) with rfl|hh
   ·exact ⟨by dsimp only;omega,⟨c0,c1⟩,hm,λ i j hj=>by simp at hj,by simp;omega,λ x hx=>by cases hx⟩
   ·exact g.each h hh
  ·show (ZlC ⟨o,c,m,[]⟩ r.L).Pairwise _
   refine ((ZbB _ _).pairwise_iff λ {a b} h x hx hx'=>h x hx' hx).2 (List.pairwise_cons.2 ⟨λ y _ x hx=>(by cases hx),g.apart⟩)
 ·exact ⟨rfl,t,g⟩
theorem ZkQ {n:Nat} {A C:List ZJ} {h h':ZJ} (e1:h'.cls=h.cls) (e2:h'.many=h.many):Zal n (A++h'::C)=Zal n (A++h::C):=by
 unfold Zal;refine List.map_congr_left λ k _=>?_;rw [ZeA,ZeA];simp only [Zgm,e1,e2]
theorem Zia {A C:List ZJ} {h:ZJ} (g:(A++h::C).Pairwise λ a b=>∀ x∈a.seats,x ∉ b.seats):(∀ y∈A++C,∀ x∈h.seats,x ∉ y.seats)/\(A++C).Pairwise λ a b=>∀ x∈a.seats,x ∉ b.seats:=by
 have p:(A++h::C).Perm (h::(A++C)):=List.perm_middle;have:=(p.pairwise_iff λ {a b} h x hx hx'=>h x hx' hx).1 g;exact List.pairwise_cons.1 this
theorem ZjP {A C:List ZJ} {h y:ZJ} (hy:y∈A++C):y∈A++h::C:=by
 rw [List.mem_append] at hy;rw [List.mem_append,List.mem_cons];rcases hy with hy|hy
 ·exact .inl hy
 ·exact .inr (.inr hy)
theorem Zj2 {A C:List ZJ} {h h':ZJ} (g:ZaK r) (hL:r.L=A++h::C) (e1:h'.owner=h.owner) (e2:h'.cls=h.cls) (e3:h'.many=h.many) (hr:ZpS h'.seats) (hf:(h'.seats.length:Int)<=h.many)
  (hs:∀ x∈h'.seats,x∈h.seats\/(x ∉ ZV r.L/\0<=x/\x<Za5 r.rows r.grps)):ZaK { r with L:=A++h'::C }:=by
 have hh:=g.each h (by rw [hL];simp);have hap:=g.apart;rw [hL] at hap;obtain ⟨a1,a2⟩:=Zia hap;refine ⟨g.num,g.lay,?_,g.l0,?_,?_,?_⟩
 ·show Zad r.lims (Zal r.lims.length (A++h'::C))=true
  rw [ZkQ e2 e3,<-hL];exact g.nest
 ·have:=g.rise;rw [hL] at this;exact Zwe e1 this
 ·intro x hx
  show ZvJ r.lims.length (Za5 r.rows r.grps) x;have hx:x∈A++h'::C:=hx;rw [List.mem_append,List.mem_cons] at hx;rcases hx with hx|rfl|hx
  ·exact g.each x (by rw [hL];simp [hx])
  ·exact ⟨by rw [e1];exact hh.owner,by rw [e2];exact hh.cls,by rw [e3];exact hh.many,hr,by rw [e3];exact hf,λ y hy=>by
    rcases hs y hy with hy|hy
    ·exact hh.seats y hy
    ·exact hy.2⟩
  ·exact g.each x (by rw [hL];simp [hx])
 ·show (A++h'::C).Pairwise _
  refine ((List.perm_middle (a:=h') (l₁:=A) (l₂:=C)).pairwise_iff λ {a b} h x hx hx'=>h x hx' hx).2 (List.pairwise_cons.2 ⟨λ y hy x hx=>?_,a2⟩);rcases hs x hx with hx|hx
  ·exact a1 y hy x hx
  ·exact λ hxy=>hx.1 (ZcD.2 ⟨y,by rw [hL];exact ZjP hy,hxy⟩)
theorem Zmg {A C:List ZJ} {h h':ZJ} {own':List (Int × Int)} (t:Tie f r) (g:ZaK r) (hL:r.L=A++h::C) (hA:Zcg h.owner A=none) (e1:h'.owner=h.owner) (e2:h'.cls=h.cls) (e3:h'.many=h.many)
  (hs:∀ x∈h'.seats,x∈h.seats\/x ∉ ZV r.L) (hn:(own'.map (·.1)).Nodup) (ho:∀ n,ZD n own'=if n∈h'.seats then some h.owner else if n∈h.seats then none else ZD n f.own):
  Tie { f with hs:=ZeG h.owner h' f.hs,own:=own' } { r with L:=A++h'::C }:=by
 have hap:=g.apart;rw [hL] at hap;obtain ⟨a1,a2⟩:=Zia hap;have hg:ZD h.owner f.hs=some h:=by rw [t.get g.rise,hL];exact Zj5 rfl hA
 obtain ⟨a,c,hsp,hna⟩:=Zar hg;have hset:ZeG h.owner h' f.hs=a++(h.owner,h')::c:=by rw [hsp];exact Zff hna (Ze3 _)
 refine ⟨t.num,t.rows,t.grps,t.lims,?_,?_,?_,?_,hn⟩
 ·show f.sold=Zal r.lims.length (A++h'::C)
  rw [ZkQ e2 e3,<-hL];exact t.sold
 ·show ((ZeG h.owner h' f.hs).map (·.2)).Perm (A++h'::C)
  have p:=t.hs;rw [hsp,hL,List.map_append,List.map_cons] at p;rw [hset,List.map_append,List.map_cons];have p2:=(List.perm_middle.symm.trans p).trans List.perm_middle;exact (List.perm_middle.trans (p2.cons_inv.cons h')).trans List.perm_middle.symm
 ·show ∀ e∈ZeG h.owner h' f.hs,e.2.owner=e.1
  rw [hset];intro e he;rw [List.mem_append,List.mem_cons] at he;rcases he with he|rfl|he
  ·exact t.key e (by rw [hsp];simp [he])
  ·exact e1
  ·exact t.key e (by rw [hsp];simp [he])
 ·intro n o
  show ZD n own'=some o↔∃ x∈A++h'::C,x.owner=o/\n∈x.seats;rw [ho];constructor
  ·intro e
   split at e
   ·rename_i hn';cases e
    exact ⟨h',by simp,e1,hn'⟩
   ·split at e
    ·cases e
    ·rename_i h1 h2
     obtain ⟨x,hx,hxo,hxn⟩:=(t.own n o).1 e;rw [hL,List.mem_append,List.mem_cons] at hx;rcases hx with hx|rfl|hx
     ·exact ⟨x,by simp [hx],hxo,hxn⟩
     ·exact absurd hxn h2
     ·exact ⟨x,by simp [hx],hxo,hxn⟩
  ·rintro ⟨x,hx,hxo,hxn⟩
   rw [List.mem_append,List.mem_cons] at hx;have other:x∈A++C->(if n∈h'.seats then some h.owner else if n∈h.seats then none else ZD n f.own)=some o:=λ hx=>by
    have hxL:x∈r.L:=by rw [hL];exact ZjP hx
    have n1:n ∉ h.seats:=λ hh=>a1 x hx n hh hxn;have n2:n ∉ h'.seats:=λ hh=>by
     rcases hs n hh with hh|hh
     ·exact n1 hh
     ·exact hh (ZcD.2 ⟨x,hxL,hxn⟩)
    rw [if_neg n2,if_neg n1];exact (t.own n o).2 ⟨x,hxL,hxo,hxn⟩
   rcases hx with hx|rfl|hx
   ·exact other (by simp [hx])
   ·rw [if_pos hxn,<-hxo,e1]
   ·exact other (by simp [hx])
theorem Zne (t:Tie f r) (g:ZaK r) (o:Int) (lab:ByteArray) (hf:∀ k,Zbe r.rows r.grps lab=(k,0)->0<=k/\k<Za5 r.rows r.grps):
  (ZeV f o lab).2=(Z6 r o lab).2/\Tie (ZeV f o lab).1 (Z6 r o lab).1/\ZaK (Z6 r o lab).1:=by
 unfold ZeV Z6;rw [t.get g.rise];cases hg:Zcg o r.L with
 |none=>exact ⟨rfl,t,g⟩
 |some h=>
  obtain ⟨A,C,hL,hA,rfl⟩:=ZbT hg;have hh:=g.each h (by rw [hL];simp);dsimp only;rw [show Zbe f.rows f.grps lab=Zbe r.rows r.grps lab by rw [t.rows,t.grps]];split
  ·exact ⟨rfl,t,g⟩
  rename_i h2;split
  ·exact ⟨rfl,t,g⟩
  rename_i h3;have hfe:(Zbe r.rows r.grps lab).2=0:=Classical.byContradiction h2;have hb:=hf (Zbe r.rows r.grps lab).1 (by rw [<-hfe]);by_cases h4:(Zbe r.rows r.grps lab).1∈ZV r.L
  ·rw [if_pos ((t.taken _).2 h4),if_pos h4];exact ⟨rfl,t,g⟩
  ·rw [if_neg (λ e=>h4 ((t.taken _).1 e)),if_neg h4]
   generalize (Zbe r.rows r.grps lab).1=n at *;have hset:ZqA h.owner (h.put n) r.L=A++h.put n::C:=by rw [hL];exact Zfe rfl hA
   rw [hset];have hnh:n ∉ h.seats:=λ e=>h4 (ZcD.2 ⟨h,by rw [hL];simp,e⟩);have hs:∀ x∈(h.put n).seats,x∈h.seats\/(x ∉ ZV r.L/\0<=x/\x<Za5 r.rows r.grps):=λ x hx=>by
    rcases Zbz.1 hx with rfl|hx
    ·exact .inr ⟨h4,hb⟩
    ·exact .inl hx
   refine ⟨rfl,Zmg (h':=h.put n) t g hL hA rfl rfl rfl (λ x hx=>(hs x hx).imp id (·.1)) (Zf2 t.nod) λ x=>?_,Zj2 (h':=h.put n) g hL rfl rfl rfl ?_ ?_ hs⟩
   ·rw [ZhP]
    show _=if x∈Zga n h.seats then some h.owner else _
    by_cases hx:x=n
    ·rw [if_pos hx,if_pos (Zbz.2 (.inl hx))]
    ·rw [if_neg hx]
     by_cases hx2:x∈h.seats
     ·rw [if_pos (Zbz.2 (.inr hx2))]
      exact (t.own x h.owner).2 ⟨h,by rw [hL];simp,rfl,hx2⟩
     ·rw [if_neg (λ e=>(Zbz.1 e).elim hx hx2),if_neg hx2]
   ·exact Zeh.2 (ZmP (Zeh.1 hh.rise) hnh)
   ·show ((Zga n h.seats).length:Int)<=_
    rw [ZjZ];omega
theorem Zng (t:Tie f r) (g:ZaK r) (o:Int):(Zj4 f o).2=(Zb1 r o).2/\Tie (Zj4 f o).1 (Zb1 r o).1/\ZaK (Zb1 r o).1:=by
 unfold Zj4 Zb1;rw [t.get g.rise];cases hg:Zcg o r.L with
 |none=>exact ⟨rfl,t,g⟩
 |some h=>
  obtain ⟨A,C,hL,hA,rfl⟩:=ZbT hg;have hh:=g.each h (by rw [hL];simp);have hmany:∀ x∈r.L,1<=x.many:=λ x hx=>(g.each x hx).many;have hap:=g.apart;rw [hL] at hap;obtain ⟨a1,a2⟩:=Zia hap;dsimp only;have hdel:Zvu h.owner r.L=A++C:=by rw [hL];exact Zkj rfl hA
  rw [hdel];have p:r.L.Perm (h::(A++C)):=by rw [hL];exact List.perm_middle
  have hout:r.sold.set h.cls.toNat (r.sold.getD h.cls.toNat 0 - h.many)=Zal r.lims.length (A++C):=Zqt p hh.cls.1 hh.cls.2;have hle:h.many<=r.sold.getD h.cls.toNat 0:=by
   show _<=(Zal r.lims.length r.L).getD _ 0;have hcl:=hh.cls;rw [ZbM (by omega),Zdm p,show ((h.cls.toNat:Nat):Int)=h.cls by omega];have:=Zh4 (k:=h.cls) (L:=A++C) λ x hx=>hmany x (by rw [hL];exact ZjP hx);show h.many<=(if h.cls=h.cls then h.many else 0) + _
   rw [if_pos rfl];omega
  have hback:ZfO f.lims f.sold h.cls h.many=(Zal r.lims.length (A++C),0):=by
   rw [t.lims,t.sold];unfold ZfO;have hl:(ZbA r.lims r.sold h.cls).2=0:=by unfold ZbA;rw [if_pos ⟨g.nest,hh.cls.1,hh.cls.2⟩]
   rw [if_neg (by rw [hl];have:=hh.many;omega),hout]
  rw [hback];have hg2:ZD h.owner f.hs=some h:=by rw [t.get g.rise];exact hg
  obtain ⟨a,c,hsp,hna⟩:=Zar hg2;have hdm:Ze9 h.owner f.hs=a++c:=by rw [hsp];exact Zey hna (Ze3 _)
  obtain ⟨d1,d2⟩:=Zpw (l:=h.seats) t.nod;refine ⟨rfl,⟨t.num,t.rows,t.grps,t.lims,rfl,?_,?_,?_,d1⟩,⟨g.num,g.lay,?_,g.l0,?_,?_,a2⟩⟩
  ·show ((Ze9 h.owner f.hs).map (·.2)).Perm (A++C)
   have p:=t.hs;rw [hsp,hL,List.map_append,List.map_cons] at p;rw [hdm,List.map_append];exact ((List.perm_middle.symm.trans p).trans List.perm_middle).cons_inv
  ·show ∀ e∈Ze9 h.owner f.hs,e.2.owner=e.1
   intro e he;exact t.key e ((Zkk _ _).subset he)
  ·intro n o'
   show ZD n (Zch h.seats f.own)=some o'↔∃ x∈A++C,x.owner=o'/\n∈x.seats;rw [d2];constructor
   ·intro e
    split at e
    ·cases e
    ·rename_i hn
     obtain ⟨x,hx,hxo,hxn⟩:=(t.own n o').1 e;rcases List.mem_cons.1 (p.mem_iff.1 hx) with rfl|hx
     ·exact absurd hxn hn
     ·exact ⟨x,hx,hxo,hxn⟩
   ·rintro ⟨x,hx,hxo,hxn⟩
    rw [if_neg (λ hh=>a1 x hx n hh hxn)];exact (t.own n o').2 ⟨x,p.mem_iff.2 (List.mem_cons_of_mem _ hx),hxo,hxn⟩
  ·refine ZrA g.nest (by show (Zal _ _).length=(Zal _ _).length;rw [Zbu,Zbu]) λ k hk=>?_
   show 0<=(Zal r.lims.length (A++C)).getD k 0/\(Zal r.lims.length (A++C)).getD k 0<=(Zal r.lims.length r.L).getD k 0;have hk:k<r.lims.length:=hk;rw [ZbM hk,ZbM hk,Zdm p];refine ⟨Zh4 λ x hx=>hmany x (p.mem_iff.2 (List.mem_cons_of_mem _ hx)),?_⟩;rw [Zd8];have:=hh.many;split<;>omega
  ·have:=g.rise;rw [hL] at this;exact Zwf this
  ·intro x hx
   exact g.each x (p.mem_iff.2 (List.mem_cons_of_mem _ hx))
end
section
open Go Go.VC Tryz
theorem Zn3 {u u':Nat->Bool} {x:Int} (h:∀ j:Nat,u' j=true->u j=true\/(j:Int)=x):∀ N:Nat,(Zay u N).length<=(Zay u' N).length + (if x<N/\0<=x then 1 else 0)
 |0=>by simp [Zay]
 |N + 1=>by
  have ih:=Zn3 h N;rw [Zd2,Zd2];by_cases e:u N=true
  ·rw [if_pos e]
   split at ih<;>split<;>split<;>omega
  ·rw [if_neg e]
   by_cases e2:u' N=true
   ·rw [if_pos e2]
    have e3:(N:Int)=x:=(h N e2).resolve_left e;rw [if_neg (by omega)] at ih;rw [if_pos (by omega)];omega
   ·rw [if_neg e2]
    split at ih<;>split<;>omega
theorem Zn4:∀ (T:List Int) (N:Nat),N<=(Zay (Zbc T) N).length + T.length
 |[],N=>by
  have key:∀ N:Nat,(Zay (Zbc []) N).length=N:=λ N=>by
   induction N with
   |zero=>rfl
   |succ N ih=>rw [Zd2,ih];simp [Zbc]
  rw [key];omega
 |x::T,N=>by
  have ih:=Zn4 T N;have h1:=Zn3 (u:=Zbc T) (u':=Zbc (x::T)) (x:=x) (λ j hj=>by
   unfold Zbc at hj ⊢;rw [decide_eq_true_eq] at hj ⊢;rcases List.mem_cons.1 hj with h|h
   ·exact .inr h
   ·exact .inl h) N
  rw [List.length_cons];split at h1<;>omega
theorem Zy2 {n:Int} {g taken:List Int} {many:Int}:∀ x∈(Zaq n g taken many).1,(0<=x/\x<Za5 n g)/\x ∉ taken:=by
 intro x hx;have hb:=Zc7 n g;have nat:∀ j:Nat,j<(Za5 n g).toNat->Zbc taken j=false->(0<=(j:Int)/\(j:Int)<Za5 n g)/\(j:Int) ∉ taken:=λ j h1 h2=>by
  refine ⟨by omega,?_⟩;unfold Zbc at h2;exact of_decide_eq_false h2
 unfold Zaq at hx;split at hx
 ·cases hx
 rename_i hm;obtain ⟨j,hj,rfl⟩:=List.mem_map.1 hx;unfold ZeN at hj;split at hj
 ·rename_i i hfi
  have h1:=List.find?_some hfi;have h2:=List.mem_range.1 (List.mem_of_find?_eq_some hfi);have h3:many.toNat<=ZfV (Zbc taken) (zF g) (i + 1):=by rw [beq_iff_eq.1 h1];exact Nat.le_refl _
  obtain ⟨h4,h5⟩:=ZqJ.1 h3;unfold Zkx at hj;obtain ⟨t,ht,rfl⟩:=List.mem_map.1 hj;have ht:=List.mem_range.1 ht;exact nat _ (by omega) (h5 _ (by omega) (by omega)).1
 ·split at hj
  ·cases hj
  ·obtain ⟨i,hi⟩:=List.getElem?_of_mem (List.mem_of_mem_take hj)
   obtain ⟨h1,h2,_⟩:=Zj8 hi;exact nat j h1 h2
theorem Zu5 {n:Int} {g taken:List Int} {many:Int} (h:(Zaq n g taken many).2=0):((Zaq n g taken many).1.length:Int)=many:=by
 unfold Zaq at h ⊢;split at h
 ·cases h
 rename_i hm;rw [if_neg hm];rw [List.length_map];dsimp only at h;unfold ZeN at h ⊢;generalize (List.range (Za5 n g).toNat).find? (λ j=>ZfV (Zbc taken) (zF g) (j + 1)==many.toNat)=o at h ⊢;cases o with
 |some i=>
  dsimp only;rw [ZgR];omega
 |none=>
  dsimp only at h ⊢;split at h
  ·cases h
  ·rename_i h2
   rw [if_neg h2,List.length_take];omega
theorem Zy1 {n:Int} {g taken:List Int} {many:Int} (h1:1<=many) (h2:many + taken.length<=Za5 n g):(Zaq n g taken many).2=0:=by
 have hb:=Zc7 n g;unfold Zaq;rw [if_neg (by omega)];dsimp only;unfold ZeN;split
 ·rfl
 ·rw [if_neg]
  have:=Zn4 taken (Za5 n g).toNat;omega
theorem Zs9 {n:Int} {g a b:List Int} {many:Int} (h:∀ x,x∈a↔x∈b):Zaq n g a many=Zaq n g b many:=by
 have:Zbc a=Zbc b:=by
  funext j
  unfold Zbc;rw [decide_eq_decide];exact h _
 unfold Zaq;rw [this]
variable {f:PF} {r:RF}
theorem ZkK:∀ {L:List ZJ},(∀ h∈L,(h.seats.length:Int)<=h.many)->((ZV L).length:Int)<=Zl7 L
 |[],_=>Int.le_refl _
 |h::L,hf=>by
  have ih:=ZkK λ x hx=>hf x (List.mem_cons_of_mem _ hx);have h1:=hf h List.mem_cons_self;show ((h.seats++ZV L).length:Int)<=h.many + Zl7 L;rw [List.length_append];omega
theorem Zqb {A B:List ZJ} (h:A.Perm B):Zl7 A=Zl7 B:=by
 induction h with
 |nil=>rfl
 |cons x _ ih=>simp only [Zl7,ih]
 |swap x y l=>simp only [Zl7];exact Int.add_left_comm _ _ _
 |trans _ _ a b=>exact a.trans b
theorem ZaK.tot (g:ZaK r):Zl7 r.L<=Za5 r.rows r.grps:=by
 rw [<-ZkI (n:=r.lims.length) λ h hh=>(g.each h hh).cls,<-g.l0];have hl:=(ZaP.1 (ZS.1 g.nest).1).1.1;exact ((ZS.1 g.nest).2.2 0 (by omega)).2
theorem ZrR:∀ {L:List ZJ},(∀ h∈L,1<=h.many)->(L.length:Int)<=Zl7 L/\∀ h∈L,h.many<=Zl7 L
 |[],_=>⟨Int.le_refl _,by simp⟩
 |h::L,hm=>by
  obtain ⟨i1,i2⟩:=ZrR λ x hx=>hm x (List.mem_cons_of_mem _ hx);have h1:=hm h List.mem_cons_self;have e:Zl7 (h::L)=h.many + Zl7 L:=rfl;rw [e,List.length_cons];refine ⟨by omega,λ x hx=>?_⟩;rcases List.mem_cons.1 hx with rfl|hx
  ·omega
  ·have:=i2 x hx;omega
theorem ZaK.len (g:ZaK r):(r.L.length:Int)<=600/\∀ h∈r.L,h.many<=600:=by
 obtain ⟨h1,h2⟩:=ZrR λ h hh=>(g.each h hh).many;have h3:=g.tot;have h4:=(Zc7 r.rows r.grps).2;exact ⟨by omega,λ h hh=>by have:=h2 h hh;omega⟩
theorem ZaK.best (g:ZaK r) {A C:List ZJ} {h:ZJ} (hL:r.L=A++h::C) (hs:h.seats=[]):(Zaq r.rows r.grps (ZV r.L) h.many).2=0:=by
 have hh:=g.each h (by rw [hL];simp);refine Zy1 hh.many ?_;have h1:=g.tot;have p:r.L.Perm (h::(A++C)):=by rw [hL];exact List.perm_middle
 rw [Zqb p] at h1;have e1:Zl7 (h::(A++C))=h.many + Zl7 (A++C):=rfl;have e2:(ZV r.L).length=(ZV (A++C)).length:=by
  rw [hL];unfold ZV;rw [List.flatMap_append,List.flatMap_cons,hs,List.nil_append,<-List.flatMap_append]
 have e3:=ZkK (L:=A++C) λ x hx=>(g.each x (by rw [hL];exact ZjP hx)).few;omega
theorem Zji (t:Tie f r) (g:ZaK r) (o:Int):
  (ZgO f o).2=(Zam r o).2/\Tie (ZgO f o).1 (Zam r o).1/\ZaK (Zam r o).1/\((Zam r o).2.2=0\/(Zam r o).2.2=2\/(Zam r o).2.2=7):=by
 unfold ZgO Zam;rw [t.get g.rise];cases hg:Zcg o r.L with
 |none=>exact ⟨rfl,t,g,.inr (.inl rfl)⟩
 |some h=>
  obtain ⟨A,C,hL,hA,rfl⟩:=ZbT hg;have hh:=g.each h (by rw [hL];simp);dsimp only;split
  ·exact ⟨rfl,t,g,.inr (.inr rfl)⟩
  rename_i hs;have hs:h.seats=[]:=List.length_eq_zero_iff.1 (by omega);have e:Zaq f.rows f.grps (f.own.map (·.1)) h.many=Zaq r.rows r.grps (ZV r.L) h.many:=by
   rw [t.rows,t.grps];exact Zs9 λ x=>by rw [<-t.taken,Zes]
  have hb:=g.best hL hs;have hin:=Zy2 (n:=r.rows) (g:=r.grps) (taken:=ZV r.L) (many:=h.many);have hri:=Zl2 (n:=r.rows) (g:=r.grps) (taken:=ZV r.L) (many:=h.many);have hct:=Zu5 hb;rw [if_pos hb,e,show ZdM f.rows f.grps=ZdM r.rows r.grps by rw [t.rows,t.grps]];have hset:ZqA h.owner { h with seats:=(Zaq r.rows r.grps (ZV r.L) h.many).1 } r.L=A++{ h with seats:=(Zaq r.rows r.grps (ZV r.L) h.many).1 }::C:=by rw [hL];exact Zfe rfl hA
  rw [hset,hb];generalize (Zaq r.rows r.grps (ZV r.L) h.many).1=l at *;obtain ⟨p1,p2⟩:=ZoW (o:=h.owner) (l:=l) t.nod;refine ⟨rfl,Zmg (h':={ h with seats:=l }) t g hL hA rfl rfl rfl (λ x hx=>.inr (hin x hx).2) p1 λ x=>?_,Zj2 (h':={ h with seats:=l }) g hL rfl rfl rfl hri ?_ λ x hx=>.inr ⟨(hin x hx).2,(hin x hx).1⟩,.inl rfl⟩
  ·rw [p2,hs]
   rw [if_neg (by simp:¬ x∈([]:List Int))]
  ·show (l.length:Int)<=h.many
   omega
theorem Znf (t:Tie f r) (g:OwR r.L):(f.hs.map (·.1)).Perm (r.L.map ZJ.owner):=by
 have e:f.hs.map (·.1)=(f.hs.map (·.2)).map ZJ.owner:=by
  rw [List.map_map];exact List.map_congr_left λ e he=>(t.key e he).symm
 rw [e];exact t.hs.map _
theorem ZtF (t:Tie f r) (g:OwR r.L):ZgI (f.hs.map (·.1))=r.L.map ZJ.owner:=by
 rw [Zdd (Znf t g)];unfold ZgI;refine List.mergeSort_of_pairwise ?_;rw [List.pairwise_map];exact g.imp λ h=>by simp only [decide_eq_true_eq];omega
theorem Zg6 (t:Tie f r) (g:OwR r.L):ZeP f=r.L:=by
 unfold ZeP;rw [ZtF t g,List.map_map];have key:∀ h∈r.L,(ZeQ f ∘ ZJ.owner) h=h:=λ h hh=>by
  show (ZD h.owner f.hs).getD ZzN=h;rw [t.get g,(ZfC g.ne).2 ⟨hh,rfl⟩];rfl
 rw [List.map_congr_left key,List.map_id']
theorem ZtG (t:Tie f r):ZiX f=Zr r:=by
 unfold ZiX Zr;rw [t.lims,t.sold]
theorem Zou (t:Tie f r) (g:OwR r.L) (o:Int):Ze2 f o=ZaT r o:=by
 unfold Ze2 ZaT;rw [t.get g,t.rows,t.grps]
 try (cases Zcg o r.L<;>rfl)
theorem Tie.nodK (t:Tie f r) (g:OwR r.L):(f.hs.map (·.1)).Nodup:=by
 refine ((Znf t g).nodup_iff).2 ?_;rw [List.nodup_iff_pairwise_ne,List.pairwise_map];exact g.ne
theorem Tie.mem (t:Tie f r) {e:Int × ZJ} (he:e∈f.hs):e.2∈r.L:=t.hs.mem_iff.1 (List.mem_map.2 ⟨e,he,rfl⟩)
theorem Tie.ownIn (t:Tie f r) (g:ZaK r):∀ k∈f.own.map (·.1),0<=k/\k<Za5 r.rows r.grps:=λ k hk=>by
 obtain ⟨o,ho⟩:=Option.isSome_iff_exists.1 (Zes.2 hk);obtain ⟨h,hh,_,hs⟩:=(t.own k o).1 ho;exact (g.each h hh).seats k hs
theorem ZjH:∀ (N:Nat) {l:List Int},l.Nodup->(∀ x∈l,0<=x/\x<N)->l.length<=N
 |0,[],_,_=>Nat.le_refl _
 |0,x::l,_,hb=>by have:=hb x List.mem_cons_self;omega
 |N + 1,l,h,hb=>by
  by_cases hm:(N:Int)∈l
  ·have h1:=ZjH N (h.erase (N:Int)) λ x hx=>by
    have h2:=(h.mem_erase_iff).1 hx;have:=hb x h2.2;have:=h2.1;omega
   rw [List.length_erase_of_mem hm] at h1;omega
  ·have h1:=ZjH N h λ x hx=>by
    have:=hb x hx;have:x≠N:=λ e=>hm (by rw [<-e];exact hx);omega
   omega
theorem Tie.bounds (t:Tie f r) (g:ZaK r):f.hs.length<=600/\f.own.length<=600/\f.lims.length<=8/\f.sold.length<=8/\f.grps.length<=4/\(∀ e∈f.hs,ZpS e.2.seats/\e.2.seats.length<=600)/\(∀ k∈f.hs.map (·.1),1<=k/\k<=28629151):=by
 have hl:=g.len;have h1:=t.hs.length_eq;rw [List.length_map] at h1;have h2:=ZjH (Za5 r.rows r.grps).toNat t.nod λ x hx=>by have:=t.ownIn g x hx;omega
 rw [List.length_map] at h2;have h3:=Zc7 r.rows r.grps;have h4:=(ZaP.1 (ZS.1 g.nest).1).1.2;have h5:=(Zan.1 g.lay).1;refine ⟨by omega,by omega,by rw [t.lims];exact h4,by rw [t.sold];show (Zal _ _).length<=8;rw [Zbu];exact h4,by rw [t.grps];omega,λ e he=>?_,λ k hk=>?_⟩
 ·have hh:=g.each _ (t.mem he)
  have:=hl.2 _ (t.mem he);exact ⟨hh.rise,by have:=hh.few;omega⟩
 ·obtain ⟨e,he,rfl⟩:=List.mem_map.1 hk
  have hh:=g.each _ (t.mem he);have:=hh.owner;rw [t.key e he] at this;exact this
def Zmp (num rows:Int) (grps lims:List Int):RF:=⟨num,rows,grps,lims,[]⟩
theorem Zj3 {num rows:Int} {grps:List Int} {parts:List Nat} (h:ZjI num rows grps parts):ZaK (Zmp num rows grps (Zac (Za5 rows grps) parts).1):=by
 obtain ⟨h1,h2,h3,h4⟩:=h;obtain ⟨l1,l2⟩:=ZrN h4;refine ⟨⟨h1,h2⟩,h3,?_,l2,List.Pairwise.nil,λ h hh=>(by cases hh),List.Pairwise.nil⟩;show Zad _ (Zal _ [])=true;rw [Zfd];exact Zhw l1
theorem Zqf {num rows:Int} {grps lims:List Int}:Tie (Zag num rows grps lims) (Zmp num rows grps lims):=by
 refine ⟨rfl,rfl,rfl,rfl,?_,List.Perm.refl _,λ e he=>(by cases he),λ n o=>?_,List.nodup_nil⟩
 ·show List.replicate _ 0=Zal _ []
  rw [Zfd];rfl
 ·constructor
  ·intro h;cases h
  ·rintro ⟨h,hh,_⟩;cases hh
end
end Go.Proofs.YtlplemdmegpoeaaGreatDoor

namespace Go.Proofs.YtlplemdmegpoeaaGreatDoor
section
open Go Go.VC Tryz
variable {R:Cx} {Hs Rest:List HP} {w:World}
theorem HsR.row {s:Sl} {L:List ZJ} {ts:List Sl} {S:World->Prop} {k:Nat} (hr:HsR R s L ts) (hS:∀ w,S w->Sat R Hs w) (hk:k<L.length) (hk':k<ts.length) {F:Addr->Prop}
  (f:∀ a:Addr,At S (Addr.add a (ZgL k 4)) (ZqN L[k] ts[k])->F a):Rng (k:Int) s.len (Zd s.a F):=by
 have hl:=ZdQ hr.len;refine (hr.rows.reads hS).rng (k:=k) (by omega) λ b off ha hat=>f _ ?_;rw [ZhX];refine hat 0 _ ?_;rw [ZtN hk hk'];exact ⟨rfl,rfl,rfl,rfl,trivial⟩
def ZwZ (f:PF):List Int:=Zvs f.num f.rows f.grps f.lims (ZeP f)
theorem Zi1 (f:PF):(ZeP f).length=f.hs.length:=by unfold ZeP ZgI;rw [List.length_map,List.length_mergeSort,List.length_map]
structure ZvK (f:PF):Prop where
 num:0<=f.num/\f.num<9223372036854775808
 rows:0<=f.rows/\f.rows<9223372036854775808
 grps:ZeF f.grps
 lims:ZeF f.lims
 gl:f.grps.length<=1000
 ll:f.lims.length<=1000
 hs:∀ h∈ZeP f,ZgH h
 hl:f.hs.length<=10000
theorem ZlM {p:Nat} {f:PF} (sm:ZvK f) (hu:(f.hs.map (·.1)).Nodup) (hn:∀ k∈f.hs.map (·.1),-1000000000<=k/\k<=1000000000) (hR:∀ e∈f.hs,e.2.seats.length<=1000000) (hw:Sat R (Zn p f::Hs) w):
  Zo prog 64 #[.pointer (some ⟨p,0,none⟩)] w λ v w'=>∃ t:Sl,v=.slice t.a t.len t.cap/\Sat R (Own t 5 (b8 (ZwZ f))::Zn p f::Hs) w':=by
 obtain ⟨hm,om,sg,sl,ss,E,R',hE,ee,rg,rl,_,hw,back⟩:=Sat.flightO hw;have rgo:RoI R' sg f.grps:=rg.ro (by rw [List.length_map];have:=sm.gl;omega);have rlo:RoI R' sl f.lims:=rl.ro (by rw [List.length_map];have:=sm.ll;omega);have hel:(ZZ E).length=f.hs.length:=by rw [<-hE];simp [ZZ,hEr]
 apply ZAj
 suffices H:∀ K:Value->World->Prop,(∀ (t:Sl) w',Sat R (Own t 5 (b8 (ZwZ f))::Zn p f::Hs) w'->K (.slice t.a t.len t.cap) w')->B64 (some ⟨p,0,none⟩) K w from
  H _ λ t w' h=>⟨t,rfl,h⟩
 intro K hK;refine Zb hw λ pb w hw=>Zb hw λ bp w hw=>?_;have hw:Sat R' (pts bp (.cells [.nilFunc].toArray 113 (0,0))::lp pb ⟨none,0,0⟩::FO p hm om sg sl ss E f Hs) w:=hw;refine Za hw (by kernel_rfl) rfl (by simp [Value.cells]) λ w hw=>?_;have hw:Sat R' (Zig bp pb::lp pb ⟨none,0,0⟩::FO p hm om sg sl ss E f Hs) w:=hw;have hw:Sat R' (ZgF pb []::Zig bp pb::FO p hm om sg sl ss E f Hs) w:=Sat.outB.2 ⟨⟨none,0,0⟩,hw.swap.cons λ _ h=>Own.nil h⟩;have l2:(Zm [f.num,f.rows]).length<=18:=ZX (by intro y hy;have:=sm.num;have:=sm.rows;simp at hy;omega);have lg:=Zca sm.grps (by have:=sm.gl;omega);have ll:=Zca sm.lims (by have:=sm.ll;omega);have l1:(Zm [(f.hs.length:Int)]).length<=9:=ZX (by intro y hy;have:=sm.hl;simp at hy;omega);have:=sm.gl;have:=sm.ll;have:=sm.hl;refine ZA (Sat R' [Zig bp pb,pts p (Z2 f sg sl ss hm om),VC.tru]) hw (λ w hw=>?_) λ w hw=>?_
 ·have hw:Sat R' (Zig bp pb::pts p (Z2 f sg sl ss hm om)::ZgF pb []::MapAt hm (ZZ E)::MapAt om (Zbj f.own)::ZO E::Hs) w:=hw.arr
  exact hw.cons λ _ h=>h.restTru2
 refine ⟨Zwb pb,oS,Zd.mk rfl ⟨f.num,by rw [Zz];exact oS,Zd.mk rfl ⟨f.rows,oS,?_⟩⟩⟩;refine Zb hw λ bn w hw=>⟨?_,?_⟩
 ·have hw:Sat R' (Zig bp pb::pts p (Z2 f sg sl ss hm om)::ZgF pb []::MapAt hm (ZZ E)::MapAt om (Zbj f.own)::ZO E::Hs) w:=hw.drop.arr
  exact hw.cons λ _ h=>h.restTru2
 have hw:Sat R' (pts bn (.cells ([f.num,f.rows].map (Value.int .i64)).toArray 3 (0,0))::ZgF pb []::Zig bp pb::FO p hm om sg sl ss E f Hs) w:=hw;refine (ZjA (n:=2) (by rfl) (by intro y hy;have:=sm.num;have:=sm.rows;simp at hy;omega) (by simp) hw).mono ?_;rintro _ w ⟨rfl,hw⟩;rw [List.nil_append] at hw;refine ⟨rfl,?_,?_⟩
 ·have hw:Sat R' (Zig bp pb::pts p (Z2 f sg sl ss hm om)::ZgF pb (Zm [f.num,f.rows])::MapAt hm (ZZ E)::MapAt om (Zbj f.own)::ZO E::Hs) w:=hw.arr
  exact hw.cons λ _ h=>h.restTru2
 refine Zd.mk rfl ⟨sg,oA hw,?_⟩;refine (Zgj sm.grps (by omega) rgo hw.swap).use ?_;rintro _ w ⟨rfl,hw⟩;refine ⟨rfl,Zd.mk rfl ⟨sl,oA hw,?_⟩⟩;refine (Zgj sm.lims (by rw [List.length_append];omega) rlo hw).use ?_;rintro _ w ⟨rfl,hw⟩;refine ⟨rfl,?_⟩;have hb1:(Zm [f.num,f.rows]++Zc6 f.grps++Zc6 f.lims).length<=20000:=by rw [List.length_append,List.length_append];omega
 have hfin:Zm [f.num,f.rows]++Zc6 f.grps++Zc6 f.lims++Zm [(f.hs.length:Int)]++ZaM (ZeP f)=ZwZ f:=by
  unfold ZwZ Zvs;rw [Zi1]
 generalize hpre:Zm [f.num,f.rows]++Zc6 f.grps++Zc6 f.lims=pre at *;refine ZA (Sat R' [Zig bp pb,pts p (Z2 f sg sl ss hm om),MapAt hm (ZZ E),VC.tru]) hw (λ w hw=>?_) λ w hw=>?_
 ·have hw:Sat R' (Zig bp pb::pts p (Z2 f sg sl ss hm om)::MapAt hm (ZZ E)::ZgF pb pre::MapAt om (Zbj f.own)::ZO E::Hs) w:=hw.arr
  exact hw.cons λ _ h=>h.cons λ _ h=>h.restTru2
 refine ⟨Zwb pb,oS,Zd.mk rfl ⟨some hm,oS,f.hs.length,λ w' h=>?_,?_⟩⟩
 ·rw [<-hel]
  exact MapAt.len (by kernel_rfl) (h.take (MapAt hm (ZZ E)))
 refine Zb hw λ bn w hw=>⟨?_,?_⟩
 ·have hw:Sat R' (Zig bp pb::pts p (Z2 f sg sl ss hm om)::MapAt hm (ZZ E)::ZgF pb pre::MapAt om (Zbj f.own)::ZO E::Hs) w:=hw.drop.arr
  exact hw.cons λ _ h=>h.cons λ _ h=>h.restTru2
 have hw:Sat R' (pts bn (.cells ([(f.hs.length:Int)].map (Value.int .i64)).toArray 3 (0,0))::ZgF pb pre::Zig bp pb::FO p hm om sg sl ss E f Hs) w:=hw.cons λ _ h=>h.swap;refine (ZjA (n:=1) (by rfl) (by intro y hy;simp at hy;omega) (by simp;omega) hw).mono ?_;rintro _ w ⟨rfl,hw⟩;refine ⟨rfl,?_,?_⟩
 ·have hw:Sat R' (Zig bp pb::pts p (Z2 f sg sl ss hm om)::MapAt hm (ZZ E)::ZgF pb (pre++Zm [(f.hs.length:Int)])::MapAt om (Zbj f.own)::ZO E::Hs) w:=hw.arr
  exact hw.cons λ _ h=>h.cons λ _ h=>h.restTru2
 have hw:Sat R' (FO p hm om sg sl ss E f (ZgF pb (pre++Zm [(f.hs.length:Int)])::Zig bp pb::Hs)) w:=hw.arr;have hw:=Sat.flightC hE (back _ _ hw);refine (ZhL hu hn (by omega) hR hw).use ?_;rintro _ w ⟨t,rfl,hw⟩;refine ⟨t,rfl,?_⟩;have hb2:(pre++Zm [(f.hs.length:Int)]).length<=20010:=by rw [List.length_append];omega
 generalize pre++Zm [(f.hs.length:Int)]=pre2 at *;have hLl:=Zi1 f;have hHs:=sm.hs;generalize ZeP f=L at *;obtain ⟨R2,ts,e2,hr,hw⟩:=ZaU.leak hw;have htl:=hr.len;have hrl:=hr.rows.len;rw [ZdQ htl] at hrl;refine ⟨λ i w=>∃ j:Nat,i=j/\j<=L.length/\Sat R2 (ZgF pb (pre2++ZaM (L.take j))::Zig bp pb::Zn p f::Hs) w,λ i _=>L.length - i.toNat,⟨0,rfl,by omega,?_⟩,?_⟩
 ·rw [show pre2++ZaM (L.take 0)=pre2 by simp [ZaM]]
  exact hw.arr
 clear hw;rintro _ _ w ⟨j,rfl,hj,hw⟩;refine Br.d (λ h=>?_) (λ h=>?_)
 ·have hj2:j<L.length:=by omega
  have hj3:j<ts.length:=by omega
  have hsm:=hHs L[j] (List.getElem_mem _);have hhl:(ZaM (L.take j)).length<=9036 * 10000:=by
   have:=Zgb (L:=L.take j) λ x hx=>hHs x (List.mem_of_mem_take hx);rw [List.length_take] at this;have:min j L.length<=10000:=by omega
   omega
  have h3:(Zm [L[j].owner,L[j].cls,L[j].many]).length<=27:=ZX (Zcd hsm.three);have hsn:=hsm.n;refine hr.row (eqS hw) hj2 hj3 λ a ha=>⟨L[j].owner,L[j].cls,L[j].many,ts[j],ha,?_⟩;refine Zb hw λ bh w hw=>?_;have hw:Sat R2 (pts bh (ZT ⟨0,0,0,[]⟩ ⟨none,0,0⟩)::ZgF pb (pre2++ZaM (L.take j))::Zig bp pb::Zn p f::Hs) w:=hw;refine Za hw (by kernel_rfl) rfl (by simp [Value.cells]) λ w hw=>?_;have hw:=hw.re (pts bh (ZT L[j] ts[j]));refine ⟨Zwb pb,oA hw,L[j].owner,oA hw,L[j].cls,oA hw,L[j].many,oA hw,?_⟩;refine Zb hw λ bn w hw=>?_;have hw:Sat R2 (pts bn (.cells ([L[j].owner,L[j].cls,L[j].many].map (Value.int .i64)).toArray 3 (0,0))::ZgF pb (pre2++ZaM (L.take j))::Zig bp pb::pts bh (ZT L[j] ts[j])::Zn p f::Hs) w:=hw.cons λ _ h=>h.arr;refine (ZjA (n:=3) (by rfl) hsm.three (by rw [List.length_append];simp;omega) hw).mono ?_;rintro _ w ⟨rfl,hw⟩;refine ⟨rfl,ts[j],oA hw,?_⟩;refine (Zgj hsm.s (by rw [List.length_append,List.length_append];omega) ((hr.seats j hj2 hj3).ro (by rw [List.length_map];omega)) hw.swap).use ?_;rintro _ w ⟨rfl,hw⟩;refine ⟨rfl,?_⟩;rw [Zl (by omega) (by omega)];refine ⟨⟨j + 1,by omega,by omega,?_⟩,by dsimp only;omega⟩;rw [ZmQ hj2,<-List.append_assoc];unfold ZeL;rw [<-List.append_assoc];have hw:Sat R2 (pts bh (ZT L[j] ts[j])::ZgF pb (pre2++ZaM (L.take j)++Zm [L[j].owner,L[j].cls,L[j].many]++Zc6 L[j].seats)::Zig bp pb::Zn p f::Hs) w:=hw.arr;exact hw.drop
 ·rw [List.take_of_length_le (by omega),hfin] at hw
  have hw:=e2.back hw;obtain ⟨s0,hw⟩:=Sat.outB.1 hw;refine ⟨s0,oA hw,hK s0 w ?_⟩;have hw:Sat R (Zig bp pb::lp pb s0::Own s0 5 (b8 (ZwZ f))::Zn p f::Hs) w:=hw.arr;exact hw.drop.drop
end
section
open Go Go.VC Tryz
variable {R:Cx} {Hs Rest:List HP} {w:World}
def Zby:Nat->Int->Rd->List Int × Rd
 |0,_,r=>([],r)
 |k + 1,most,r=>((Zc most r).1::(Zby k most (Zc most r).2).1,(Zby k most (Zc most r).2).2)
theorem ZiR:∀ (k:Nat) (most:Int) (r:Rd),Zby (k + 1) most r=((Zby k most r).1++[(Zc most (Zby k most r).2).1],(Zc most (Zby k most r).2).2)
 |0,_,_=>rfl
 |k + 1,most,r=>by
  have:=ZiR k most (Zc most r).2;show ((Zc most r).1::(Zby (k + 1) most (Zc most r).2).1,(Zby (k + 1) most (Zc most r).2).2)=_;rw [this];rfl
theorem Zhz:∀ (k:Nat) (most:Int) (r:Rd),(Zby k most r).1.length=k
 |0,_,_=>rfl
 |k + 1,most,r=>by show (_::(Zby k most (Zc most r).2).1).length=_;rw [List.length_cons,Zhz k]
theorem ZjL:∀ (k:Nat) (most:Int) {r:Rd},(∀ x∈r.bs,0<=x/\x<256)->∀ x∈(Zby k most r).2.bs,0<=x/\x<256
 |0,_,_,h=>h
 |k + 1,most,_,h=>ZjL k most (Ze h)
theorem Zlm:∀ (k:Nat) {most:Int} {r:Rd},0<=most->(∀ x∈r.bs,0<=x/\x<256)->∀ x∈(Zby k most r).1,0<=x/\x<=most
 |0,_,_,_,_=>by simp [Zby]
 |k + 1,most,r,hm,h=>λ x hx=>by
  rcases List.mem_cons.1 hx with rfl|hx
  ·exact Zy h hm
  ·exact Zlm k hm (Ze h) x hx
def Zck (most each:Int) (r:Rd):List Int × Rd:=Zby (Zc most r).1.toNat each (Zc most r).2
theorem Zfq {most each:Int} {r:Rd} (h:∀ x∈r.bs,0<=x/\x<256):∀ x∈(Zck most each r).2.bs,0<=x/\x<256:=ZjL _ _ (Ze h)
theorem ZhB {most each:Int} {r:Rd} (h:∀ x∈r.bs,0<=x/\x<256) (hm:0<=most) (he:0<=each):(∀ x∈(Zck most each r).1,0<=x/\x<=each)/\((Zck most each r).1.length:Int)<=most:=by
 refine ⟨Zlm _ he (Ze h),?_⟩;unfold Zck;rw [Zhz];have:=Zy h hm;omega
theorem Zsv {br r:Nat} {rd:Rd} {most:Int} (h0:0<=most) (h1:most<9223372036854775808) (hb:∀ x∈rd.bs,0<=x/\x<256) (hw:Sat R (pts br (ZB r)::ZC r rd::Hs) w):
  Zo prog 224 #[.int .i64 most,.pointer (some ⟨br,0,none⟩)] w λ v w'=>v=.int .i64 (Zc most rd).1/\Sat R (pts br (ZB r)::ZC r (Zc most rd).2::Hs) w':=by
 have hv:=Zy (most:=most) hb h0;apply ZxY;refine Zd.mk rfl ⟨some ⟨r,0,none⟩,oA hw,?_⟩;rw [Zax (by omega) (by omega)];refine (Zcu (most:=most) hb hw.swap).use ?_;rintro _ w ⟨rfl,hw⟩;refine ⟨_,rfl,?_,hw.swap⟩;rw [Zl (by omega) (by omega)]
abbrev Zru (br:Nat):Value:=.func (.func 224) #[] #[.pointer (some ⟨br,0,none⟩)]
abbrev ZcC (bn br:Nat):HP:=pts bn (.cells [Zru br].toArray 103 (0,0))
theorem Zdl {br r:Nat} {rd:Rd} {most:Int} (h0:0<=most) (h1:most<9223372036854775808) (hb:∀ x∈rd.bs,0<=x/\x<256) (hw:Sat R (pts br (ZB r)::ZC r rd::Hs) w):
  Zak prog cl (Zru br) [.int .i64 most] w λ e w'=>e=.returned (.int .i64 (Zc most rd).1)/\Sat R (pts br (ZB r)::ZC r (Zc most rd).2::Hs) w':=
 Zak.mk (by kernel_rfl) ((Zsv h0 h1 hb hw).use λ v w' h=>⟨by rw [h.1],h.2⟩)
theorem Zgk {bn br r:Nat} {rd:Rd} {most each:Int} (h0:0<=most) (h1:most<1000000) (h2:0<=each) (h3:each<9223372036854775808) (hb:∀ x∈rd.bs,0<=x/\x<256) (hw:Sat R (ZcC bn br::pts br (ZB r)::ZC r rd::Hs) w):
  Zo prog 225 #[.int .i64 most,.int .i64 each,.pointer (some ⟨bn,0,none⟩)] w λ v w'=>∃ t:Sl,v=.slice t.a t.len t.cap/\Sat R (Own t 3 (Zg (Zck most each rd).1)::ZcC bn br::pts br (ZB r)::ZC r (Zck most each rd).2::Hs) w':=by
 apply ZxX;refine Zd.mk rfl ⟨Zru br,oA hw,?_⟩;refine (Zdl h0 (by omega) hb (hw.take (pts br (ZB r))|>λ h=>h.arr (Hs':=pts br (ZB r)::ZC r rd::ZcC bn br::Hs))).mono ?_;clear hw;rintro _ w ⟨rfl,hw⟩;refine ⟨_,rfl,?_⟩;have hv:=Zy (most:=most) hb h0;have hb1:=Ze (most:=most) hb;obtain ⟨n,hn⟩:=Int.eq_ofNat_of_zero_le hv.1;have hrl:Zck most each rd=Zby n each (Zc most rd).2:=by unfold Zck;rw [hn];rfl
 rw [hrl,hn];rw [hn] at hv;generalize (Zc most rd).2=rd1 at *;refine ⟨λ out i w=>∃ k:Nat,i=k/\k<=n/\Sat R (Own out 3 (Zg (Zby k each rd1).1)::pts br (ZB r)::ZC r (Zby k each rd1).2::ZcC bn br::Hs) w,λ _ i _=>n - i.toNat,⟨0,rfl,by omega,Own.nil hw⟩,?_⟩;clear hw;rintro _ out _ w ⟨k,rfl,hk,hw⟩;refine Br.d (λ h=>?_) (λ h=>?_)
 ·refine Zd.mk rfl ⟨Zru br,oA hw,?_⟩
  have hbk:=ZjL k each hb1;have hw:Sat R (pts br (ZB r)::ZC r (Zby k each rd1).2::Own out 3 (Zg (Zby k each rd1).1)::ZcC bn br::Hs) w:=hw.arr;refine (Zdl h2 h3 hbk hw).mono ?_;rintro _ w ⟨rfl,hw⟩;refine ⟨_,rfl,?_⟩;have hml:=Zhz k each rd1;have hw:Sat R (Own out 3 (Zg (Zby k each rd1).1)::pts br (ZB r)::ZC r (Zc each (Zby k each rd1).2).2::ZcC bn br::Hs) w:=hw.arr;refine Zdg Ztt hw (by omega) λ s' w hw=>?_;rw [Zl (by omega) (by omega)];refine ⟨⟨k + 1,by omega,by omega,?_⟩,by dsimp only;omega⟩;rw [ZiR];exact hw
 ·have:k=n:=by omega
  subst this;exact ⟨out,rfl,hw.arr⟩
def Zif (f:PF) (o n:Int):PF:=
 match ZD o f.hs with
 |none=>f
 |some h=>{ f with hs:=ZeG o (h.put n) f.hs,own:=Zci n h.owner f.own }
def ZgJ (o N:Int):List Int->Int->PF->PF × Bool
 |[],_,f=>(f,true)
 |n::l,last,f=>if (ZD n f.own).isSome then (f,false) else if n<=last then (f,false) else if n >= N then (f,false) else ZgJ o N l n (Zif f o n)
theorem ZfW (o N n last:Int) (l:List Int) (f:PF):ZgJ o N (n::l) last f=if (ZD n f.own).isSome then (f,false) else if n<=last then (f,false) else if n >= N then (f,false) else ZgJ o N l n (Zif f o n):=rfl
def Z7 (f:PF) (h:ZJ):PF × Bool:=
 if (Zbi f h.owner h.cls h.many).2≠0 then ((Zbi f h.owner h.cls h.many).1,false)
 else if (h.seats.length:Int)>h.many then ((Zbi f h.owner h.cls h.many).1,false)
 else ZgJ h.owner (Za5 f.rows f.grps) h.seats (-1) (Zbi f h.owner h.cls h.many).1
theorem Zoz (f:PF) (o c m:Int):(Zbi f o c m).1.rows=f.rows/\(Zbi f o c m).1.grps=f.grps:=by
 unfold Zbi;split
 ·exact ⟨rfl,rfl⟩
 ·split
  ·exact ⟨rfl,rfl⟩
  ·split<;>exact ⟨rfl,rfl⟩
theorem Zqo {f:PF} {o c m:Int} (h:(Zbi f o c m).2=0):ZD o (Zbi f o c m).1.hs=some ⟨o,c,m,[]⟩:=by
 unfold Zbi at h ⊢;split at h
 ·cases h
 rename_i h1;split at h
 ·cases h
 rename_i h2;rw [if_neg h1,if_neg h2];split at h
 ·rename_i h3
  rw [if_pos h3];show ZD o (f.hs++_)=_;rw [ZhQ,if_neg (λ hm=>h2 (Zes.2 hm)),Zau,if_pos rfl]
 ·rename_i h3;exact absurd h h3
theorem Zjq {p:Nat} {f:PF} {h:ZJ} {s:Sl} (hll:f.lims.length<=1000) (hls:f.sold.length<=1000) (hgl:f.grps.length<=1000) (hs:RoI R s h.seats) (hsl:h.seats.length<=1000000) (hw:Sat R (Zn p f::Hs) w):
  Zo prog 227 #[.pointer (some ⟨p,0,none⟩),.agg #[.int .i64 h.owner,.int .i64 h.cls,.int .i64 h.many,.slice s.a s.len s.cap]] w λ v w'=>v=.bool (Z7 f h).2/\Sat R (Zn p (Z7 f h).1::Hs) w':=by
 have hslen:=hs.len;apply ZxV
 suffices H:∀ K:Value->World->Prop,(∀ w',Sat R (Zn p (Z7 f h).1::Hs) w'->K (.bool (Z7 f h).2) w')->B227 (some ⟨p,0,none⟩) h.owner h.cls h.many s K w from
  H _ λ w' h=>⟨rfl,h⟩
 intro K hK;refine Zb hw λ bh w hw=>?_;have hw:Sat R (pts bh (ZT h s)::Zn p f::Hs) w:=hw;refine ⟨λ w=>((Zbi f h.owner h.cls h.many).2=0/\¬ (h.seats.length:Int)>h.many)/\Sat R (pts bh (ZT h s)::Zn p (Zbi f h.owner h.cls h.many).1::Hs) w,?_,?_⟩
 ·refine ⟨h.owner,oA hw,h.cls,oA hw,h.many,oA hw,?_⟩
  refine (Zir hll hls hw.swap).use ?_;clear hw;rintro _ w ⟨rfl,hw⟩;refine ⟨_,rfl,Br.ne (λ h1=>?_) (λ h1=>?_)⟩
  ·have e:Z7 f h=((Zbi f h.owner h.cls h.many).1,false):=by unfold Z7;rw [if_pos h1]
   rw [e] at hK;exact hK _ (hw.swap.drop)
  have hw:=hw.swap;refine ⟨s,oA hw,h.many,oA hw,?_⟩;rw [hslen];refine Br.d (λ h2=>?_) (λ h2=>⟨⟨h1,h2⟩,hw⟩);have e:Z7 f h=((Zbi f h.owner h.cls h.many).1,false):=by unfold Z7;rw [if_neg (by rw [h1];simp),if_pos h2]
  rw [e] at hK;exact hK _ hw.drop
 clear hw;rintro _ w ⟨⟨h1,h2⟩,hw⟩;have hre:Z7 f h=ZgJ h.owner (Za5 f.rows f.grps) h.seats (-1) (Zbi f h.owner h.cls h.many).1:=by unfold Z7;rw [if_neg (by rw [h1];simp),if_neg h2]
 have hhas:=Zqo h1;obtain ⟨hr0,hg0⟩:=Zoz f h.owner h.cls h.many;rw [hre] at hK;generalize (Zbi f h.owner h.cls h.many).1=f0 at *;refine ⟨s,oA hw,?_⟩;refine ⟨λ last i w=>∃ (j:Nat) (f1:PF) (h1:ZJ),i=j/\j<=h.seats.length/\(f1.rows=f.rows/\f1.grps=f.grps)/\ZD h.owner f1.hs=some h1/\(h1.seats.length=j/\h1.seats.Pairwise (·<·)/\∀ x∈h1.seats,x<=last)/\
  ZgJ h.owner (Za5 f.rows f.grps) (h.seats.drop j) last f1=ZgJ h.owner (Za5 f.rows f.grps) h.seats (-1) f0/\Sat R (pts bh (ZT h s)::Zn p f1::Hs) w,λ _ i _=>h.seats.length - i.toNat,
  ⟨0,f0,⟨h.owner,h.cls,h.many,[]⟩,rfl,by omega,⟨hr0,hg0⟩,hhas,⟨rfl,List.Pairwise.nil,λ x hx=>by cases hx⟩,rfl,hw⟩,?_⟩
 clear hw hhas hr0 hg0;rintro _ last _ w ⟨j,f1,h1',rfl,hj,⟨hr1,hg1⟩,hhas,⟨hl1,hp1,hx1⟩,hgo,hw⟩;refine Br.d (λ h3=>?_) (λ h3=>?_)
 ·have hj2:j<h.seats.length:=by omega
  rw [List.drop_eq_getElem_cons hj2,ZfW] at hgo;refine Ro.ix hs (eqS hw) j rfl hj2 ?_;generalize h.seats[j]=n at *;have bad:(f1,false)=ZgJ h.owner (Za5 f.rows f.grps) h.seats (-1) f0->∀ {w},Sat R (pts bh (ZT h s)::Zn p f1::Hs) w->K (.bool false) w:=λ e w hw=>by
   rw [<-e] at hK;exact hK _ hw.drop
  obtain ⟨hm,om,sg,sl,ss,E,R',hE,ee,rg,_,_,hw,back⟩:=Sat.flightO hw.swap;have rgo:RoI R' sg f1.grps:=rg.ro (by rw [List.length_map,hg1];omega);have same:∀ {w},Sat R' (FO p hm om sg sl ss E f1 (pts bh (ZT h s)::Hs)) w->Sat R (pts bh (ZT h s)::Zn p f1::Hs) w:=λ hw=>(Sat.flightC hE (back _ _ hw)).swap;refine ⟨λ w=>(¬ (ZD n f1.own).isSome=true/\¬ n<=last/\¬ n >= Za5 f.rows f.grps)/\Sat R' (FO p hm om sg sl ss E f1 (pts bh (ZT h s)::Hs)) w,?_,?_⟩
  ·refine Zd.mk rfl ⟨some om,oA hw,(ZD n f1.own).getD 0,(ZD n f1.own).isSome,λ w' e=>by rw [show w'=w from e];exact ZnB (hw.take (MapAt om (Zbj f1.own))) n true,?_⟩
   refine Br.mk (λ h4=>?_) (λ h4=>?_)
   ·rw [if_pos h4] at hgo;exact bad hgo (same hw)
   rw [if_neg (by rw [h4];simp)] at hgo;refine Br.d (λ h5=>?_) (λ h5=>?_)
   ·rw [if_pos h5] at hgo;exact bad hgo (same hw)
   rw [if_neg h5] at hgo;refine Zd.mk rfl ⟨f1.rows,sg,At.own (eqS hw) (by exact ⟨rfl,rfl,trivial⟩),?_⟩;refine (ZbU rgo hw).use ?_;clear hw;rintro _ w ⟨rfl,hw⟩;refine ⟨_,rfl,?_⟩;rw [hr1,hg1];refine Br.d (λ h6=>?_) (λ h6=>⟨⟨by rw [h4];simp,h5,h6⟩,hw⟩);rw [if_pos h6] at hgo;exact bad hgo (same hw)
  clear hw;rintro _ w ⟨⟨h4,h5,h6⟩,hw⟩;rw [if_neg h4,if_neg h5,if_neg h6] at hgo;have hgE:(ZD h.owner E).map (·.2)=some h1':=by rw [<-Zbk,hE];exact hhas
  obtain ⟨⟨b,hx⟩,hgE2,rfl⟩:=Option.map_eq_some_iff.1 hgE;obtain ⟨a,c,rfl,hna⟩:=Zar hgE2;have sx:∀ {own:List (Int × Int)} {E2:List HE} {w},ZZ E2=ZZ (a++(h.owner,b,hx)::c)->Sat R' (FO p hm om sg sl ss E2 { f1 with own:=own } (pts bh (ZT h s)::Hs)) w->Sat R' [pts p (Z2 f1 sg sl ss hm om),pts bh (ZT h s),MapAt hm (ZZ (a++(h.owner,b,hx)::c)),VC.tru] w:=λ {own E2 w} e1 hw=>by
   have hw:Sat R' (pts p (Z2 f1 sg sl ss hm om)::pts bh (ZT h s)::MapAt hm (ZZ E2)::MapAt om (Zbj own)::ZO E2::Hs) w:=hw.arr;rw [e1] at hw;exact hw.cons λ _ h=>h.cons λ _ h=>h.restTru2
  refine ZA (Sat R' [pts p (Z2 f1 sg sl ss hm om),pts bh (ZT h s),MapAt hm (ZZ (a++(h.owner,b,hx)::c)),VC.tru]) hw (λ w hw=>sx (own:=f1.own) rfl hw) λ w hw=>?_;refine Zd.mk rfl ⟨some hm,oS,h.owner,oS,some ⟨b,0,none⟩,λ w' h7=>?_,?_⟩
  ·rw [ZcF (h7.take (MapAt hm (ZZ (a++(h.owner,b,hx)::c)))) h.owner false,hgE2];rfl
  refine (Zg9 (Zeh.2 hp1) (by omega) hw).use ?_;rintro _ w ⟨rfl,hw⟩;refine ⟨rfl,sx (E2:=a++(h.owner,b,hx.put n)::c) (by simp [ZZ]) hw,?_⟩;have hins:Zga n hx.seats=hx.seats++[n]:=ZgW λ x hxx=>by have:=hx1 x hxx;omega
  have hset:ZeG h.owner (hx.put n) f1.hs=hEr (a++(h.owner,b,hx.put n)::c):=by
   rw [<-hE,ZcG,ZcG,Zff (by rw [Zbk,hna];rfl) (Ze3 h.owner)]
  have htell:Zif f1 h.owner n={ f1 with hs:=ZeG h.owner (hx.put n) f1.hs,own:=Zci n hx.owner f1.own }:=by unfold Zif;rw [hhas]
  rw [Zl (by omega) (by omega)];refine ⟨⟨j + 1,Zif f1 h.owner n,hx.put n,by omega,by omega,?_,?_,⟨?_,?_,?_⟩,hgo,?_⟩,by dsimp only;omega⟩
  ·rw [htell];exact ⟨hr1,hg1⟩
  ·rw [htell]
   show ZD h.owner (ZeG h.owner (hx.put n) f1.hs)=_;rw [ZhO (by rw [hhas];rfl),if_pos rfl]
  ·show (Zga n hx.seats).length=_
   rw [hins,List.length_append];simp;exact hl1
  ·show (Zga n hx.seats).Pairwise _
   rw [hins,List.pairwise_append];exact ⟨hp1,by simp,λ x hxx y hy=>by rw [List.mem_singleton.1 hy];have:=hx1 x hxx;omega⟩
  ·intro x hxx
   have hxx:x∈Zga n hx.seats:=hxx;rcases Zbz.1 hxx with rfl|hxx
   ·exact Int.le_refl _
   ·have:=hx1 x hxx;omega
  ·rw [htell]
   refine (Sat.flight.2 ⟨hm,om,sg,sl,ss,a++(h.owner,b,hx.put n)::c,hset.symm,back _ _ hw⟩:Sat R (Zn p { f1 with hs:=ZeG h.owner (hx.put n) f1.hs,own:=Zci n hx.owner f1.own }::pts bh (ZT h s)::Hs) w).swap
 ·rw [List.drop_eq_nil_of_le (by omega)] at hgo
  have hgo:(f1,true)=_:=hgo;rw [<-hgo] at hK;exact hK _ hw.drop
end
section
open Go Go.VC Tryz
variable {R:Cx} {Hs Rest:List HP} {w:World}
def ZaS (rd:Rd):ZJ × Rd:=
  (⟨(Zc 28629151 rd).1,(Zc 8 (Zc 28629151 rd).2).1,(Zc 600 (Zc 8 (Zc 28629151 rd).2).2).1,(Zck 600 600 (Zc 600 (Zc 8 (Zc 28629151 rd).2).2).2).1⟩,(Zck 600 600 (Zc 600 (Zc 8 (Zc 28629151 rd).2).2).2).2)
def Z0:Nat->Rd->List ZJ × Rd
  |0,rd=>([],rd)
  |k + 1,rd=>((ZaS rd).1::(Z0 k (ZaS rd).2).1,(Z0 k (ZaS rd).2).2)
theorem Zhq:∀ (k:Nat) (rd:Rd),Z0 (k + 1) rd=((Z0 k rd).1++[(ZaS (Z0 k rd).2).1],(ZaS (Z0 k rd).2).2)
  |0,_=>rfl
  |k + 1,rd=>by
    have:=Zhq k (ZaS rd).2;show ((ZaS rd).1::(Z0 (k + 1) (ZaS rd).2).1,(Z0 (k + 1) (ZaS rd).2).2)=_;rw [this];rfl
theorem Znu {rd:Rd} (h:∀ x∈rd.bs,0<=x/\x<256):∀ x∈(ZaS rd).2.bs,0<=x/\x<256:=Zfq (Ze (Ze (Ze h)))
theorem Zk4:∀ (k:Nat) {rd:Rd},(∀ x∈rd.bs,0<=x/\x<256)->∀ x∈(Z0 k rd).2.bs,0<=x/\x<256
  |0,_,h=>h
  |k + 1,_,h=>Zk4 k (Znu h)
structure ZgG (h:ZJ):Prop where
  o:0<=h.owner/\h.owner<=28629151
  c:0<=h.cls/\h.cls<=8
  m:0<=h.many/\h.many<=600
  s:∀ x∈h.seats,0<=x/\x<=600
  n:h.seats.length<=600
theorem Zk5 {rd:Rd} (h:∀ x∈rd.bs,0<=x/\x<256):ZgG (ZaS rd).1:=by
  have h1:=Ze (most:=28629151) h;have h2:=Ze (most:=8) h1;have h3:=Ze (most:=600) h2;have hl:=ZhB (most:=600) (each:=600) h3 (by omega) (by omega);exact ⟨Zy h (by omega),Zy h1 (by omega),Zy h2 (by omega),hl.1,by have:=hl.2;show (Zck _ _ _).1.length<=600;omega⟩
theorem ZiE:∀ (k:Nat) {rd:Rd},(∀ x∈rd.bs,0<=x/\x<256)->(∀ h∈(Z0 k rd).1,ZgG h)/\(Z0 k rd).1.length=k
  |0,_,_=>⟨λ h hh=>(by cases hh),rfl⟩
  |k + 1,rd,h=>by
    obtain ⟨h1,h2⟩:=ZiE k (Znu h);refine ⟨λ x hx=>?_,by show ((ZaS rd).1::_).length=_;rw [List.length_cons,h2]⟩;have hx:x∈(ZaS rd).1::(Z0 k (ZaS rd).2).1:=hx;rcases List.mem_cons.1 hx with rfl|hx
    · exact Zk5 h
    · exact h1 x hx
abbrev PS:=PF × Bool × Int
def Zbt (x:PS) (h:ZJ):PS:=if x.2.1=true/\h.owner>x.2.2 then ((Z7 x.1 h).1,(Z7 x.1 h).2,h.owner) else (x.1,false,h.owner)
def Zim (num rows:Int) (grps lims:List Int):Bool:=decide (num>0) && (ZeJ rows grps && (Zad lims (List.replicate lims.length 0) && (lims.getD 0 0==Za5 rows grps)))
structure Raw where
  num:Int
  rows:Int
  grps:List Int
  lims:List Int
  L:List ZJ
  rd:Rd
def ZfZ (bs:List Int):Raw:=
  let a:=Zc 9999 ⟨bs,false⟩
  let b:=Zc 60 a.2
  let g:=Zck 4 10 b.2
  let l:=Zck 8 10000 g.2
  let n:=Zc 600 l.2
  let x:=Z0 n.1.toNat n.2
  ⟨a.1,b.1,g.1,l.1,x.1,x.2⟩
def Raw.run (x:Raw):PS:=x.L.foldl Zbt (Zag x.num x.rows x.grps x.lims,Zim x.num x.rows x.grps x.lims,0)
def Zpy (bs:List Int):Option PF:=if Z5 (ZfZ bs).rd=true/\(ZfZ bs).run.2.1=true then some (ZfZ bs).run.1 else none
structure ZgP (f f':PF):Prop where
  lims:f'.lims=f.lims
  grps:f'.grps=f.grps
  rows:f'.rows=f.rows
  num:f'.num=f.num
  sold:f'.sold.length=f.sold.length
theorem ZgP.refl (f:PF):ZgP f f:=⟨rfl,rfl,rfl,rfl,rfl⟩
theorem ZgP.trans {f f' f'':PF} (a:ZgP f f') (b:ZgP f' f''):ZgP f f'':=⟨b.lims.trans a.lims,b.grps.trans a.grps,b.rows.trans a.rows,b.num.trans a.num,b.sold.trans a.sold⟩
theorem ZfT (f:PF) (o c m:Int):ZgP f (Zbi f o c m).1:=by
  unfold Zbi;split
  · exact .refl f
  · split
    · exact .refl f
    · split
      · rename_i h
        refine ⟨rfl,rfl,rfl,rfl,?_⟩;show (Za7 f.lims f.sold c m).1.length=_;rw [(Zfo h).1,List.length_set]
      · exact .refl f
theorem Zox (f:PF) (o n:Int):ZgP f (Zif f o n):=by
  unfold Zif;split<;>exact ⟨rfl,rfl,rfl,rfl,rfl⟩
theorem ZiD (o N:Int):∀ (l:List Int) (last:Int) (f:PF),ZgP f (ZgJ o N l last f).1
  |[],_,f=>.refl f
  |n::l,last,f=>by
    rw [ZfW];split
    · exact .refl f
    · split
      · exact .refl f
      · split
        · exact .refl f
        · exact (Zox f o n).trans (ZiD o N l n _)
theorem Zjr (f:PF) (h:ZJ):ZgP f (Z7 f h).1:=by
  unfold Z7;split
  · exact ZfT ..
  · split
    · exact ZfT ..
    · exact (ZfT ..).trans (ZiD ..)
theorem ZoA (x:PS) (h:ZJ):ZgP x.1 (Zbt x h).1:=by
  unfold Zbt;split
  · exact Zjr ..
  · exact .refl _
theorem Zgf:∀ (L:List ZJ) (x:PS),ZgP x.1 (L.foldl Zbt x).1
  |[],x=>.refl _
  |h::L,x=>(ZoA x h).trans (Zgf L (Zbt x h))
abbrev emH:Obj:=ZT ⟨0,0,0,[]⟩ ⟨none,0,0⟩
theorem ZoO {bn br r p:Nat} {rd:Rd} {f:PF} {K:Option Addr->World->Prop} (hb:∀ x∈rd.bs,0<=x/\x<256) (hw:Sat R (ZcC bn br::pts br (ZB r)::ZC r rd::Zn p f::Hs) w)
    (k:∀ b w',Sat R (pts b (ZT ⟨(Zc 28629151 rd).1,(Zc 8 (Zc 28629151 rd).2).1,(Zc 600 (Zc 8 (Zc 28629151 rd).2).2).1,[]⟩ ⟨none,0,0⟩)::ZcC bn br::pts br (ZB r)::ZC r (Zc 600 (Zc 8 (Zc 28629151 rd).2).2).2::Zn p f::Hs) w'->K (some ⟨b,0,none⟩) w'):
   Drw w λ S_2 w_23=>
      ∃ t82:Value,(At S_2 ⟨bn,0,none⟩ [t82])/\
      ∃ t84:Value,(At S_2 ⟨bn,0,none⟩ [t84])/\
      ∃ t86:Value,(At S_2 ⟨bn,0,none⟩ [t86])/\
      (Zak prog cl t82 [.int .i64 28629151] w_23 λ e_10 w_24=>
      ∃ t83:Int,(e_10=.returned (.int .i64 t83))/\
      (S_2 w_24)/\
      (Zak prog cl t84 [.int .i64 8] w_24 λ e_11 w_25=>
      ∃ t85:Int,(e_11=.returned (.int .i64 t85))/\
      (S_2 w_25)/\
      (Zak prog cl t86 [.int .i64 600] w_25 λ e_12 w_26=>
      ∃ t87:Int,(e_12=.returned (.int .i64 t87))/\
      (S_2 w_26)/\
      New (.cells #[.int .i64 0,.int .i64 0,.int .i64 0,.slice none 0 0] 197 (0,0)) (λ b_h10 w_27=>
      (S_2 w_27)/\
      ∃ w_28:World,((Instr.storeAt 197 (.pointer ((some ⟨b_h10,0,none⟩))) (.agg #[.int .i64 t83,.int .i64 t85,.int .i64 t87,.slice none 0 0])).run prog w_27=.ok () w_28)/\
      K ((some ⟨b_h10,0,none⟩)) w_28) w_26)/\
      New (.cells #[.int .i64 0,.int .i64 0,.int .i64 0,.slice none 0 0] 197 (0,0)) (λ b_h10_1 w_29=>
      (S_2 w_29)/\
      Zak prog cl t86 [.int .i64 600] w_29 λ e_13 w_30=>
      ∃ t87_1:Int,(e_13=.returned (.int .i64 t87_1))/\
      (S_2 w_30)/\
      ∃ w_31:World,((Instr.storeAt 197 (.pointer ((some ⟨b_h10_1,0,none⟩))) (.agg #[.int .i64 t83,.int .i64 t85,.int .i64 t87_1,.slice none 0 0])).run prog w_30=.ok () w_31)/\
      K ((some ⟨b_h10_1,0,none⟩)) w_31) w_25)/\
      New (.cells #[.int .i64 0,.int .i64 0,.int .i64 0,.slice none 0 0] 197 (0,0)) (λ b_h10_2 w_32=>
      (S_2 w_32)/\
      Zak prog cl t84 [.int .i64 8] w_32 λ e_14 w_33=>
      ∃ t85_1:Int,(e_14=.returned (.int .i64 t85_1))/\
      (S_2 w_33)/\
      Zak prog cl t86 [.int .i64 600] w_33 λ e_15 w_34=>
      ∃ t87_2:Int,(e_15=.returned (.int .i64 t87_2))/\
      (S_2 w_34)/\
      ∃ w_35:World,((Instr.storeAt 197 (.pointer ((some ⟨b_h10_2,0,none⟩))) (.agg #[.int .i64 t83,.int .i64 t85_1,.int .i64 t87_2,.slice none 0 0])).run prog w_34=.ok () w_35)/\
      K ((some ⟨b_h10_2,0,none⟩)) w_35) w_24)/\
      New (.cells #[.int .i64 0,.int .i64 0,.int .i64 0,.slice none 0 0] 197 (0,0)) (λ b_h10_3 w_36=>
      (S_2 w_36)/\
      Zak prog cl t82 [.int .i64 28629151] w_36 λ e_16 w_37=>
      ∃ t83_1:Int,(e_16=.returned (.int .i64 t83_1))/\
      (S_2 w_37)/\
      Zak prog cl t84 [.int .i64 8] w_37 λ e_17 w_38=>
      ∃ t85_2:Int,(e_17=.returned (.int .i64 t85_2))/\
      (S_2 w_38)/\
      Zak prog cl t86 [.int .i64 600] w_38 λ e_18 w_39=>
      ∃ t87_3:Int,(e_18=.returned (.int .i64 t87_3))/\
      (S_2 w_39)/\
      ∃ w_40:World,((Instr.storeAt 197 (.pointer ((some ⟨b_h10_3,0,none⟩))) (.agg #[.int .i64 t83_1,.int .i64 t85_2,.int .i64 t87_3,.slice none 0 0])).run prog w_39=.ok () w_40)/\
      K ((some ⟨b_h10_3,0,none⟩)) w_40) w_23:=by
  have hb1:=Ze (most:=28629151) hb;have hb2:=Ze (most:=8) hb1;refine ZA (Sat R [ZcC bn br,VC.tru]) hw (λ w hw=>hw.restTru2) λ w hw=>?_;refine ⟨Zru br,oS,Zru br,oS,Zru br,oS,?_⟩;have one:∀ {most:Int} {rd:Rd} {Hs':List HP} {w:World} {K:Int->World->Prop},0<=most->most<9223372036854775808->(∀ x∈rd.bs,0<=x/\x<256)->Sat R (ZcC bn br::pts br (ZB r)::ZC r rd::Hs') w->(∀ w,Sat R (ZcC bn br::pts br (ZB r)::ZC r (Zc most rd).2::Hs') w->K (Zc most rd).1 w)->
      Zak prog cl (Zru br) [.int .i64 most] w λ e w'=>∃ t:Int,e=.returned (.int .i64 t)/\Sat R [ZcC bn br,VC.tru] w'/\K t w':=λ {most rd Hs' w K} h0 h1 hb hw k=>by
    refine (Zdl (r:=r) h0 h1 hb (Hs:=ZcC bn br::Hs') hw.arr).mono ?_;rintro _ w ⟨rfl,hw⟩;have hw:Sat R (ZcC bn br::pts br (ZB r)::ZC r (Zc most rd).2::Hs') w:=hw.arr;exact ⟨_,rfl,hw.restTru2,k _ hw⟩
  have fin:∀ {b:Nat} {w:World},Sat R (pts b emH::ZcC bn br::pts br (ZB r)::ZC r (Zc 600 (Zc 8 (Zc 28629151 rd).2).2).2::Zn p f::Hs) w->
      ∃ w_9:World,((Instr.storeAt 197 (.pointer ((some ⟨b,0,none⟩))) (.agg #[.int .i64 (Zc 28629151 rd).1,.int .i64 (Zc 8 (Zc 28629151 rd).2).1,.int .i64 (Zc 600 (Zc 8 (Zc 28629151 rd).2).2).1,.slice none 0 0])).run prog w=.ok () w_9)/\K (some ⟨b,0,none⟩) w_9:=λ {b w} hw=>by
    refine Za hw (by kernel_rfl) rfl (by simp [Value.cells]) λ w hw=>?_;exact k b w (hw.re (pts b (ZT ⟨(Zc 28629151 rd).1,(Zc 8 (Zc 28629151 rd).2).1,(Zc 600 (Zc 8 (Zc 28629151 rd).2).2).1,[]⟩ ⟨none,0,0⟩)))
  have sw:∀ {b:Nat} {rd:Rd} {Hs:List HP} {w:World},Sat R (pts b emH::ZcC bn br::pts br (ZB r)::ZC r rd::Hs) w->Sat R (ZcC bn br::pts br (ZB r)::ZC r rd::pts b emH::Hs) w:=λ hw=>hw.arr;have ws:∀ {b:Nat} {rd:Rd} {Hs:List HP} {w:World},Sat R (ZcC bn br::pts br (ZB r)::ZC r rd::pts b emH::Hs) w->Sat R (pts b emH::ZcC bn br::pts br (ZB r)::ZC r rd::Hs) w:=λ hw=>hw.arr;refine ⟨one (by omega) (by omega) hb hw λ w hw=>⟨one (by omega) (by omega) hb1 hw λ w hw=>⟨one (by omega) (by omega) hb2 hw λ w hw=>?_,?_⟩,?_⟩,?_⟩
  · refine Zb hw λ b w hw=>?_
    have hw:Sat R (pts b emH::ZcC bn br::pts br (ZB r)::ZC r (Zc 600 (Zc 8 (Zc 28629151 rd).2).2).2::Zn p f::Hs) w:=hw;exact ⟨(sw hw).restTru2,fin hw⟩
  · refine Zb hw λ b w hw=>?_
    have hw:=sw (b:=b) hw;exact ⟨hw.restTru2,one (by omega) (by omega) hb2 hw λ w hw=>fin (ws hw)⟩
  · refine Zb hw λ b w hw=>?_
    have hw:=sw (b:=b) hw;exact ⟨hw.restTru2,one (by omega) (by omega) hb1 hw λ w hw=>one (by omega) (by omega) hb2 hw λ w hw=>fin (ws hw)⟩
  · refine Zb hw λ b w hw=>?_
    have hw:=sw (b:=b) hw;exact ⟨hw.restTru2,one (by omega) (by omega) hb hw λ w hw=>one (by omega) (by omega) hb1 hw λ w hw=>one (by omega) (by omega) hb2 hw λ w hw=>fin (ws hw)⟩
set_option maxHeartbeats 2000000 in
theorem ZlP {s:Sl} {bs:List Int} (hb:∀ y∈bs,0<=y/\y<256) (hs:Ro R s (b8 bs)) (hl:bs.length<=1099511627776) (hw:Sat R Hs w):
    Zo prog 158 #[.slice s.a s.len s.cap] w λ v w'=>(Zpy bs=none/\v=.tuple #[.pointer none,.int .i64 6]/\Sat R Hs w')\/
      (∃ f p,Zpy bs=some f/\v=.tuple #[.pointer (some ⟨p,0,none⟩),.int .i64 0]/\Sat R (Zn p f::Hs) w'):=by
  apply Zyw
  suffices H:∀ K:Value->World->Prop,(Zpy bs=none->∀ w',Sat R Hs w'->K (.tuple #[.pointer none,.int .i64 6]) w')->(∀ f p w',Zpy bs=some f->Sat R (Zn p f::Hs) w'->K (.tuple #[.pointer (some ⟨p,0,none⟩),.int .i64 0]) w')->B158 s K w from
    H _ (λ e w' h=>.inl ⟨e,rfl,h⟩) λ f p w' e h=>.inr ⟨f,p,e,rfl,h⟩
  intro K hK1 hK2;refine (Zdj hs hl hw).use ?_;clear hw;rintro _ w ⟨r,rfl,hw⟩;refine ⟨_,rfl,Zb hw λ br w hw=>?_⟩;refine Za hw (by kernel_rfl) rfl (by simp [Value.cells]) λ w hw=>?_;have hw:=hw.re (pts br (ZB r));refine Zb hw λ bn w hw=>?_;refine Za hw (by kernel_rfl) rfl (by simp [Value.cells]) λ w hw=>?_;have hw:=hw.re (ZcC bn br);have hb0:∀ y∈(⟨bs,false⟩:Rd).bs,0<=y/\y<256:=hb;have v1:=Zy (most:=9999) hb0 (by omega);have hb1:=Ze (most:=9999) hb0;obtain ⟨num,rd1,e1⟩:∃ y rd,Zc 9999 ⟨bs,false⟩=(y,rd):=⟨_,_,rfl⟩;rw [e1] at v1 hb1;have v2:=Zy (most:=60) hb1 (by omega);have hb2:=Ze (most:=60) hb1;obtain ⟨rows,rd2,e2⟩:∃ y rd,Zc 60 rd1=(y,rd):=⟨_,_,rfl⟩;rw [e2] at v2 hb2;have v3:=ZhB (most:=4) (each:=10) hb2 (by omega) (by omega);have hb3:=Zfq (most:=4) (each:=10) hb2;obtain ⟨grps,rd3,e3⟩:∃ y rd,Zck 4 10 rd2=(y,rd):=⟨_,_,rfl⟩;rw [e3] at v3 hb3;have v4:=ZhB (most:=8) (each:=10000) hb3 (by omega) (by omega);have hb4:=Zfq (most:=8) (each:=10000) hb3;obtain ⟨lims,rd4,e4⟩:∃ y rd,Zck 8 10000 rd3=(y,rd):=⟨_,_,rfl⟩;rw [e4] at v4 hb4;have v5:=Zy (most:=600) hb4 (by omega);have hb5:=Ze (most:=600) hb4;obtain ⟨nz,rd5,e5⟩:∃ y rd,Zc 600 rd4=(y,rd):=⟨_,_,rfl⟩;rw [e5] at v5 hb5;dsimp only at v1 v2 v3 v4 v5 hb1 hb2 hb3 hb4 hb5;obtain ⟨n,rfl⟩:=Int.eq_ofNat_of_zero_le v5.1;have hraw:ZfZ bs=⟨num,rows,grps,lims,(Z0 n rd5).1,(Z0 n rd5).2⟩:=by
    unfold ZfZ;simp only [e1,e2,e3,e4,e5];rfl
  refine ZA (Sat R [ZcC bn br,VC.tru]) hw (λ w hw=>hw.restTru2) λ w hw=>?_;refine ⟨Zru br,oS,Zru br,oS,?_⟩;have hw:Sat R (pts br (ZB r)::ZC r ⟨bs,false⟩::ZcC bn br::Hs) w:=hw.arr;refine (Zdl (most:=9999) (by omega) (by omega) hb0 hw).mono ?_;clear hw;rintro _ w ⟨rfl,hw⟩;rw [e1] at hw ⊢;dsimp only at hw ⊢;refine ⟨_,rfl,(hw.take (ZcC bn br)).restTru2,?_⟩;refine (Zdl (most:=60) (by omega) (by omega) hb1 hw).mono ?_;clear hw;rintro _ w ⟨rfl,hw⟩;rw [e2] at hw ⊢;dsimp only at hw ⊢;refine ⟨_,rfl,(hw.take (ZcC bn br)).restTru2,?_⟩;have hw:Sat R (ZM ⟨none,0,0⟩ (Zg [])::ZM ⟨none,0,0⟩ (Zg [])::pts br (ZB r)::ZC r rd2::ZcC bn br::Hs) w:=Own.reads (T:=3) (Own.nil (Own.reads (T:=3) (Own.nil hw)));refine (Zi7 (num:=num) (rows:=rows) (by simp) hw).use ?_;clear hw;rintro _ w ⟨p,rfl,hw⟩;refine ⟨_,rfl,(hw.take (ZcC bn br)).restTru2,?_⟩;have hw:Sat R (ZcC bn br::pts br (ZB r)::ZC r rd2::Zn p (Zag num rows [] [])::Hs) w:=hw.arr;refine (Zgk (most:=4) (each:=10) (by omega) (by omega) (by omega) (by omega) hb2 hw).use ?_;clear hw;rintro _ w ⟨tg,rfl,hw⟩;rw [e3] at hw;dsimp only at hw;refine ⟨tg,rfl,Zd.mk rfl ?_⟩;obtain ⟨hm,om,sg,sl,ss,E,hE,hw⟩:=Sat.flight.1 (hw.take (Zn p (Zag num rows [] [])));have hw:=hw.drop.drop.drop;obtain rfl:E=[]:=by
    have:=congrArg List.length hE;simp [Zag] at this;exact this
  have hw:Sat R (pts p (Z2 (Zag num rows [] []) sg sl ss hm om)::MapAt (α:=Int) hm []::MapAt (α:=Int) om []::ZO []::Own tg 3 (Zg grps)::ZcC bn br::pts br (ZB r)::ZC r rd3::Hs) w:=hw;refine Za hw (by kernel_rfl) rfl (by simp [Value.cells]) λ w hw=>?_;have hw:=hw.re (pts p (Z2 (Zag num rows [] []) tg sl ss hm om));have hw:Sat R (ZcC bn br::pts br (ZB r)::ZC r rd3::pts p (Z2 (Zag num rows [] []) tg sl ss hm om)::Own tg 3 (Zg grps)::MapAt (α:=Int) hm []::MapAt (α:=Int) om []::ZO []::Hs) w:=hw.arr;refine (Zgk (most:=8) (each:=10000) (by omega) (by omega) (by omega) (by omega) hb3 hw).use ?_;clear hw;rintro _ w ⟨tl,rfl,hw⟩;rw [e4] at hw;dsimp only at hw;refine ⟨tl,rfl,Zd.mk rfl ?_⟩;have hw:Sat R (pts p (Z2 (Zag num rows [] []) tg sl ss hm om)::Own tl 3 (Zg lims)::Own tg 3 (Zg grps)::MapAt (α:=Int) hm []::MapAt (α:=Int) om []::ZO []::ZcC bn br::pts br (ZB r)::ZC r rd4::Hs) w:=hw.arr;refine Za hw (by kernel_rfl) rfl (by simp [Value.cells]) λ w hw=>?_;have hw:=hw.re (pts p (Z2 (Zag num rows [] []) tg tl ss hm om));have htl:=Own.len (hw.take (Own tl 3 (Zg lims)));rw [List.length_map] at htl;refine Zd.mk rfl ⟨tl,oA hw,?_⟩;rw [htl];refine Zdt (by omega) hw λ ts w hw=>Zd.mk rfl ?_;have hw:Sat R (pts p (Z2 (Zag num rows [] []) tg tl ss hm om)::Own ts 3 (Zg (List.replicate lims.length 0))::Own tl 3 (Zg lims)::Own tg 3 (Zg grps)::MapAt (α:=Int) hm []::MapAt (α:=Int) om []::ZO []::ZcC bn br::pts br (ZB r)::ZC r rd4::Hs) w:=hw.arr;refine Za hw (by kernel_rfl) rfl (by simp [Value.cells]) λ w hw=>?_;have hw:=hw.re (pts p (Z2 (Zag num rows grps lims) tg tl ts hm om));have hw:Sat R (Own tg 3 (Zg grps)::Own tl 3 (Zg lims)::Own ts 3 (Zg (List.replicate lims.length 0))::pts p (Z2 (Zag num rows grps lims) tg tl ts hm om)::MapAt (α:=Int) hm []::MapAt (α:=Int) om []::ZO []::ZcC bn br::pts br (ZB r)::ZC r rd4::Hs) w:=hw.arr;have hw:Sat R (Zn p (Zag num rows grps lims)::ZcC bn br::pts br (ZB r)::ZC r rd4::Hs) w:=
    Sat.flight.2 ⟨hm,om,tg,tl,ts,[],rfl,Own.reads (hw.cons λ _ h=>Own.reads (h.cons λ _ h=>Own.reads h))⟩
  refine ⟨λ fine w=>fine=Zim num rows grps lims/\Sat R (Zn p (Zag num rows grps lims)::ZcC bn br::pts br (ZB r)::ZC r rd4::Hs) w,?_,?_⟩
  · obtain ⟨hm,om,sg,sl,ss,E,R',hE,ee,rg,rl,rs,hw,back⟩:=Sat.flightO hw
    have rgo:RoI R' sg grps:=rg.ro (by rw [List.length_map];show grps.length<=_;omega);have rlo:RoI R' sl lims:=rl.ro (by rw [List.length_map];show lims.length<=_;omega);have rso:RoI R' ss (List.replicate lims.length 0):=rs.ro (by rw [List.length_map];show (List.replicate lims.length (0:Int)).length<=_;rw [List.length_replicate];omega);have same:∀ {w},Sat R' (FO p hm om sg sl ss E (Zag num rows grps lims) (ZcC bn br::pts br (ZB r)::ZC r rd4::Hs)) w->Sat R (Zn p (Zag num rows grps lims)::ZcC bn br::pts br (ZB r)::ZC r rd4::Hs) w:=λ hw=>Sat.flightC hE (back _ _ hw);refine Zu hw λ w hw=>?_;refine Zd.mk rfl ⟨num,by rw [Zz];exact oS,?_⟩;unfold Zim;refine Br.d (λ h1=>?_) (λ h1=>⟨by rw [decide_eq_false h1];rfl,same hw⟩);rw [decide_eq_true h1,Bool.true_and];refine Zd.mk rfl ⟨rows,sg,At.own Zhj (by exact ⟨rfl,rfl,trivial⟩),?_⟩;refine (Zei rgo hw).use ?_;clear hw;rintro _ w ⟨rfl,hw⟩;refine ⟨_,rfl,hw,Br.mk (λ h2=>?_) (λ h2=>⟨by rw [h2];rfl,same hw⟩)⟩;rw [h2,Bool.true_and];refine Zd.mk rfl ⟨sl,oS,Zd.mk rfl ⟨ss,oS,?_⟩⟩;refine (ZmA rlo rso hw).use ?_;clear hw;rintro _ w ⟨rfl,hw⟩;refine ⟨_,rfl,hw,Br.mk (λ h3=>?_) (λ h3=>⟨by rw [h3];rfl,same hw⟩)⟩;rw [h3,Bool.true_and];have hl0:0<lims.length:=(ZaP.1 (ZS.1 h3).1).1.1;refine Zd.mk rfl ⟨sl,oS,?_⟩;refine Ro.ix rlo Zhj 0 rfl hl0 (F:=λ t=>_) ?_;refine Zd.mk rfl ⟨rows,sg,At.own Zhj (by exact ⟨rfl,rfl,trivial⟩),?_⟩;refine (ZbU rgo hw).use ?_;clear hw;rintro _ w ⟨rfl,hw⟩;refine ⟨_,rfl,hw,?_,same hw⟩;rw [Zaf hl0]
  clear hw;rintro _ _ w ⟨rfl,hw⟩;have hw:Sat R (pts br (ZB r)::ZC r rd4::ZcC bn br::Zn p (Zag num rows grps lims)::Hs) w:=hw.arr;refine ⟨Zru br,oA hw,?_⟩;refine (Zdl (most:=600) (by omega) (by omega) hb4 hw).mono ?_;clear hw;rintro _ w ⟨rfl,hw⟩;rw [e5] at hw ⊢;dsimp only at hw ⊢;refine ⟨_,rfl,?_⟩;have hKp:=Zgf;have hfold:∀ j,(Z0 j rd5).1.foldl Zbt (Zag num rows grps lims,Zim num rows grps lims,0)=(Z0 j rd5).1.foldl Zbt (Zag num rows grps lims,Zim num rows grps lims,0):=λ _=>rfl;have hrun:(ZfZ bs).run=(Z0 n rd5).1.foldl Zbt (Zag num rows grps lims,Zim num rows grps lims,0):=by rw [hraw];rfl
  have hrd:(ZfZ bs).rd=(Z0 n rd5).2:=by rw [hraw]
  generalize hx0:((Zag num rows grps lims,Zim num rows grps lims,0):PS)=x0 at *;have hk0:x0.1.lims.length<=1000/\x0.1.sold.length<=1000/\x0.1.grps.length<=1000:=by
    rw [<-hx0];refine ⟨by show lims.length<=_;omega,by show (List.replicate lims.length (0:Int)).length<=_;rw [List.length_replicate];omega,by show grps.length<=_;omega⟩
  refine ⟨λ fine last i w=>∃ j:Nat,i=j/\j<=n/\fine=((Z0 j rd5).1.foldl Zbt x0).2.1/\last=((Z0 j rd5).1.foldl Zbt x0).2.2/\Sat R (ZcC bn br::pts br (ZB r)::ZC r (Z0 j rd5).2::Zn p ((Z0 j rd5).1.foldl Zbt x0).1::Hs) w,
    λ _ _ i _=>n - i.toNat,⟨0,rfl,by omega,?_,?_,?_⟩,?_⟩
  · rw [<-hx0];rfl
  · rw [<-hx0];rfl
  · rw [<-hx0]
    show Sat R (ZcC bn br::pts br (ZB r)::ZC r rd5::Zn p (Zag num rows grps lims)::Hs) w;exact hw.arr
  clear hw;rintro _ _ _ _ w ⟨j,rfl,hj,rfl,rfl,hw⟩;refine Br.d (λ h=>?_) (λ h=>?_)
  · have hbj:=Zk4 j hb5
    have hsn:=Zhq j rd5;have hkj:=Zgf (Z0 j rd5).1 x0;generalize hx:(Z0 j rd5).1.foldl Zbt x0=x at *;have hstep:(Z0 (j + 1) rd5).1.foldl Zbt x0=Zbt x (ZaS (Z0 j rd5).2).1:=by
      rw [hsn];show ((Z0 j rd5).1++[_]).foldl Zbt x0=_;rw [List.foldl_append,hx];rfl
    have hrd2:(Z0 (j + 1) rd5).2=(ZaS (Z0 j rd5).2).2:=by rw [hsn]
    have hval:=Zk5 hbj;generalize hrdj:(Z0 j rd5).2=rdj at *;have hc1:=Ze (most:=28629151) hbj;have hc2:=Ze (most:=8) hc1;have hc3:=Ze (most:=600) hc2;rw [Zl (by omega) (by omega)];obtain ⟨J,hJ⟩:∃ J:Option Addr->World->Prop,∀ h10 w,J h10 w↔∃ b,h10=some ⟨b,0,none⟩/\Sat R (pts b (ZT ⟨(Zc 28629151 rdj).1,(Zc 8 (Zc 28629151 rdj).2).1,(Zc 600 (Zc 8 (Zc 28629151 rdj).2).2).1,[]⟩ ⟨none,0,0⟩)::ZcC bn br::pts br (ZB r)::ZC r (Zc 600 (Zc 8 (Zc 28629151 rdj).2).2).2::Zn p x.1::Hs) w:=⟨_,λ _ _=>Iff.rfl⟩;refine ⟨J,ZoO hbj hw λ b w' h=>(hJ _ _).2 ⟨b,rfl,h⟩,?_⟩;clear hw;intro _ h10 w hJw;obtain ⟨b,rfl,hw⟩:=(hJ _ _).1 hJw;clear hJ hJw;have hw:Sat R (ZcC bn br::pts br (ZB r)::ZC r (Zc 600 (Zc 8 (Zc 28629151 rdj).2).2).2::pts b (ZT ⟨(Zc 28629151 rdj).1,(Zc 8 (Zc 28629151 rdj).2).1,(Zc 600 (Zc 8 (Zc 28629151 rdj).2).2).1,[]⟩ ⟨none,0,0⟩)::Zn p x.1::Hs) w:=hw.arr;refine (Zgk (most:=600) (each:=600) (by omega) (by omega) (by omega) (by omega) hc3 hw).use ?_;clear hw;rintro _ w ⟨t,rfl,hw⟩;refine ⟨t,rfl,Zd.mk rfl ?_⟩;have hw:Sat R (pts b (ZT ⟨(Zc 28629151 rdj).1,(Zc 8 (Zc 28629151 rdj).2).1,(Zc 600 (Zc 8 (Zc 28629151 rdj).2).2).1,[]⟩ ⟨none,0,0⟩)::Own t 3 (Zg (Zck 600 600 (Zc 600 (Zc 8 (Zc 28629151 rdj).2).2).2).1)::ZcC bn br::pts br (ZB r)::ZC r (Zck 600 600 (Zc 600 (Zc 8 (Zc 28629151 rdj).2).2).2).2::Zn p x.1::Hs) w:=hw.arr;have hw:Sat R (pts b (ZT ⟨(Zc 28629151 rdj).1,(Zc 8 (Zc 28629151 rdj).2).1,(Zc 600 (Zc 8 (Zc 28629151 rdj).2).2).1,[]⟩ ⟨none,0,0⟩)::Own t 3 (Zg (ZaS rdj).1.seats)::ZcC bn br::pts br (ZB r)::ZC r (ZaS rdj).2::Zn p x.1::Hs) w:=hw;refine Za hw (by kernel_rfl) rfl (by simp [Value.cells]) λ w hw=>?_;have hw:=hw.re (pts b (ZT (ZaS rdj).1 t));generalize hh:(ZaS rdj).1=hd at *;have done:∀ {y:PS} {Hs':List HP} {w},Zbt x hd=y->Sat R (pts b (ZT hd t)::Own t 3 (Zg hd.seats)::ZcC bn br::pts br (ZB r)::ZC r (ZaS rdj).2::Zn p y.1::Hs) w->
        (∃ j_1:Nat,((j:Int) + 1)=j_1/\j_1<=n/\y.2.1=((Z0 j_1 rd5).1.foldl Zbt x0).2.1/\y.2.2=((Z0 j_1 rd5).1.foldl Zbt x0).2.2/\Sat R (ZcC bn br::pts br (ZB r)::ZC r (Z0 j_1 rd5).2::Zn p ((Z0 j_1 rd5).1.foldl Zbt x0).1::Hs) w):=λ {y Hs' w} e hw=>by
      refine ⟨j + 1,by omega,by omega,?_⟩;rw [hstep,hrd2,e];exact ⟨rfl,rfl,hw.drop.drop⟩
    refine Br.mk (λ h1=>?_) (λ h1=>?_)
    · refine Zd.mk rfl ⟨hd.owner,by rw [Zz];exact oA hw,?_⟩
      refine Br.d (λ h2=>?_) (λ h2=>?_)
      · have e:Zbt x hd=((Z7 x.1 hd).1,(Z7 x.1 hd).2,hd.owner):=by unfold Zbt;rw [if_pos ⟨h1,h2⟩]
        refine Zd.mk rfl ⟨hd.owner,hd.cls,hd.many,t,At.own (eqS hw) (by exact ⟨rfl,rfl,rfl,rfl,trivial⟩),?_⟩;obtain ⟨R2,hro,keep,hw,back⟩:=Own.lendI (hw.take (Own t 3 (Zg hd.seats))) (by have:=hval.n;omega);have hw:=hw.take (Zn p x.1);refine (Zjq (by rw [hkj.lims];exact hk0.1) (by rw [hkj.sold];exact hk0.2.1) (by rw [hkj.grps];exact hk0.2.2) hro (by have:=hval.n;omega) hw).use ?_;clear hw;rintro _ w ⟨rfl,hw⟩;have hw:=back hw;have hw:Sat R (pts b (ZT hd t)::Own t 3 (Zg hd.seats)::ZcC bn br::pts br (ZB r)::ZC r (ZaS rdj).2::Zn p (Z7 x.1 hd).1::Hs) w:=hw.arr;refine ⟨_,rfl,Zd.mk rfl ⟨hd.owner,by rw [Zz];exact oA hw,?_⟩⟩;exact ⟨done (Hs':=Hs) e hw,by dsimp only;omega⟩
      · have e:Zbt x hd=(x.1,false,hd.owner):=by unfold Zbt;rw [if_neg (λ h5=>h2 h5.2)]
        refine Zd.mk rfl ⟨hd.owner,by rw [Zz];exact oA hw,?_⟩;exact ⟨done (Hs':=Hs) e hw,by dsimp only;omega⟩
    · have e:Zbt x hd=(x.1,false,hd.owner):=by unfold Zbt;rw [if_neg (λ h5=>by rw [h5.1] at h1;cases h1)]
      refine Zd.mk rfl ⟨hd.owner,by rw [Zz];exact oA hw,?_⟩;exact ⟨done (Hs':=Hs) e hw,by dsimp only;omega⟩
  · obtain rfl:j=n:=by omega
    rw [<-hrun,<-hrd] at hw;rw [<-hrun];refine ⟨some ⟨r,0,none⟩,oA hw,?_⟩;refine (ZbK (hw.take (ZC r (ZfZ bs).rd))).use ?_;clear hw;rintro _ w ⟨rfl,hw⟩;refine ⟨_,rfl,Br.nb (λ h1=>?_) (λ h1=>Br.nb (λ h2=>?_) (λ h2=>?_))⟩
    · exact hK1 (by unfold Zpy;rw [if_neg (λ h5=>by rw [h5.1] at h1;cases h1)]) _ hw.drop.drop.drop.drop
    · exact hK1 (by unfold Zpy;rw [if_neg (λ h5=>by rw [h5.2] at h2;cases h2)]) _ hw.drop.drop.drop.drop
    · exact hK2 _ _ _ (by unfold Zpy;rw [if_pos ⟨h1,h2⟩]) hw.drop.drop.drop
end
section
open Go Go.VC Tryz
variable {R R':Cx} {Hs Rest:List HP} {w:World}
theorem Zb7 (x:Int) (l:List Int):Zm (x::l)=Zm [x]++Zm l:=by rw [show x::l=[x]++l from rfl,Zhv]
def ZbG (r:RF):List Int:=Zvs r.num r.rows r.grps r.lims r.L
structure ZAO (r:RF):Prop where
 num:0<=r.num/\r.num<9223372036854775808
 rows:0<=r.rows/\r.rows<9223372036854775808
 grps:ZeF r.grps
 lims:ZeF r.lims
 gl:r.grps.length<=1000
 ll:r.lims.length<=1000
 hs:∀ h∈r.L,ZgH h
 hl:r.L.length<=10000
end
section
open Go Go.VC Tryz
variable {R R':Cx} {Hs Rest:List HP} {w:World}
def Zhs:Nat->Int->Rd->List Int × Rd
 |0,_,r=>([],r)
 |k + 1,each,r=>if r.bad then ([],r) else ((Zc each r).1::(Zhs k each (Zc each r).2).1,(Zhs k each (Zc each r).2).2)
theorem Zf0 (k:Nat) (each:Int) (r:Rd):Zhs (k + 1) each r=if r.bad then ([],r) else ((Zc each r).1::(Zhs k each (Zc each r).2).1,(Zhs k each (Zc each r).2).2):=rfl
theorem Zq2 {each:Int} {r:Rd} (h:r.bad=true):∀ k,Zhs k each r=([],r)
 |0=>rfl
 |k + 1=>by rw [Zf0,if_pos h]
def Zjw (most each:Int) (r:Rd):List Int × Rd:=Zhs (Zc most r).1.toNat each (Zc most r).2
structure ZB3 (r:RF) (j:Nat) (hj:j<r.L.length):Prop where
 o:1<=r.L[j].owner
 p:∀ h:0<j,r.L[j - 1].owner<r.L[j].owner
 c:r.L[j].cls<r.lims.length
 m:1<=r.L[j].many
 n:(r.L[j].seats.length:Int)<=r.L[j].many
 s:∀ k (hk:k<r.L[j].seats.length),r.L[j].seats[k] ∉ ZV (r.L.take j)++r.L[j].seats.take k/\r.L[j].seats[k]<Za5 r.rows r.grps/\∀ h:0<k,r.L[j].seats[k - 1]<r.L[j].seats[k]
structure Zzj (r:RF):Prop where
 num:1<=r.num
 lay:ZeJ r.rows r.grps=true
 lim:ZjR r.lims=true
 l0:r.lims.getD 0 0=Za5 r.rows r.grps
 each:∀ j (hj:j<r.L.length),ZB3 r j hj
 nest:Zad r.lims r.sold=true
end
section
open Go Go.VC Tryz
variable {R R':Cx} {Hs Rest:List HP} {w:World}
def ZcS (rd:Rd):ZJ × Rd:=
 (⟨(Zc 28629151 rd).1,(Zc 8 (Zc 28629151 rd).2).1,(Zc 600 (Zc 8 (Zc 28629151 rd).2).2).1,(Zjw 600 600 (Zc 600 (Zc 8 (Zc 28629151 rd).2).2).2).1⟩,(Zjw 600 600 (Zc 600 (Zc 8 (Zc 28629151 rd).2).2).2).2)
def rHs:Nat->Rd->List ZJ × Rd
 |0,rd=>([],rd)
 |k + 1,rd=>if rd.bad then ([],rd) else ((ZcS rd).1::(rHs k (ZcS rd).2).1,(rHs k (ZcS rd).2).2)
theorem Zjx (k:Nat) (rd:Rd):rHs (k + 1) rd=if rd.bad then ([],rd) else ((ZcS rd).1::(rHs k (ZcS rd).2).1,(rHs k (ZcS rd).2).2):=rfl
def ZiG (bs:List Int):Raw:=
 let a:=Zc 9999 ⟨bs,false⟩
 let b:=Zc 60 a.2
 let g:=Zjw 4 10 b.2
 let l:=Zjw 8 10000 g.2
 let n:=Zc 600 l.2
 let x:=rHs n.1.toNat n.2
 ⟨a.1,b.1,g.1,l.1,x.1,x.2⟩
def Raw.rf (x:Raw):RF:=⟨x.num,x.rows,x.grps,x.lims,x.L⟩
end
end Go.Proofs.YtlplemdmegpoeaaGreatDoor
