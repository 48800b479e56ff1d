/- VC, part 7: whole functions: the formula 'den' of a body is enough for the call. No condition. -/
import Derived.Test.YtbniilhfbfcegaaVc6
namespace Go.VC

/-! ### Relations over typed slots -/

def Cur (R : Type) : List Ty → Type
  | [] => R
  | t :: ts => t.T → Cur R ts

def app {R : Type} : (ts : List Ty) → Cur R ts → List Value → (R → Prop) → Prop
  | [], f, _, φ => φ f
  | t :: ts, f, v :: vs, φ => t.un v fun x => app ts (f x) vs φ
  | _ :: _, _, [], _ => False

def Ty.all : (t : Ty) → (Value → Prop) → Prop
  | .int k, φ => ∀ n : Int, φ (.int k n)
  | .bool, φ => ∀ b : Bool, φ (.bool b)
  | .str, φ => ∀ s : ByteArray, φ (.string s)
  | .sl, φ => ∀ s : Sl, φ (.slice s.a s.len s.cap)
  | .ptr, φ => ∀ p : Option Addr, φ (.pointer p)
  | .map, φ => ∀ m : Option Nat, φ (.map m)
  | .any, φ => ∀ v : Value, φ v

theorem Ty.all_enc {t : Ty} {φ : Value → Prop} (h : t.all φ) (x : t.T) : φ (t.enc x) := by
  cases t <;> exact h x

def allT : List Ty → (List Value → Prop) → Prop
  | [], φ => φ []
  | t :: ts, φ => t.all fun v => allT ts fun vs => φ (v :: vs)

theorem app_all {R : Type} : ∀ {ts : List Ty} {f : Cur R ts} {vs : List Value} {φ : R → Prop} {ψ : List Value → Prop}, vs.length = ts.length → app ts f vs φ → allT ts ψ → ψ vs
  | [], _, vs, _, _, hl, _, h => by
    cases vs with
    | nil => exact h
    | cons v vs => simp at hl
  | t :: ts, f, [], _, _, hl, _, _ => by simp at hl
  | t :: ts, f, v :: vs, φ, ψ, hl, ha, h => by
    obtain ⟨x, rfl, ha'⟩ := Ty.un_enc (show t.un v fun x => app ts (f x) vs φ from ha)
    have hx : allT ts fun vs => ψ (t.enc x :: vs) := Ty.all_enc (t := t) (φ := fun v => allT ts fun vs => ψ (v :: vs)) h x
    exact app_all (ψ := fun vs => ψ (t.enc x :: vs)) (by simpa using hl) ha' hx

/-- The relation at these values, made whole. -/
def getC {R : Type} (d : R) : (ts : List Ty) → Cur R ts → List Value → R
  | [], f, _ => f
  | t :: ts, f, v :: vs => match t, f, v with
    | .int k, f, .int k' n => if k = k' then getC d ts (f n) vs else d
    | .bool, f, .bool b => getC d ts (f b) vs
    | .str, f, .string s => getC d ts (f s) vs
    | .sl, f, .slice a n c => getC d ts (f ⟨a, n, c⟩) vs
    | .ptr, f, .pointer p => getC d ts (f p) vs
    | .map, f, .map m => getC d ts (f m) vs
    | .any, f, v => getC d ts (f v) vs
    | _, _, _ => d
  | _ :: _, _, [] => d

theorem app_get {R : Type} {d : R} : ∀ {ts : List Ty} {f : Cur R ts} {vs : List Value} {φ : R → Prop}, app ts f vs φ → φ (getC d ts f vs)
  | [], _, _, _, h => h
  | t :: ts, f, [], _, h => h.elim
  | t :: ts, f, v :: vs, φ, h => by
    obtain ⟨x, rfl, ha⟩ := Ty.un_enc (show t.un v fun x => app ts (f x) vs φ from h)
    cases t <;> simp only [getC, Ty.enc, if_true] <;> exact app_get ha

/-! ### The formula of a piece of code -/

structure Cont where
  nrm : Env → World → Prop
  ex : Nat → Env → World → Prop
  ret : Env → World → Prop

/-- How a piece of code is gone through: a loop with the slots that its relation speaks of (and a list that holds every slot that its body writes); a cut ahead of what follows, likewise. -/
inductive Sk where
  | leaf
  | seq (a b : Sk)
  | cond (a b : Sk)
  | block (a : Sk)
  | loop (ms : List Nat) (ts : List Ty) (W : List Nat) (a : Sk)
  | cut (ms : List Nat) (ts : List Ty) (W : List Nat) (a b : Sk)

def Sk.l : Sk → Sk
  | .seq a _ | .cond a _ | .block a | .loop _ _ _ a | .cut _ _ _ a _ => a
  | _ => .leaf
def Sk.r : Sk → Sk
  | .seq _ b | .cond _ b | .cut _ _ _ _ b => b
  | _ => .leaf

def memB (i : Nat) : List Nat → Bool
  | [] => false
  | j :: js => match Nat.beq i j with | true => true | false => memB i js

def look : List Nat → List Value → Nat → Option Value
  | m :: ms, v :: vs, i => match Nat.beq i m with | true => some v | false => look ms vs i
  | _, _, _ => none

def mix (ρ : Env) (W ms : List Nat) (vs : List Value) (z : Env) : Env := fun i =>
  match look ms vs i with
  | some v => v
  | none => match memB i W with
    | true => z i
    | false => ρ i

def vals (ms : List Nat) (ρ : Env) : List Value := ms.map ρ

def loopF (ts : List Ty) (ms W : List Nat) (ρ : Env) (body : Env → (Env → World → Prop) → World → Prop) (w : World) : Prop :=
  ∃ (I : Cur (World → Prop) ts) (μ : Cur (World → Nat) ts), app ts I (vals ms ρ) (fun p => p w) ∧
    ∀ z : Env, allT ts fun vs => ∀ w, app ts I vs (fun p => p w) →
      body (mix ρ W ms vs z) (fun ρ' w' => app ts I (vals ms ρ') (fun p => p w') ∧ app ts μ (vals ms ρ') (fun m' => app ts μ vs (fun m => m' w' < m w))) w

def cutF (ts : List Ty) (ms W : List Nat) (ρ : Env) (first : (Env → World → Prop) → Prop) (rest : Env → World → Prop) : Prop :=
  ∃ J : Cur (World → Prop) ts, first (fun ρ' w' => app ts J (vals ms ρ') (fun p => p w')) ∧
    ∀ z : Env, allT ts fun vs => ∀ w, app ts J vs (fun p => p w) → rest (mix ρ W ms vs z) w

def den (P : Program) (cl : FuncId → Bool) : Code → Sk → Env → Cont → World → Prop
  | .skip, _, ρ, K, w => K.nrm ρ w
  | .label _, _, ρ, K, w => K.nrm ρ w
  | .region _ ops d, _, ρ, K, w => (match d with
    | false => opsF P cl ops ops.toList ρ K.nrm w
    | true => Drw w fun S w' => anyF P cl ops S ops.size true (Array.replicate ops.size false) ρ K.nrm w')
  | .seq a b, sk, ρ, K, w => (match sk with
    | .cut ms ts W _ _ => cutF ts ms W ρ (fun k => den P cl a sk.l ρ { K with nrm := k } w) (fun ρ' w' => den P cl b sk.r ρ' K w')
    | _ => den P cl a sk.l ρ { K with nrm := fun ρ' w' => den P cl b sk.r ρ' K w' } w)
  | .cond c a b, sk, ρ, K, w => (match ρ.ev c with
    | .bool t => Br t (den P cl a sk.l ρ K w) (den P cl b sk.r ρ K w)
    | _ => False)
  | .block id a, sk, ρ, K, w => den P cl a sk.l ρ { K with ex := fun i => match Nat.beq i id with | true => K.nrm | false => K.ex i } w
  | .loop a, sk, ρ, K, w => (match sk with
    | .loop ms ts W _ => loopF ts ms W ρ (fun ρ' k w' => den P cl a sk.l ρ' { K with nrm := k } w') w
    | _ => False)
  | .scope a, sk, ρ, K, w => den P cl a sk.l ρ K w
  | .exit id, _, ρ, K, w => K.ex id ρ w
  | .ret, _, ρ, K, w => K.ret ρ w
  | _, _, _, _, _ => False

/-! ### What is asked ahead of the code and the tables (closed facts) -/

def wrIn (pw : Nat → Bool) : Code → Bool
  | .region _ ops _ => ops.all fun o => match o.dst with | some d => pw d | none => true
  | .seq a b | .cond _ a b => wrIn pw a && wrIn pw b
  | .block _ a | .loop a | .scope a => wrIn pw a
  | .rangeFunc _ _ _ _ => false
  | _ => true

def codeOk (P : Program) (n : Nat) : Code → Bool
  | .region _ ops _ => Region.noSelect ops && ops.all fun o => opOk P o.op && (match o.dst with | some d => Nat.blt d n | none => true)
  | .seq a b | .cond _ a b => codeOk P n a && codeOk P n b
  | .block _ a | .loop a | .scope a => codeOk P n a
  | .rangeFunc _ _ _ _ => false
  | _ => true

def skOk : Code → Sk → Bool
  | .seq a b, sk => (match sk with
    | .cut ms ts W _ _ => wrIn (fun i => memB i W) a && Nat.beq ms.length ts.length
    | _ => true) && skOk a sk.l && skOk b sk.r
  | .cond _ a b, sk => skOk a sk.l && skOk b sk.r
  | .block _ a, sk | .scope a, sk => skOk a sk.l
  | .loop a, sk => (match sk with
    | .loop ms ts W _ => wrIn (fun i => memB i W) a && Nat.beq ms.length ts.length
    | _ => true) && skOk a sk.l
  | _, _ => true

/-! ### It is enough -/

/-- The post. -/
def PK (n : Nat) (pw : Nat → Bool) (a0 : Env) (K : Cont) : Exit → Act → World → Prop
  | .normal, a, w => Kept n pw a0 a ∧ K.nrm a.env w
  | .exit i, a, w => Kept n pw a0 a ∧ K.ex i a.env w
  | .ret, a, w => Kept n pw a0 a ∧ K.ret a.env w
  | _, _, _ => False

theorem look_vals {ms : List Nat} {ρ : Env} {i : Nat} {v : Value} (h : look ms (vals ms ρ) i = some v) : v = ρ i := by
  induction ms with
  | nil => cases h
  | cons m ms ih =>
    simp only [vals, List.map_cons, look] at h
    split at h
    · rename_i hb
      cases h
      rw [Nat.eq_of_beq_eq_true hb]
    · exact ih h

theorem mix_env {ρ e : Env} {W ms : List Nat} (h : ∀ i, memB i W = false → e i = ρ i) : mix ρ W ms (vals ms e) e = e := by
  funext i
  unfold mix
  split
  · rename_i v hv; exact look_vals hv
  · split
    · rfl
    · rename_i hm; exact (h i hm).symm

theorem vals_len (ms : List Nat) (ρ : Env) : (vals ms ρ).length = ms.length := by simp [vals]

theorem wrIn_and {p q : Nat → Bool} : ∀ {c : Code}, wrIn p c = true → wrIn q c = true → wrIn (fun i => p i && q i) c = true
  | .region _ ops _, hp, hq => by
    simp only [wrIn, Array.all_eq_true_iff_forall_mem] at *
    intro o ho
    have := hp o ho
    have := hq o ho
    cases hd : o.dst <;> simp_all
  | .seq a b, hp, hq => by
    simp only [wrIn, Bool.and_eq_true] at *
    exact ⟨wrIn_and hp.1 hq.1, wrIn_and hp.2 hq.2⟩
  | .cond _ a b, hp, hq => by
    simp only [wrIn, Bool.and_eq_true] at *
    exact ⟨wrIn_and hp.1 hq.1, wrIn_and hp.2 hq.2⟩
  | .block _ a, hp, hq => wrIn_and (c := a) hp hq
  | .loop a, hp, hq => wrIn_and (c := a) hp hq
  | .scope a, hp, hq => wrIn_and (c := a) hp hq
  | .rangeFunc _ _ _ _, hp, _ => by cases hp
  | .skip, _, _ => rfl
  | .exit _, _, _ => rfl
  | .label _, _, _ => rfl
  | .goto _, _, _ => rfl
  | .ret, _, _ => rfl
  | .refuse _, _, _ => rfl

theorem Kept.refl {n : Nat} {pw : Nat → Bool} {a : Act} (h : a.tmps.size = n) (hd : a.defers = []) : Kept n pw a.env a := ⟨h, hd, fun _ _ => rfl⟩

theorem Kept.trans {n : Nat} {pw : Nat → Bool} {q : Nat → Bool} {a0 : Env} {a b : Act} (h : Kept n pw a0 a) (h' : Kept n (fun i => pw i && q i) a.env b) : Kept n pw a0 b :=
  ⟨h'.size, h'.defers, fun i hi => (h'.same i (by simp [hi])).trans (h.same i hi)⟩

variable {P : Program} {cl : FuncId → Bool} {n : Nat}

theorem region_sound (hcl : ∀ g, cl g = true → callable P g = true) (hmix : P.follows .mixedOrders = true) {pw : Nat → Bool} {a0 : Env} {id : Nat} {ops : Array Oper} {d : Bool}
    (hc : codeOk P n (.region id ops d) = true) (hw : wrIn pw (.region id ops d) = true) {sk : Sk} {K : Cont} {a : Act} {w : World} (hk : Kept n pw a0 a)
    (h : den P cl (.region id ops d) sk a.env K w) : (Code.region id ops d).wp P (PK n pw a0 K) a w := by
  simp only [codeOk, Bool.and_eq_true, Array.all_eq_true_iff_forall_mem] at hc
  simp only [wrIn, Array.all_eq_true_iff_forall_mem] at hw
  have hops : ∀ o ∈ ops, opOk P o.op = true ∧ dstIn n pw o = true := fun o ho => by
    have h1 := hc.2 o ho
    have h2 := hw o ho
    refine ⟨h1.1, ?_⟩
    unfold dstIn
    cases hd : o.dst with
    | none => rfl
    | some x => rw [hd] at h1 h2; simp only [Bool.and_eq_true]; exact ⟨h1.2, h2⟩
  unfold den at h
  cases d with
  | false =>
    exact wp_region_list (opsF_sound (Q := PK n pw a0 K) hcl (fun a w hk h => ⟨hk, h⟩) ops.toList (fun o ho => hops o (by simpa using ho)) a w hk h)
  | true =>
    obtain ⟨S0, S, hS, h⟩ := h
    obtain ⟨hS, h⟩ := h _ hS
    refine wp_region_any hmix (wpT_any _ _ _ _ (anyF_sound (Q := PK n pw a0 K) hcl hc.1 (fun a w hk h => ⟨hk, h⟩) (fun _ _ _ h => h) (fun i o ho => hops o (Array.mem_of_getElem? ho)) _ _ _ _ _ hk (fun _ => hS) h))

theorem den_sound (hcl : ∀ g, cl g = true → callable P g = true) (hmix : P.follows .mixedOrders = true) : ∀ (c : Code) (sk : Sk) (pw : Nat → Bool) (a0 : Env),
    codeOk P n c = true → wrIn pw c = true → skOk c sk = true → ∀ (a : Act) (K : Cont) (w : World), Kept n pw a0 a → den P cl c sk a.env K w → c.wp P (PK n pw a0 K) a w
  | .skip, sk, pw, a0, _, _, _, a, K, w, hk, h => wp_skip ⟨hk, h⟩
  | .label _, sk, pw, a0, _, _, _, a, K, w, hk, h => wp_label ⟨hk, h⟩
  | .exit _, sk, pw, a0, _, _, _, a, K, w, hk, h => wp_exit ⟨hk, h⟩
  | .ret, sk, pw, a0, _, _, _, a, K, w, hk, h => wp_ret ⟨hk, h⟩
  | .region id ops d, sk, pw, a0, hc, hw, _, a, K, w, hk, h => region_sound hcl hmix hc hw hk h
  | .goto _, sk, pw, a0, _, _, _, a, K, w, hk, h => h.elim
  | .refuse _, sk, pw, a0, _, _, _, a, K, w, hk, h => h.elim
  | .rangeFunc _ _ _ _, sk, pw, a0, _, _, _, a, K, w, hk, h => h.elim
  | .scope c, sk, pw, a0, hc, hw, hs, a, K, w, hk, h => by
    refine wp_scope_straight ?_
    refine Code.wp_mono ?_ (den_sound hcl hmix c sk.l pw a0 hc hw hs a K w hk h)
    intro e a w hq
    cases e <;> first | exact hq | exact hq.elim
  | .block id c, sk, pw, a0, hc, hw, hs, a, K, w, hk, h => by
    refine wp_block ?_
    refine Code.wp_mono ?_ (den_sound hcl hmix c sk.l pw a0 hc hw hs a _ w hk h)
    intro e a w hq
    cases e with
    | exit i =>
      obtain ⟨hk, hq⟩ := hq
      show if i = id then _ else _
      by_cases hi : i = id
      · subst hi
        rw [if_pos rfl]
        have : Nat.beq i i = true := by simp
        simp only [this] at hq
        exact ⟨hk, hq⟩
      · rw [if_neg hi]
        have : Nat.beq i id = false := by
          cases hb : Nat.beq i id with
          | false => rfl
          | true => exact absurd (Nat.eq_of_beq_eq_true hb) hi
        simp only [this] at hq
        exact ⟨hk, hq⟩
    | normal => exact hq
    | ret => exact hq
    | _ => exact hq.elim
  | .cond c x y, sk, pw, a0, hc, hw, hs, a, K, w, hk, h => by
    simp only [codeOk, wrIn, skOk, Bool.and_eq_true] at hc hw hs
    unfold den at h
    split at h
    · rename_i t ht
      rw [env_ev] at ht
      refine wp_cond_split ht (fun hb => ?_) (fun hb => ?_)
      · subst hb; exact den_sound hcl hmix x sk.l pw a0 hc.1 hw.1 hs.1 a K w hk h
      · subst hb; exact den_sound hcl hmix y sk.r pw a0 hc.2 hw.2 hs.2 a K w hk h
    · exact h.elim
  | .seq x y, sk, pw, a0, hc, hw, hs, a, K, w, hk, h => by
    simp only [codeOk, wrIn, skOk, Bool.and_eq_true] at hc hw hs
    refine wp_seq ?_
    have plain : den P cl x sk.l a.env { K with nrm := fun ρ' w' => den P cl y sk.r ρ' K w' } w → x.wp P (Exit.then (y.wp P (PK n pw a0 K)) (PK n pw a0 K)) a w := fun h => by
      refine Code.wp_mono ?_ (den_sound hcl hmix x sk.l pw a0 hc.1 hw.1 hs.1.2 a _ w hk h)
      intro e a w hq
      cases e with
      | normal => exact den_sound hcl hmix y sk.r pw a0 hc.2 hw.2 hs.2 a K w hq.1 hq.2
      | _ => exact hq
    cases sk with
    | cut ms ts W l r =>
      simp only [Bool.and_eq_true] at hs
      obtain ⟨J, h1, h2⟩ := (show cutF ts ms W a.env (fun k => den P cl x l a.env { K with nrm := k } w) (fun ρ' w' => den P cl y r ρ' K w') from h)
      have := den_sound hcl hmix x l (fun i => pw i && memB i W) a.env hc.1 (wrIn_and hw.1 hs.1.1.1) hs.1.2 a _ w (Kept.refl hk.size hk.defers) h1
      refine Code.wp_mono ?_ this
      intro e b w' hq
      cases e with
      | normal =>
        obtain ⟨hkb, hq⟩ := hq
        have hall := h2 b.env
        have hb := app_all (by rw [vals_len]; exact Nat.eq_of_beq_eq_true hs.1.1.2) hq hall w' hq
        rw [mix_env (fun i hi => hkb.same i (by simp [hi]))] at hb
        exact den_sound hcl hmix y r pw a0 hc.2 hw.2 hs.2 b K w' (hk.trans hkb) hb
      | exit i => exact ⟨hk.trans hq.1, hq.2⟩
      | ret => exact ⟨hk.trans hq.1, hq.2⟩
      | _ => exact hq.elim
    | leaf => exact plain h
    | seq l r => exact plain h
    | cond l r => exact plain h
    | block l => exact plain h
    | loop ms ts W l => exact plain h
  | .loop c, sk, pw, a0, hc, hw, hs, a, K, w, hk, h => by
    cases sk with
    | loop ms ts W l =>
      simp only [skOk, Bool.and_eq_true] at hs
      have hc : codeOk P n c = true := hc
      have hw : wrIn pw c = true := hw
      obtain ⟨I, μ, h0, hstep⟩ := (show loopF ts ms W a.env (fun ρ' k w' => den P cl c l ρ' { K with nrm := k } w') w from h)
      have hlen : ∀ e : Env, (vals ms e).length = ts.length := fun e => by rw [vals_len]; exact Nat.eq_of_beq_eq_true hs.1.2
      refine wp_loop (fun b v => Kept n pw a0 b ∧ (∀ i, memB i W = false → b.env i = a.env i) ∧ app ts I (vals ms b.env) (fun p => p v))
        (fun b v => getC (fun _ => 0) ts μ (vals ms b.env) v) ⟨hk, fun _ _ => rfl, h0⟩ ?_
      rintro b v ⟨hkb, hsame, hI⟩
      have hb := app_all (hlen b.env) hI (hstep b.env) v hI
      rw [mix_env hsame] at hb
      have := den_sound hcl hmix c l (fun i => pw i && memB i W) b.env hc (wrIn_and hw hs.1.1) hs.2 b _ v (Kept.refl hkb.size hkb.defers) hb
      refine Code.wp_mono ?_ this
      intro e b' v' hq
      cases e with
      | normal =>
        obtain ⟨hkb', hI', hμ⟩ := hq
        exact ⟨⟨hkb.trans hkb', fun i hi => (hkb'.same i (by simp [hi])).trans (hsame i hi), hI'⟩, by
          have h1 := app_get (d := fun _ => 0) hμ
          exact app_get (d := fun _ => 0) h1⟩
      | exit i => exact ⟨hkb.trans hq.1, hq.2⟩
      | ret => exact ⟨hkb.trans hq.1, hq.2⟩
      | _ => exact hq.elim
    | _ => exact False.elim h

/-! ### A whole function -/

def argEnv : List Value → Env
  | [], _ => undef
  | v :: vs, i => match i with
    | 0 => v
    | i + 1 => argEnv vs i

def fin1 (K : Value → World → Prop) (vs : List Value) (w : World) : Prop :=
  match vs with
  | [v] => K v w
  | vs => K (.tuple vs.toArray) w

def resF (P : Program) (ρ : Env) (K : Value → World → Prop) : List ResultVar → List Value → World → Prop
  | [], acc, w => fin1 K acc.reverse w
  | .tmp t :: rs, acc, w => resF P ρ K rs (ρ t :: acc) w
  | .cell a t :: rs, acc, w => loadF P (fun w' => w' = w) t (ρ a) fun v => resF P ρ K rs (v :: acc) w

def fnOk (P : Program) (n : Nat) (fn : Func) (sk : Sk) : Bool :=
  Nat.beq n fn.ntmps && (match fn.body with | some c => codeOk P n c && wrIn (fun _ => true) c && skOk c sk | none => false) &&
    fn.results.all fun r => match r with | .tmp _ => true | .cell _ t => ldOk P t

def fnF (P : Program) (cl : FuncId → Bool) (fn : Func) (sk : Sk) (args : List Value) (K : Value → World → Prop) (w : World) : Prop :=
  match fn.body with
  | some c => den P cl c sk (argEnv args) { nrm := fun ρ w => resF P ρ K fn.results.toList [] w, ex := fun _ _ _ => False, ret := fun ρ w => resF P ρ K fn.results.toList [] w } w
  | none => False

theorem argEnv_get : ∀ (vs : List Value) (i : Nat), argEnv vs i = vs.getD i undef
  | [], i => by simp [argEnv]
  | v :: vs, 0 => rfl
  | v :: vs, i + 1 => by simpa [argEnv] using argEnv_get vs i

def resSem (tmps : Array Value) : ResultVar → Sem Value
  | .tmp t => pure (tmps.getD t undef)
  | .cell a t => do loadVar t (← asAddr (tmps.getD a undef))

theorem results_eq (fn : Func) (tmps : Array Value) : results fn tmps = (do
    let vs ← fn.results.mapM (resSem tmps)
    pure (if h : vs.size = 1 then vs[0] else .tuple vs)) := by
  unfold results
  congr 1

theorem resF_sound {a : Act} {K : Value → World → Prop} {w : World} : ∀ (rs : List ResultVar) (acc : List Value), (∀ r ∈ rs, (match r with | .tmp _ => true | .cell _ t => ldOk P t) = true) →
    resF P a.env K rs acc w → ∃ vs : List Value, (rs.mapM (resSem a.tmps)).run P w = .ok vs w ∧ fin1 K (acc.reverse ++ vs) w
  | [], acc, _, h => ⟨[], rfl, by rw [List.append_nil]; exact h⟩
  | .tmp t :: rs, acc, hok, h => by
    obtain ⟨vs, hr, hf⟩ := resF_sound rs (a.env t :: acc) (fun r hr => hok r (List.mem_cons_of_mem _ hr)) h
    refine ⟨a.env t :: vs, ?_, by simpa using hf⟩
    simp only [List.mapM_cons, Sem.run_bind, resSem, Sem.run_pure, Result.andThen_ok, hr]
    rfl
  | .cell p t :: rs, acc, hok, h => by
    obtain ⟨v, hv, h⟩ := loadF_sound (ρ := fun _ => a.env p) (dst := none) (ty := 0) (pos := "") (after := #[]) (guard := none) (T := t) (x := .tmp 0) (hok _ (List.mem_cons_self ..)) h
    obtain ⟨vs, hr, hf⟩ := resF_sound rs (v :: acc) (fun r hr => hok r (List.mem_cons_of_mem _ hr)) h
    refine ⟨v :: vs, ?_, by simpa using hf⟩
    have hv := hv w rfl
    simp only [execOp, Sem.run_bind, Instr.loadAt] at hv
    have h2 : (resSem a.tmps (.cell p t)).run P w = .ok v w := by
      have ep : a.env p = a.tmps.getD p undef := rfl
      rw [ep] at hv
      simp only [resSem]
      generalize a.tmps.getD p undef = x at *
      cases x <;> simp [Instr.sureAddr] at hv
      case pointer q =>
        cases q <;> simp at hv
        case some ad =>
          simp only [asAddr, Sem.run_bind, Sem.run_pure, Result.andThen_ok]
          generalize (loadVar t ad).run P w = r at *
          cases r <;> simp at hv
          case ok x w' => rw [hv.1, hv.2]
    rw [List.mapM_cons, Sem.run_bind, h2, Result.andThen_ok, Sem.run_bind, hr]
    rfl

/-- The call returns a value, with Q. -/
def Gets (P : Program) (f : FuncId) (args : Array Value) (w : World) (Q : Value → World → Prop) : Prop := Calls P f args w fun e w' => ∃ v, e = .returned v ∧ Q v w'

theorem Gets.use {f : FuncId} {args : Array Value} {w : World} {Q : Value → World → Prop} {R : Ending → World → Prop} (h : Gets P f args w Q) (k : ∀ v w', Q v w' → R (.returned v) w') : Calls P f args w R :=
  Calls.mono h fun _ w' ⟨v, he, hq⟩ => by rw [he]; exact k v w' hq

theorem Gets.mono {f : FuncId} {args : Array Value} {w : World} {Q Q' : Value → World → Prop} (h : Gets P f args w Q) (k : ∀ v w', Q v w' → Q' v w') : Gets P f args w Q' :=
  Calls.mono h fun _ w' ⟨v, he, hq⟩ => ⟨v, he, k v w' hq⟩

theorem calls_of {f : FuncId} {fn : Func} {sk : Sk} (hcl : ∀ g, cl g = true → callable P g = true) (hmix : P.follows .mixedOrders = true)
    (hf : P.funcs[f]? = some fn) (hok : fnOk P fn.ntmps fn sk = true) {args : List Value} {K : Value → World → Prop} {w : World} (hargs : args.length ≤ fn.ntmps)
    (h : fnF P cl fn sk args K w) : Gets P f args.toArray w K := by
  unfold Gets
  unfold fnF at h
  unfold fnOk at hok
  simp only [Bool.and_eq_true] at hok
  obtain ⟨⟨_, hbody⟩, hres⟩ := hok
  split at h
  case h_2 => exact h.elim
  rename_i c hb
  rw [hb] at hbody
  simp only [Bool.and_eq_true] at hbody
  refine calls_of_wp hf hb ?_
  have henv : ({ tmps := args.toArray ++ Array.replicate (fn.ntmps - args.toArray.size) undef, defers := [] } : Act).env = argEnv args := by
    funext i
    rw [argEnv_get]
    simp only [Act.env]
    rcases Nat.lt_or_ge i args.length with hi | hi
    · simp [Array.getElem?_append, hi]
    · simp only [Array.getD_eq_getD_getElem?, Array.getElem?_append, List.size_toArray, if_neg (Nat.not_lt.2 hi), Array.getElem?_replicate, List.getD_eq_getElem?_getD, List.getElem?_eq_none hi]
      split <;> rfl
  rw [← henv] at h
  have hres' : ∀ r ∈ fn.results.toList, (match r with | .tmp _ => true | .cell _ t => ldOk P t) = true := fun r hr => by
    rw [Array.all_eq_true_iff_forall_mem] at hres
    exact hres r (by simpa using hr)
  have fin : ∀ (a : Act) (w : World), a.defers = [] → resF P a.env K fn.results.toList [] w →
      a.defers = [] ∧ ∃ v, (results fn a.tmps).run P w = .ok v w ∧ (∃ v', Ending.returned v = .returned v' ∧ K v' w) := fun a w hd hr => by
    obtain ⟨vs, hvs, hf⟩ := resF_sound fn.results.toList [] hres' hr
    refine ⟨hd, ?_⟩
    have hm : (fn.results.mapM (resSem a.tmps)).run P w = .ok vs.toArray w := by
      rw [Array.mapM_eq_mapM_toList]
      simp only [Sem.run_map, hvs, Result.andThen_ok]
    refine ⟨_, by rw [results_eq, Sem.run_bind, hm]; rfl, ?_⟩
    cases vs with
    | nil => exact ⟨_, rfl, hf⟩
    | cons v vs => cases vs with
      | nil => exact ⟨_, rfl, hf⟩
      | cons u us => exact ⟨_, rfl, hf⟩
  refine Code.wp_mono ?_ (den_sound (n := fn.ntmps) hcl hmix c sk (fun _ => true) _ hbody.1.1 hbody.1.2 hbody.2 _ _ w (Kept.refl (by simp; omega) rfl) h)
  intro e a w hq
  cases e with
  | normal => exact fin a w hq.1.defers hq.2
  | ret => exact fin a w hq.1.defers hq.2
  | exit i => exact hq.2.elim
  | _ => exact hq.elim

end Go.VC
