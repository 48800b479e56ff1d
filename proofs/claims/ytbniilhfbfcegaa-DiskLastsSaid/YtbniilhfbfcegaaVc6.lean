/- VC, part 6: regions: a list of operations, in the order of the text or in whatever order the tape draws; the formula is enough. No condition. -/
import Derived.Test.YtbniilhfbfcegaaVc5
import Derived.Tactics
import Derived.Scope
namespace Go.VC

/-! ### A world-condition that need not outlast the last operations of a region -/
section
variable {P : Program} {ops : Array Oper} {Q : Exit → Act → World → Prop} {md : Region.Mode} {S : World → Prop} {need look : Nat → Bool}

/-- Whatever order is picked from here on; behind each operation of which 'need' says so, S holds; those of which 'look' says so leave the world as it is. -/
def wpT (P : Program) (md : Region.Mode) (ops : Array Oper) (Q : Exit → Act → World → Prop) (S : World → Prop) (need look : Nat → Bool) : Nat → Array Bool → Act → World → Prop
  | 0, listed, a, w => Region.ready md ops listed = [] ∧ Q .normal a w
  | fuel + 1, listed, a, w =>
    (Region.ready md ops listed = [] → Q .normal a w) ∧
    ∀ i ∈ Region.ready md ops listed, wpOp P ops Q i (fun a' w' => ((need i = true → S w') ∧ (look i = true → w' = w)) ∧ wpT P md ops Q S need look fuel (listed.setIfInBounds i true) a' w') a w

theorem wpT_any : ∀ (fuel : Nat) (listed : Array Bool) (a : Act) (w : World), wpT P md ops Q S need look fuel listed a w → wpAny P md ops Q fuel listed a w
  | 0, _, _, _, h => h
  | fuel + 1, _, _, _, h => ⟨h.1, fun i hi => wpOp_mono (fun a' w' h' => wpT_any fuel _ a' w' h'.2) (h.2 i hi)⟩

theorem wpT_first {T : World → Prop} {i : Nat} {oi : Oper} {v : Value} (hi : ops[i]? = some oi) (hsel : ∀ (j : Nat) (o : Oper) cs b, ops[j]? = some o → o.op ≠ .select cs b)
    (hQ : ∀ c a w, Q (.panic c) (a.put oi.dst v) w → Q (.panic c) a w) (hni : need i = false) :
    ∀ (fuel : Nat) (listed : Array Bool) (a : Act) (w : World),
      (∀ j oj, ops[j]? = some oj → j ≠ i → listed.getD j true = false → (∀ e ∈ oj.after, Region.binds md e = true → e.on ≠ i) →
        oi.apart ops oj = true ∧ ∀ w w', T w → (need j = true → S w') → (look j = true → w' = w) → T w') →
      i ∈ Region.ready md ops listed → YieldsIf P ops T oi v a → T w →
      wpT P md ops Q S need look fuel (listed.setIfInBounds i true) (a.put oi.dst v) w → wpT P md ops Q S need look (fuel + 1) listed a w := by
  intro fuel
  induction fuel with
  | zero =>
    intro listed a w hfree hr hy hT H
    refine ⟨fun h => (by rw [h] at hr; cases hr), fun j hj => ?_⟩
    by_cases hji : j = i
    · subst hji
      exact hy.wpOp hi hT ⟨⟨fun h => (by rw [hni] at h; cases h), fun _ => rfl⟩, H⟩
    · have := ready_mono hj hji
      rw [H.1] at this
      cases this
  | succ fuel ih =>
    intro listed a w hfree hr hy hT H
    refine ⟨fun h => (by rw [h] at hr; cases hr), fun j hj => ?_⟩
    by_cases hji : j = i
    · subst hji
      exact hy.wpOp hi hT ⟨⟨fun h => (by rw [hni] at h; cases h), fun _ => rfl⟩, H⟩
    · have h1 := H.2 j (ready_mono hj hji)
      obtain ⟨hjun, oj, hoj, hall⟩ := mem_ready.1 hj
      have hnot : ∀ e ∈ oj.after, Region.binds md e = true → e.on ≠ i := fun e he hb heq => by
        have h1 := hall e he hb
        have h0 := (mem_ready.1 hr).1
        rw [heq] at h1
        rcases Nat.lt_or_ge i listed.size with h' | h'
        · simp [h'] at h0 h1; rw [h0] at h1; cases h1
        · simp [Array.getElem?_eq_none h'] at h1
      obtain ⟨hap, hkeep⟩ := hfree j oj hoj hji hjun hnot
      have h2 := wpOp_putIf hoj hap (fun cs b => hsel i oi cs b hi) (fun cs b => hsel j oj cs b hoj) hQ hy h1
      refine wpOp_mono (fun a' w' h3 => ⟨h3.2.1, ih (listed.setIfInBounds j true) a' w' ?_ (ready_mono hr (Ne.symm hji)) h3.1 (hkeep w w' hT h3.2.1.1 h3.2.1.2) ?_⟩) h2
      · intro k ok hk hki hun hno
        refine hfree k ok hk hki ?_ hno
        by_cases hjk : j = k
        · subst hjk; exact hjun
        · rw [getD_set_ne true hjk] at hun; exact hun
      · rw [Array.setIfInBounds_comm _ _ hji]
        exact h3.2.2
end

/-! ### The formulas -/

def guardF (ops : Array Oper) (ρ : Env) (o : Oper) (run skip : Env → Prop) : Prop :=
  match o.guard with
  | none => run ρ
  | some (j, want) => (match (ops[j]?).bind (·.dst) with
    | none => skip ρ
    | some d => (match ρ d with
      | .bool b => (match want with
        | true => Br b (run (ρ.set d (.bool true))) (skip (ρ.set d (.bool false)))
        | false => Br b (skip (ρ.set d (.bool true))) (run (ρ.set d (.bool false))))
      | _ => skip ρ))

def opsF (P : Program) (cl : FuncId → Bool) (ops : Array Oper) : List Oper → Env → (Env → World → Prop) → World → Prop
  | [], ρ, K, w => K ρ w
  | o :: rest, ρ, K, w => guardF ops ρ o
      (fun ρ => opF P cl ρ o (fun v w => opsF P cl ops rest (ρ.put o.dst v) K w) w)
      (fun ρ => opsF P cl ops rest (ρ.put o.dst undef) K w)

def isRead (P : Program) (op : Op) : Bool := match pureKind P op with | 0 => (match readKind P op with | 0 => false | _ => true) | _ => false
def isPure (P : Program) (op : Op) : Bool := match pureKind P op with | 0 => false | _ => true

/-- Must the condition be shown anew behind operation j? (Is there a reading operation that need not have come ahead of it?) -/
def needs (P : Program) (ops : Array Oper) (j : Nat) : Bool :=
  match ops[j]? with
  | none => false
  | some oj => !isRead P oj.op && !isPure P oj.op && (List.range ops.size).any fun i => match ops[i]? with
    | some oi => isRead P oi.op && !oj.after.any (fun e => Region.binds .any e && Nat.beq e.on i)
    | none => false

def seeF (P : Program) (S : World → Prop) (hs : Bool) (ρ : Env) (o : Oper) (K : Value → Prop) : Prop :=
  match isPure P o.op with
  | true => pureF P ρ o K
  | false => (match hs with
    | true => readF P S ρ o K
    | false => False)

def pickF (P : Program) (ops : Array Oper) (listed : Array Bool) : List Nat → Option Nat
  | [] => none
  | i :: is => match ops[i]? with
    | some o => (match isPure P o.op || isRead P o.op with
      | true => (match Region.free .any ops listed i with
        | true => some i
        | false => pickF P ops listed is)
      | false => pickF P ops listed is)
    | none => pickF P ops listed is

def allF (f : Nat → Prop) : List Nat → Prop
  | [] => True
  | [i] => f i
  | i :: is => f i ∧ allF f is

def anyF (P : Program) (cl : FuncId → Bool) (ops : Array Oper) (S : World → Prop) : Nat → Bool → Array Bool → Env → (Env → World → Prop) → World → Prop
  | 0, _, listed, ρ, K, w => (match Region.ready .any ops listed with
    | [] => K ρ w
    | _ => False)
  | fuel + 1, hs, listed, ρ, K, w => (match Region.ready .any ops listed with
    | [] => K ρ w
    | r :: rs => (match pickF P ops listed (r :: rs) with
      | some i => (match ops[i]? with
        | some o => guardF ops ρ o
            (fun ρ => seeF P S hs ρ o fun v => anyF P cl ops S fuel hs (listed.setIfInBounds i true) (ρ.put o.dst v) K w)
            (fun ρ => anyF P cl ops S fuel hs (listed.setIfInBounds i true) (ρ.put o.dst undef) K w)
        | none => False)
      | none => allF (fun i => match ops[i]? with
        | some o => guardF ops ρ o
            (fun ρ => (match isPure P o.op || isRead P o.op with
              | true => False
              | false => match needs P ops i with
              | true => opF P cl ρ o (fun v w => S w ∧ anyF P cl ops S fuel hs (listed.setIfInBounds i true) (ρ.put o.dst v) K w) w
              | false => opF P cl ρ o (fun v w => anyF P cl ops S fuel false (listed.setIfInBounds i true) (ρ.put o.dst v) K w) w))
            (fun ρ => (match isPure P o.op || isRead P o.op with
              | true => False
              | false => match needs P ops i with
              | true => (match hs with
                | true => anyF P cl ops S fuel true (listed.setIfInBounds i true) (ρ.put o.dst undef) K w
                | false => False)
              | false => anyF P cl ops S fuel false (listed.setIfInBounds i true) (ρ.put o.dst undef) K w))
        | none => False) (r :: rs)))

/-- A region that draws its order: conditions of the prover's own choice: S0 holds at its start; S holds wherever something may yet be read. -/
def Drw (w : World) (F : (World → Prop) → World → Prop) : Prop := ∃ S0 S : World → Prop, S0 w.drew ∧ ∀ w', S0 w' → S w' ∧ F S w'

/-! ### They are enough -/

/-- The frame as a function. -/
def _root_.Go.Act.env (a : Act) : Env := fun i => a.tmps.getD i undef

theorem env_ev (a : Act) : a.env.ev = a.eval := by funext x; cases x <;> rfl

theorem env_put {a : Act} {d : Option Tmp} {v : Value} (h : ∀ x, d = some x → x < a.tmps.size) : (a.put d v).env = a.env.put d v := by
  cases d with
  | none => rfl
  | some d =>
    have hd := h d rfl
    funext i
    simp only [Act.env, Act.put, Env.put, Env.set]
    by_cases hi : i = d
    · subst hi; simp [hd]
    · have : Nat.beq i d = false := by
        cases hb : Nat.beq i d with
        | false => rfl
        | true => exact absurd (Nat.eq_of_beq_eq_true hb) hi
      simp [this, Array.getElem?_setIfInBounds_ne (Ne.symm hi)]

theorem env_set_same {ρ : Env} {d : Nat} {v : Value} (h : ρ d = v) : ρ.set d v = ρ := by
  funext i
  simp only [Env.set]
  split
  · rename_i hb; rw [Nat.eq_of_beq_eq_true hb, h]
  · rfl

theorem put_size (a : Act) (d : Option Tmp) (v : Value) : (a.put d v).tmps.size = a.tmps.size := by
  cases d <;> simp [Act.put]

theorem put_defers (a : Act) (d : Option Tmp) (v : Value) : (a.put d v).defers = a.defers := by
  cases d <;> rfl

/-- What is kept of the frame: its size, no deferred calls, the slots that 'pw' doesn't name. -/
structure Kept (n : Nat) (pw : Nat → Bool) (a0 : Env) (a : Act) : Prop where
  size : a.tmps.size = n
  defers : a.defers = []
  same : ∀ i, pw i = false → a.env i = a0 i

def dstIn (n : Nat) (pw : Nat → Bool) (o : Oper) : Bool := match o.dst with | some d => Nat.blt d n && pw d | none => true

theorem Kept.put {n : Nat} {pw : Nat → Bool} {a0 : Env} {a : Act} (h : Kept n pw a0 a) {o : Oper} (ho : dstIn n pw o = true) (v : Value) : Kept n pw a0 (a.put o.dst v) := by
  refine ⟨by rw [put_size]; exact h.size, by rw [put_defers]; exact h.defers, fun i hi => ?_⟩
  unfold dstIn at ho
  have hd : ∀ x, o.dst = some x → x < a.tmps.size := fun x hx => by
    rw [hx] at ho; simp only [Bool.and_eq_true] at ho; rw [h.size]; exact Nat.blt_eq.mp ho.1
  rw [env_put hd]
  cases hx : o.dst with
  | none => exact h.same i hi
  | some d =>
    rw [hx] at ho; simp only [Bool.and_eq_true] at ho
    simp only [Env.put, Env.set]
    split
    · rename_i hb; have := Nat.eq_of_beq_eq_true hb; subst this; rw [hi] at ho; simp at ho
    · exact h.same i hi

theorem Kept.envput {n : Nat} {pw : Nat → Bool} {a0 : Env} {a : Act} (h : Kept n pw a0 a) {o : Oper} (ho : dstIn n pw o = true) (v : Value) : (a.put o.dst v).env = a.env.put o.dst v := by
  refine env_put fun x hx => ?_
  unfold dstIn at ho
  rw [hx] at ho; simp only [Bool.and_eq_true] at ho; rw [h.size]; exact Nat.blt_eq.mp ho.1

theorem yielded_env (ops : Array Oper) (a : Act) (j : Nat) : yielded ops a.tmps j = match (ops[j]?).bind (·.dst) with
    | none => none
    | some d => match a.env d with | .bool b => some b | _ => none := by
  unfold yielded
  cases (ops[j]?).bind (·.dst) with
  | none => rfl
  | some d =>
    simp only [Option.bind_some, Act.env, Array.getD_eq_getD_getElem?]
    cases a.tmps[d]? with
    | none => simp [undef]
    | some v => cases v <;> rfl

theorem guardF_sound {ops : Array Oper} {a : Act} {o : Oper} {run skip : Env → Prop} (h : guardF ops a.env o run skip) :
    (Region.wanted o (yielded ops a.tmps) = true ∧ run a.env) ∨ (Region.wanted o (yielded ops a.tmps) = false ∧ skip a.env) := by
  unfold guardF at h
  unfold Region.wanted
  split at h
  · rename_i hg; rw [hg]; exact .inl ⟨rfl, h⟩
  · rename_i j want hg
    rw [hg]
    simp only [yielded_env]
    split at h
    · exact .inr ⟨rfl, h⟩
    · rename_i d hd
      split at h
      · rename_i b hb
        cases b with
        | true =>
          rw [env_set_same hb] at h
          cases want with
          | true => exact .inl ⟨rfl, h⟩
          | false => exact .inr ⟨rfl, h⟩
        | false =>
          rw [env_set_same hb] at h
          cases want with
          | true => exact .inr ⟨rfl, h⟩
          | false => exact .inl ⟨rfl, h⟩
      · rename_i hb
        refine .inr ⟨?_, h⟩
        cases hv : a.env d <;> first | rfl | exact absurd hv (hb _)

section
variable {P : Program} {cl : FuncId → Bool} {ops : Array Oper} {Q : Exit → Act → World → Prop} {n : Nat} {pw : Nat → Bool} {a0 : Env}

theorem opsF_sound (hcl : ∀ g, cl g = true → callable P g = true) {K : Env → World → Prop}
    (hQ : ∀ a w, Kept n pw a0 a → K a.env w → Q .normal a w) : ∀ (l : List Oper) (_ : ∀ o ∈ l, opOk P o.op = true ∧ dstIn n pw o = true) (a : Act) (w : World),
      Kept n pw a0 a → opsF P cl ops l a.env K w → wpList P ops Q l a w
  | [], _, a, w, hk, h => hQ a w hk h
  | o :: rest, hl, a, w, hk, h => by
    have ho := hl o (List.mem_cons_self ..)
    have hrest := fun x hx => hl x (List.mem_cons_of_mem _ hx)
    unfold opsF at h
    unfold wpList
    rcases guardF_sound h with ⟨hw, h⟩ | ⟨hw, h⟩
    · rw [if_pos hw]
      refine .inl ?_
      have := opF_sound hcl (a := a) (Q := Q) ho.1 h
      rw [env_ev] at this
      unfold Oper.wp
      refine upon_mono ?_ this
      rintro a' w' ⟨v, rfl, hv⟩
      refine opsF_sound hcl hQ rest hrest _ w' (hk.put ho.2 v) ?_
      rw [hk.envput ho.2]; exact hv
    · rw [hw]
      simp only [Bool.false_eq_true, if_false]
      refine opsF_sound hcl hQ rest hrest _ w (hk.put ho.2 _) ?_
      rw [hk.envput ho.2]; exact h
where
  upon_mono {o : Oper} {a : Act} {K K' : Act → World → Prop} {r : Result Next} (h : ∀ a w, K a w → K' a w) (hh : o.upon P a K Q r) : o.upon P a K' Q r := by
    cases r with
    | ok x w' =>
      cases x <;> simp only [Oper.upon] at hh ⊢ <;>
        first
          | exact h _ _ hh
          | exact Calls.mono hh (fun e w'' he => by cases e <;> first | exact h _ _ he | exact he)
          | exact Rows.mono hh (fun _ _ he => h _ _ he)
    | halt x w' => cases x <;> simp only [Oper.upon] at hh ⊢ <;> exact hh

theorem seeF_sound {S : World → Prop} {hs : Bool} {e : Env} {o : Oper} {K : Value → Prop} (hok : opOk P o.op = true) (hr : (isPure P o.op || isRead P o.op) = true) (h : seeF P S hs e o K) :
    (isPure P o.op = true ∧ Gives P (fun _ => True) (execOp e.ev o) K) ∨ (isPure P o.op = false ∧ hs = true ∧ Gives P S (execOp e.ev o) K) := by
  unfold seeF at h
  split at h
  · rename_i hp; exact .inl ⟨hp, pureF_sound (opOk_tab hok) h⟩
  · rename_i hp
    split at h
    · refine .inr ⟨hp, rfl, readF_sound ?_ (opOk_ld hok) h⟩
      rw [hp] at hr
      simp only [Bool.false_or] at hr
      unfold isRead at hr
      intro hk
      rw [hk] at hr
      split at hr <;> simp at hr
    · exact h.elim

theorem pickF_some {listed : Array Bool} : ∀ {l : List Nat} {i : Nat}, pickF P ops listed l = some i → i ∈ l ∧ ∃ o, ops[i]? = some o ∧ (isPure P o.op || isRead P o.op) = true ∧ Region.free .any ops listed i = true
  | [], _, h => by cases h
  | j :: l, i, h => by
    unfold pickF at h
    split at h
    · rename_i o ho
      split at h
      · rename_i hp
        split at h
        · rename_i hf
          cases h
          exact ⟨List.mem_cons_self .., o, ho, hp, hf⟩
        · have := pickF_some h; exact ⟨List.mem_cons_of_mem _ this.1, this.2⟩
      · have := pickF_some h; exact ⟨List.mem_cons_of_mem _ this.1, this.2⟩
    · have := pickF_some h; exact ⟨List.mem_cons_of_mem _ this.1, this.2⟩

theorem allF_mem {f : Nat → Prop} : ∀ {l : List Nat}, allF f l → ∀ i ∈ l, f i
  | [], _, i, hi => by cases hi
  | [j], h, i, hi => by simp at hi; subst hi; exact h
  | j :: k :: l, h, i, hi => by
    rcases List.mem_cons.1 hi with rfl | hi
    · exact h.1
    · exact allF_mem h.2 i hi

/-- A reading operation that need not have come ahead of j makes 'needs' true of j, where j itself is none. -/
theorem needs_of {i j : Nat} {oi oj : Oper} (hi : ops[i]? = some oi) (hj : ops[j]? = some oj) (hri : isRead P oi.op = true)
    (hjr : (isPure P oj.op || isRead P oj.op) = false) (hno : ∀ e ∈ oj.after, Region.binds .any e = true → e.on ≠ i) : needs P ops j = true := by
  unfold needs
  rw [hj]
  simp only [Bool.or_eq_false_iff] at hjr
  simp only [hjr.1, hjr.2, Bool.not_false, Bool.true_and, List.any_eq_true, List.mem_range]
  refine ⟨i, (Array.getElem?_eq_some_iff.1 hi).1, ?_⟩
  rw [hi]
  simp only [hri, Bool.true_and, Bool.not_eq_true']
  rw [← Bool.not_eq_true, Array.any_eq_true']
  rintro ⟨e, he, hb⟩
  simp only [Bool.and_eq_true] at hb
  exact hno e he hb.1 (Nat.eq_of_beq_eq_true hb.2)

theorem wpOp_of {i : Nat} {o : Oper} {a : Act} {w : World} {K : Act → World → Prop} (hi : ops[i]? = some o)
    (h : (Region.wanted o (yielded ops a.tmps) = true ∧ o.upon P a K Q ((execOp a.eval o).run P w)) ∨ (Region.wanted o (yielded ops a.tmps) = false ∧ K (a.put o.dst undef) w)) : wpOp P ops Q i K a w := by
  unfold wpOp
  rw [hi]
  rcases h with ⟨hw, h⟩ | ⟨hw, h⟩
  · simp only [hw, if_true]; exact .inl h
  · simp only [hw, Bool.false_eq_true, if_false]; exact h

def looks (P : Program) (ops : Array Oper) (j : Nat) : Bool := match ops[j]? with | some o => isPure P o.op || isRead P o.op | none => false

theorem anyF_sound (hcl : ∀ g, cl g = true → callable P g = true) (hsel : Region.noSelect ops = true) {K : Env → World → Prop} {S : World → Prop}
    (hQ : ∀ a w, Kept n pw a0 a → K a.env w → Q .normal a w) (hQp : ∀ c a w, ¬ Q (.panic c) a w) (hops : ∀ (i : Nat) (o : Oper), ops[i]? = some o → opOk P o.op = true ∧ dstIn n pw o = true) :
    ∀ (fuel : Nat) (hs : Bool) (listed : Array Bool) (a : Act) (w : World), Kept n pw a0 a → (hs = true → S w) → anyF P cl ops S fuel hs listed a.env K w →
      wpT P .any ops Q S (needs P ops) (looks P ops) fuel listed a w := by
  intro fuel
  induction fuel with
  | zero =>
    intro hs listed a w hk hS h
    unfold anyF at h
    split at h
    · rename_i hr; exact ⟨hr, hQ a w hk h⟩
    · exact h.elim
  | succ fuel ih =>
    intro hs listed a w hk hS h
    unfold anyF at h
    split at h
    · rename_i hr
      exact ⟨fun _ => hQ a w hk h, fun i hi => by rw [hr] at hi; cases hi⟩
    · rename_i r rs hr
      split at h
      · rename_i i hp
        obtain ⟨hmem, o, ho, hpr, hfree⟩ := pickF_some hp
        rw [ho] at h
        simp only at h
        obtain ⟨hok, hd⟩ := hops i o ho
        have hni : needs P ops i = false := by
          unfold needs; rw [ho]
          simp only
          rcases Bool.or_eq_true _ _ |>.mp hpr with hp | hp <;> simp [hp]
        have hrdy : i ∈ Region.ready .any ops listed := by rw [hr]; exact hmem
        have hfs := Region.free_spec (md := .any) ho hfree
        have hself := Region.noSelect_spec hsel
        rcases guardF_sound h with ⟨hw, h⟩ | ⟨hw, h⟩
        · rcases seeF_sound hok hpr h with ⟨hp, v, hv, hK⟩ | ⟨hp, hhs, v, hv, hK⟩
          · refine wpT_first (T := fun _ => True) ho hself (fun c a w hc => absurd hc (hQp c _ w)) hni fuel listed a w (fun j oj hj hne hun hno => ⟨hfs j oj hj hne hun hno, fun _ _ _ _ _ => trivial⟩) hrdy (.inl ⟨hw, ?_⟩) trivial
              (ih hs (listed.setIfInBounds i true) (a.put o.dst v) w (hk.put hd v) hS ?_)
            · rw [← env_ev]; exact hv
            · rw [hk.envput hd]; exact hK
          · have hri : isRead P o.op = true := by rw [hp] at hpr; simpa using hpr
            refine wpT_first (T := S) ho hself (fun c a w hc => absurd hc (hQp c _ w)) hni fuel listed a w (fun j oj hj hne hun hno => ⟨hfs j oj hj hne hun hno, fun w w' hw hneed hlook => ?_⟩) hrdy (.inl ⟨hw, ?_⟩) (hS hhs)
              (ih hs (listed.setIfInBounds i true) (a.put o.dst v) w (hk.put hd v) hS ?_)
            · cases hl : (isPure P oj.op || isRead P oj.op) with
              | true => have := hlook (by unfold looks; rw [hj]; exact hl); rw [this]; exact hw
              | false => exact hneed (needs_of ho hj hri hl hno)
            · rw [← env_ev]; exact hv
            · rw [hk.envput hd]; exact hK
        · refine wpT_first (T := fun _ => True) ho hself (fun c a w hc => absurd hc (hQp c _ w)) hni fuel listed a w (fun j oj hj hne hun hno => ⟨hfs j oj hj hne hun hno, fun _ _ _ _ _ => trivial⟩) hrdy (.inr ⟨hw, rfl⟩) trivial
              (ih hs (listed.setIfInBounds i true) (a.put o.dst undef) w (hk.put hd _) hS ?_)
          rw [hk.envput hd]; exact h
      · refine ⟨fun h0 => absurd (hr ▸ h0) (by simp), fun i hi => ?_⟩
        rw [hr] at hi
        have h := allF_mem h i hi
        split at h
        case h_2 => exact h.elim
        rename_i o ho
        obtain ⟨hok, hd⟩ := hops i o ho
        refine wpOp_of ho ?_
        rcases guardF_sound h with ⟨hw, h⟩ | ⟨hw, h⟩
        · refine .inl ⟨hw, ?_⟩
          split at h
          · exact h.elim
          · rename_i hl
            have hlk : looks P ops i = false := by unfold looks; rw [ho]; exact hl
            split at h
            · rename_i hnd
              have := opF_sound hcl (a := a) (Q := Q) hok h
              rw [env_ev] at this
              refine opsF_sound.upon_mono ?_ this
              rintro a' w' ⟨v, rfl, hSw, hK⟩
              refine ⟨⟨fun _ => hSw, fun hh => (by rw [hlk] at hh; cases hh)⟩, ih hs _ _ w' (hk.put hd v) (fun _ => hSw) ?_⟩
              rw [hk.envput hd]; exact hK
            · rename_i hnd
              have := opF_sound hcl (a := a) (Q := Q) hok h
              rw [env_ev] at this
              refine opsF_sound.upon_mono ?_ this
              rintro a' w' ⟨v, rfl, hK⟩
              refine ⟨⟨fun hh => (by rw [hnd] at hh; cases hh), fun hh => (by rw [hlk] at hh; cases hh)⟩, ih false _ _ w' (hk.put hd v) (fun hh => by cases hh) ?_⟩
              rw [hk.envput hd]; exact hK
        · refine .inr ⟨hw, ?_⟩
          split at h
          · exact h.elim
          · rename_i hl
            have hlk : looks P ops i = false := by unfold looks; rw [ho]; exact hl
            split at h
            · split at h
              · have hSw := hS rfl
                refine ⟨⟨fun _ => hSw, fun _ => rfl⟩, ih true _ _ w (hk.put hd _) (fun _ => hSw) ?_⟩
                rw [hk.envput hd]; exact h
              · exact h.elim
            · rename_i hnd
              refine ⟨⟨fun hh => (by rw [hnd] at hh; cases hh), fun _ => rfl⟩, ih false _ _ w (hk.put hd _) (fun hh => by cases hh) ?_⟩
              rw [hk.envput hd]; exact h

end
end Go.VC
