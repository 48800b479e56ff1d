/- VY, part 1: regions and code inside the wide fence, in a round or out of one, with calls of 'yield'. (Made by mkvy.py out of JwVc6, JwVc7.) No condition. -/
import Derived.Test.YtgfneeoponiibaaGreatB1
import Derived.TacticsIn
import Derived.OrdersIn
import Derived.RangeFuncSeq
import Derived.Test.YtgfneeoponiibaaGreatB2
import Derived.RangeFuncLeaves
namespace Go.VC

def wf (r : Option Nat) : Fence := { Fence.wide with round := r }
theorem wf_fn (r : Option Nat) (f : FuncId) : (wf r).fn f := trivial

def noDef (o : Oper) : Bool := match o.op with | .defer _ => false | _ => true
theorem semAt_y {r : Option Nat} {ρ : Operand → Value} {o : Oper} (h : noDef o = true) : o.semAt (wf r).round ρ = execOp ρ o :=
  Oper.semAt_eq _ ρ o fun c hc => by unfold noDef at h; rw [hc] at h; cases h

theorem calls_y {r : Option Nat} {n : Nat} {P : Program} {f : FuncId} {args : Array Value} {w : World} {R : Ending → World → Prop} (h : Calls P f args w R) : CallsIn (wf r) n P f args w R :=
  (callsIn_wide (n := n)).2 h
theorem rows_y {r : Option Nat} {n : Nat} {P : Program} {row : String} {args : Array Value} {w : World} {R : Value → World → Prop} (h : Rows P row args w R) : RowsIn (wf r) n P row args w R :=
  fun c cs _ => let ⟨v, w', hr, s⟩ := h c cs; ⟨v, w', hr, stepsIn_wide.2 s⟩

theorem upon_y {r : Option Nat} {n : Nat} {P : Program} {o : Oper} {a : Act} {next : Act → World → Prop} {Q : Exit → Act → World → Prop} {res : Result Next} (h : o.upon P a next Q res) : o.uponIn (wf r) n P a next Q res := by
  cases res with
  | ok x w' =>
    cases x <;> simp only [Oper.upon] at h <;> simp only [Oper.uponIn] <;>
      first
        | exact h
        | exact ⟨(fun h => by cases h), calls_y h⟩
        | exact ⟨(fun h => by cases h), rows_y h⟩
  | halt x w' => cases x <;> simp only [Oper.upon] at h <;> simp only [Oper.uponIn] <;> exact h

theorem YieldsIf.wpOpY {r : Option Nat} {nn : Nat} {P : Program} {ops : Array Oper} {Q : Exit → Act → World → Prop} {S : World → Prop} {i : Nat} {o : Oper} {v : Value} {a : Act} (hnd : noDef o = true) (hi : ops[i]? = some o) (hy : YieldsIf P ops S o v a)
    {K : Act → World → Prop} {w : World} (hS : S w) (h : K (a.put o.dst v) w) : wpOpIn (wf r) nn P ops Q i K a w := by
  unfold Go.wpOpIn
  simp only [hi]
  rcases hy with ⟨hw, hv⟩ | ⟨hw, rfl⟩
  · simp only [hw, if_true, Oper.wpIn, semAt_y hnd, hv w hS, Oper.uponIn]; exact ⟨fun f _ => wf_fn r f, h⟩
  · simp only [hw, Bool.false_eq_true, if_false]; exact ⟨fun f _ => wf_fn r f, h⟩

theorem wpOpIn_putIf {r : Option Nat} {nn : Nat} {P : Program} {ops : Array Oper} {Q : Exit → Act → World → Prop} {S : World → Prop} {j : Nat} {oi oj : Oper} {v : Value} (hnd : noDef oj = true) (hj : ops[j]? = some oj) (hap : oi.apart ops oj = true)
    (hsi : ∀ cs b, oi.op ≠ .select cs b) (hsj : ∀ cs b, oj.op ≠ .select cs b)
    (hQ : ∀ c a w, Q (.panic c) (a.put oi.dst v) w → Q (.panic c) a w) {K : Act → World → Prop} {a : Act} {w : World}
    (hy : YieldsIf P ops S oi v a) (h : wpOpIn (wf r) nn P ops Q j K (a.put oi.dst v) w) :
    wpOpIn (wf r) nn P ops Q j (fun a' w' => YieldsIf P ops S oi v a' ∧ K (a'.put oi.dst v) w') a w := by
  obtain ⟨h1, h2, h3⟩ := Oper.apart_spec hap
  have keep : ∀ (a : Act), YieldsIf P ops S oi v a → ∀ u, YieldsIf P ops S oi v (a.put oj.dst u) := fun a hy u =>
    hy.of_same (execOp_put oi hsi a oj.dst u h3) (wanted_put oi a oj.dst u h3)
  have keepD : ∀ d, YieldsIf P ops S oi v { a with defers := d :: a.defers } := fun d => hy.of_same rfl rfl
  unfold wpOpIn at *
  simp only [hj] at *
  rw [wanted_put oj a oi.dst v h1] at h
  split
  · rename_i hw
    simp only [hw, if_true] at h
    unfold Oper.wpIn at *
    refine ⟨fun f _ => wf_fn r f, ?_⟩
    have h := h.2
    rw [semAt_y hnd, execOp_put oj hsj a oi.dst v h1] at h
    rw [semAt_y hnd]
    generalize (execOp a.eval oj).run P w = res at *
    cases res with
    | ok x w' =>
      cases x <;> simp only [Oper.uponIn] at h ⊢
      case value u => exact ⟨keep a hy u, by rw [← Act.put_comm a v u h2]; exact h⟩
      case skip => exact ⟨keep a hy _, by rw [← Act.put_comm a v undef h2]; exact h⟩
      case defer d =>
        refine ⟨keep _ (keepD d) _, ?_⟩
        rw [← Act.put_comm _ v undef h2, ← Act.put_defers]
        exact h
      case enter f args =>
        refine ⟨h.1, CallsIn.mono h.2 fun e w'' he => ?_⟩
        cases e with
        | returned u => exact ⟨keep a hy u, by rw [← Act.put_comm a v u h2]; exact he⟩
        | panicked c => exact hQ _ _ _ he
        | outgrown => exact he
      case row row args => exact ⟨h.1, RowsIn.mono h.2 fun u w'' he => ⟨keep a hy u, by rw [← Act.put_comm a v u h2]; exact he⟩⟩
      case round l f tmps assign body =>
        refine ⟨h.1, RoundIn.mono h.2 fun e w'' he => ?_⟩
        cases e with
        | returned u => exact ⟨keep a hy u, by rw [← Act.put_comm a v u h2]; exact he⟩
        | panicked c => exact hQ _ _ _ he
        | outgrown => exact he
    | halt x w' =>
      cases x <;> simp only [Oper.uponIn] at h ⊢
      case panic u => exact hQ _ _ _ h
  · rename_i hw
    simp only [hw] at h
    exact ⟨fun f _ => wf_fn r f, keep a hy _, by rw [← Act.put_comm a v undef h2]; exact h.2⟩

section
variable {r : Option Nat} {nn : Nat} {P : Program} {ops : Array Oper} {Q : Exit → Act → World → Prop} {md : Region.Mode} {S : World → Prop} {need look : Nat → Bool}

/-- Whatever order is picked from here on; behind each operation of which 'need' says so, S holds; those of which 'look' says so leave the world as it is. -/
def wpTy (r : Option Nat) (nn : Nat) (P : Program) (md : Region.Mode) (ops : Array Oper) (Q : Exit → Act → World → Prop) (S : World → Prop) (need look : Nat → Bool) : Nat → Array Bool → Act → World → Prop
  | 0, listed, a, w => Region.ready md ops listed = [] ∧ Q .normal a w
  | fuel + 1, listed, a, w =>
    (Region.ready md ops listed = [] → Q .normal a w) ∧
    ∀ i ∈ Region.ready md ops listed, wpOpIn (wf r) nn P ops Q i (fun a' w' => ((need i = true → S w') ∧ (look i = true → w' = w)) ∧ wpTy r nn P md ops Q S need look fuel (listed.setIfInBounds i true) a' w') a w

theorem wpTy_any : ∀ (fuel : Nat) (listed : Array Bool) (a : Act) (w : World), wpTy r nn P md ops Q S need look fuel listed a w → wpAnyIn (wf r) nn P md ops Q fuel listed a w
  | 0, _, _, _, h => h
  | fuel + 1, _, _, _, h => ⟨h.1, fun i hi => wpOpIn_mono (fun a' w' h' => wpTy_any fuel _ a' w' h'.2) (h.2 i hi)⟩

theorem wpTy_first {T : World → Prop} {i : Nat} {oi : Oper} {v : Value} (hi : ops[i]? = some oi) (hsel : ∀ (j : Nat) (o : Oper) cs b, ops[j]? = some o → o.op ≠ .select cs b)
    (hQ : ∀ c a w, Q (.panic c) (a.put oi.dst v) w → Q (.panic c) a w) (hni : need i = false) (hnd : ∀ (j : Nat) (o : Oper), ops[j]? = some o → noDef o = true) :
    ∀ (fuel : Nat) (listed : Array Bool) (a : Act) (w : World),
      (∀ j oj, ops[j]? = some oj → j ≠ i → listed.getD j true = false → (∀ e ∈ oj.after, Region.binds md e = true → e.on ≠ i) →
        oi.apart ops oj = true ∧ ∀ w w', T w → (need j = true → S w') → (look j = true → w' = w) → T w') →
      i ∈ Region.ready md ops listed → YieldsIf P ops T oi v a → T w →
      wpTy r nn P md ops Q S need look fuel (listed.setIfInBounds i true) (a.put oi.dst v) w → wpTy r nn P md ops Q S need look (fuel + 1) listed a w := by
  intro fuel
  induction fuel with
  | zero =>
    intro listed a w hfree hr hy hT H
    refine ⟨fun h => (by rw [h] at hr; cases hr), fun j hj => ?_⟩
    by_cases hji : j = i
    · subst hji
      exact YieldsIf.wpOpY (hnd _ _ hi) hi hy hT ⟨⟨fun h => (by rw [hni] at h; cases h), fun _ => rfl⟩, H⟩
    · have := ready_mono hj hji
      rw [H.1] at this
      cases this
  | succ fuel ih =>
    intro listed a w hfree hr hy hT H
    refine ⟨fun h => (by rw [h] at hr; cases hr), fun j hj => ?_⟩
    by_cases hji : j = i
    · subst hji
      exact YieldsIf.wpOpY (hnd _ _ hi) hi hy hT ⟨⟨fun h => (by rw [hni] at h; cases h), fun _ => rfl⟩, H⟩
    · have h1 := H.2 j (ready_mono hj hji)
      obtain ⟨hjun, oj, hoj, hall⟩ := mem_ready.1 hj
      have hnot : ∀ e ∈ oj.after, Region.binds md e = true → e.on ≠ i := fun e he hb heq => by
        have h1 := hall e he hb
        have h0 := (mem_ready.1 hr).1
        rw [heq] at h1
        rcases Nat.lt_or_ge i listed.size with h' | h'
        · simp [h'] at h0 h1; rw [h0] at h1; cases h1
        · simp [Array.getElem?_eq_none h'] at h1
      obtain ⟨hap, hkeep⟩ := hfree j oj hoj hji hjun hnot
      have h2 := wpOpIn_putIf (hnd _ _ hoj) hoj hap (fun cs b => hsel i oi cs b hi) (fun cs b => hsel j oj cs b hoj) hQ hy h1
      refine wpOpIn_mono (fun a' w' h3 => ⟨h3.2.1, ih (listed.setIfInBounds j true) a' w' ?_ (ready_mono hr (Ne.symm hji)) h3.1 (hkeep w w' hT h3.2.1.1 h3.2.1.2) ?_⟩) h2
      · intro k ok hk hki hun hno
        refine hfree k ok hk hki ?_ hno
        by_cases hjk : j = k
        · subst hjk; exact hjun
        · rw [getD_set_ne true hjk] at hun; exact hun
      · rw [Array.setIfInBounds_comm _ _ hji]
        exact h3.2.2
end

/-! ### The formulas -/

/-- A call of the 'yield' of round l. -/
def yieldOf (ρ : Env) (o : Oper) : Option (Nat × List Value) :=
  match o.op with
  | .call c => (match c.callee with
    | .value f => (match ρ.ev f with
      | .func fn first captured => (match fn with
        | .yield l => some (l, first.toList ++ (c.args.map ρ.ev).toList)
        | _ => none)
      | _ => none)
    | _ => none)
  | _ => none

abbrev YF := Nat → List Value → World → (Ending → World → Prop) → Prop

def opFy (P : Program) (cl : FuncId → Bool) (Y : YF) (ρ : Env) (o : Oper) (K : Value → World → Prop) (w : World) : Prop :=
  match yieldOf ρ o with
  | some (l, args) => Y l args w fun e w' => (rtOf P o.type).ex fun v => e = .returned v ∧ K v w'
  | none => opF P cl ρ o K w

theorem opFy_sound {P : Program} {cl : FuncId → Bool} {r : Option Nat} {nn : Nat} (hcl : ∀ g, cl g = true → callable P g = true) {a : Act} {e : Env} {o : Oper} {K : Value → World → Prop} {w : World} {Y : YF} (hY : ∀ l args w Q, Y l args w Q → YieldAt (wf r) (nn - 1) P l args.toArray w Q)
    {Q : Exit → Act → World → Prop} (hok : opOk P o.op = true) (h : opFy P cl Y e o K w) : o.uponIn (wf r) nn P a (After a o.dst K) Q ((execOp e.ev o).run P w) := by
  unfold opFy at h
  split at h
  · rename_i l args hy
    unfold yieldOf at hy
    obtain ⟨dst, op, ty, pos, after, guard⟩ := o
    dsimp only at hy h
    split at hy
    case h_2 => cases hy
    rename_i c
    obtain ⟨callee, cargs, ats⟩ := c
    dsimp only at hy
    split at hy
    case h_2 => cases hy
    rename_i f
    split at hy
    case h_2 => cases hy
    rename_i fn first captured hf
    split at hy
    case h_2 => cases hy
    rename_i l'
    simp only [Option.some.injEq, Prod.mk.injEq] at hy
    obtain ⟨rfl, rfl⟩ := hy
    obtain ⟨fn, tmps, assign, body, hrun, hround⟩ := hY _ _ _ _ h
    have hargs : first ++ cargs.map e.ev = (first.toList ++ (cargs.map e.ev).toList).toArray := by
      apply Array.ext'; simp
    have : (execOp e.ev ⟨dst, .call ⟨.value f, cargs, ats⟩, ty, pos, after, guard⟩).run P w = .ok (.round l' fn tmps assign body) w := by
      simp only [execOp, resolve, hf, Deferred.ofValue]
      simp only [Sem.run_bind, Sem.run_pure, Result.andThen_ok, invoke, hargs]
      exact hrun
    rw [this]
    refine ⟨fun h => (by cases h), RoundIn.mono hround ?_⟩
    rintro en w' hx
    obtain ⟨v, rfl, hK⟩ := Rt.ex_some hx
    exact ⟨v, rfl, hK⟩
  · exact upon_y (opF_sound hcl hok h)

def opsFy (P : Program) (cl : FuncId → Bool) (Y : YF) (ops : Array Oper) : List Oper → Env → (Env → World → Prop) → World → Prop
  | [], ρ, K, w => K ρ w
  | o :: rest, ρ, K, w => guardF ops ρ o
      (fun ρ => opFy P cl Y ρ o (fun v w => opsFy P cl Y ops rest (ρ.put o.dst v) K w) w)
      (fun ρ => opsFy P cl Y ops rest (ρ.put o.dst undef) K w)

def anyFy (P : Program) (cl : FuncId → Bool) (Y : YF) (ops : Array Oper) (S : World → Prop) : Nat → Bool → Array Bool → Env → (Env → World → Prop) → World → Prop
  | 0, _, listed, ρ, K, w => (match Region.ready .any ops listed with
    | [] => K ρ w
    | _ => False)
  | fuel + 1, hs, listed, ρ, K, w => (match Region.ready .any ops listed with
    | [] => K ρ w
    | r :: rs => (match pickF P ops listed (r :: rs) with
      | some i => (match ops[i]? with
        | some o => guardF ops ρ o
            (fun ρ => seeF P S hs ρ o fun v => anyFy P cl Y ops S fuel hs (listed.setIfInBounds i true) (ρ.put o.dst v) K w)
            (fun ρ => anyFy P cl Y ops S fuel hs (listed.setIfInBounds i true) (ρ.put o.dst undef) K w)
        | none => False)
      | none => allF (fun i => match ops[i]? with
        | some o => guardF ops ρ o
            (fun ρ => (match isPure P o.op || isRead P o.op with
              | true => False
              | false => match needs P ops i with
              | true => opFy P cl Y ρ o (fun v w => S w ∧ anyFy P cl Y ops S fuel hs (listed.setIfInBounds i true) (ρ.put o.dst v) K w) w
              | false => opFy P cl Y ρ o (fun v w => anyFy P cl Y ops S fuel false (listed.setIfInBounds i true) (ρ.put o.dst v) K w) w))
            (fun ρ => (match isPure P o.op || isRead P o.op with
              | true => False
              | false => match needs P ops i with
              | true => (match hs with
                | true => anyFy P cl Y ops S fuel true (listed.setIfInBounds i true) (ρ.put o.dst undef) K w
                | false => False)
              | false => anyFy P cl Y ops S fuel false (listed.setIfInBounds i true) (ρ.put o.dst undef) K w))
        | none => False) (r :: rs)))

section
variable {r : Option Nat} {nn : Nat} {Y : YF} {P : Program} {cl : FuncId → Bool} {ops : Array Oper} {Q : Exit → Act → World → Prop} {n : Nat} {pw : Nat → Bool} {a0 : Env}

theorem opsFy_sound (hcl : ∀ g, cl g = true → callable P g = true) (hY : ∀ l args w Q, Y l args w Q → YieldAt (wf r) (nn - 1) P l args.toArray w Q) {K : Env → World → Prop}
    (hQ : ∀ a w, Kept n pw a0 a → K a.env w → Q .normal a w) : ∀ (l : List Oper) (_ : ∀ o ∈ l, opOk P o.op = true ∧ dstIn n pw o = true ∧ noDef o = true) (a : Act) (w : World),
      Kept n pw a0 a → opsFy P cl Y ops l a.env K w → wpListIn (wf r) nn P ops Q l a w
  | [], _, a, w, hk, h => hQ a w hk h
  | o :: rest, hl, a, w, hk, h => by
    have ho := hl o (List.mem_cons_self ..)
    have hrest := fun x hx => hl x (List.mem_cons_of_mem _ hx)
    unfold opsFy at h
    unfold wpListIn
    rcases guardF_sound h with ⟨hw, h⟩ | ⟨hw, h⟩
    · rw [if_pos hw]
      refine ⟨fun f _ => wf_fn r f, ?_⟩
      have := opFy_sound hcl (nn := nn) (r := r) (a := a) (Q := Q) hY ho.1 h
      rw [env_ev] at this
      rw [semAt_y ho.2.2]
      refine upon_mono ?_ this
      rintro a' w' ⟨v, rfl, hv⟩
      refine opsFy_sound hcl hY hQ rest hrest _ w' (hk.put ho.2.1 v) ?_
      rw [hk.envput ho.2.1]; exact hv
    · rw [hw]
      simp only [Bool.false_eq_true, if_false]
      refine ⟨fun f _ => wf_fn r f, ?_⟩
      refine opsFy_sound hcl hY hQ rest hrest _ w (hk.put ho.2.1 _) ?_
      rw [hk.envput ho.2.1]; exact h
where
  upon_mono {o : Oper} {a : Act} {K K' : Act → World → Prop} {res : Result Next} (h : ∀ a w, K a w → K' a w) (hh : o.uponIn (wf r) nn P a K Q res) : o.uponIn (wf r) nn P a K' Q res := by
    cases res with
    | ok x w' =>
      cases x <;> simp only [Oper.uponIn] at hh ⊢ <;>
        first
          | exact h _ _ hh
          | exact ⟨hh.1, CallsIn.mono hh.2 (fun e w'' he => by cases e <;> first | exact h _ _ he | exact he)⟩
          | exact ⟨hh.1, RowsIn.mono hh.2 (fun _ _ he => h _ _ he)⟩
          | exact ⟨hh.1, RoundIn.mono hh.2 (fun e w'' he => by cases e <;> first | exact h _ _ he | exact he)⟩
    | halt x w' => cases x <;> simp only [Oper.uponIn] at hh ⊢ <;> exact hh

theorem wpOpY_of {i : Nat} {o : Oper} {a : Act} {w : World} {K : Act → World → Prop} (hnd : noDef o = true) (hi : ops[i]? = some o)
    (h : (Region.wanted o (yielded ops a.tmps) = true ∧ o.uponIn (wf r) nn P a K Q ((execOp a.eval o).run P w)) ∨ (Region.wanted o (yielded ops a.tmps) = false ∧ K (a.put o.dst undef) w)) : wpOpIn (wf r) nn P ops Q i K a w := by
  unfold wpOpIn
  rw [hi]
  rcases h with ⟨hw, h⟩ | ⟨hw, h⟩
  · simp only [hw, if_true]
    exact ⟨fun f _ => wf_fn r f, by rw [semAt_y hnd]; exact h⟩
  · simp only [hw, Bool.false_eq_true, if_false]; exact ⟨fun f _ => wf_fn r f, h⟩

theorem anyFy_sound (hcl : ∀ g, cl g = true → callable P g = true) (hY : ∀ l args w Q, Y l args w Q → YieldAt (wf r) (nn - 1) P l args.toArray w Q) (hsel : Region.noSelect ops = true) {K : Env → World → Prop} {S : World → Prop}
    (hQ : ∀ a w, Kept n pw a0 a → K a.env w → Q .normal a w) (hQp : ∀ c a w, ¬ Q (.panic c) a w) (hops : ∀ (i : Nat) (o : Oper), ops[i]? = some o → opOk P o.op = true ∧ dstIn n pw o = true ∧ noDef o = true) :
    ∀ (fuel : Nat) (hs : Bool) (listed : Array Bool) (a : Act) (w : World), Kept n pw a0 a → (hs = true → S w) → anyFy P cl Y ops S fuel hs listed a.env K w →
      wpTy r nn P .any ops Q S (needs P ops) (looks P ops) fuel listed a w := by
  intro fuel
  induction fuel with
  | zero =>
    intro hs listed a w hk hS h
    unfold anyFy at h
    split at h
    · rename_i hr; exact ⟨hr, hQ a w hk h⟩
    · exact h.elim
  | succ fuel ih =>
    intro hs listed a w hk hS h
    unfold anyFy at h
    split at h
    · rename_i hr
      exact ⟨fun _ => hQ a w hk h, fun i hi => by rw [hr] at hi; cases hi⟩
    · rename_i r rs hr
      split at h
      · rename_i i hp
        obtain ⟨hmem, o, ho, hpr, hfree⟩ := pickF_some hp
        rw [ho] at h
        simp only at h
        obtain ⟨hok, hd, hnd⟩ := hops i o ho
        have hni : needs P ops i = false := by
          unfold needs; rw [ho]
          simp only
          rcases Bool.or_eq_true _ _ |>.mp hpr with hp | hp <;> simp [hp]
        have hrdy : i ∈ Region.ready .any ops listed := by rw [hr]; exact hmem
        have hfs := Region.free_spec (md := .any) ho hfree
        have hself := Region.noSelect_spec hsel
        rcases guardF_sound h with ⟨hw, h⟩ | ⟨hw, h⟩
        · rcases seeF_sound hok hpr h with ⟨hp, v, hv, hK⟩ | ⟨hp, hhs, v, hv, hK⟩
          · refine wpTy_first (T := fun _ => True) ho hself (fun c a w hc => absurd hc (hQp c _ w)) hni (fun j o ho => (hops j o ho).2.2) fuel listed a w (fun j oj hj hne hun hno => ⟨hfs j oj hj hne hun hno, fun _ _ _ _ _ => trivial⟩) hrdy (.inl ⟨hw, ?_⟩) trivial
              (ih hs (listed.setIfInBounds i true) (a.put o.dst v) w (hk.put hd v) hS ?_)
            · rw [← env_ev]; exact hv
            · rw [hk.envput hd]; exact hK
          · have hri : isRead P o.op = true := by rw [hp] at hpr; simpa using hpr
            refine wpTy_first (T := S) ho hself (fun c a w hc => absurd hc (hQp c _ w)) hni (fun j o ho => (hops j o ho).2.2) fuel listed a w (fun j oj hj hne hun hno => ⟨hfs j oj hj hne hun hno, fun w w' hw hneed hlook => ?_⟩) hrdy (.inl ⟨hw, ?_⟩) (hS hhs)
              (ih hs (listed.setIfInBounds i true) (a.put o.dst v) w (hk.put hd v) hS ?_)
            · cases hl : (isPure P oj.op || isRead P oj.op) with
              | true => have := hlook (by unfold looks; rw [hj]; exact hl); rw [this]; exact hw
              | false => exact hneed (needs_of ho hj hri hl hno)
            · rw [← env_ev]; exact hv
            · rw [hk.envput hd]; exact hK
        · refine wpTy_first (T := fun _ => True) ho hself (fun c a w hc => absurd hc (hQp c _ w)) hni (fun j o ho => (hops j o ho).2.2) fuel listed a w (fun j oj hj hne hun hno => ⟨hfs j oj hj hne hun hno, fun _ _ _ _ _ => trivial⟩) hrdy (.inr ⟨hw, rfl⟩) trivial
              (ih hs (listed.setIfInBounds i true) (a.put o.dst undef) w (hk.put hd _) hS ?_)
          rw [hk.envput hd]; exact h
      · refine ⟨fun h0 => absurd (hr ▸ h0) (by simp), fun i hi => ?_⟩
        rw [hr] at hi
        have h := allF_mem h i hi
        split at h
        case h_2 => exact h.elim
        rename_i o ho
        obtain ⟨hok, hd, hnd⟩ := hops i o ho
        refine wpOpY_of hnd ho ?_
        rcases guardF_sound h with ⟨hw, h⟩ | ⟨hw, h⟩
        · refine .inl ⟨hw, ?_⟩
          split at h
          · exact h.elim
          · rename_i hl
            have hlk : looks P ops i = false := by unfold looks; rw [ho]; exact hl
            split at h
            · rename_i hnd
              have := opFy_sound hcl (nn := nn) (r := r) (a := a) (Q := Q) hY hok h
              rw [env_ev] at this
              refine opsFy_sound.upon_mono ?_ this
              rintro a' w' ⟨v, rfl, hSw, hK⟩
              refine ⟨⟨fun _ => hSw, fun hh => (by rw [hlk] at hh; cases hh)⟩, ih hs _ _ w' (hk.put hd v) (fun _ => hSw) ?_⟩
              rw [hk.envput hd]; exact hK
            · rename_i hnd
              have := opFy_sound hcl (nn := nn) (r := r) (a := a) (Q := Q) hY hok h
              rw [env_ev] at this
              refine opsFy_sound.upon_mono ?_ this
              rintro a' w' ⟨v, rfl, hK⟩
              refine ⟨⟨fun hh => (by rw [hnd] at hh; cases hh), fun hh => (by rw [hlk] at hh; cases hh)⟩, ih false _ _ w' (hk.put hd v) (fun hh => by cases hh) ?_⟩
              rw [hk.envput hd]; exact hK
        · refine .inr ⟨hw, ?_⟩
          split at h
          · exact h.elim
          · rename_i hl
            have hlk : looks P ops i = false := by unfold looks; rw [ho]; exact hl
            split at h
            · split at h
              · have hSw := hS rfl
                refine ⟨⟨fun _ => hSw, fun _ => rfl⟩, ih true _ _ w (hk.put hd _) (fun _ => hSw) ?_⟩
                rw [hk.envput hd]; exact h
              · exact h.elim
            · rename_i hnd
              refine ⟨⟨fun hh => (by rw [hnd] at hh; cases hh), fun _ => rfl⟩, ih false _ _ w (hk.put hd _) (fun hh => by cases hh) ?_⟩
              rw [hk.envput hd]; exact h

end

def deny (P : Program) (cl : FuncId → Bool) (Y : YF) : Code → Sk → Env → Cont → World → Prop
  | .skip, _, ρ, K, w => K.nrm ρ w
  | .label _, _, ρ, K, w => K.nrm ρ w
  | .region _ ops d, _, ρ, K, w => (match d with
    | false => opsFy P cl Y ops ops.toList ρ K.nrm w
    | true => Drw w fun S w' => anyFy P cl Y ops S ops.size true (Array.replicate ops.size false) ρ K.nrm w')
  | .seq a b, sk, ρ, K, w => (match sk with
    | .cut ms ts W _ _ => cutF ts ms W ρ (fun k => deny P cl Y a sk.l ρ { K with nrm := k } w) (fun ρ' w' => deny P cl Y b sk.r ρ' K w')
    | _ => deny P cl Y a sk.l ρ { K with nrm := fun ρ' w' => deny P cl Y b sk.r ρ' K w' } w)
  | .cond c a b, sk, ρ, K, w => (match ρ.ev c with
    | .bool t => Br t (deny P cl Y a sk.l ρ K w) (deny P cl Y b sk.r ρ K w)
    | _ => False)
  | .block id a, sk, ρ, K, w => deny P cl Y a sk.l ρ { K with ex := fun i => match Nat.beq i id with | true => K.nrm | false => K.ex i } w
  | .loop a, sk, ρ, K, w => (match sk with
    | .loop ms ts W _ => loopF ts ms W ρ (fun ρ' k w' => deny P cl Y a sk.l ρ' { K with nrm := k } w') w
    | _ => False)
  | .scope a, sk, ρ, K, w => deny P cl Y a sk.l ρ K w
  | .exit id, _, ρ, K, w => K.ex id ρ w
  | .ret, _, ρ, K, w => K.ret ρ w
  | _, _, _, _, _ => False

def codeOky (P : Program) (n : Nat) : Code → Bool
  | .region _ ops _ => Region.noSelect ops && ops.all fun o => opOk P o.op && noDef o && (match o.dst with | some d => Nat.blt d n | none => true)
  | .seq a b | .cond _ a b => codeOky P n a && codeOky P n b
  | .block _ a | .loop a => codeOky P n a
  | .scope _ => false
  | .rangeFunc _ _ _ _ => false
  | _ => true

variable {r : Option Nat} {nn : Nat} {Y : YF} {P : Program} {cl : FuncId → Bool} {n : Nat}

theorem regiony_sound (hcl : ∀ g, cl g = true → callable P g = true) (hY : ∀ l args w Q, Y l args w Q → YieldAt (wf r) (nn - 1) P l args.toArray w Q) (hmix : P.follows .mixedOrders = true) {pw : Nat → Bool} {a0 : Env} {id : Nat} {ops : Array Oper} {d : Bool}
    (hc : codeOky P n (.region id ops d) = true) (hw : wrIn pw (.region id ops d) = true) {sk : Sk} {K : Cont} {a : Act} {w : World} (hk : Kept n pw a0 a)
    (h : deny P cl Y (.region id ops d) sk a.env K w) : (Code.region id ops d).wpIn (wf r) nn P (PK n pw a0 K) a w := by
  simp only [codeOky, Bool.and_eq_true, Array.all_eq_true_iff_forall_mem] at hc
  simp only [wrIn, Array.all_eq_true_iff_forall_mem] at hw
  have hops : ∀ o ∈ ops, opOk P o.op = true ∧ dstIn n pw o = true ∧ noDef o = true := fun o ho => by
    have h1 := hc.2 o ho
    have h2 := hw o ho
    refine ⟨h1.1.1, ?_, h1.1.2⟩
    unfold dstIn
    cases hd : o.dst with
    | none => rfl
    | some x => rw [hd] at h1 h2; simp only [Bool.and_eq_true]; exact ⟨h1.2, h2⟩
  unfold deny at h
  cases d with
  | false =>
    exact wpIn_region_list (opsFy_sound (Q := PK n pw a0 K) hcl hY (fun a w hk h => ⟨hk, h⟩) ops.toList (fun o ho => hops o (by simpa using ho)) a w hk h)
  | true =>
    obtain ⟨S0, S, hS, h⟩ := h
    obtain ⟨hS, h⟩ := h _ hS
    refine wpIn_region_any hmix (wpTy_any _ _ _ _ (anyFy_sound (Q := PK n pw a0 K) hcl hY hc.1 (fun a w hk h => ⟨hk, h⟩) (fun _ _ _ h => h) (fun i o ho => hops o (Array.mem_of_getElem? ho)) _ _ _ _ _ hk (fun _ => hS) h))

theorem deny_sound (hcl : ∀ g, cl g = true → callable P g = true) (hY : ∀ l args w Q, Y l args w Q → YieldAt (wf r) (nn - 1) P l args.toArray w Q) (hmix : P.follows .mixedOrders = true) : ∀ (c : Code) (sk : Sk) (pw : Nat → Bool) (a0 : Env),
    codeOky P n c = true → wrIn pw c = true → skOk c sk = true → ∀ (a : Act) (K : Cont) (w : World), Kept n pw a0 a → deny P cl Y c sk a.env K w → c.wpIn (wf r) nn P (PK n pw a0 K) a w
  | .skip, sk, pw, a0, _, _, _, a, K, w, hk, h => wpIn_skip ⟨hk, h⟩
  | .label _, sk, pw, a0, _, _, _, a, K, w, hk, h => wpIn_label ⟨hk, h⟩
  | .exit _, sk, pw, a0, _, _, _, a, K, w, hk, h => wpIn_exit ⟨hk, h⟩
  | .ret, sk, pw, a0, _, _, _, a, K, w, hk, h => wpIn_ret ⟨hk, h⟩
  | .region id ops d, sk, pw, a0, hc, hw, _, a, K, w, hk, h => regiony_sound hcl hY hmix hc hw hk h
  | .goto _, sk, pw, a0, _, _, _, a, K, w, hk, h => h.elim
  | .refuse _, sk, pw, a0, _, _, _, a, K, w, hk, h => h.elim
  | .rangeFunc _ _ _ _, sk, pw, a0, _, _, _, a, K, w, hk, h => h.elim
  | .scope c, sk, pw, a0, hc, hw, hs, a, K, w, hk, h => by cases hc
  | .block id c, sk, pw, a0, hc, hw, hs, a, K, w, hk, h => by
    refine wpIn_block ?_
    refine Code.wpIn_mono ?_ (deny_sound hcl hY hmix c sk.l pw a0 hc hw hs a _ w hk h)
    intro e a w hq
    cases e with
    | exit i =>
      obtain ⟨hk, hq⟩ := hq
      show if i = id then _ else _
      by_cases hi : i = id
      · subst hi
        rw [if_pos rfl]
        have : Nat.beq i i = true := by simp
        simp only [this] at hq
        exact ⟨hk, hq⟩
      · rw [if_neg hi]
        have : Nat.beq i id = false := by
          cases hb : Nat.beq i id with
          | false => rfl
          | true => exact absurd (Nat.eq_of_beq_eq_true hb) hi
        simp only [this] at hq
        exact ⟨hk, hq⟩
    | normal => exact hq
    | ret => exact hq
    | _ => exact hq.elim
  | .cond c x y, sk, pw, a0, hc, hw, hs, a, K, w, hk, h => by
    simp only [codeOky, wrIn, skOk, Bool.and_eq_true] at hc hw hs
    unfold deny at h
    split at h
    · rename_i t ht
      rw [env_ev] at ht
      refine wpIn_cond_split ht (fun hb => ?_) (fun hb => ?_)
      · subst hb; exact deny_sound hcl hY hmix x sk.l pw a0 hc.1 hw.1 hs.1 a K w hk h
      · subst hb; exact deny_sound hcl hY hmix y sk.r pw a0 hc.2 hw.2 hs.2 a K w hk h
    · exact h.elim
  | .seq x y, sk, pw, a0, hc, hw, hs, a, K, w, hk, h => by
    simp only [codeOky, wrIn, skOk, Bool.and_eq_true] at hc hw hs
    refine wpIn_seq ?_
    have plain : deny P cl Y x sk.l a.env { K with nrm := fun ρ' w' => deny P cl Y y sk.r ρ' K w' } w → x.wpIn (wf r) nn P (Exit.then (y.wpIn (wf r) nn P (PK n pw a0 K)) (PK n pw a0 K)) a w := fun h => by
      refine Code.wpIn_mono ?_ (deny_sound hcl hY hmix x sk.l pw a0 hc.1 hw.1 hs.1.2 a _ w hk h)
      intro e a w hq
      cases e with
      | normal => exact deny_sound hcl hY hmix y sk.r pw a0 hc.2 hw.2 hs.2 a K w hq.1 hq.2
      | _ => exact hq
    cases sk with
    | cut ms ts W l r =>
      simp only [Bool.and_eq_true] at hs
      obtain ⟨J, h1, h2⟩ := (show cutF ts ms W a.env (fun k => deny P cl Y x l a.env { K with nrm := k } w) (fun ρ' w' => deny P cl Y y r ρ' K w') from h)
      have := deny_sound hcl hY hmix x l (fun i => pw i && memB i W) a.env hc.1 (wrIn_and hw.1 hs.1.1.1) hs.1.2 a _ w (Kept.refl hk.size hk.defers) h1
      refine Code.wpIn_mono ?_ this
      intro e b w' hq
      cases e with
      | normal =>
        obtain ⟨hkb, hq⟩ := hq
        have hall := h2 b.env
        have hb := app_all (by rw [vals_len]; exact Nat.eq_of_beq_eq_true hs.1.1.2) hq hall w' hq
        rw [mix_env (fun i hi => hkb.same i (by simp [hi]))] at hb
        exact deny_sound hcl hY hmix y r pw a0 hc.2 hw.2 hs.2 b K w' (hk.trans hkb) hb
      | exit i => exact ⟨hk.trans hq.1, hq.2⟩
      | ret => exact ⟨hk.trans hq.1, hq.2⟩
      | _ => exact hq.elim
    | leaf => exact plain h
    | seq l r => exact plain h
    | cond l r => exact plain h
    | block l => exact plain h
    | loop ms ts W l => exact plain h
  | .loop c, sk, pw, a0, hc, hw, hs, a, K, w, hk, h => by
    cases sk with
    | loop ms ts W l =>
      simp only [skOk, Bool.and_eq_true] at hs
      have hc : codeOky P n c = true := hc
      have hw : wrIn pw c = true := hw
      obtain ⟨I, μ, h0, hstep⟩ := (show loopF ts ms W a.env (fun ρ' k w' => deny P cl Y c l ρ' { K with nrm := k } w') w from h)
      have hlen : ∀ e : Env, (vals ms e).length = ts.length := fun e => by rw [vals_len]; exact Nat.eq_of_beq_eq_true hs.1.2
      refine wpIn_loop (fun b v => Kept n pw a0 b ∧ (∀ i, memB i W = false → b.env i = a.env i) ∧ app ts I (vals ms b.env) (fun p => p v))
        (fun b v => getC (fun _ => 0) ts μ (vals ms b.env) v) ⟨hk, fun _ _ => rfl, h0⟩ ?_
      rintro b v ⟨hkb, hsame, hI⟩
      have hb := app_all (hlen b.env) hI (hstep b.env) v hI
      rw [mix_env hsame] at hb
      have := deny_sound hcl hY hmix c l (fun i => pw i && memB i W) b.env hc (wrIn_and hw hs.1.1) hs.2 b _ v (Kept.refl hkb.size hkb.defers) hb
      refine Code.wpIn_mono ?_ this
      intro e b' v' hq
      cases e with
      | normal =>
        obtain ⟨hkb', hI', hμ⟩ := hq
        exact ⟨⟨hkb.trans hkb', fun i hi => (hkb'.same i (by simp [hi])).trans (hsame i hi), hI'⟩, by
          have h1 := app_get (d := fun _ => 0) hμ
          exact app_get (d := fun _ => 0) h1⟩
      | exit i => exact ⟨hkb.trans hq.1, hq.2⟩
      | ret => exact ⟨hkb.trans hq.1, hq.2⟩
      | _ => exact hq.elim
    | _ => exact False.elim h

end Go.VC
/- VY, part 2: an iterator's call; one round; the statement 'for x := range f { .. }', over memory of one's own. No condition. -/
namespace Go.VC

variable {P : Program} {cl : FuncId → Bool} {n nn m : Nat} {R : Cx} {Hs Hs' : List HP} {w W : World}

/-! ### An iterator's call -/
def fnOky (P : Program) (n : Nat) (fn : Func) (sk : Sk) : Bool :=
  Nat.beq n fn.ntmps && (match fn.body with | some c => codeOky P n c && wrIn (fun _ => true) c && skOk c sk | none => false) &&
    fn.results.all fun r => match r with | .tmp _ => true | .cell _ t => ldOk P t

def fnFy (P : Program) (cl : FuncId → Bool) (Y : YF) (fn : Func) (sk : Sk) (args : List Value) (K : Value → World → Prop) (w : World) : Prop :=
  match fn.body with
  | some c => deny P cl Y c sk (argEnv args) { nrm := fun ρ w => resF P ρ K fn.results.toList [] w, ex := fun _ _ _ => False, ret := fun ρ w => resF P ρ K fn.results.toList [] w } w
  | none => False

theorem callsy_of {Y : YF} {f : FuncId} {fn : Func} {sk : Sk} (hcl : ∀ g, cl g = true → callable P g = true) (hmix : P.follows .mixedOrders = true) (hY : ∀ l args w Q, Y l args w Q → YieldAt Fence.wide (nn - 1) P l args.toArray w Q)
    (hf : P.funcs[f]? = some fn) (hok : fnOky P fn.ntmps fn sk = true) {args : List Value} {K : Value → World → Prop} {w : World} (hargs : args.length ≤ fn.ntmps)
    (h : fnFy P cl Y fn sk args K w) : CallsIn Fence.wide nn P f args.toArray w fun e w' => ∃ v, e = .returned v ∧ K v w' := by
  unfold fnFy at h
  unfold fnOky at hok
  simp only [Bool.and_eq_true] at hok
  obtain ⟨⟨_, hbody⟩, hres⟩ := hok
  split at h
  case h_2 => exact h.elim
  rename_i c hb
  rw [hb] at hbody
  simp only [Bool.and_eq_true] at hbody
  refine callsIn_of_wp hf hb trivial ?_
  have henv := enter_env (fn := fn) (args := args)
  rw [← henv] at h
  have fin : ∀ (a : Act) (w : World), a.defers = [] → resF P a.env K fn.results.toList [] w →
      a.defers = [] ∧ ∃ v, (results fn a.tmps).run P w = .ok v w ∧ (∃ v', Ending.returned v = .returned v' ∧ K v' w) := fun a w hd hr => by
    obtain ⟨v, h1, h2⟩ := res_of hres hr
    exact ⟨hd, v, h1, v, rfl, h2⟩
  refine Code.wpIn_mono ?_ (deny_sound (r := none) (nn := nn) (n := fn.ntmps) hcl hY hmix c sk (fun _ => true) _ hbody.1.1 hbody.1.2 hbody.2 _ _ w (Kept.refl (by simp; omega) rfl) h)
  intro e a w hq
  cases e with
  | normal => exact fin a w hq.1.defers hq.2
  | ret => exact fin a w hq.1.defers hq.2
  | exit i => exact hq.2.elim
  | _ => exact hq.elim

/-! ### One round -/
abbrev lrec (st : LoopState) (fn : FuncId) (tmps : Array Value) (ps : Array Tmp) (assign body : Code) (D : Nat) : Obj :=
  .loop { state := st, pending := none, fn := fn, tmps := tmps, params := ps, assign := assign, body := body, defers := D }

theorem round_rule {L D : Nat} {fn : FuncId} {tmps : Array Value} {ps : Array Tmp} {assign body : Code} {args : Array Value} {Q : Ending → World → Prop}
    (hw : Sat R (pts L (lrec .ready fn tmps ps assign body D) :: Hs) W) (hsz : args.size = ps.size)
    (h : assign.wpIn (wf (some L)) m P (Exit.then (fun a1 W1 => Sat R (pts L (lrec .ready fn tmps ps assign body D) :: Hs) W1 ∧ ∀ W2, Sat R (pts L (lrec .busy fn tmps ps assign body D) :: Hs) W2 →
        body.wpIn (wf (some L)) m P (fun e _ W3 => e = .normal ∧ ∃ Hs', Sat R (pts L (lrec .busy fn tmps ps assign body D) :: Hs') W3 ∧ ∀ W4, Sat R (pts L (lrec .ready fn tmps ps assign body D) :: Hs') W4 → Q (.returned (.bool true)) W4) a1 W2) (fun _ _ _ => False))
      { tmps := (ps.zip args).foldl (fun t (p, v) => t.setIfInBounds p v) tmps, defers := [] } W) :
    YieldAt Fence.wide m P L args W Q := by
  refine ⟨fn, _, assign, body, run_yield hw.at hsz, roundIn_of_wpIn trivial (Code.wpIn_mono ?_ h)⟩
  intro e a w hq
  cases e with
  | normal =>
    obtain ⟨hw1, hb⟩ := hq
    refine ⟨_, run_beginRound hw1.at rfl, ?_⟩
    refine Code.wpIn_mono ?_ (hb _ (hw1.setPts _))
    rintro e a w ⟨rfl, Hs', hw3, hq⟩
    exact ⟨_, _, run_endRound none hw3.at, hq _ (hw3.setPts _)⟩
  | _ => exact hq.elim

/-! ### The statement -/
theorem range_rule {g : Operand} {ps : Array Tmp} {assign body : Code} {Q : Exit → Act → World → Prop} {a : Act} {gf : Nat} {lb : Array Value} (hg : a.eval g = .func (.func gf) #[] lb) (hc : callable P gf = true) (hw : Sat R Hs w)
    (h : ∀ fn D L W1, Sat R (pts L (lrec .ready fn a.tmps ps assign body D) :: pts D (.deferred (some [])) :: Hs) W1 →
      CallsIn Fence.wide (nn - 1) P gf (#[.func (.yield L) #[] #[]] ++ lb) W1 fun e W2 => (∃ v, e = .returned v) ∧ ∃ Hs', Sat R (pts L (lrec .ready fn a.tmps ps assign body D) :: pts D (.deferred (some [])) :: Hs') W2 ∧
        ∀ W3, Sat R (pts D (.deferred (some [])) :: Hs') W3 → Q .normal { a with defers := { target := .collected D, args := #[] } :: a.defers } W3) :
    (Code.rangeFunc g ps assign body).wpIn Fence.wide nn P Q a w := by
  refine wpIn_rangeFunc ?_
  intro fn hfn
  have hw1 := (hw.alloc (.deferred (some []))).alloc (lrec .ready fn a.tmps ps assign body w.heap.size)
  have hsz : (w.alloc (.deferred (some []))).heap.size = w.heap.size + 1 := by simp
  rw [hsz] at hw1
  have he := run_enterLoop_outer (P := P) (w := w) fn a.tmps ps assign body
  generalize hD : w.heap.size = D at hw1 he
  generalize hW1 : (w.alloc (.deferred (some []))).alloc (lrec .ready fn a.tmps ps assign body D) = W1 at hw1
  have he : (Instr.enterLoop fn a.tmps ps assign body none).run P w = .ok (D + 1, [{ target := .collected D, args := #[] }]) W1 := by rw [he, ← hW1]
  clear hW1 hsz
  have hres : (resolve a.eval (rangeCall g (D + 1)) 0).run P W1 = .ok { target := .fn (.func gf) lb, args := #[.func (.yield (D + 1)) #[] #[]] } W1 := by
    simp only [resolve, hg]
    simp [go_sem]
  refine ⟨D + 1, [{ target := .collected D, args := #[] }], W1, { target := .fn (.func gf) lb, args := #[.func (.yield (D + 1)) #[] #[]] }, W1, gf,
    #[.func (.yield (D + 1)) #[] #[]] ++ lb, W1, he, hres, fun f' _ => trivial, ?_, (fun h => by cases h), ?_⟩
  · simp only [invoke]
    exact callFunc_run hc _ _
  · have key : ∀ (e : Ending) (W2 : World), ((∃ v, e = .returned v) ∧ ∃ Hs', Sat R (pts (D + 1) (lrec .ready fn a.tmps ps assign body D) :: pts D (.deferred (some [])) :: Hs') W2 ∧
        ∀ W3, Sat R (pts D (.deferred (some [])) :: Hs') W3 → Q .normal { a with defers := { target := .collected D, args := #[] } :: a.defers } W3) →
        rangePost Fence.wide nn P (D + 1) Q { a with defers := [{ target := .collected D, args := #[] }] ++ a.defers } e W2 := by
      intro e W2 hh
      obtain ⟨⟨v, hv⟩, Hs', hw2, hq⟩ := hh
      rw [hv]
      have h2 := run_endLoop (P := P) hw2.at (by simp)
      exact ⟨none, _, h2, hq _ (hw2.setPts _).drop⟩
    exact CallsIn.mono (h fn D (D + 1) W1 hw1) key

/-- A function whose body ranges over a function: its end. -/
theorem leave_marks {fn : Func} {a : Act} {D : Nat} {K : Value → World → Prop} (hd : a.defers = [{ target := .collected D, args := #[] }]) (hres : (fn.results.all fun r => match r with | .tmp _ => true | .cell _ t => ldOk P t) = true) (hw : Sat R (pts D (.deferred (some [])) :: Hs) W)
    (h : ∀ W', Sat R Hs W' → resF P a.env K fn.results.toList [] W') : LeavesInM Fence.wide nn P fn a.tmps (fun e w' => ∃ v, e = .returned v ∧ K v w') a.defers .returning W := by
  rw [hd]
  refine ⟨by simp, .inl ⟨D, _, rfl, run_takeDeferred hw.at, ?_⟩⟩
  have hw2 := (hw.setPts (.deferred none)).drop
  obtain ⟨v, h1, h2⟩ := res_of hres (h _ hw2)
  exact ⟨v, h1, v, rfl, h2⟩

end Go.VC
/- VY, part 3: a function whose body ranges over a function, once, behind four pieces of code. No condition. -/
namespace Go.VC

variable {P : Program} {cl : FuncId → Bool}

def slotsOk (ρ : Env) (tmps : Array Value) : List Nat → Prop
  | [] => True
  | i :: is => tmps.getD i undef = ρ i ∧ slotsOk ρ tmps is
theorem slotsOk_env (a : Act) : ∀ sl, slotsOk a.env a.tmps sl
  | [] => trivial
  | _ :: is => ⟨rfl, slotsOk_env a is⟩

/-- 'for .. := range g { .. }', over memory of one's own. -/
def RngV (P : Program) (cl : FuncId → Bool) (n : Nat) (ps : Array Tmp) (assign body : Code) (f : Value) (T : Array Value → Prop) (K : Nat → World → Prop) (w : World) : Prop :=
  match f with
  | .func fn first captured => (match fn with
    | .func gf => (match cl gf with
      | true => (match first.toList with
        | [] => ∃ (R : Cx) (Hs : List HP), Sat R Hs w ∧ ∀ (nn : Nat) (tmps : Array Value) (fn D L : Nat) (W1 : World), tmps.size = n → T tmps → Sat R (pts L (lrec .ready fn tmps ps assign body D) :: pts D (.deferred (some [])) :: Hs) W1 →
            CallsIn Fence.wide nn P gf (.func (.yield L) #[] #[] :: captured.toList).toArray W1 fun e W2 => (∃ v, e = .returned v) ∧ ∃ Hs', Sat R (pts L (lrec .ready fn tmps ps assign body D) :: pts D (.deferred (some [])) :: Hs') W2 ∧
              ∀ W3, Sat R (pts D (.deferred (some [])) :: Hs') W3 → K D W3
        | _ => False)
      | false => False)
    | _ => False)
  | _ => False

theorem RngV.mk {n : Nat} {ps : Array Tmp} {assign body : Code} {gf : FuncId} {captured : Array Value} {T : Array Value → Prop} {K : Nat → World → Prop} {w : World} {R : Cx} {Hs : List HP} (hc : cl gf = true) (hw : Sat R Hs w)
    (h : ∀ (nn : Nat) (tmps : Array Value) (fn D L : Nat) (W1 : World), tmps.size = n → T tmps → Sat R (pts L (lrec .ready fn tmps ps assign body D) :: pts D (.deferred (some [])) :: Hs) W1 →
            CallsIn Fence.wide nn P gf (.func (.yield L) #[] #[] :: captured.toList).toArray W1 fun e W2 => (∃ v, e = .returned v) ∧ ∃ Hs', Sat R (pts L (lrec .ready fn tmps ps assign body D) :: pts D (.deferred (some [])) :: Hs') W2 ∧
              ∀ W3, Sat R (pts D (.deferred (some [])) :: Hs') W3 → K D W3) : RngV P cl n ps assign body (.func (.func gf) #[] captured) T K w := by
  unfold RngV
  simp only [hc]
  exact ⟨R, Hs, hw, h⟩

def RngF (P : Program) (cl : FuncId → Bool) (n : Nat) (sl : List Nat) (g : Operand) (ps : Array Tmp) (assign body : Code) (ρ : Env) (K : Nat → World → Prop) (w : World) : Prop :=
  RngV P cl n ps assign body (ρ.ev g) (fun tmps => slotsOk ρ tmps sl) K w

def loopParts (fn : Func) : Array Tmp × Code × Code :=
  match fn.body with
  | some (.seq _ (.seq _ (.seq _ (.seq (.seq _ (.block _ (.rangeFunc _ ps assign body))) _)))) => (ps, assign, body)
  | _ => (#[], .skip, .skip)
def lpPs (fn : Func) : Array Tmp := (loopParts fn).1
def lpAssign (fn : Func) : Code := (loopParts fn).2.1
def lpBody (fn : Func) : Code := (loopParts fn).2.2

def noC (k : Env → World → Prop) : Cont := { nrm := k, ex := fun _ _ _ => False, ret := fun _ _ => False }

def finD (P : Program) (fn : Func) (K : Value → World → Prop) (D : Nat) (ρ : Env) (w : World) : Prop :=
  resF P ρ (fun v w => ∃ (R : Cx) (Hs : List HP), Sat R (pts D (.deferred (some [])) :: Hs) w ∧ ∀ w', Sat R Hs w' → K v w') fn.results.toList [] w

def rngF (P : Program) (cl : FuncId → Bool) (fn : Func) (sk : Sk) (sl : List Nat) (args : List Value) (K : Value → World → Prop) (w : World) : Prop :=
  match fn.body with
  | some (.seq r0 (.seq r1 (.seq r2 (.seq (.seq r3 (.block _ (.rangeFunc g ps assign body))) rest)))) =>
    den P cl r0 .leaf (argEnv args) (noC fun ρ w => den P cl r1 .leaf ρ (noC fun ρ w => den P cl r2 .leaf ρ (noC fun ρ w => den P cl r3 .leaf ρ (noC fun ρ w =>
      RngF P cl fn.ntmps sl g ps assign body ρ (fun D w => denx P cl (fun _ _ _ => False) [] rest sk ρ { nrm := finD P fn K D, ex := fun _ _ _ => False, ret := finD P fn K D } w) w) w) w) w) w
  | _ => False

def rngOk (P : Program) (fn : Func) (sk : Sk) : Bool :=
  (match fn.body with
  | some (.seq r0 (.seq r1 (.seq r2 (.seq (.seq r3 (.block _ (.rangeFunc _ _ _ _))) rest)))) =>
    (codeOk P fn.ntmps r0 && wrIn (fun _ => true) r0 && skOk r0 .leaf) && (codeOk P fn.ntmps r1 && wrIn (fun _ => true) r1 && skOk r1 .leaf) && (codeOk P fn.ntmps r2 && wrIn (fun _ => true) r2 && skOk r2 .leaf) && (codeOk P fn.ntmps r3 && wrIn (fun _ => true) r3 && skOk r3 .leaf) &&
      (codeOkx P fn.ntmps [] rest && wrIn (fun _ => true) rest && skOk rest sk)
  | _ => false) && fn.results.all fun r => match r with | .tmp _ => true | .cell _ _ => false

theorem resF_tmp {ρ : Env} {K : Value → World → Prop} {w : World} : ∀ {rs : List ResultVar} {acc : List Value}, (∀ r ∈ rs, (match r with | .tmp _ => true | .cell _ _ => false) = true) → resF P ρ K rs acc w →
    ∃ v, K v w ∧ ∀ (K' : Value → World → Prop) (w' : World), K' v w' → resF P ρ K' rs acc w'
  | [], acc, _, h => by
    unfold resF fin1 at h
    unfold resF fin1
    cases hl : acc.reverse with
    | nil => rw [hl] at h; exact ⟨_, h, fun _ _ h => h⟩
    | cons x xs =>
      rw [hl] at h
      cases xs with
      | nil => exact ⟨_, h, fun _ _ h => h⟩
      | cons y ys => exact ⟨_, h, fun _ _ h => h⟩
  | .tmp t :: rs, acc, hall, h => resF_tmp (rs := rs) (acc := ρ t :: acc) (fun r hr => hall r (List.mem_cons_of_mem _ hr)) h
  | .cell _ _ :: rs, acc, hall, _ => by have := hall _ (List.mem_cons_self ..); cases this

theorem callsr_of {f : FuncId} {fn : Func} {sk : Sk} {sl : List Nat} (hcl : ∀ g, cl g = true → callable P g = true) (hmix : P.follows .mixedOrders = true)
    (hf : P.funcs[f]? = some fn) (hok : rngOk P fn sk = true) {args : List Value} {K : Value → World → Prop} {w : World} (hargs : args.length ≤ fn.ntmps)
    (h : rngF P cl fn sk sl args K w) : Gets P f args.toArray w K := by
  unfold Gets
  refine (callsIn_wide (n := 5)).1 ?_
  unfold rngF at h
  unfold rngOk at hok
  rw [Bool.and_eq_true] at hok
  obtain ⟨hok, hres⟩ := hok
  have hres1 : ∀ r ∈ fn.results.toList, (match r with | .tmp _ => true | .cell _ _ => false) = true := fun r hr => by
    rw [Array.all_eq_true_iff_forall_mem] at hres
    exact hres r (by simpa using hr)
  have hres2 : (fn.results.all fun r => match r with | .tmp _ => true | .cell _ t => ldOk P t) = true := by
    rw [Array.all_eq_true_iff_forall_mem] at hres ⊢
    intro r hr
    have := hres r hr
    cases r <;> simp_all
  split at h
  case h_2 => exact h.elim
  rename_i r0 r1 r2 r3 bid g ps assign body rest hb
  rw [hb] at hok
  simp only [Bool.and_eq_true] at hok
  obtain ⟨⟨⟨⟨h0, h1⟩, h2⟩, h3⟩, h4⟩ := hok
  refine callsIn_of_wp_marks hf hb trivial ?_
  have henv := enter_env (fn := fn) (args := args)
  generalize hA : ({ tmps := args.toArray ++ Array.replicate (fn.ntmps - args.toArray.size) undef, defers := [] } : Act) = A at henv
  have hAs : A.tmps.size = fn.ntmps := by rw [← hA]; simp; omega
  have hAd : A.defers = [] := by rw [← hA]
  rw [← henv] at h
  have step : ∀ {c c' : Code} {Q : Exit → Act → World → Prop} {a : Act} {w : World} {k : Env → World → Prop}, ((codeOk P fn.ntmps c = true ∧ wrIn (fun _ => true) c = true) ∧ skOk c .leaf = true) → a.tmps.size = fn.ntmps → a.defers = [] →
      den P cl c .leaf a.env (noC k) w → (∀ a' w', a'.tmps.size = fn.ntmps → a'.defers = [] → k a'.env w' → c'.wpIn Fence.wide 5 P Q a' w') → (Code.seq c c').wpIn Fence.wide 5 P Q a w := fun {c c' Q a w k} hc hs hd h hk => by
    refine wpIn_seq (wpIn_wide.2 (Code.wp_mono ?_ (den_sound (n := fn.ntmps) hcl hmix c .leaf (fun _ => true) a.env hc.1.1 hc.1.2 hc.2 a _ w (Kept.refl hs hd) h)))
    intro e a' w' hq
    cases e with
    | normal => exact hk a' w' hq.1.size hq.1.defers hq.2
    | exit i => exact hq.2.elim
    | ret => exact hq.2.elim
    | _ => exact hq.elim
  refine step h0 hAs hAd h ?_
  clear h hAs hAd henv hA
  intro a w hs hd h
  refine step h1 hs hd h ?_
  clear h hs hd a w
  intro a w hs hd h
  refine step h2 hs hd h ?_
  clear h hs hd a w
  intro a w hs hd h
  refine wpIn_seq ?_
  refine step h3 hs hd h ?_
  clear h hs hd a w
  intro a w hs hd h
  refine wpIn_block ?_
  unfold RngF RngV at h
  split at h
  case h_2 => exact h.elim
  rename_i fv first captured hg
  rw [env_ev] at hg
  split at h
  case h_2 => exact h.elim
  rename_i gf
  split at h
  case h_2 => exact h.elim
  rename_i hcg
  split at h
  case h_2 => exact h.elim
  rename_i hfirst
  have hfirst : first = #[] := Array.ext' hfirst
  subst hfirst
  obtain ⟨R, Hs, hw, h⟩ := h
  refine range_rule hg (hcl gf hcg) hw ?_
  intro fnid D L W1 hw1
  have hargs2 : #[Value.func (.yield L) #[] #[]] ++ captured = (Value.func (.yield L) #[] #[] :: captured.toList).toArray := by apply Array.ext'; simp
  rw [hargs2]
  refine CallsIn.mono (h _ a.tmps fnid D L W1 hs (slotsOk_env a sl) hw1) ?_
  rintro e W2 ⟨hv, Hs', hw2, hq⟩
  refine ⟨hv, Hs', hw2, fun W3 hw3 => ?_⟩
  have hx := hq W3 hw3
  show rest.wpIn Fence.wide 5 P _ _ W3
  generalize hA2 : ({ a with defers := { target := .collected D, args := #[] } :: a.defers } : Act) = B
  have hBe : B.env = a.env := by rw [← hA2]; rfl
  have hBs : B.tmps.size = fn.ntmps := by rw [← hA2]; exact hs
  have hBd : B.defers = [{ target := .collected D, args := #[] }] := by rw [← hA2, hd]
  rw [← hBe] at hx
  refine wpIn_wide.2 (Code.wp_mono ?_ (denx_sound (n := fn.ntmps) (ds := [{ target := .collected D, args := #[] }]) hcl hmix rest sk (fun _ => true) B.env h4.1.1 h4.1.2 h4.2 B _ W3 (KeptD.refl' hBs hBd) hx))
  have fin : ∀ (a : Act) (w : World), a.defers = [{ target := .collected D, args := #[] }] → finD P fn K D a.env w → LeavesInM Fence.wide 5 P fn a.tmps (fun e w' => ∃ v, e = .returned v ∧ K v w') a.defers .returning w := fun a w hd hr => by
    obtain ⟨v, ⟨R, Hs, hw, hk⟩, hall⟩ := resF_tmp hres1 hr
    exact leave_marks hd hres2 hw fun W' hw' => hall _ _ (hk W' hw')
  intro e a w hq
  cases e with
  | normal => exact fin a w hq.1.defers hq.2
  | ret => exact fin a w hq.1.defers hq.2
  | exit i => exact hq.2.elim
  | panic ch => exact hq.2.elim
  | _ => exact hq.elim

end Go.VC
/- The formulas of record.Scan, records and its closure at this seat. (Printed by genscan.py.) No condition. -/
namespace Go.Proofs.YtgfneeoponiibaaGreat
open Go Go.VC
set_option linter.unusedVariables false

def B120 (b0 : Sl) (K : Value → World → Prop) (w : World) : Prop :=
  New (.cells #[.slice b0.a b0.len b0.cap] 25 (0, 0)) (fun b_b1 w_1 =>
  K (.func (.func 130) #[] #[.pointer ((some ⟨b_b1, 0, none⟩))]) w_1) w

def sk120 : Sk := .leaf
theorem ok120 : fnOk Tryz.prog Tryz.f120.ntmps Tryz.f120 sk120 = true := by kernel_rfl
theorem eq120 (b0 : Sl) (K : Value → World → Prop) (w : World) : fnF Tryz.prog cl Tryz.f120 sk120 [.slice b0.a b0.len b0.cap] K w = B120 b0 K w := by kernel_rfl
theorem call120 (b0 : Sl) (K : Value → World → Prop) (w : World) (h : B120 b0 K w) : Gets Tryz.prog 120 #[.slice b0.a b0.len b0.cap] w K :=
  calls_of (sk := sk120) cl_ok mixed Tryz.func120 ok120 (args := [.slice b0.a b0.len b0.cap]) (Nat.le_of_ble_eq_true (by kernel_rfl)) (by rw [eq120]; exact h)


def B130 (Y : YF) (l0 : Nat) (c1 : Option Addr) (K : Value → World → Prop) (w : World) : Prop :=
  ∃ (I : World → Prop) (μ : World → Nat), (I  w) ∧ ∀ (z : Env)  (w_1 : World), I  w_1 →
  NilP c1 fun a_t5 =>
  ∃ t5 : Sl, (At (fun w' => w' = w_1) a_t5 [.slice t5.a t5.len t5.cap]) ∧
  Br (decide ((↑t5.len : Int) ≥ 8))
   (NilP c1 fun a_t8 =>
    ∃ t8 : Sl, (At (fun w' => w' = w_1) a_t8 [.slice t8.a t8.len t8.cap]) ∧
    ((0 : Int) ≤ 4) ∧
    ((4 : Int) ≤ (↑t8.cap : Int)) ∧
    Calls Tryz.prog 131 #[.slice t8.a 4 t8.cap] w_1 fun e w_2 =>
    ∃ t10 : Int, (e = .returned (.int .u32 t10)) ∧
    ∃ (J : World → Prop), (Br (decide (t10 > 65536))
       (K (.tuple #[]) w_2)
       (NilP c1 fun a_t16 =>
        ∃ t16 : Sl, (At (fun w' => w' = w_2) a_t16 [.slice t16.a t16.len t16.cap]) ∧
        Br (decide (IntKind.i64.wrap t10 > IntKind.i64.wrap ((↑t16.len : Int) - 8)))
         (K (.tuple #[]) w_2)
         (J  w_2))) ∧
    ∀ (z_1 : Env)  (w_3 : World), J  w_3 →
    NilP c1 fun a_t21 =>
    ∃ t21 : Sl, (At (fun w' => w' = w_3) a_t21 [.slice t21.a t21.len t21.cap]) ∧
    ((0 : Int) ≤ IntKind.i64.wrap (8 + IntKind.i64.wrap t10)) ∧
    ((IntKind.i64.wrap (8 + IntKind.i64.wrap t10) : Int) ≤ (↑t21.cap : Int)) ∧
    ((0 : Int) ≤ 8) ∧
    ((8 : Int) ≤ (↑(IntKind.i64.wrap (8 + IntKind.i64.wrap t10)).toNat : Int)) ∧
    Drw w_3 fun S w_4 =>
    NilP c1 fun a_t26 =>
    ∃ t26 : Sl, (At S a_t26 [.slice t26.a t26.len t26.cap]) ∧
    ((0 : Int) ≤ 4) ∧
    ((4 : Int) ≤ (↑t26.cap : Int)) ∧
    NilP c1 fun a_t31 =>
    ∃ t31 : Sl, (At S a_t31 [.slice t31.a t31.len t31.cap]) ∧
    ((0 : Int) ≤ 8) ∧
    ((8 : Int) ≤ (↑t31.cap : Int)) ∧
    ((0 : Int) ≤ 4) ∧
    ((4 : Int) ≤ 8) ∧
    Calls Tryz.prog 113 #[.slice t26.a 4 t26.cap] w_4 fun e_1 w_5 =>
    ∃ t28 : Int, (e_1 = .returned (.int .u32 t28)) ∧
    (S w_5) ∧
    Calls Tryz.prog 112 #[.int .u32 t28, .slice (cutA t21.a (Int.toNat 8) t21.cap 1) ((IntKind.i64.wrap (8 + IntKind.i64.wrap t10)).toNat - Int.toNat 8) (t21.cap - Int.toNat 8)] w_5 fun e_2 w_6 =>
    ∃ t30 : Int, (e_2 = .returned (.int .u32 t30)) ∧
    (S w_6) ∧
    Calls Tryz.prog 131 #[.slice (cutA t31.a (Int.toNat 4) t31.cap 1) 4 (t31.cap - Int.toNat 4)] w_6 fun e_3 w_7 =>
    ∃ t33 : Int, (e_3 = .returned (.int .u32 t33)) ∧
    (S w_7) ∧
    Br (t30 != t33)
     (K (.tuple #[]) w_7)
     (Y l0 [.slice (cutA t21.a (Int.toNat 8) t21.cap 1) ((IntKind.i64.wrap (8 + IntKind.i64.wrap t10)).toNat - Int.toNat 8) (t21.cap - Int.toNat 8)] w_7 fun e_4 w_8 =>
      ∃ t38 : Bool, (e_4 = .returned (.bool t38)) ∧
      (S w_8) ∧
      Br (!t38)
       (K (.tuple #[]) w_8)
       (NilP c1 fun a_t41 =>
        ∃ t41 : Sl, (At (fun w' => w' = w_8) a_t41 [.slice t41.a t41.len t41.cap]) ∧
        ((0 : Int) ≤ IntKind.i64.wrap (8 + IntKind.i64.wrap t10)) ∧
        ((IntKind.i64.wrap (8 + IntKind.i64.wrap t10) : Int) ≤ (↑t41.len : Int)) ∧
        ∃ w_9 : World, ((Instr.storeAt 25 (.pointer c1) (.slice (cutA t41.a (IntKind.i64.wrap (8 + IntKind.i64.wrap t10)).toNat t41.cap 1) (t41.len - (IntKind.i64.wrap (8 + IntKind.i64.wrap t10)).toNat) (t41.cap - (IntKind.i64.wrap (8 + IntKind.i64.wrap t10)).toNat))).run Tryz.prog w_8 = .ok () w_9) ∧
        (I  w_9) ∧ μ  w_9 < μ  w_1)))
   (K (.tuple #[]) w_1)

def sk130 : Sk := (.block (.loop [] [] [3, 4, 5, 6, 7, 8, 9, 10, 11, 12, 13, 14, 15, 16, 17, 18, 19, 20, 21, 22, 23, 24, 25, 26, 27, 28, 29, 30, 31, 32, 33, 34, 35, 36, 37, 38, 39, 40, 41, 42, 43, 44, 45] (.seq .leaf (.block (.seq .leaf (.cut [] [] [11, 12, 13, 14, 15, 16, 17, 18, 19, 20] .leaf .leaf))))))
theorem ok130 : fnOky Tryz.prog Tryz.f130.ntmps Tryz.f130 sk130 = true := by kernel_rfl
theorem eq130 (Y : YF) (l0 : Nat) (c1 : Option Addr) (K : Value → World → Prop) (w : World) : fnFy Tryz.prog cl Y Tryz.f130 sk130 [.func (.yield l0) #[] #[], .pointer c1] K w = B130 Y l0 c1 K w := by kernel_rfl
theorem cally130 {nn : Nat} (l0 : Nat) (c1 : Option Addr) (K : Value → World → Prop) (w : World) (h : B130 (fun l args w Q => YieldAt Fence.wide (nn - 1) Tryz.prog l args.toArray w Q) l0 c1 K w) :
    CallsIn Fence.wide nn Tryz.prog 130 #[.func (.yield l0) #[] #[], .pointer c1] w fun e w' => ∃ v, e = .returned v ∧ K v w' :=
  callsy_of (sk := sk130) cl_ok mixed (fun _ _ _ _ h => h) Tryz.func130 ok130 (args := [.func (.yield l0) #[] #[], .pointer c1]) (Nat.le_of_ble_eq_true (by kernel_rfl)) (by rw [eq130]; exact h)

def Bb92 (out4 : Option Addr) (size5 : Option Addr) (body6 : Sl) (K : World → Prop) (w : World) : Prop :=
  Drw w fun S w_1 =>
  NilP out4 fun a_t10 =>
  ∃ t10 : Sl, (At S a_t10 [.slice t10.a t10.len t10.cap]) ∧
  Calls Tryz.prog 77 #[.slice body6.a body6.len body6.cap] w_1 fun e w_2 =>
  ∃ t12 : Sl, (e = .returned (.slice t12.a t12.len t12.cap)) ∧
  (S w_2) ∧
  New (.cells #[.slice t12.a t12.len t12.cap] 25 (0, 0)) (fun b_t13 w_3 =>
  (S w_3) ∧
  ∃ w_4 : World, ∃ t14 : Sl, ((Builtin.append_ #[135, 135] 135 #[.slice t10.a t10.len t10.cap, .slice ((some ⟨b_t13, 0, none⟩)) 1 1]).run Tryz.prog w_3 = .ok (.slice t14.a t14.len t14.cap) w_4) ∧
  ∃ w_5 : World, ((Instr.storeAt 135 (.pointer out4) (.slice t14.a t14.len t14.cap)).run Tryz.prog w_4 = .ok () w_5) ∧
  NilP size5 fun a_t15 =>
  ∃ t15 : Int, (At (fun w' => w' = w_5) a_t15 [.int .i64 t15]) ∧
  ∃ w_6 : World, ((Instr.storeAt 3 (.pointer size5) (.int .i64 (IntKind.i64.wrap (t15 + IntKind.i64.wrap (8 + (↑body6.len : Int)))))).run Tryz.prog w_5 = .ok () w_6) ∧
  K w_6) w_2

theorem eqb92 (Y : YF) (ρ : Env) (out4 size5 : Option Addr) (body6 : Sl) (K : World → Prop) (w : World) :
    deny Tryz.prog cl Y (lpBody Tryz.f92) .leaf (((ρ.set 4 (.pointer out4)).set 5 (.pointer size5)).set 6 (.slice body6.a body6.len body6.cap)) (noC fun _ w => K w) w = Bb92 out4 size5 body6 K w := by kernel_rfl
theorem eqa92 (Y : YF) (ρ : Env) (x : Value) (k : Env → World → Prop) (w : World) : deny Tryz.prog cl Y (lpAssign Tryz.f92) .leaf (ρ.set 9 x) (noC k) w = k ((ρ.set 9 x).set 6 x) w := by kernel_rfl
theorem okb92 : (codeOky Tryz.prog 22 (lpBody Tryz.f92) && wrIn (fun _ => true) (lpBody Tryz.f92) && skOk (lpBody Tryz.f92) .leaf) = true := by kernel_rfl
theorem oka92 : (codeOky Tryz.prog 22 (lpAssign Tryz.f92) && wrIn (fun i => memB i [6]) (lpAssign Tryz.f92) && skOk (lpAssign Tryz.f92) .leaf) = true := by kernel_rfl
theorem ps92 : lpPs Tryz.f92 = #[9] := by kernel_rfl

def B92 (b0 : Sl) (K : Value → World → Prop) (w : World) : Prop :=
  New (.cells #[.slice none 0 0] 135 (0, 0)) (fun b_t4 w_1 =>
  New (.cells #[.int .i64 0] 3 (0, 0)) (fun b_t5 w_2 =>
  ∃ w_3 : World, ((Instr.storeAt 3 (.pointer (some ⟨b_t5, 0, none⟩)) (.int .i64 0)).run Tryz.prog w_2 = .ok () w_3) ∧
  Calls Tryz.prog 120 #[.slice b0.a b0.len b0.cap] w_3 fun e w_4 =>
  ∃ t8 : Value, (e = .returned t8) ∧
  RngV Tryz.prog cl 22 (lpPs Tryz.f92) (lpAssign Tryz.f92) (lpBody Tryz.f92) t8 (fun tmps => tmps.getD 4 undef = .pointer (some ⟨b_t4, 0, none⟩) ∧ tmps.getD 5 undef = .pointer (some ⟨b_t5, 0, none⟩) ∧ True) (fun D w_5 =>
    Drw w_5 fun S w_6 =>
    ∃ t20 : Sl, (At S ⟨b_t4, 0, none⟩ [.slice t20.a t20.len t20.cap]) ∧
    ∃ t21 : Int, (At S ⟨b_t5, 0, none⟩ [.int .i64 t21]) ∧
    ∃ (R : Cx) (Hs : List HP), Sat R (pts D (.deferred (some [])) :: Hs) w_6 ∧ ∀ w', Sat R Hs w' → K (.tuple #[.slice t20.a t20.len t20.cap, .int .i64 t21]) w') w_4) w_1) w
theorem ok92 : rngOk Tryz.prog Tryz.f92 .leaf = true := by kernel_rfl
theorem eq92 (b0 : Sl) (K : Value → World → Prop) (w : World) : rngF Tryz.prog cl Tryz.f92 .leaf [4, 5] [.slice b0.a b0.len b0.cap] K w = B92 b0 K w := by kernel_rfl
theorem call92 (b0 : Sl) (K : Value → World → Prop) (w : World) (h : B92 b0 K w) : Gets Tryz.prog 92 #[.slice b0.a b0.len b0.cap] w K :=
  callsr_of (sk := .leaf) (sl := [4, 5]) cl_ok mixed Tryz.func92 ok92 (args := [.slice b0.a b0.len b0.cap]) (Nat.le_of_ble_eq_true (by kernel_rfl)) (by rw [eq92]; exact h)

end Go.Proofs.YtgfneeoponiibaaGreat
/- Package record: Scan. Condition: bounds on lengths. -/
namespace Go.Proofs.YtgfneeoponiibaaGreat
open Go Go.VC

variable {R : Cx} {Hs Rest : List HP} {w : World}

theorem _root_.Go.VC.Sat.restTru {A : HP} (h : Sat R (A :: Hs) w) : Sat R [A, VC.tru] w :=
  h.cons fun R' h => by
    have key : ∀ (Hs : List HP) (R' : Cx), Sat R' Hs w → Sat R' [VC.tru] w := fun Hs => by
      induction Hs with
      | nil => exact fun R' h => h.tru
      | cons B Hs ih => exact fun R' h => Sat.absorb (h.cons fun R'' h => ih R'' h)
    exact key _ _ h

/-- The length of the slice that a block holds. -/
def slLen (c : Nat) (w : World) : Nat := match (w.heap[c]? : Option Obj) with
  | some (Obj.cells l _ _) => (match (l[0]? : Option Value) with | some (Value.slice _ n _) => n | _ => 0)
  | _ => 0
theorem slLen_at {c : Nat} {t : Sl} {T : TypeId} (hw : Sat R (pts c (.cells [.slice t.a t.len t.cap].toArray T (0, 0)) :: Hs) w) : slLen c w = t.len := by
  unfold slLen
  rw [hw.at]
  rfl

theorem records_spec {s : Sl} (hw : Sat R Hs w) : Gets Tryz.prog 120 #[.slice s.a s.len s.cap] w fun v w' => ∃ c, v = .func (.func 130) #[] #[.pointer (some ⟨c, 0, none⟩)] ∧ Sat R (lp c s :: Hs) w' := by
  apply call120
  exact new_rule hw fun c w hw => ⟨c, rfl, hw⟩

theorem _root_.Go.VC.SlR.b8take {h : Heap} {s : Sl} {xs : List Int} (a : SlR h s (b8 xs)) {k : Nat} (hk : k ≤ xs.length) : SlR h ⟨s.a, k, s.cap⟩ (b8 (xs.take k)) := by
  have := a.take (k := k) (by simpa using hk)
  simpa using this
theorem _root_.Go.VC.SlR.b8drop {h : Heap} {s : Sl} {xs : List Int} (a : SlR h s (b8 xs)) {k : Nat} (hk : k ≤ xs.length) : SlR h (sdrop s k) (b8 (xs.drop k)) := by
  have := a.drop (k := k) (by simpa using hk)
  simpa using this

theorem iter_spec {L c nn : Nat} {s : Sl} {bs : List Int} (hbs : ∀ x ∈ bs, 0 ≤ x ∧ x < 256) (hlen : bs.length ≤ 1099511627776) (hs : SlR R.m s (b8 bs)) (I : List (List Int) → List HP)
    (hY : ∀ (pre : List (List Int)) (x : List Int) (W : World) (A : HP) (t : Sl), pre ++ [x] <+: scan bs → SlR R.m t (b8 x) → Sat R (A :: I pre) W →
      YieldAt Fence.wide (nn - 1) Tryz.prog L #[.slice t.a t.len t.cap] W fun e W' => e = .returned (.bool true) ∧ Sat R (A :: I (pre ++ [x])) W')
    (hw : Sat R (lp c s :: I []) w) :
    CallsIn Fence.wide nn Tryz.prog 130 #[.func (.yield L) #[] #[], .pointer (some ⟨c, 0, none⟩)] w fun e w' => (∃ v, e = .returned v) ∧ Sat R (I (scan bs)) w' := by
  refine CallsIn.mono (cally130 L (some ⟨c, 0, none⟩) (fun _ w' => Sat R (I (scan bs)) w') w ?_) (fun e w' ⟨v, hv, h⟩ => ⟨⟨v, hv⟩, h⟩)
  refine ⟨fun w => ∃ pre rest t, scan bs = pre ++ scan rest ∧ rest.length ≤ bs.length ∧ (∀ x ∈ rest, 0 ≤ x ∧ x < 256) ∧ SlR R.m t (b8 rest) ∧ Sat R (lp c t :: I pre) w, fun w => slLen c w, ⟨[], bs, s, rfl, Nat.le_refl _, hbs, hs, hw⟩, ?_⟩
  clear hw
  rintro _ w0 ⟨pre, rest, t, hsc, hrl, hrb, hr, hw⟩
  have hmu : slLen c w0 = t.len := slLen_at hw
  have hl : t.len = rest.length := by have := hr.len; simpa using this
  have hcap := hr.cap
  have stop : ∀ {w}, first rest = none → Sat R (lp c t :: I pre) w → Sat R (I (scan bs)) w := fun hf hw => by
    rw [hsc, scan_none hf, List.append_nil]; exact hw.drop
  refine NilP.mk rfl ⟨t, At.own (eqS hw) (by exact ⟨rfl, trivial⟩), ?_⟩
  refine Br.mk (fun h => ?_) (fun h => ?_)
  rotate_left
  · have h := of_decide_eq_false h
    exact stop (by unfold first; rw [if_neg (by omega)]) hw
  have h8 : 8 ≤ rest.length := by have := of_decide_eq_true h; omega
  have hfirst : first rest = if (valI 0 (rest.take 4)).toNat ≤ 65536 ∧ (valI 0 (rest.take 4)).toNat ≤ rest.length - 8 ∧ crcAdd 0 (rest.take 4 ++ (rest.drop 8).take (valI 0 (rest.take 4)).toNat) = (valI 0 ((rest.drop 4).take 4)).toNat then some ((rest.drop 8).take (valI 0 (rest.take 4)).toNat) else none := by
    unfold first; rw [if_pos h8]
  have hb4 : ∀ x ∈ rest.take 4, 0 ≤ x ∧ x < 256 := fun x hx => hrb x (List.mem_of_mem_take hx)
  have hb8 : ∀ x ∈ (rest.drop 4).take 4, 0 ≤ x ∧ x < 256 := fun x hx => hrb x (List.mem_of_mem_drop (List.mem_of_mem_take hx))
  have hn0 := valI_nn (acc := 0) (Int.le_refl _) hb4
  have hn1 : valI 0 (rest.take 4) < 4294967296 := by
    refine Int.lt_of_lt_of_le (valI_lt (Int.le_refl _) hb4) ?_
    rw [List.length_take, Nat.min_eq_left (by omega)]; decide
  have hm0 := valI_nn (acc := 0) (Int.le_refl _) hb8
  obtain ⟨n, hn⟩ := Int.eq_ofNat_of_zero_le hn0
  rw [hn] at hn1 hfirst
  rw [Int.toNat_natCast] at hfirst
  have r4 : SlR R.m ⟨t.a, 4, t.cap⟩ (b8 (rest.take 4)) := hr.b8take (by omega)
  have r48 : SlR R.m ⟨(sdrop t 4).a, 4, (sdrop t 4).cap⟩ (b8 ((rest.drop 4).take 4)) := (hr.b8drop (k := 4) (by omega)).b8take (by simp; omega)
  refine NilP.mk rfl ⟨t, At.own (eqS hw) (by exact ⟨rfl, trivial⟩), by omega, by omega, ?_⟩
  refine (number4_spec (s := ⟨t.a, 4, t.cap⟩) (xs := rest.take 4) (by simp; omega) hb4 (r4.ro (by simp; omega)) hw).use ?_
  rintro _ w ⟨rfl, hw⟩
  rw [hn]
  refine ⟨_, rfl, fun w => (n ≤ 65536 ∧ n ≤ rest.length - 8) ∧ Sat R (lp c t :: I pre) w, ?_, ?_⟩
  · refine Br.mk (fun h => ?_) (fun h => ?_)
    · have h := of_decide_eq_true h
      exact stop (by rw [hfirst, if_neg]; rintro ⟨h1, _⟩; omega) hw
    · have h := of_decide_eq_false h
      refine NilP.mk rfl ⟨t, At.own (eqS hw) (by exact ⟨rfl, trivial⟩), ?_⟩
      rw [wrap64 (by omega) (by omega), wrap64 (by omega) (by omega)]
      refine Br.mk (fun h2 => ?_) (fun h2 => ?_)
      · have h2 := of_decide_eq_true h2
        exact stop (by rw [hfirst, if_neg]; rintro ⟨_, h1, _⟩; omega) hw
      · have h2 := of_decide_eq_false h2
        exact ⟨⟨by omega, by omega⟩, hw⟩
  clear hw
  rintro _ w ⟨⟨hn2, hn3⟩, hw⟩
  have e8 : IntKind.i64.wrap (8 + IntKind.i64.wrap (n : Int)) = ((8 + n : Nat) : Int) := by
    rw [wrap64 (x := (n : Int)) (by omega) (by omega), wrap64 (by omega) (by omega)]; omega
  have e9 : (((8 + n : Nat) : Int)).toNat - Int.toNat 8 = n := by omega
  have rb : SlR R.m ⟨(sdrop t 8).a, n, (sdrop t 8).cap⟩ (b8 ((rest.drop 8).take n)) := (hr.b8drop (k := 8) (by omega)).b8take (by simp; omega)
  have hbb : ∀ x ∈ (rest.drop 8).take n, 0 ≤ x ∧ x < 256 := fun x hx => hrb x (List.mem_of_mem_drop (List.mem_of_mem_take hx))
  refine NilP.mk rfl ⟨t, At.own (eqS hw) (by exact ⟨rfl, trivial⟩), ?_⟩
  rw [e8, e9]
  refine ⟨by omega, by omega, by omega, by omega, ?_⟩
  refine drw_rule' (Sat R [lp c t, VC.tru]) hw (fun w hw => hw.restTru) fun w hw => ?_
  refine NilP.mk rfl ⟨t, At.own selfS (by exact ⟨rfl, trivial⟩), by omega, by omega, NilP.mk rfl ⟨t, At.own selfS (by exact ⟨rfl, trivial⟩), by omega, by omega, by omega, by omega, ?_⟩⟩
  refine (sum_spec (s := ⟨t.a, 4, t.cap⟩) (xs := rest.take 4) hb4 (r4.ro (by simp; omega)) hw).use ?_
  rintro _ w ⟨rfl, hw⟩
  refine ⟨_, rfl, hw.restTru, ?_⟩
  have hc1 : crcAdd 0 (rest.take 4) < 4294967296 := crcAdd_lt (by omega) hb4
  have hq2 := crcAdd_app 0 (rest.take 4) ((rest.drop 8).take n)
  generalize crcAdd 0 (rest.take 4) = q at hc1 hq2 ⊢
  refine (add_spec (sum := q) (s := ⟨(sdrop t 8).a, n, (sdrop t 8).cap⟩) hc1 hbb (rb.ro (by simp; omega)) hw).use ?_
  rintro _ w ⟨rfl, hw⟩
  refine ⟨_, rfl, hw.restTru, ?_⟩
  rw [hq2]
  refine (number4_spec (s := ⟨(sdrop t 4).a, 4, (sdrop t 4).cap⟩) (xs := (rest.drop 4).take 4) (by simp; omega) hb8 (r48.ro (by simp; omega)) hw).use ?_
  rintro _ w ⟨rfl, hw⟩
  refine ⟨_, rfl, hw.restTru, ?_⟩
  generalize hC : crcAdd 0 (rest.take 4 ++ (rest.drop 8).take n) = C at hfirst ⊢
  refine Br.ne (fun h => ?_) (fun h => ?_)
  · exact stop (by rw [hfirst, if_neg]; rintro ⟨_, _, h1⟩; omega) hw
  have hsome : first rest = some ((rest.drop 8).take n) := by rw [hfirst, if_pos ⟨hn2, hn3, by omega⟩]
  have hxl : ((rest.drop 8).take n).length = n := by simp; omega
  have hss := scan_some hsome
  rw [hxl] at hss
  refine (hY pre ((rest.drop 8).take n) w (lp c t) ⟨(sdrop t 8).a, n, (sdrop t 8).cap⟩ ⟨scan (rest.drop (8 + n)), by rw [hsc, hss]; simp⟩ rb hw).imp ?_
  rintro fn ⟨tmps, assign, body, hrun, hround⟩
  refine ⟨tmps, assign, body, hrun, RoundIn.mono hround ?_⟩
  rintro e w ⟨rfl, hw⟩
  refine ⟨true, rfl, hw.restTru, ?_⟩
  refine Br.f rfl ?_
  refine NilP.mk rfl ⟨t, At.own (eqS hw) (by exact ⟨rfl, trivial⟩), ?_⟩
  refine ⟨by omega, by omega, ?_⟩
  rw [Int.toNat_natCast]
  refine store_rule hw (by kernel_rfl) rfl (by simp [Value.cells]) fun w hw => ?_
  have hw : Sat R (lp c (sdrop t (8 + n)) :: I (pre ++ [(rest.drop 8).take n])) w := hw
  refine ⟨⟨pre ++ [(rest.drop 8).take n], rest.drop (8 + n), sdrop t (8 + n), ?_, by simp; omega, fun x hx => hrb x (List.mem_of_mem_drop hx), hr.b8drop (by omega), hw⟩, ?_⟩
  · rw [hsc, hss]; simp
  · show slLen c w < slLen c w0
    rw [slLen_at hw, hmu]
    show t.len - (8 + n) < t.len
    omega

end Go.Proofs.YtgfneeoponiibaaGreat
/- Package record: Scan, the whole. Condition: bounds on lengths. -/
namespace Go.Proofs.YtgfneeoponiibaaGreat
open Go Go.VC

variable {R : Cx} {Hs Rest : List HP} {w : World}

/-- Slices of bytes, each of its own, in a slice of one's own. -/
def BytesL (l : Sl) (xss : List (List Int)) : HP :=
  exs fun ps : List (Sl × List Int) => Star [pur (ps.map (·.2) = xss), Own l 25 (ps.map fun p => Sl.v p.1), Star (ps.map fun p => Own p.1 5 (b8 p.2))]
theorem Sat.bytesL {l : Sl} {xss : List (List Int)} : Sat R (BytesL l xss :: Hs) w ↔ ∃ ps : List (Sl × List Int), ps.map (·.2) = xss ∧ Sat R (Own l 25 (ps.map fun p => Sl.v p.1) :: Star (ps.map fun p => Own p.1 5 (b8 p.2)) :: Hs) w := by
  unfold BytesL
  rw [Sat.exs]
  exact ⟨fun ⟨ps, h⟩ => let h := Sat.pur.1 (Sat.star.1 h); ⟨ps, h.1, h.2⟩, fun ⟨ps, h, hs⟩ => ⟨ps, Sat.star.2 (Sat.pur.2 ⟨h, hs⟩)⟩⟩
def OutAt (b : Nat) (xss : List (List Int)) : HP := exs fun l : Sl => Star [pts b (.cells [.slice l.a l.len l.cap].toArray 135 (0, 0)), BytesL l xss]
theorem Sat.outAt {b : Nat} {xss : List (List Int)} : Sat R (OutAt b xss :: Hs) w ↔ ∃ l : Sl, Sat R (pts b (.cells [.slice l.a l.len l.cap].toArray 135 (0, 0)) :: BytesL l xss :: Hs) w := by
  unfold OutAt
  rw [Sat.exs]
  exact ⟨fun ⟨s, h⟩ => ⟨s, Sat.star.1 h⟩, fun ⟨s, h⟩ => ⟨s, Sat.star.2 h⟩⟩

theorem elBB : El Tryz.prog 135 135 25 24 := ⟨Tryz.underlying135, ⟨_, Tryz.underlying135⟩, by kernel_rfl⟩

theorem one_sl (ps : List (Sl × List Int)) : oneAll (ps.map fun p => Sl.v p.1) = true := by unfold oneAll; simp [Value.oneCell', Sl.v]

theorem scanLen_app : ∀ a b : List (List Int), scanLen (a ++ b) = scanLen a + scanLen b
  | [], b => by simp [scanLen]
  | x :: a, b => by rw [List.cons_append, scanLen_cons, scanLen_cons, scanLen_app a b]; omega
theorem len_scanLen : ∀ a : List (List Int), 8 * a.length ≤ scanLen a
  | [] => by simp [scanLen]
  | x :: a => by rw [scanLen_cons, List.length_cons]; have := len_scanLen a; omega
theorem scanLen_le : ∀ (n : Nat) (bs : List Int), bs.length ≤ n → scanLen (scan bs) ≤ bs.length := fun n => by
  induction n with
  | zero =>
    intro bs h
    cases hf : first bs with
    | none => rw [scan_none hf]; simp [scanLen]
    | some b => have := (first_len hf).1; omega
  | succ n ih =>
    intro bs h
    cases hf : first bs with
    | none => rw [scan_none hf]; simp [scanLen]
    | some b =>
      have hb := (first_len hf).1
      rw [scan_some hf, scanLen_cons]
      have := ih (bs.drop (8 + b.length)) (by simp; omega)
      rw [List.length_drop] at this
      omega
theorem scanLen_pre {pre bs} (h : pre <+: scan bs) : scanLen pre ≤ bs.length := by
  obtain ⟨r, hr⟩ := h
  have := scanLen_le _ bs (Nat.le_refl _)
  rw [← hr, scanLen_app] at this
  omega

/-- One round's body. -/
theorem body_spec {b4 b5 : Nat} {s : Sl} {x : List Int} {pre : List (List Int)} {K : World → Prop} (hs : Ro R s (b8 x)) (hl : scanLen (pre ++ [x]) ≤ 1099511627776)
    (hw : Sat R (OutAt b4 pre :: pts b5 (.cells [.int .i64 (scanLen pre : Nat)].toArray 3 (0, 0)) :: Hs) w)
    (k : ∀ w, Sat R (OutAt b4 (pre ++ [x]) :: pts b5 (.cells [.int .i64 (scanLen (pre ++ [x]) : Nat)].toArray 3 (0, 0)) :: Hs) w → K w) :
    Bb92 (some ⟨b4, 0, none⟩) (some ⟨b5, 0, none⟩) s K w := by
  have hsl : s.len = x.length := by have := hs.len; simpa using this
  have happ := scanLen_app pre [x]
  rw [scanLen_cons] at happ
  have hsn : scanLen [] = 0 := rfl
  have hpl := len_scanLen pre
  obtain ⟨l, hw⟩ := Sat.outAt.1 hw
  refine drw_rule' (Sat R [pts b4 (.cells [.slice l.a l.len l.cap].toArray 135 (0, 0)), VC.tru]) hw (fun w hw => hw.restTru) fun w hw => ?_
  refine NilP.mk rfl ⟨l, At.own selfS (by exact ⟨rfl, trivial⟩), ?_⟩
  refine (clone_spec hs (by omega) hw).use ?_
  rintro _ w ⟨t, rfl, hw⟩
  refine ⟨t, rfl, hw.swap.restTru, ?_⟩
  refine new_rule hw fun b13 w hw => ?_
  have hw : Sat R (pts b13 (.cells [Value.slice t.a t.len t.cap].toArray 25 (0, 0)) :: Own t 5 (b8 x) :: pts b4 (.cells [.slice l.a l.len l.cap].toArray 135 (0, 0)) :: BytesL l pre :: pts b5 (.cells [.int .i64 (scanLen pre : Nat)].toArray 3 (0, 0)) :: Hs) w := hw
  have hw2 : Sat R (pts b4 (.cells [.slice l.a l.len l.cap].toArray 135 (0, 0)) :: BytesL l pre :: pts b5 (.cells [.int .i64 (scanLen pre : Nat)].toArray 3 (0, 0)) :: pts b13 (.cells [Value.slice t.a t.len t.cap].toArray 25 (0, 0)) :: Own t 5 (b8 x) :: Hs) w := hw.arr
  refine ⟨hw2.restTru, ?_⟩
  have hw3 : Sat R (BytesL l pre :: pts b4 (.cells [.slice l.a l.len l.cap].toArray 135 (0, 0)) :: pts b5 (.cells [.int .i64 (scanLen pre : Nat)].toArray 3 (0, 0)) :: pts b13 (.cells [Value.slice t.a t.len t.cap].toArray 25 (0, 0)) :: Own t 5 (b8 x) :: Hs) w := hw2.swap
  obtain ⟨ps, hps, hw4⟩ := Sat.bytesL.1 hw3
  have hpsl : ps.length = pre.length := by rw [← hps]; simp
  have hsrc : Src Tryz.prog 1 135 (.slice (some ⟨b13, 0, none⟩) 1 1) 1 [Value.slice t.a t.len t.cap] w := Src_one elBB.hk 1 hw rfl
  refine append_rule elBB (s := l) hw4 hsrc (one_sl ps) (by rw [List.length_map]; omega) (by rw [List.length_map]; omega) fun l2 w hw => ?_
  have hw : Sat R (pts b4 (.cells [.slice l.a l.len l.cap].toArray 135 (0, 0)) :: Own l2 25 ((ps.map fun p => Sl.v p.1) ++ [Value.slice t.a t.len t.cap]) :: Star (ps.map fun p => Own p.1 5 (b8 p.2)) :: pts b5 (.cells [.int .i64 (scanLen pre : Nat)].toArray 3 (0, 0)) :: pts b13 (.cells [Value.slice t.a t.len t.cap].toArray 25 (0, 0)) :: Own t 5 (b8 x) :: Hs) w := hw.arr
  refine store_rule hw (by kernel_rfl) rfl (by simp [Value.cells]) fun w hw => ?_
  have hw := hw.re (pts b4 (.cells [.slice l2.a l2.len l2.cap].toArray 135 (0, 0)))
  have hw : Sat R (pts b5 (.cells [.int .i64 (scanLen pre : Nat)].toArray 3 (0, 0)) :: pts b4 (.cells [.slice l2.a l2.len l2.cap].toArray 135 (0, 0)) :: Own l2 25 ((ps.map fun p => Sl.v p.1) ++ [Value.slice t.a t.len t.cap]) :: Own t 5 (b8 x) :: Star (ps.map fun p => Own p.1 5 (b8 p.2)) :: pts b13 (.cells [Value.slice t.a t.len t.cap].toArray 25 (0, 0)) :: Hs) w := hw.arr
  refine NilP.mk rfl ⟨_, At.own (eqS hw) (by exact ⟨rfl, trivial⟩), ?_⟩
  rw [hsl, wrap64 (x := 8 + (x.length : Int)) (by omega) (by omega), wrap64 (by omega) (by omega)]
  refine store_rule hw (by kernel_rfl) rfl (by simp [Value.cells]) fun w hw => k w ?_
  have e : ((scanLen pre : Nat) : Int) + (8 + (x.length : Int)) = ((scanLen (pre ++ [x]) : Nat) : Int) := by rw [happ, hsn]; omega
  rw [e] at hw
  have hw : Sat R (pts b5 (.cells [.int .i64 (scanLen (pre ++ [x]) : Nat)].toArray 3 (0, 0)) :: pts b4 (.cells [.slice l2.a l2.len l2.cap].toArray 135 (0, 0)) :: Own l2 25 ((ps.map fun p => Sl.v p.1) ++ [Value.slice t.a t.len t.cap]) :: Own t 5 (b8 x) :: Star (ps.map fun p => Own p.1 5 (b8 p.2)) :: pts b13 (.cells [Value.slice t.a t.len t.cap].toArray 25 (0, 0)) :: Hs) w := hw
  have hw : Sat R (pts b4 (.cells [.slice l2.a l2.len l2.cap].toArray 135 (0, 0)) :: Own l2 25 ((ps.map fun p => Sl.v p.1) ++ [Value.slice t.a t.len t.cap]) :: Own t 5 (b8 x) :: Star (ps.map fun p => Own p.1 5 (b8 p.2)) :: pts b13 (.cells [Value.slice t.a t.len t.cap].toArray 25 (0, 0)) :: pts b5 (.cells [.int .i64 (scanLen (pre ++ [x]) : Nat)].toArray 3 (0, 0)) :: Hs) w := hw.arr
  refine Sat.outAt.2 ⟨l2, hw.cons fun R' hw => Sat.bytesL.2 ⟨ps ++ [(t, x)], by simp [hps], ?_⟩⟩
  have e2 : ((ps ++ [(t, x)]).map fun p => Sl.v p.1) = (ps.map fun p => Sl.v p.1) ++ [Value.slice t.a t.len t.cap] := by simp [Sl.v]
  rw [e2]
  refine hw.cons fun R' hw => ?_
  refine Sat.star.2 ?_
  rw [List.map_append, List.append_assoc]
  have h3 : Sat R' (Star (ps.map fun p => Own p.1 5 (b8 p.2)) :: Own t 5 (b8 x) :: pts b13 (.cells [Value.slice t.a t.len t.cap].toArray 25 (0, 0)) :: pts b5 (.cells [.int .i64 (scanLen (pre ++ [x]) : Nat)].toArray 3 (0, 0)) :: Hs) w := hw.swap
  have h4 := Sat.star.1 h3
  have dropB : ∀ (l : List HP) (R : Cx), Sat R (l ++ (Own t 5 (b8 x) :: pts b13 (.cells [Value.slice t.a t.len t.cap].toArray 25 (0, 0)) :: pts b5 (.cells [.int .i64 (scanLen (pre ++ [x]) : Nat)].toArray 3 (0, 0)) :: Hs)) w → Sat R (l ++ (Own t 5 (b8 x) :: pts b5 (.cells [.int .i64 (scanLen (pre ++ [x]) : Nat)].toArray 3 (0, 0)) :: Hs)) w := fun l => by
    induction l with
    | nil => exact fun R h => h.cons fun _ h => h.drop
    | cons A l ih => exact fun R h => h.cons fun _ h => ih _ h
  exact dropB _ _ h4

end Go.Proofs.YtgfneeoponiibaaGreat
/- Package record: Scan's contract. Condition: bounds on lengths. -/
namespace Go.Proofs.YtgfneeoponiibaaGreat
open Go Go.VC

variable {R : Cx} {Hs Rest : List HP} {w : World}

theorem env_at (a : Act) (i : Nat) : a.env i = a.tmps.getD i undef := rfl

/-- One round. -/
theorem round_spec {b4 b5 L D fn m : Nat} {tmps : Array Value} {s : Sl} {x : List Int} {pre : List (List Int)} {W : World} (hsz : tmps.size = 22) (h4 : tmps.getD 4 undef = .pointer (some ⟨b4, 0, none⟩)) (h5 : tmps.getD 5 undef = .pointer (some ⟨b5, 0, none⟩))
    (hs : Ro R s (b8 x)) (hl : scanLen (pre ++ [x]) ≤ 1099511627776)
    (hw : Sat R (pts L (lrec .ready fn tmps (lpPs Tryz.f92) (lpAssign Tryz.f92) (lpBody Tryz.f92) D) :: OutAt b4 pre :: pts b5 (.cells [.int .i64 (scanLen pre : Nat)].toArray 3 (0, 0)) :: Hs) W) :
    YieldAt Fence.wide m Tryz.prog L #[.slice s.a s.len s.cap] W fun e W' => e = .returned (.bool true) ∧
      Sat R (pts L (lrec .ready fn tmps (lpPs Tryz.f92) (lpAssign Tryz.f92) (lpBody Tryz.f92) D) :: OutAt b4 (pre ++ [x]) :: pts b5 (.cells [.int .i64 (scanLen (pre ++ [x]) : Nat)].toArray 3 (0, 0)) :: Hs) W' := by
  have hps := ps92
  refine round_rule hw (by rw [hps]; rfl) ?_
  have hY : ∀ l args w Q, (fun (_ : Nat) (_ : List Value) (_ : World) (_ : Ending → World → Prop) => False) l args w Q → YieldAt (wf (some L)) (m - 1) Tryz.prog l args.toArray w Q := fun _ _ _ _ h => h.elim
  have hoka := oka92
  have hokb := okb92
  simp only [Bool.and_eq_true] at hoka hokb
  have htm : ((lpPs Tryz.f92).zip #[Value.slice s.a s.len s.cap]).foldl (fun t (p, v) => t.setIfInBounds p v) tmps = tmps.setIfInBounds 9 (.slice s.a s.len s.cap) := by
    rw [hps]; simp
  rw [htm]
  generalize hA : ({ tmps := tmps.setIfInBounds 9 (.slice s.a s.len s.cap), defers := [] } : Act) = A
  have hAs : A.tmps.size = 22 := by rw [← hA]; simp [hsz]
  have hAd : A.defers = [] := by rw [← hA]
  have hA9 : A.env 9 = .slice s.a s.len s.cap := by rw [← hA, env_at]; simp [hsz]
  have hA4 : A.env 4 = .pointer (some ⟨b4, 0, none⟩) := by rw [← h4, ← hA, env_at]; simp
  have hA5 : A.env 5 = .pointer (some ⟨b5, 0, none⟩) := by rw [← h5, ← hA, env_at]; simp
  have h1 : deny Tryz.prog cl (fun (_ : Nat) (_ : List Value) (_ : World) (_ : Ending → World → Prop) => False) (lpAssign Tryz.f92) .leaf A.env (noC fun ρ w => ρ 4 = .pointer (some ⟨b4, 0, none⟩) ∧ ρ 5 = .pointer (some ⟨b5, 0, none⟩) ∧ ρ 6 = .slice s.a s.len s.cap ∧ w = W) W := by
    rw [← env_set_same hA9, eqa92 ]
    exact ⟨hA4, hA5, rfl, rfl⟩
  refine Code.wpIn_mono ?_ (deny_sound (r := some L) (nn := m) (n := 22) cl_ok hY mixed _ _ (fun i => memB i [6]) A.env hoka.1.1 hoka.1.2 hoka.2 A _ W (Kept.refl hAs hAd) h1)
  intro e a1 w1 hq
  cases e with
  | exit i => exact hq.2.elim
  | ret => exact hq.2.elim
  | goto t => exact hq.elim
  | panic c => exact hq.elim
  | outgrown => exact hq.elim
  | normal =>
  obtain ⟨hk, e4, e5, e6, rfl⟩ := hq
  refine ⟨hw, fun W2 hw2 => ?_⟩
  have hw3 : Sat R (OutAt b4 pre :: pts b5 (.cells [.int .i64 (scanLen pre : Nat)].toArray 3 (0, 0)) :: pts L (lrec .busy fn tmps (lpPs Tryz.f92) (lpAssign Tryz.f92) (lpBody Tryz.f92) D) :: Hs) W2 := hw2.arr
  have h2 : deny Tryz.prog cl (fun (_ : Nat) (_ : List Value) (_ : World) (_ : Ending → World → Prop) => False) (lpBody Tryz.f92) .leaf a1.env (noC fun _ w => Sat R (OutAt b4 (pre ++ [x]) :: pts b5 (.cells [.int .i64 (scanLen (pre ++ [x]) : Nat)].toArray 3 (0, 0)) :: pts L (lrec .busy fn tmps (lpPs Tryz.f92) (lpAssign Tryz.f92) (lpBody Tryz.f92) D) :: Hs) w) W2 := by
    have : a1.env = ((a1.env.set 4 (.pointer (some ⟨b4, 0, none⟩))).set 5 (.pointer (some ⟨b5, 0, none⟩))).set 6 (.slice s.a s.len s.cap) := by
      rw [env_set_same e4, env_set_same e5, env_set_same e6]
    rw [this, eqb92 ]
    exact body_spec hs hl hw3 fun w hw => hw
  refine Code.wpIn_mono ?_ (deny_sound (r := some L) (nn := m) (n := 22) cl_ok hY mixed _ _ (fun _ => true) a1.env hokb.1.1 hokb.1.2 hokb.2 a1 _ W2 (Kept.refl hk.size hk.defers) h2)
  intro e a2 w2 hq
  cases e with
  | exit i => exact hq.2.elim
  | ret => exact hq.2.elim
  | goto t => exact hq.elim
  | panic c => exact hq.elim
  | outgrown => exact hq.elim
  | normal =>
  refine ⟨rfl, OutAt b4 (pre ++ [x]) :: pts b5 (.cells [.int .i64 (scanLen (pre ++ [x]) : Nat)].toArray 3 (0, 0)) :: Hs, hq.2.arr, fun W4 hw4 => ⟨rfl, hw4⟩⟩

theorem scan_spec {s : Sl} {bs : List Int} (hbs : ∀ x ∈ bs, 0 ≤ x ∧ x < 256) (hlen : bs.length ≤ 1099511627776) (hs : SlR R.m s (b8 bs)) (hw : Sat R Hs w) :
    Gets Tryz.prog 92 #[.slice s.a s.len s.cap] w fun v w' => ∃ l : Sl, v = .tuple #[.slice l.a l.len l.cap, .int .i64 (scanLen (scan bs) : Nat)] ∧ Sat R (BytesL l (scan bs) :: Hs) w' := by
  apply call92
  refine new_rule hw fun b4 w hw => new_rule hw fun b5 w hw => ?_
  have hw : Sat R (pts b5 (.cells [.int .i64 0].toArray 3 (0, 0)) :: pts b4 (.cells [.slice none 0 0].toArray 135 (0, 0)) :: Hs) w := hw
  refine store_rule hw (by kernel_rfl) rfl (by simp [Value.cells]) fun w hw => ?_
  have hw : Sat R (pts b4 (.cells [.slice none 0 0].toArray 135 (0, 0)) :: pts b5 (.cells [.int .i64 (scanLen [] : Nat)].toArray 3 (0, 0)) :: Hs) w := hw.swap
  have hw : Sat R (OutAt b4 [] :: pts b5 (.cells [.int .i64 (scanLen [] : Nat)].toArray 3 (0, 0)) :: Hs) w :=
    Sat.outAt.2 ⟨⟨none, 0, 0⟩, hw.cons fun R' h => Sat.bytesL.2 ⟨[], rfl, Own.nil (Sat.star.2 h)⟩⟩
  refine (records_spec (s := s) hw).use ?_
  rintro _ w ⟨c, rfl, hw⟩
  refine ⟨_, rfl, RngV.mk (by kernel_rfl) hw ?_⟩
  rintro nn tmps fn D L W1 hsz ⟨h4, h5, _⟩ hw1
  have hw2 : Sat R (lp c s :: (fun pre => pts L (lrec .ready fn tmps (lpPs Tryz.f92) (lpAssign Tryz.f92) (lpBody Tryz.f92) D) :: OutAt b4 pre :: pts b5 (.cells [.int .i64 (scanLen pre : Nat)].toArray 3 (0, 0)) :: pts D (.deferred (some [])) :: Hs) []) W1 := hw1.arr
  refine CallsIn.mono (iter_spec (nn := nn) (L := L) hbs hlen hs (fun pre => pts L (lrec .ready fn tmps (lpPs Tryz.f92) (lpAssign Tryz.f92) (lpBody Tryz.f92) D) :: OutAt b4 pre :: pts b5 (.cells [.int .i64 (scanLen pre : Nat)].toArray 3 (0, 0)) :: pts D (.deferred (some [])) :: Hs) ?_ hw2) ?_
  · intro pre x W A t hpre ht hw
    have hsl := scanLen_pre hpre
    have hxl := scanLen_app pre [x]
    rw [scanLen_cons] at hxl
    have hw' : Sat R (pts L (lrec .ready fn tmps (lpPs Tryz.f92) (lpAssign Tryz.f92) (lpBody Tryz.f92) D) :: OutAt b4 pre :: pts b5 (.cells [.int .i64 (scanLen pre : Nat)].toArray 3 (0, 0)) :: A :: pts D (.deferred (some [])) :: Hs) W := hw.arr
    obtain ⟨f', t', a', b', hrun, hround⟩ := round_spec (m := nn - 1) hsz h4 h5 (ht.ro (by simp; omega)) (by omega) hw'
    exact ⟨f', t', a', b', hrun, RoundIn.mono hround fun e W' ⟨he, hw⟩ => ⟨he, hw.arr⟩⟩
  · rintro e W2 ⟨hv, hw⟩
    refine ⟨hv, OutAt b4 (scan bs) :: pts b5 (.cells [.int .i64 (scanLen (scan bs) : Nat)].toArray 3 (0, 0)) :: Hs, hw.arr, fun W3 hw3 => ?_⟩
    have hw3 : Sat R (OutAt b4 (scan bs) :: pts D (.deferred (some [])) :: pts b5 (.cells [.int .i64 (scanLen (scan bs) : Nat)].toArray 3 (0, 0)) :: Hs) W3 := hw3.swap
    obtain ⟨l, hw4⟩ := Sat.outAt.1 hw3
    refine drw_rule hw4 fun w hw => ?_
    refine ⟨l, At.own selfS (by exact ⟨rfl, trivial⟩), ?_⟩
    refine ⟨_, At.own selfS (by exact ⟨rfl, trivial⟩), ?_⟩
    refine ⟨R, pts b4 (.cells [.slice l.a l.len l.cap].toArray 135 (0, 0)) :: BytesL l (scan bs) :: pts b5 (.cells [.int .i64 (scanLen (scan bs) : Nat)].toArray 3 (0, 0)) :: Hs, hw.arr, fun w' hw' => ⟨l, rfl, ?_⟩⟩
    exact hw'.drop.cons fun R' h => h.drop

end Go.Proofs.YtgfneeoponiibaaGreat
/- The formulas of functions of this seat's translation, printed by a program of mine off the translation; each is proved equal to 'fnF' of the function's body, so it is enough for the call. No condition. -/
namespace Go.Proofs.YtgfneeoponiibaaGreat
open Go Go.VC
set_option linter.unusedVariables false
/-- jetway/disk.New. -/
def B14 (room0 : Int) (K : Value → World → Prop) (w : World) : Prop :=
  Br (decide (room0 < 1))
   (K (.tuple #[.pointer none, .int .i64 1]) w)
   (Br (decide (room0 > 16777216))
     (K (.tuple #[.pointer none, .int .i64 1]) w)
     (New (.map #[] 0) (fun b_t11 w_1 =>
      New (.cells #[.int .i64 room0, .int .i64 0, .map ((some b_t11)), .int .i64 ((-1)), .int .i64 ((-1)), .bool false] 86 (0, 0)) (fun b_t13 w_2 =>
      K (.tuple #[.pointer ((some ⟨b_t13, 0, none⟩)), .int .i64 0]) w_2) w_1) w))

def sk14 : Sk := .leaf
theorem ok14 : fnOk Tryz.prog Tryz.f14.ntmps Tryz.f14 sk14 = true := by kernel_rfl
theorem eq14 (room0 : Int) (K : Value → World → Prop) (w : World) : fnF Tryz.prog cl Tryz.f14 sk14 [.int .i64 room0] K w = B14 room0 K w := by kernel_rfl
theorem call14 (room0 : Int) (K : Value → World → Prop) (w : World) (h : B14 room0 K w) : Gets Tryz.prog 14 #[.int .i64 room0] w K :=
  calls_of (sk := sk14) cl_ok mixed Tryz.func14 ok14 (args := [.int .i64 room0]) (Nat.le_of_ble_eq_true (by kernel_rfl)) (by rw [eq14]; exact h)

/-- (*jetway/disk.Disk).Append. -/
def B30 (d0 : Option Addr) (name1 : ByteArray) (b2 : Sl) (K : Value → World → Prop) (w : World) : Prop :=
  New (.cells #[.pointer d0] 38 (0, 0)) (fun b_d3 w_1 =>
  New (.cells #[.string name1] 9 (0, 0)) (fun b_name4 w_2 =>
  New (.cells #[.slice b2.a b2.len b2.cap] 25 (0, 0)) (fun b_b5 w_3 =>
  ∃ t7 : Option Addr, (At (fun w' => w' = w_3) ⟨b_d3, 0, none⟩ [.pointer t7]) ∧
  ∃ t9 : ByteArray, (At (fun w' => w' = w_3) ⟨b_name4, 0, none⟩ [.string t9]) ∧
  New (.cells #[.string t9] 9 (0, 0)) (fun b_t10 w_4 =>
  Calls Tryz.prog 65 #[.pointer t7, .func (.func 66) #[] #[.pointer ((some ⟨b_d3, 0, none⟩)), .pointer ((some ⟨b_b5, 0, none⟩)), .pointer ((some ⟨b_name4, 0, none⟩))], .slice ((some ⟨b_t10, 0, none⟩)) 1 1] w_4 fun e w_5 =>
  ∃ t11 : Int, (e = .returned (.int .i64 t11)) ∧
  K (.int .i64 t11) w_5) w_3) w_2) w_1) w

def sk30 : Sk := .leaf
theorem ok30 : fnOk Tryz.prog Tryz.f30.ntmps Tryz.f30 sk30 = true := by kernel_rfl
theorem eq30 (d0 : Option Addr) (name1 : ByteArray) (b2 : Sl) (K : Value → World → Prop) (w : World) : fnF Tryz.prog cl Tryz.f30 sk30 [.pointer d0, .string name1, .slice b2.a b2.len b2.cap] K w = B30 d0 name1 b2 K w := by kernel_rfl
theorem call30 (d0 : Option Addr) (name1 : ByteArray) (b2 : Sl) (K : Value → World → Prop) (w : World) (h : B30 d0 name1 b2 K w) : Gets Tryz.prog 30 #[.pointer d0, .string name1, .slice b2.a b2.len b2.cap] w K :=
  calls_of (sk := sk30) cl_ok mixed Tryz.func30 ok30 (args := [.pointer d0, .string name1, .slice b2.a b2.len b2.cap]) (Nat.le_of_ble_eq_true (by kernel_rfl)) (by rw [eq30]; exact h)

/-- (*jetway/disk.Disk).Sync. -/
def B89 (d0 : Option Addr) (name1 : ByteArray) (K : Value → World → Prop) (w : World) : Prop :=
  Calls Tryz.prog 115 #[.pointer d0, .string name1, .func (.func 118) #[] #[]] w fun e w_1 =>
  ∃ t8 : Value, (e = .returned (t8)) ∧
  New (.cells #[.string name1] 9 (0, 0)) (fun b_t10 w_2 =>
  Calls Tryz.prog 65 #[.pointer d0, t8, .slice ((some ⟨b_t10, 0, none⟩)) 1 1] w_2 fun e_1 w_3 =>
  ∃ t11 : Int, (e_1 = .returned (.int .i64 t11)) ∧
  K (.int .i64 t11) w_3) w_1

def sk89 : Sk := .leaf
theorem ok89 : fnOk Tryz.prog Tryz.f89.ntmps Tryz.f89 sk89 = true := by kernel_rfl
theorem eq89 (d0 : Option Addr) (name1 : ByteArray) (K : Value → World → Prop) (w : World) : fnF Tryz.prog cl Tryz.f89 sk89 [.pointer d0, .string name1] K w = B89 d0 name1 K w := by kernel_rfl
theorem call89 (d0 : Option Addr) (name1 : ByteArray) (K : Value → World → Prop) (w : World) (h : B89 d0 name1 K w) : Gets Tryz.prog 89 #[.pointer d0, .string name1] w K :=
  calls_of (sk := sk89) cl_ok mixed Tryz.func89 ok89 (args := [.pointer d0, .string name1]) (Nat.le_of_ble_eq_true (by kernel_rfl)) (by rw [eq89]; exact h)

/-- (*jetway/disk.Disk).Read. -/
def B91 (d0 : Option Addr) (name1 : ByteArray) (K : Value → World → Prop) (w : World) : Prop :=
  NilP d0 fun a_t10 =>
  ∃ t12 : Bool, (At (fun w' => w' = w) ⟨a_t10.block, a_t10.off + 5, none⟩ [.bool t12]) ∧
  Br t12
   (K (.tuple #[.slice none 0 0, .int .i64 5]) w)
   (New (.cells #[.string name1] 9 (0, 0)) (fun b_t15 w_1 =>
    Calls Tryz.prog 102 #[.slice ((some ⟨b_t15, 0, none⟩)) 1 1] w_1 fun e w_2 =>
    ∃ t16 : Bool, (e = .returned (.bool t16)) ∧
    Br (!t16)
     (K (.tuple #[.slice none 0 0, .int .i64 1]) w_2)
     (NilP d0 fun a_t20 =>
      ∃ t22 : Option Nat, (At (fun w' => w' = w_2) ⟨a_t20.block, a_t20.off + 2, none⟩ [.map t22]) ∧
      ∃ t24 : Option Addr, ∃ t24_1 : Bool, (∀ w', (fun w' => w' = w_2) w' → ((Instr.lookup 84 (.map t22) (.string name1) true)).run Tryz.prog w' = .ok (.tuple #[.pointer t24, .bool t24_1]) w') ∧
      Br (!t24_1)
       (K (.tuple #[.slice none 0 0, .int .i64 2]) w_2)
       (NilP t24 fun a_t30 =>
        ∃ t32 : Sl, (At (fun w' => w' = w_2) (Addr.add a_t30 0) [.slice t32.a t32.len t32.cap]) ∧
        Calls Tryz.prog 77 #[.slice t32.a t32.len t32.cap] w_2 fun e_1 w_3 =>
        ∃ t33 : Sl, (e_1 = .returned (.slice t33.a t33.len t33.cap)) ∧
        K (.tuple #[.slice t33.a t33.len t33.cap, .int .i64 0]) w_3))) w)

def sk91 : Sk := .leaf
theorem ok91 : fnOk Tryz.prog Tryz.f91.ntmps Tryz.f91 sk91 = true := by kernel_rfl
theorem eq91 (d0 : Option Addr) (name1 : ByteArray) (K : Value → World → Prop) (w : World) : fnF Tryz.prog cl Tryz.f91 sk91 [.pointer d0, .string name1] K w = B91 d0 name1 K w := by kernel_rfl
theorem call91 (d0 : Option Addr) (name1 : ByteArray) (K : Value → World → Prop) (w : World) (h : B91 d0 name1 K w) : Gets Tryz.prog 91 #[.pointer d0, .string name1] w K :=
  calls_of (sk := sk91) cl_ok mixed Tryz.func91 ok91 (args := [.pointer d0, .string name1]) (Nat.le_of_ble_eq_true (by kernel_rfl)) (by rw [eq91]; exact h)

/-- (*jetway/disk.Disk).change. -/
def B65 (d0 : Option Addr) (make1 : Value) (names2 : Sl) (K : Value → World → Prop) (w : World) : Prop :=
  Calls Tryz.prog 102 #[.slice names2.a names2.len names2.cap] w fun e w_1 =>
  ∃ t9 : Bool, (e = .returned (.bool t9)) ∧
  Br (!t9)
   (K (.int .i64 1) w_1)
   (NilP d0 fun a_t13 =>
    ∃ t15 : Bool, (At (fun w' => w' = w_1) ⟨a_t13.block, a_t13.off + 5, none⟩ [.bool t15]) ∧
    Br t15
     (K (.int .i64 5) w_1)
     (NilP d0 fun a_t18 =>
      Calls Tryz.prog 103 #[.pointer ((some ⟨a_t18.block, a_t18.off + 4, none⟩))] w_1 fun e_1 w_2 =>
      ∃ t20 : Bool, (e_1 = .returned (.bool t20)) ∧
      Br t20
       (NilP d0 fun a_t22 =>
        ∃ w_3 : World, ((Instr.storeAt 4 (.pointer ((some ⟨a_t22.block, a_t22.off + 5, none⟩))) (.bool true)).run Tryz.prog w_2 = .ok () w_3) ∧
        K (.int .i64 5) w_3)
       (NilP d0 fun a_t26 =>
        Calls Tryz.prog 103 #[.pointer ((some ⟨a_t26.block, a_t26.off + 3, none⟩))] w_2 fun e_2 w_4 =>
        ∃ t28 : Bool, (e_2 = .returned (.bool t28)) ∧
        Br t28
         (K (.int .i64 4) w_4)
         (CalW Tryz.prog cl make1 [] w_4 fun e_3 w_5 =>
          ∃ t30 : Int, (e_3 = .returned (.int .i64 t30)) ∧
          K (.int .i64 t30) w_5))))

def sk65 : Sk := .leaf
theorem ok65 : fnOk Tryz.prog Tryz.f65.ntmps Tryz.f65 sk65 = true := by kernel_rfl
theorem eq65 (d0 : Option Addr) (make1 : Value) (names2 : Sl) (K : Value → World → Prop) (w : World) : fnF Tryz.prog cl Tryz.f65 sk65 [.pointer d0, make1, .slice names2.a names2.len names2.cap] K w = B65 d0 make1 names2 K w := by kernel_rfl
theorem call65 (d0 : Option Addr) (make1 : Value) (names2 : Sl) (K : Value → World → Prop) (w : World) (h : B65 d0 make1 names2 K w) : Gets Tryz.prog 65 #[.pointer d0, make1, .slice names2.a names2.len names2.cap] w K :=
  calls_of (sk := sk65) cl_ok mixed Tryz.func65 ok65 (args := [.pointer d0, make1, .slice names2.a names2.len names2.cap]) (Nat.le_of_ble_eq_true (by kernel_rfl)) (by rw [eq65]; exact h)

/-- (*jetway/disk.Disk).Append$1. -/
def B66 (c0 : Option Addr) (c1 : Option Addr) (c2 : Option Addr) (K : Value → World → Prop) (w : World) : Prop :=
  Drw w fun S w_1 =>
  NilP c0 fun a_t6 =>
  ∃ t6 : Option Addr, (At S a_t6 [.pointer t6]) ∧
  NilP t6 fun a_t7 =>
  ∃ t9 : Int, (At S ⟨a_t7.block, a_t7.off + 1, none⟩ [.int .i64 t9]) ∧
  NilP c1 fun a_t10 =>
  ∃ t10 : Sl, (At S a_t10 [.slice t10.a t10.len t10.cap]) ∧
  NilP c0 fun a_t13 =>
  ∃ t13 : Option Addr, (At S a_t13 [.pointer t13]) ∧
  NilP t13 fun a_t14 =>
  ∃ t16 : Int, (At S (Addr.add a_t14 0) [.int .i64 t16]) ∧
  Br (decide (IntKind.i64.wrap (t9 + (↑t10.len : Int)) > t16))
   (K (.int .i64 3) w_1)
   (Drw w_1 fun S_1 w_2 =>
    NilP c0 fun a_t19 =>
    ∃ t19 : Option Addr, (At S_1 a_t19 [.pointer t19]) ∧
    NilP t19 fun a_t20 =>
    ∃ t22 : Option Nat, (At S_1 ⟨a_t20.block, a_t20.off + 2, none⟩ [.map t22]) ∧
    NilP c2 fun a_t23 =>
    ∃ t23 : ByteArray, (At S_1 a_t23 [.string t23]) ∧
    ∃ t24 : Option Addr, ∃ t24_1 : Bool, (∀ w', S_1 w' → ((Instr.lookup 84 (.map t22) (.string t23) true)).run Tryz.prog w' = .ok (.tuple #[.pointer t24, .bool t24_1]) w') ∧
    ∃ (J : Option Addr → World → Prop), (Br (!t24_1)
       (New (.cells #[.slice none 0 0, .int .i64 0] 97 (0, 0)) (fun b_t30 w_3 =>
        Drw w_3 fun S_2 w_4 =>
        NilP c0 fun a_t31 =>
        ∃ t31 : Option Addr, (At S_2 a_t31 [.pointer t31]) ∧
        NilP t31 fun a_t32 =>
        ∃ t34 : Option Nat, (At S_2 ⟨a_t32.block, a_t32.off + 2, none⟩ [.map t34]) ∧
        NilP c2 fun a_t35 =>
        ∃ t35 : ByteArray, (At S_2 a_t35 [.string t35]) ∧
        ∃ w_5 : World, ((Instr.mapUpdate 84 (.map t34) (.string t35) (.pointer ((some ⟨b_t30, 0, none⟩)))).run Tryz.prog w_4 = .ok () w_5) ∧
        J ((some ⟨b_t30, 0, none⟩)) w_5) w_2)
       (J t24 w_2)) ∧
    ∀ (z : Env) (f4 : Option Addr) (w_6 : World), J f4 w_6 →
    Drw w_6 fun S_3 w_7 =>
    NilP f4 fun a_t39 =>
    ∃ t41 : Sl, (At S_3 (Addr.add a_t39 0) [.slice t41.a t41.len t41.cap]) ∧
    NilP c1 fun a_t42 =>
    ∃ t42 : Sl, (At S_3 a_t42 [.slice t42.a t42.len t42.cap]) ∧
    ∃ w_8 : World, ∃ t43 : Sl, ((Builtin.append_ #[25, 25] 25 #[.slice t41.a t41.len t41.cap, .slice t42.a t42.len t42.cap]).run Tryz.prog w_7 = .ok (.slice t43.a t43.len t43.cap) w_8) ∧
    NilP f4 fun a_t44 =>
    ∃ w_9 : World, ((Instr.storeAt 25 (.pointer ((some (Addr.add a_t44 0)))) (.slice t43.a t43.len t43.cap)).run Tryz.prog w_8 = .ok () w_9) ∧
    Drw w_9 fun S_4 w_10 =>
    NilP c0 fun a_t46 =>
    ∃ t46 : Option Addr, (At S_4 a_t46 [.pointer t46]) ∧
    NilP t46 fun a_t47 =>
    ∃ t49 : Int, (At S_4 ⟨a_t47.block, a_t47.off + 1, none⟩ [.int .i64 t49]) ∧
    NilP c1 fun a_t50 =>
    ∃ t50 : Sl, (At S_4 a_t50 [.slice t50.a t50.len t50.cap]) ∧
    NilP t46 fun a_t53 =>
    ∃ w_11 : World, ((Instr.storeAt 3 (.pointer ((some ⟨a_t53.block, a_t53.off + 1, none⟩))) (.int .i64 (IntKind.i64.wrap (t49 + (↑t50.len : Int))))).run Tryz.prog w_10 = .ok () w_11) ∧
    K (.int .i64 0) w_11)

def sk66 : Sk := (.seq .leaf (.seq .leaf (.seq .leaf (.cut [4] [.ptr] [4, 27, 28, 29, 30, 31, 32, 33, 34, 35, 36] .leaf .leaf))))
theorem ok66 : fnOk Tryz.prog Tryz.f66.ntmps Tryz.f66 sk66 = true := by kernel_rfl
theorem eq66 (c0 : Option Addr) (c1 : Option Addr) (c2 : Option Addr) (K : Value → World → Prop) (w : World) : fnF Tryz.prog cl Tryz.f66 sk66 [.pointer c0, .pointer c1, .pointer c2] K w = B66 c0 c1 c2 K w := by kernel_rfl
theorem call66 (c0 : Option Addr) (c1 : Option Addr) (c2 : Option Addr) (K : Value → World → Prop) (w : World) (h : B66 c0 c1 c2 K w) : Gets Tryz.prog 66 #[.pointer c0, .pointer c1, .pointer c2] w K :=
  calls_of (sk := sk66) cl_ok mixed Tryz.func66 ok66 (args := [.pointer c0, .pointer c1, .pointer c2]) (Nat.le_of_ble_eq_true (by kernel_rfl)) (by rw [eq66]; exact h)

/-- (*jetway/disk.Disk).with. -/
def B115 (d0 : Option Addr) (name1 : ByteArray) (make2 : Value) (K : Value → World → Prop) (w : World) : Prop :=
  New (.cells #[.pointer d0] 38 (0, 0)) (fun b_d3 w_1 =>
  New (.cells #[.string name1] 9 (0, 0)) (fun b_name4 w_2 =>
  New (.cells (Value.cells make2) 158 (0, 0)) (fun b_make5 w_3 =>
  K (.func (.func 129) #[] #[.pointer ((some ⟨b_d3, 0, none⟩)), .pointer ((some ⟨b_name4, 0, none⟩)), .pointer ((some ⟨b_make5, 0, none⟩))]) w_3) w_2) w_1) w

def sk115 : Sk := .leaf
theorem ok115 : fnOk Tryz.prog Tryz.f115.ntmps Tryz.f115 sk115 = true := by kernel_rfl
theorem eq115 (d0 : Option Addr) (name1 : ByteArray) (make2 : Value) (K : Value → World → Prop) (w : World) : fnF Tryz.prog cl Tryz.f115 sk115 [.pointer d0, .string name1, make2] K w = B115 d0 name1 make2 K w := by kernel_rfl
theorem call115 (d0 : Option Addr) (name1 : ByteArray) (make2 : Value) (K : Value → World → Prop) (w : World) (h : B115 d0 name1 make2 K w) : Gets Tryz.prog 115 #[.pointer d0, .string name1, make2] w K :=
  calls_of (sk := sk115) cl_ok mixed Tryz.func115 ok115 (args := [.pointer d0, .string name1, make2]) (Nat.le_of_ble_eq_true (by kernel_rfl)) (by rw [eq115]; exact h)

/-- (*jetway/disk.Disk).Sync$1. -/
def B118 (f0 : Option Addr) (K : Value → World → Prop) (w : World) : Prop :=
  NilP f0 fun a_t4 =>
  ∃ t6 : Sl, (At (fun w' => w' = w) (Addr.add a_t4 0) [.slice t6.a t6.len t6.cap]) ∧
  NilP f0 fun a_t8 =>
  ∃ w_1 : World, ((Instr.storeAt 3 (.pointer ((some ⟨a_t8.block, a_t8.off + 1, none⟩))) (.int .i64 ((↑t6.len : Int)))).run Tryz.prog w = .ok () w_1) ∧
  K (.tuple #[]) w_1

def sk118 : Sk := .leaf
theorem ok118 : fnOk Tryz.prog Tryz.f118.ntmps Tryz.f118 sk118 = true := by kernel_rfl
theorem eq118 (f0 : Option Addr) (K : Value → World → Prop) (w : World) : fnF Tryz.prog cl Tryz.f118 sk118 [.pointer f0] K w = B118 f0 K w := by kernel_rfl
theorem call118 (f0 : Option Addr) (K : Value → World → Prop) (w : World) (h : B118 f0 K w) : Gets Tryz.prog 118 #[.pointer f0] w K :=
  calls_of (sk := sk118) cl_ok mixed Tryz.func118 ok118 (args := [.pointer f0]) (Nat.le_of_ble_eq_true (by kernel_rfl)) (by rw [eq118]; exact h)

/-- jetway/disk.named. -/
def B102 (l0 : Sl) (K : Value → World → Prop) (w : World) : Prop :=
  ∃ (I : Int → World → Prop) (μ : Int → World → Nat), (I 0 w) ∧ ∀ (z : Env) (t9 : Int) (w_1 : World), I t9 w_1 →
  Br (decide (t9 < (↑l0.len : Int)))
   (Rng t9 l0.len (NilP l0.a fun a_t11 =>
    ∃ t12 : ByteArray, (At (fun w' => w' = w_1) (Addr.add a_t11 t9.toNat) [.string t12]) ∧
    ∃ (J : World → Prop), (Br (t12.toList == (ByteArray.mk #[]).toList)
       (K (.bool false) w_1)
       (Br (decide ((↑t12.size : Int) > 64))
         (K (.bool false) w_1)
         (J  w_1))) ∧
    ∀ (z_1 : Env)  (w_2 : World), J  w_2 →
    ∃ w_3 : World, ∃ t21 : Sl, ((convert 9 25 (.string t12)).run Tryz.prog w_2 = .ok (.slice t21.a t21.len t21.cap) w_3) ∧
    ∃ (I_1 : Int → World → Prop) (μ_1 : Int → World → Nat), (I_1 0 w_3) ∧ ∀ (z_2 : Env) (t23 : Int) (w_4 : World), I_1 t23 w_4 →
    Br (decide (t23 < (↑t21.len : Int)))
     (Rng t23 t21.len (NilP t21.a fun a_t25 =>
      ∃ t26 : Int, (At (fun w' => w' = w_4) (Addr.add a_t25 t23.toNat) [.int .u8 t26]) ∧
      Br (decide (t26 < 97))
       (Br (decide (t26 < 48))
         (Br (t26 != 46)
           (Br (t26 != 45)
             (K (.bool false) w_4)
             ((I_1 (IntKind.i64.wrap (t23 + 1)) w_4) ∧ μ_1 (IntKind.i64.wrap (t23 + 1)) w_4 < μ_1 t23 w_4))
           ((I_1 (IntKind.i64.wrap (t23 + 1)) w_4) ∧ μ_1 (IntKind.i64.wrap (t23 + 1)) w_4 < μ_1 t23 w_4))
         (Br (decide (t26 > 57))
           (Br (t26 != 46)
             (Br (t26 != 45)
               (K (.bool false) w_4)
               ((I_1 (IntKind.i64.wrap (t23 + 1)) w_4) ∧ μ_1 (IntKind.i64.wrap (t23 + 1)) w_4 < μ_1 t23 w_4))
             ((I_1 (IntKind.i64.wrap (t23 + 1)) w_4) ∧ μ_1 (IntKind.i64.wrap (t23 + 1)) w_4 < μ_1 t23 w_4))
           ((I_1 (IntKind.i64.wrap (t23 + 1)) w_4) ∧ μ_1 (IntKind.i64.wrap (t23 + 1)) w_4 < μ_1 t23 w_4)))
       (Br (decide (t26 > 122))
         (Br (decide (t26 < 48))
           (Br (t26 != 46)
             (Br (t26 != 45)
               (K (.bool false) w_4)
               ((I_1 (IntKind.i64.wrap (t23 + 1)) w_4) ∧ μ_1 (IntKind.i64.wrap (t23 + 1)) w_4 < μ_1 t23 w_4))
             ((I_1 (IntKind.i64.wrap (t23 + 1)) w_4) ∧ μ_1 (IntKind.i64.wrap (t23 + 1)) w_4 < μ_1 t23 w_4))
           (Br (decide (t26 > 57))
             (Br (t26 != 46)
               (Br (t26 != 45)
                 (K (.bool false) w_4)
                 ((I_1 (IntKind.i64.wrap (t23 + 1)) w_4) ∧ μ_1 (IntKind.i64.wrap (t23 + 1)) w_4 < μ_1 t23 w_4))
               ((I_1 (IntKind.i64.wrap (t23 + 1)) w_4) ∧ μ_1 (IntKind.i64.wrap (t23 + 1)) w_4 < μ_1 t23 w_4))
             ((I_1 (IntKind.i64.wrap (t23 + 1)) w_4) ∧ μ_1 (IntKind.i64.wrap (t23 + 1)) w_4 < μ_1 t23 w_4)))
         ((I_1 (IntKind.i64.wrap (t23 + 1)) w_4) ∧ μ_1 (IntKind.i64.wrap (t23 + 1)) w_4 < μ_1 t23 w_4))))
     ((I (IntKind.i64.wrap (t9 + 1)) w_4) ∧ μ (IntKind.i64.wrap (t9 + 1)) w_4 < μ t9 w_1)))
   (K (.bool true) w_1)

def sk102 : Sk := (.seq .leaf (.seq (.seq .leaf (.block (.loop [9] [(.int .i64)] [2, 4, 6, 9, 10, 11, 12, 13, 14, 15, 16, 17, 18, 19, 20, 21, 22, 23, 24, 25, 26, 27, 28, 29, 30, 31, 32, 33, 34, 35, 36, 37, 38, 39, 40, 41, 42, 43, 44, 45, 46, 47, 48, 49, 50] (.seq .leaf (.seq .leaf (.seq (.block (.seq .leaf (.cut [] [] [2, 13, 14, 15, 16, 17, 18, 19] .leaf (.seq .leaf (.block (.loop [23] [(.int .i64)] [2, 6, 23, 24, 25, 26, 27, 28, 29, 30, 31, 32, 33, 34, 35, 36, 37, 38, 39, 40, 41, 42, 43, 44, 45, 46, 47, 48, 49] .leaf)))))) .leaf)))))) .leaf))
theorem ok102 : fnOk Tryz.prog Tryz.f102.ntmps Tryz.f102 sk102 = true := by kernel_rfl
theorem eq102 (l0 : Sl) (K : Value → World → Prop) (w : World) : fnF Tryz.prog cl Tryz.f102 sk102 [.slice l0.a l0.len l0.cap] K w = B102 l0 K w := by kernel_rfl
theorem call102 (l0 : Sl) (K : Value → World → Prop) (w : World) (h : B102 l0 K w) : Gets Tryz.prog 102 #[.slice l0.a l0.len l0.cap] w K :=
  calls_of (sk := sk102) cl_ok mixed Tryz.func102 ok102 (args := [.slice l0.a l0.len l0.cap]) (Nat.le_of_ble_eq_true (by kernel_rfl)) (by rw [eq102]; exact h)

/-- jetway/disk.met. -/
def B103 (n0 : Option Addr) (K : Value → World → Prop) (w : World) : Prop :=
  NilP n0 fun a_t4 =>
  ∃ t5 : Int, (At (fun w' => w' = w) a_t4 [.int .i64 t5]) ∧
  Br (t5 == -1)
   (K (.bool false) w)
   (NilP n0 fun a_t8 =>
    ∃ t9 : Int, (At (fun w' => w' = w) a_t8 [.int .i64 t9]) ∧
    NilP n0 fun a_t11 =>
    ∃ w_1 : World, ((Instr.storeAt 3 (.pointer ((some (a_t11)))) (.int .i64 (IntKind.i64.wrap (t9 - 1)))).run Tryz.prog w = .ok () w_1) ∧
    NilP n0 fun a_t13 =>
    ∃ t14 : Int, (At (fun w' => w' = w_1) a_t13 [.int .i64 t14]) ∧
    K (.bool (t14 == -1)) w_1)

def sk103 : Sk := .leaf
theorem ok103 : fnOk Tryz.prog Tryz.f103.ntmps Tryz.f103 sk103 = true := by kernel_rfl
theorem eq103 (n0 : Option Addr) (K : Value → World → Prop) (w : World) : fnF Tryz.prog cl Tryz.f103 sk103 [.pointer n0] K w = B103 n0 K w := by kernel_rfl
theorem call103 (n0 : Option Addr) (K : Value → World → Prop) (w : World) (h : B103 n0 K w) : Gets Tryz.prog 103 #[.pointer n0] w K :=
  calls_of (sk := sk103) cl_ok mixed Tryz.func103 ok103 (args := [.pointer n0]) (Nat.le_of_ble_eq_true (by kernel_rfl)) (by rw [eq103]; exact h)

/-- (*jetway/disk.Disk).with$1. -/
def B129 (c0 : Option Addr) (c1 : Option Addr) (c2 : Option Addr) (K : Value → World → Prop) (w : World) : Prop :=
  Drw w fun S w_1 =>
  NilP c0 fun a_t7 =>
  ∃ t7 : Option Addr, (At S a_t7 [.pointer t7]) ∧
  NilP t7 fun a_t8 =>
  ∃ t10 : Option Nat, (At S ⟨a_t8.block, a_t8.off + 2, none⟩ [.map t10]) ∧
  NilP c1 fun a_t11 =>
  ∃ t11 : ByteArray, (At S a_t11 [.string t11]) ∧
  ∃ t12 : Option Addr, ∃ t12_1 : Bool, (∀ w', S w' → ((Instr.lookup 84 (.map t10) (.string t11) true)).run Tryz.prog w' = .ok (.tuple #[.pointer t12, .bool t12_1]) w') ∧
  Br (!t12_1)
   (K (.int .i64 2) w_1)
   (NilP c2 fun a_t17 =>
    ∃ t17 : Value, (At (fun w' => w' = w_1) a_t17 [t17]) ∧
    CalW Tryz.prog cl t17 [.pointer t12] w_1 fun e w_2 =>
    (e = .returned (.tuple #[])) ∧
    K (.int .i64 0) w_2)

def sk129 : Sk := .leaf
theorem ok129 : fnOk Tryz.prog Tryz.f129.ntmps Tryz.f129 sk129 = true := by kernel_rfl
theorem eq129 (c0 : Option Addr) (c1 : Option Addr) (c2 : Option Addr) (K : Value → World → Prop) (w : World) : fnF Tryz.prog cl Tryz.f129 sk129 [.pointer c0, .pointer c1, .pointer c2] K w = B129 c0 c1 c2 K w := by kernel_rfl
theorem call129 (c0 : Option Addr) (c1 : Option Addr) (c2 : Option Addr) (K : Value → World → Prop) (w : World) (h : B129 c0 c1 c2 K w) : Gets Tryz.prog 129 #[.pointer c0, .pointer c1, .pointer c2] w K :=
  calls_of (sk := sk129) cl_ok mixed Tryz.func129 ok129 (args := [.pointer c0, .pointer c1, .pointer c2]) (Nat.le_of_ble_eq_true (by kernel_rfl)) (by rw [eq129]; exact h)

/-- (*jetway/disk.Disk).Fail. -/
def B26 (d0 : Option Addr) (n1 : Int) (K : Value → World → Prop) (w : World) : Prop :=
  NilP d0 fun a_t6 =>
  Calls Tryz.prog 62 #[.pointer ((some ⟨a_t6.block, a_t6.off + 3, none⟩)), .int .i64 n1] w fun e w_1 =>
  ∃ t9 : Int, (e = .returned (.int .i64 t9)) ∧
  K (.int .i64 t9) w_1

def sk26 : Sk := .leaf
theorem ok26 : fnOk Tryz.prog Tryz.f26.ntmps Tryz.f26 sk26 = true := by kernel_rfl
theorem eq26 (d0 : Option Addr) (n1 : Int) (K : Value → World → Prop) (w : World) : fnF Tryz.prog cl Tryz.f26 sk26 [.pointer d0, .int .i64 n1] K w = B26 d0 n1 K w := by kernel_rfl
theorem call26 (d0 : Option Addr) (n1 : Int) (K : Value → World → Prop) (w : World) (h : B26 d0 n1 K w) : Gets Tryz.prog 26 #[.pointer d0, .int .i64 n1] w K :=
  calls_of (sk := sk26) cl_ok mixed Tryz.func26 ok26 (args := [.pointer d0, .int .i64 n1]) (Nat.le_of_ble_eq_true (by kernel_rfl)) (by rw [eq26]; exact h)

/-- (*jetway/disk.Disk).Size. -/
def B35 (d0 : Option Addr) (K : Value → World → Prop) (w : World) : Prop :=
  NilP d0 fun a_t4 =>
  ∃ t6 : Int, (At (fun w' => w' = w) ⟨a_t4.block, a_t4.off + 1, none⟩ [.int .i64 t6]) ∧
  K (.int .i64 t6) w

def sk35 : Sk := .leaf
theorem ok35 : fnOk Tryz.prog Tryz.f35.ntmps Tryz.f35 sk35 = true := by kernel_rfl
theorem eq35 (d0 : Option Addr) (K : Value → World → Prop) (w : World) : fnF Tryz.prog cl Tryz.f35 sk35 [.pointer d0] K w = B35 d0 K w := by kernel_rfl
theorem call35 (d0 : Option Addr) (K : Value → World → Prop) (w : World) (h : B35 d0 K w) : Gets Tryz.prog 35 #[.pointer d0] w K :=
  calls_of (sk := sk35) cl_ok mixed Tryz.func35 ok35 (args := [.pointer d0]) (Nat.le_of_ble_eq_true (by kernel_rfl)) (by rw [eq35]; exact h)

/-- (*jetway/disk.Disk).Arm. -/
def B22 (d0 : Option Addr) (n1 : Int) (K : Value → World → Prop) (w : World) : Prop :=
  NilP d0 fun a_t6 =>
  Calls Tryz.prog 62 #[.pointer ((some ⟨a_t6.block, a_t6.off + 4, none⟩)), .int .i64 n1] w fun e w_1 =>
  ∃ t9 : Int, (e = .returned (.int .i64 t9)) ∧
  K (.int .i64 t9) w_1

def sk22 : Sk := .leaf
theorem ok22 : fnOk Tryz.prog Tryz.f22.ntmps Tryz.f22 sk22 = true := by kernel_rfl
theorem eq22 (d0 : Option Addr) (n1 : Int) (K : Value → World → Prop) (w : World) : fnF Tryz.prog cl Tryz.f22 sk22 [.pointer d0, .int .i64 n1] K w = B22 d0 n1 K w := by kernel_rfl
theorem call22 (d0 : Option Addr) (n1 : Int) (K : Value → World → Prop) (w : World) (h : B22 d0 n1 K w) : Gets Tryz.prog 22 #[.pointer d0, .int .i64 n1] w K :=
  calls_of (sk := sk22) cl_ok mixed Tryz.func22 ok22 (args := [.pointer d0, .int .i64 n1]) (Nat.le_of_ble_eq_true (by kernel_rfl)) (by rw [eq22]; exact h)

/-- (*jetway/disk.Disk).Off. -/
def B34 (d0 : Option Addr) (K : Value → World → Prop) (w : World) : Prop :=
  NilP d0 fun a_t4 =>
  ∃ t6 : Bool, (At (fun w' => w' = w) ⟨a_t4.block, a_t4.off + 5, none⟩ [.bool t6]) ∧
  K (.bool t6) w

def sk34 : Sk := .leaf
theorem ok34 : fnOk Tryz.prog Tryz.f34.ntmps Tryz.f34 sk34 = true := by kernel_rfl
theorem eq34 (d0 : Option Addr) (K : Value → World → Prop) (w : World) : fnF Tryz.prog cl Tryz.f34 sk34 [.pointer d0] K w = B34 d0 K w := by kernel_rfl
theorem call34 (d0 : Option Addr) (K : Value → World → Prop) (w : World) (h : B34 d0 K w) : Gets Tryz.prog 34 #[.pointer d0] w K :=
  calls_of (sk := sk34) cl_ok mixed Tryz.func34 ok34 (args := [.pointer d0]) (Nat.le_of_ble_eq_true (by kernel_rfl)) (by rw [eq34]; exact h)

/-- (*jetway/disk.Disk).Crash. -/
def B19 (d0 : Option Addr) (keep1 : Sl) (K : Value → World → Prop) (w : World) : Prop :=
  Calls Tryz.prog 60 #[.pointer d0] w fun e w_1 =>
  ∃ t9 : Sl, (e = .returned (.slice t9.a t9.len t9.cap)) ∧
  ∃ (I : Int → World → Prop) (μ : Int → World → Nat), (I 0 w_1) ∧ ∀ (z : Env) (t11 : Int) (w_2 : World), I t11 w_2 →
  Br (decide (t11 < (↑t9.len : Int)))
   (Rng t11 t9.len (NilP t9.a fun a_t14 =>
    ∃ t15 : ByteArray, (At (fun w' => w' = w_2) (Addr.add a_t14 t11.toNat) [.string t15]) ∧
    NilP d0 fun a_t17 =>
    ∃ t19 : Option Nat, (At (fun w' => w' = w_2) ⟨a_t17.block, a_t17.off + 2, none⟩ [.map t19]) ∧
    ∃ t21 : Option Addr, (∀ w', (fun w' => w' = w_2) w' → ((Instr.lookup 84 (.map t19) (.string t15) false)).run Tryz.prog w' = .ok (.pointer t21) w') ∧
    ∃ (J : Int → World → Prop), (Br (decide (t11 < (↑keep1.len : Int)))
       (Drw w_2 fun S w_3 =>
        Rng t11 keep1.len (NilP keep1.a fun a_t28 =>
        ∃ t29 : Int, (At S (Addr.add a_t28 t11.toNat) [.int .i64 t29]) ∧
        NilP t21 fun a_t32 =>
        ∃ t34 : Sl, (At S (Addr.add a_t32 0) [.slice t34.a t34.len t34.cap]) ∧
        NilP t21 fun a_t37 =>
        ∃ t39 : Int, (At S ⟨a_t37.block, a_t37.off + 1, none⟩ [.int .i64 t39]) ∧
        J (if IntKind.i64.wrap ((↑t34.len : Int) - t39) < if 0 > t29 then 0 else t29 then IntKind.i64.wrap ((↑t34.len : Int) - t39) else if 0 > t29 then 0 else t29) w_3))
       (J 0 w_2)) ∧
    ∀ (z_1 : Env) (n7 : Int) (w_4 : World), J n7 w_4 →
    Drw w_4 fun S_1 w_5 =>
    NilP d0 fun a_t43 =>
    ∃ t45 : Int, (At S_1 ⟨a_t43.block, a_t43.off + 1, none⟩ [.int .i64 t45]) ∧
    NilP t21 fun a_t47 =>
    ∃ t49 : Sl, (At S_1 (Addr.add a_t47 0) [.slice t49.a t49.len t49.cap]) ∧
    NilP t21 fun a_t52 =>
    ∃ t54 : Int, (At S_1 ⟨a_t52.block, a_t52.off + 1, none⟩ [.int .i64 t54]) ∧
    NilP d0 fun a_t59 =>
    ∃ w_6 : World, ((Instr.storeAt 3 (.pointer ((some ⟨a_t59.block, a_t59.off + 1, none⟩))) (.int .i64 (IntKind.i64.wrap (t45 - IntKind.i64.wrap (IntKind.i64.wrap ((↑t49.len : Int) - t54) - n7))))).run Tryz.prog w_5 = .ok () w_6) ∧
    Drw w_6 fun S_2 w_7 =>
    NilP t21 fun a_t63 =>
    ∃ t65 : Sl, (At S_2 (Addr.add a_t63 0) [.slice t65.a t65.len t65.cap]) ∧
    NilP t21 fun a_t67 =>
    ∃ t69 : Int, (At S_2 ⟨a_t67.block, a_t67.off + 1, none⟩ [.int .i64 t69]) ∧
    ((0 : Int) ≤ IntKind.i64.wrap (t69 + n7)) ∧
    ((IntKind.i64.wrap (t69 + n7) : Int) ≤ (↑t65.cap : Int)) ∧
    NilP t21 fun a_t73 =>
    ∃ w_8 : World, ((Instr.storeAt 25 (.pointer ((some (Addr.add a_t73 0)))) (.slice t65.a ((IntKind.i64.wrap (t69 + n7)).toNat) t65.cap)).run Tryz.prog w_7 = .ok () w_8) ∧
    NilP t21 fun a_t77 =>
    ∃ t79 : Sl, (At (fun w' => w' = w_8) (Addr.add a_t77 0) [.slice t79.a t79.len t79.cap]) ∧
    NilP t21 fun a_t81 =>
    ∃ w_9 : World, ((Instr.storeAt 3 (.pointer ((some ⟨a_t81.block, a_t81.off + 1, none⟩))) (.int .i64 ((↑t79.len : Int)))).run Tryz.prog w_8 = .ok () w_9) ∧
    (I (IntKind.i64.wrap (t11 + 1)) w_9) ∧ μ (IntKind.i64.wrap (t11 + 1)) w_9 < μ t11 w_2))
   (NilP d0 fun a_t87 =>
    ∃ w_10 : World, ((Instr.storeAt 4 (.pointer ((some ⟨a_t87.block, a_t87.off + 5, none⟩))) (.bool false)).run Tryz.prog w_2 = .ok () w_10) ∧
    NilP d0 fun a_t89 =>
    ∃ w_11 : World, ((Instr.storeAt 3 (.pointer ((some ⟨a_t89.block, a_t89.off + 3, none⟩))) (.int .i64 ((-1)))).run Tryz.prog w_10 = .ok () w_11) ∧
    NilP d0 fun a_t91 =>
    ∃ w_12 : World, ((Instr.storeAt 3 (.pointer ((some ⟨a_t91.block, a_t91.off + 4, none⟩))) (.int .i64 ((-1)))).run Tryz.prog w_11 = .ok () w_12) ∧
    K (.tuple #[]) w_12)

def sk19 : Sk := (.seq (.seq .leaf (.block (.loop [11] [(.int .i64)] [4, 5, 6, 7, 11, 12, 13, 14, 15, 16, 17, 18, 19, 20, 21, 22, 23, 24, 25, 26, 27, 28, 29, 30, 31, 32, 33, 34, 35, 36, 37, 38, 39, 40, 41, 42, 43, 44, 45, 46, 47, 48, 49, 50, 51, 52, 53, 54, 55, 56, 57, 58, 59, 60, 61, 62, 63, 64, 65, 66, 67, 68, 69, 70, 71, 72, 73, 74, 75, 76, 77, 78, 79, 80, 81, 82, 83] (.seq .leaf (.seq .leaf (.seq (.block (.seq .leaf (.seq .leaf (.cut [7] [(.int .i64)] [7, 22, 23, 24, 25, 26, 27, 28, 29, 30, 31, 32, 33, 34, 35, 36, 37, 38, 39, 40, 41] .leaf .leaf)))) .leaf)))))) .leaf)
theorem ok19 : fnOk Tryz.prog Tryz.f19.ntmps Tryz.f19 sk19 = true := by kernel_rfl
theorem eq19 (d0 : Option Addr) (keep1 : Sl) (K : Value → World → Prop) (w : World) : fnF Tryz.prog cl Tryz.f19 sk19 [.pointer d0, .slice keep1.a keep1.len keep1.cap] K w = B19 d0 keep1 K w := by kernel_rfl
theorem call19 (d0 : Option Addr) (keep1 : Sl) (K : Value → World → Prop) (w : World) (h : B19 d0 keep1 K w) : Gets Tryz.prog 19 #[.pointer d0, .slice keep1.a keep1.len keep1.cap] w K :=
  calls_of (sk := sk19) cl_ok mixed Tryz.func19 ok19 (args := [.pointer d0, .slice keep1.a keep1.len keep1.cap]) (Nat.le_of_ble_eq_true (by kernel_rfl)) (by rw [eq19]; exact h)

/-- jetway/disk.later. -/
def B62 (p0 : Option Addr) (n1 : Int) (K : Value → World → Prop) (w : World) : Prop :=
  Br (decide (n1 < 0))
   (K (.int .i64 1) w)
   (NilP p0 fun a_t9 =>
    ∃ w_1 : World, ((Instr.storeAt 3 (.pointer ((some (a_t9)))) (.int .i64 n1)).run Tryz.prog w = .ok () w_1) ∧
    K (.int .i64 0) w_1)

def sk62 : Sk := .leaf
theorem ok62 : fnOk Tryz.prog Tryz.f62.ntmps Tryz.f62 sk62 = true := by kernel_rfl
theorem eq62 (p0 : Option Addr) (n1 : Int) (K : Value → World → Prop) (w : World) : fnF Tryz.prog cl Tryz.f62 sk62 [.pointer p0, .int .i64 n1] K w = B62 p0 n1 K w := by kernel_rfl
theorem call62 (p0 : Option Addr) (n1 : Int) (K : Value → World → Prop) (w : World) (h : B62 p0 n1 K w) : Gets Tryz.prog 62 #[.pointer p0, .int .i64 n1] w K :=
  calls_of (sk := sk62) cl_ok mixed Tryz.func62 ok62 (args := [.pointer p0, .int .i64 n1]) (Nat.le_of_ble_eq_true (by kernel_rfl)) (by rw [eq62]; exact h)

end Go.Proofs.YtgfneeoponiibaaGreat
/- The formulas of functions of this seat's translation, printed by a program of mine off the translation; each is proved equal to 'fnF' of the function's body, so it is enough for the call. No condition. -/
namespace Go.Proofs.YtgfneeoponiibaaGreat
open Go Go.VC
set_option linter.unusedVariables false
/-- (*jetway/disk.Disk).Rename. -/
def B90 (d0 : Option Addr) (from1 : ByteArray) (to2 : ByteArray) (K : Value → World → Prop) (w : World) : Prop :=
  New (.cells #[.pointer d0] 38 (0, 0)) (fun b_d3 w_1 =>
  New (.cells #[.string from1] 9 (0, 0)) (fun b_from4 w_2 =>
  New (.cells #[.string to2] 9 (0, 0)) (fun b_to5 w_3 =>
  Drw w_3 fun S w_4 =>
  ∃ t7 : Option Addr, (At S ⟨b_d3, 0, none⟩ [.pointer t7]) ∧
  ∃ t8 : Option Addr, (At S ⟨b_d3, 0, none⟩ [.pointer t8]) ∧
  ∃ t9 : ByteArray, (At S ⟨b_from4, 0, none⟩ [.string t9]) ∧
  ∃ t12 : ByteArray, (At S ⟨b_from4, 0, none⟩ [.string t12]) ∧
  ∃ t13 : ByteArray, (At S ⟨b_to5, 0, none⟩ [.string t13]) ∧
  (Calls Tryz.prog 115 #[.pointer t8, .string t9, .func (.func 119) #[] #[.pointer ((some ⟨b_from4, 0, none⟩)), .pointer ((some ⟨b_to5, 0, none⟩)), .pointer ((some ⟨b_d3, 0, none⟩))]] w_4 fun e w_5 =>
  ∃ t11 : Value, (e = .returned (t11)) ∧
  (S w_5) ∧
  New (.cells #[.string t12, .string t13] 9 (0, 0)) (fun b_t14 w_6 =>
  (S w_6) ∧
  Calls Tryz.prog 65 #[.pointer t7, t11, .slice ((some ⟨b_t14, 0, none⟩)) 2 2] w_6 fun e_1 w_7 =>
  ∃ t15 : Int, (e_1 = .returned (.int .i64 t15)) ∧
  (S w_7) ∧
  K (.int .i64 t15) w_7) w_5) ∧
  New (.cells #[.string t12, .string t13] 9 (0, 0)) (fun b_t14_1 w_8 =>
  (S w_8) ∧
  Calls Tryz.prog 115 #[.pointer t8, .string t9, .func (.func 119) #[] #[.pointer ((some ⟨b_from4, 0, none⟩)), .pointer ((some ⟨b_to5, 0, none⟩)), .pointer ((some ⟨b_d3, 0, none⟩))]] w_8 fun e_2 w_9 =>
  ∃ t11_1 : Value, (e_2 = .returned (t11_1)) ∧
  (S w_9) ∧
  Calls Tryz.prog 65 #[.pointer t7, t11_1, .slice ((some ⟨b_t14_1, 0, none⟩)) 2 2] w_9 fun e_3 w_10 =>
  ∃ t15_1 : Int, (e_3 = .returned (.int .i64 t15_1)) ∧
  (S w_10) ∧
  K (.int .i64 t15_1) w_10) w_4) w_2) w_1) w

def sk90 : Sk := .leaf
theorem ok90 : fnOk Tryz.prog Tryz.f90.ntmps Tryz.f90 sk90 = true := by kernel_rfl
theorem eq90 (d0 : Option Addr) (from1 : ByteArray) (to2 : ByteArray) (K : Value → World → Prop) (w : World) : fnF Tryz.prog cl Tryz.f90 sk90 [.pointer d0, .string from1, .string to2] K w = B90 d0 from1 to2 K w := by kernel_rfl
theorem call90 (d0 : Option Addr) (from1 : ByteArray) (to2 : ByteArray) (K : Value → World → Prop) (w : World) (h : B90 d0 from1 to2 K w) : Gets Tryz.prog 90 #[.pointer d0, .string from1, .string to2] w K :=
  calls_of (sk := sk90) cl_ok mixed Tryz.func90 ok90 (args := [.pointer d0, .string from1, .string to2]) (Nat.le_of_ble_eq_true (by kernel_rfl)) (by rw [eq90]; exact h)

/-- (*jetway/disk.Disk).Unlink. -/
def B88 (d0 : Option Addr) (name1 : ByteArray) (K : Value → World → Prop) (w : World) : Prop :=
  New (.cells #[.pointer d0] 38 (0, 0)) (fun b_d2 w_1 =>
  New (.cells #[.string name1] 9 (0, 0)) (fun b_name3 w_2 =>
  Drw w_2 fun S w_3 =>
  ∃ t5 : Option Addr, (At S ⟨b_d2, 0, none⟩ [.pointer t5]) ∧
  ∃ t6 : Option Addr, (At S ⟨b_d2, 0, none⟩ [.pointer t6]) ∧
  ∃ t7 : ByteArray, (At S ⟨b_name3, 0, none⟩ [.string t7]) ∧
  ∃ t10 : ByteArray, (At S ⟨b_name3, 0, none⟩ [.string t10]) ∧
  (Calls Tryz.prog 115 #[.pointer t6, .string t7, .func (.func 116) #[] #[.pointer ((some ⟨b_d2, 0, none⟩)), .pointer ((some ⟨b_name3, 0, none⟩))]] w_3 fun e w_4 =>
  ∃ t9 : Value, (e = .returned (t9)) ∧
  (S w_4) ∧
  New (.cells #[.string t10] 9 (0, 0)) (fun b_t11 w_5 =>
  (S w_5) ∧
  Calls Tryz.prog 65 #[.pointer t5, t9, .slice ((some ⟨b_t11, 0, none⟩)) 1 1] w_5 fun e_1 w_6 =>
  ∃ t12 : Int, (e_1 = .returned (.int .i64 t12)) ∧
  (S w_6) ∧
  K (.int .i64 t12) w_6) w_4) ∧
  New (.cells #[.string t10] 9 (0, 0)) (fun b_t11_1 w_7 =>
  (S w_7) ∧
  Calls Tryz.prog 115 #[.pointer t6, .string t7, .func (.func 116) #[] #[.pointer ((some ⟨b_d2, 0, none⟩)), .pointer ((some ⟨b_name3, 0, none⟩))]] w_7 fun e_2 w_8 =>
  ∃ t9_1 : Value, (e_2 = .returned (t9_1)) ∧
  (S w_8) ∧
  Calls Tryz.prog 65 #[.pointer t5, t9_1, .slice ((some ⟨b_t11_1, 0, none⟩)) 1 1] w_8 fun e_3 w_9 =>
  ∃ t12_1 : Int, (e_3 = .returned (.int .i64 t12_1)) ∧
  (S w_9) ∧
  K (.int .i64 t12_1) w_9) w_3) w_1) w

def sk88 : Sk := .leaf
theorem ok88 : fnOk Tryz.prog Tryz.f88.ntmps Tryz.f88 sk88 = true := by kernel_rfl
theorem eq88 (d0 : Option Addr) (name1 : ByteArray) (K : Value → World → Prop) (w : World) : fnF Tryz.prog cl Tryz.f88 sk88 [.pointer d0, .string name1] K w = B88 d0 name1 K w := by kernel_rfl
theorem call88 (d0 : Option Addr) (name1 : ByteArray) (K : Value → World → Prop) (w : World) (h : B88 d0 name1 K w) : Gets Tryz.prog 88 #[.pointer d0, .string name1] w K :=
  calls_of (sk := sk88) cl_ok mixed Tryz.func88 ok88 (args := [.pointer d0, .string name1]) (Nat.le_of_ble_eq_true (by kernel_rfl)) (by rw [eq88]; exact h)

/-- (*jetway/disk.Disk).Rename$1. -/
def B119 (f0 : Option Addr) (c1 : Option Addr) (c2 : Option Addr) (c3 : Option Addr) (K : Value → World → Prop) (w : World) : Prop :=
  NilP c1 fun a_t5 =>
  ∃ t5 : ByteArray, (At (fun w' => w' = w) a_t5 [.string t5]) ∧
  NilP c2 fun a_t6 =>
  ∃ t6 : ByteArray, (At (fun w' => w' = w) a_t6 [.string t6]) ∧
  Br (t5.toList == t6.toList)
   (K (.tuple #[]) w)
   (NilP c3 fun a_t8 =>
    ∃ t8 : Option Addr, (At (fun w' => w' = w) a_t8 [.pointer t8]) ∧
    NilP c2 fun a_t9 =>
    ∃ t9 : ByteArray, (At (fun w' => w' = w) a_t9 [.string t9]) ∧
    Calls Tryz.prog 117 #[.pointer t8, .string t9] w fun e w_1 =>
    (e = .returned (.tuple #[])) ∧
    Drw w_1 fun S w_2 =>
    NilP c3 fun a_t11 =>
    ∃ t11 : Option Addr, (At S a_t11 [.pointer t11]) ∧
    NilP t11 fun a_t12 =>
    ∃ t14 : Option Nat, (At S ⟨a_t12.block, a_t12.off + 2, none⟩ [.map t14]) ∧
    NilP c1 fun a_t15 =>
    ∃ t15 : ByteArray, (At S a_t15 [.string t15]) ∧
    ∃ w_3 : World, ((Builtin.delete_ #[84, 9] 0 #[.map t14, .string t15]).run Tryz.prog w_2 = .ok (.tuple #[]) w_3) ∧
    (S w_3) ∧
    Drw w_3 fun S_1 w_4 =>
    NilP c3 fun a_t16 =>
    ∃ t16 : Option Addr, (At S_1 a_t16 [.pointer t16]) ∧
    NilP t16 fun a_t17 =>
    ∃ t19 : Option Nat, (At S_1 ⟨a_t17.block, a_t17.off + 2, none⟩ [.map t19]) ∧
    NilP c2 fun a_t20 =>
    ∃ t20 : ByteArray, (At S_1 a_t20 [.string t20]) ∧
    ∃ w_5 : World, ((Instr.mapUpdate 84 (.map t19) (.string t20) (.pointer f0)).run Tryz.prog w_4 = .ok () w_5) ∧
    K (.tuple #[]) w_5)

def sk119 : Sk := .leaf
theorem ok119 : fnOk Tryz.prog Tryz.f119.ntmps Tryz.f119 sk119 = true := by kernel_rfl
theorem eq119 (f0 : Option Addr) (c1 : Option Addr) (c2 : Option Addr) (c3 : Option Addr) (K : Value → World → Prop) (w : World) : fnF Tryz.prog cl Tryz.f119 sk119 [.pointer f0, .pointer c1, .pointer c2, .pointer c3] K w = B119 f0 c1 c2 c3 K w := by kernel_rfl
theorem call119 (f0 : Option Addr) (c1 : Option Addr) (c2 : Option Addr) (c3 : Option Addr) (K : Value → World → Prop) (w : World) (h : B119 f0 c1 c2 c3 K w) : Gets Tryz.prog 119 #[.pointer f0, .pointer c1, .pointer c2, .pointer c3] w K :=
  calls_of (sk := sk119) cl_ok mixed Tryz.func119 ok119 (args := [.pointer f0, .pointer c1, .pointer c2, .pointer c3]) (Nat.le_of_ble_eq_true (by kernel_rfl)) (by rw [eq119]; exact h)

/-- (*jetway/disk.Disk).gone. -/
def B117 (d0 : Option Addr) (name1 : ByteArray) (K : Value → World → Prop) (w : World) : Prop :=
  NilP d0 fun a_t8 =>
  ∃ t10 : Option Nat, (At (fun w' => w' = w) ⟨a_t8.block, a_t8.off + 2, none⟩ [.map t10]) ∧
  ∃ t12 : Option Addr, ∃ t12_1 : Bool, (∀ w', (fun w' => w' = w) w' → ((Instr.lookup 84 (.map t10) (.string name1) true)).run Tryz.prog w' = .ok (.tuple #[.pointer t12, .bool t12_1]) w') ∧
  Br t12_1
   (Drw w fun S w_1 =>
    NilP d0 fun a_t17 =>
    ∃ t19 : Int, (At S ⟨a_t17.block, a_t17.off + 1, none⟩ [.int .i64 t19]) ∧
    NilP t12 fun a_t21 =>
    ∃ t23 : Sl, (At S (Addr.add a_t21 0) [.slice t23.a t23.len t23.cap]) ∧
    NilP d0 fun a_t26 =>
    ∃ w_2 : World, ((Instr.storeAt 3 (.pointer ((some ⟨a_t26.block, a_t26.off + 1, none⟩))) (.int .i64 (IntKind.i64.wrap (t19 - (↑t23.len : Int))))).run Tryz.prog w_1 = .ok () w_2) ∧
    NilP d0 fun a_t29 =>
    ∃ t31 : Option Nat, (At (fun w' => w' = w_2) ⟨a_t29.block, a_t29.off + 2, none⟩ [.map t31]) ∧
    ∃ w_3 : World, ((Builtin.delete_ #[84, 9] 0 #[.map t31, .string name1]).run Tryz.prog w_2 = .ok (.tuple #[]) w_3) ∧
    K (.tuple #[]) w_3)
   (K (.tuple #[]) w)

def sk117 : Sk := .leaf
theorem ok117 : fnOk Tryz.prog Tryz.f117.ntmps Tryz.f117 sk117 = true := by kernel_rfl
theorem eq117 (d0 : Option Addr) (name1 : ByteArray) (K : Value → World → Prop) (w : World) : fnF Tryz.prog cl Tryz.f117 sk117 [.pointer d0, .string name1] K w = B117 d0 name1 K w := by kernel_rfl
theorem call117 (d0 : Option Addr) (name1 : ByteArray) (K : Value → World → Prop) (w : World) (h : B117 d0 name1 K w) : Gets Tryz.prog 117 #[.pointer d0, .string name1] w K :=
  calls_of (sk := sk117) cl_ok mixed Tryz.func117 ok117 (args := [.pointer d0, .string name1]) (Nat.le_of_ble_eq_true (by kernel_rfl)) (by rw [eq117]; exact h)

/-- (*jetway/disk.Disk).Unlink$1. -/
def B116 (p0 : Option Addr) (c1 : Option Addr) (c2 : Option Addr) (K : Value → World → Prop) (w : World) : Prop :=
  NilP c1 fun a_t4 =>
  ∃ t4 : Option Addr, (At (fun w' => w' = w) a_t4 [.pointer t4]) ∧
  NilP c2 fun a_t5 =>
  ∃ t5 : ByteArray, (At (fun w' => w' = w) a_t5 [.string t5]) ∧
  Calls Tryz.prog 117 #[.pointer t4, .string t5] w fun e w_1 =>
  (e = .returned (.tuple #[])) ∧
  K (.tuple #[]) w_1

def sk116 : Sk := .leaf
theorem ok116 : fnOk Tryz.prog Tryz.f116.ntmps Tryz.f116 sk116 = true := by kernel_rfl
theorem eq116 (p0 : Option Addr) (c1 : Option Addr) (c2 : Option Addr) (K : Value → World → Prop) (w : World) : fnF Tryz.prog cl Tryz.f116 sk116 [.pointer p0, .pointer c1, .pointer c2] K w = B116 p0 c1 c2 K w := by kernel_rfl
theorem call116 (p0 : Option Addr) (c1 : Option Addr) (c2 : Option Addr) (K : Value → World → Prop) (w : World) (h : B116 p0 c1 c2 K w) : Gets Tryz.prog 116 #[.pointer p0, .pointer c1, .pointer c2] w K :=
  calls_of (sk := sk116) cl_ok mixed Tryz.func116 ok116 (args := [.pointer p0, .pointer c1, .pointer c2]) (Nat.le_of_ble_eq_true (by kernel_rfl)) (by rw [eq116]; exact h)

end Go.Proofs.YtgfneeoponiibaaGreat
/- The formulas of functions of this seat's translation, printed by a program of mine off the translation; each is proved equal to 'fnF' of the function's body, so it is enough for the call. No condition. -/
namespace Go.Proofs.YtgfneeoponiibaaGreat
open Go Go.VC
set_option linter.unusedVariables false
/-- (*jetway/disk.Disk).Names. -/
def B60 (d0 : Option Addr) (K : Value → World → Prop) (w : World) : Prop :=
  NilP d0 fun a_t4 =>
  ∃ t6 : Option Nat, (At (fun w' => w' = w) ⟨a_t4.block, a_t4.off + 2, none⟩ [.map t6]) ∧
  Calls Tryz.prog 94 #[.map t6] w fun e w_1 =>
  ∃ t7 : Value, (e = .returned (t7)) ∧
  Calls Tryz.prog 93 #[t7] w_1 fun e_1 w_2 =>
  ∃ t8 : Sl, (e_1 = .returned (.slice t8.a t8.len t8.cap)) ∧
  K (.slice t8.a t8.len t8.cap) w_2

def sk60 : Sk := .leaf
theorem ok60 : fnOk Tryz.prog Tryz.f60.ntmps Tryz.f60 sk60 = true := by kernel_rfl
theorem eq60 (d0 : Option Addr) (K : Value → World → Prop) (w : World) : fnF Tryz.prog cl Tryz.f60 sk60 [.pointer d0] K w = B60 d0 K w := by kernel_rfl
theorem call60 (d0 : Option Addr) (K : Value → World → Prop) (w : World) (h : B60 d0 K w) : Gets Tryz.prog 60 #[.pointer d0] w K :=
  calls_of (sk := sk60) cl_ok mixed Tryz.func60 ok60 (args := [.pointer d0]) (Nat.le_of_ble_eq_true (by kernel_rfl)) (by rw [eq60]; exact h)

end Go.Proofs.YtgfneeoponiibaaGreat
/- The formulas of functions of this seat's translation, printed by a program of mine off the translation; each is proved equal to 'fnF' of the function's body, so it is enough for the call. No condition. -/
namespace Go.Proofs.YtgfneeoponiibaaGreat
open Go Go.VC
set_option linter.unusedVariables false
/-- jetway/jetwaylaw07.KeepCodes. -/
def B3 (s0_0 : Int) (s0_1 : Int) (s0_2 : Sl) (s0_3 : Sl) (s0_4 : Sl) (b1 : Sl) (K : Value → World → Prop) (w : World) : Prop :=
  New (.cells #[.int .i64 s0_0, .int .i64 s0_1, .slice s0_2.a s0_2.len s0_2.cap, .slice s0_3.a s0_3.len s0_3.cap, .slice s0_4.a s0_4.len s0_4.cap] 27 (0, 0)) (fun b_s2 w_1 =>
  Calls Tryz.prog 8 #[] w_1 fun e w_2 =>
  ∃ t15 : Bool, (e = .returned (.bool t15)) ∧
  ∃ (J : World → Prop), (Br (decide ((↑b1.len : Int) > 200000))
     (K (.bool t15) w_2)
     (∃ t21 : Sl, (At (fun w' => w' = w_2) ⟨b_s2, 0 + 4, none⟩ [.slice t21.a t21.len t21.cap]) ∧
      Br (decide ((↑t21.len : Int) > 200000))
       (K (.bool t15) w_2)
       (J  w_2))) ∧
  ∀ (z : Env)  (w_3 : World), J  w_3 →
  ∃ t27 : Int, ∃ t27_1 : Int, ∃ t27_2 : Sl, ∃ t27_3 : Sl, ∃ t27_4 : Sl, (At (fun w' => w' = w_3) ⟨b_s2, 0, none⟩ [.int .i64 t27, .int .i64 t27_1, .slice t27_2.a t27_2.len t27_2.cap, .slice t27_3.a t27_3.len t27_3.cap, .slice t27_4.a t27_4.len t27_4.cap]) ∧
  Calls Tryz.prog 9 #[.agg #[.int .i64 t27, .int .i64 t27_1, .slice t27_2.a t27_2.len t27_2.cap, .slice t27_3.a t27_3.len t27_3.cap, .slice t27_4.a t27_4.len t27_4.cap]] w_3 fun e_1 w_4 =>
  ∃ t28 : Sl, ∃ t28_1 : Int, (e_1 = .returned (.tuple #[.slice t28.a t28.len t28.cap, .int .i64 t28_1])) ∧
  ∃ t32 : Int, ∃ t32_1 : Int, ∃ t32_2 : Sl, ∃ t32_3 : Sl, ∃ t32_4 : Sl, (At (fun w' => w' = w_4) ⟨b_s2, 0, none⟩ [.int .i64 t32, .int .i64 t32_1, .slice t32_2.a t32_2.len t32_2.cap, .slice t32_3.a t32_3.len t32_3.cap, .slice t32_4.a t32_4.len t32_4.cap]) ∧
  Calls Tryz.prog 10 #[.agg #[.int .i64 t32, .int .i64 t32_1, .slice t32_2.a t32_2.len t32_2.cap, .slice t32_3.a t32_3.len t32_3.cap, .slice t32_4.a t32_4.len t32_4.cap]] w_4 fun e_2 w_5 =>
  ∃ t33 : Sl, ∃ t33_1 : Int, (e_2 = .returned (.tuple #[.slice t33.a t33.len t33.cap, .int .i64 t33_1])) ∧
  Calls Tryz.prog 11 #[.slice b1.a b1.len b1.cap] w_5 fun e_3 w_6 =>
  ∃ t38 : Int, ∃ t38_1 : Int, ∃ t38_2 : Sl, ∃ t38_3 : Sl, ∃ t38_4 : Sl, ∃ t38_5 : Int, (e_3 = .returned (.tuple #[.agg #[.int .i64 t38, .int .i64 t38_1, .slice t38_2.a t38_2.len t38_2.cap, .slice t38_3.a t38_3.len t38_3.cap, .slice t38_4.a t38_4.len t38_4.cap], .int .i64 t38_5])) ∧
  New (.cells #[.int .i64 0, .int .i64 0, .slice none 0 0, .slice none 0 0, .slice none 0 0] 27 (0, 0)) (fun b_y10 w_7 =>
  ∃ w_8 : World, ((Instr.storeAt 27 (.pointer ((some ⟨b_y10, 0, none⟩))) (.agg #[.int .i64 t38, .int .i64 t38_1, .slice t38_2.a t38_2.len t38_2.cap, .slice t38_3.a t38_3.len t38_3.cap, .slice t38_4.a t38_4.len t38_4.cap])).run Tryz.prog w_7 = .ok () w_8) ∧
  Calls Tryz.prog 12 #[.slice b1.a b1.len b1.cap] w_8 fun e_4 w_9 =>
  ∃ t43 : Int, ∃ t43_1 : Int, ∃ t43_2 : Sl, ∃ t43_3 : Sl, ∃ t43_4 : Sl, ∃ t43_5 : Int, (e_4 = .returned (.tuple #[.agg #[.int .i64 t43, .int .i64 t43_1, .slice t43_2.a t43_2.len t43_2.cap, .slice t43_3.a t43_3.len t43_3.cap, .slice t43_4.a t43_4.len t43_4.cap], .int .i64 t43_5])) ∧
  New (.cells #[.int .i64 0, .int .i64 0, .slice none 0 0, .slice none 0 0, .slice none 0 0] 27 (0, 0)) (fun b_also12 w_10 =>
  ∃ w_11 : World, ((Instr.storeAt 27 (.pointer ((some ⟨b_also12, 0, none⟩))) (.agg #[.int .i64 t43, .int .i64 t43_1, .slice t43_2.a t43_2.len t43_2.cap, .slice t43_3.a t43_3.len t43_3.cap, .slice t43_4.a t43_4.len t43_4.cap])).run Tryz.prog w_10 = .ok () w_11) ∧
  ∃ t46 : Int, ∃ t46_1 : Int, ∃ t46_2 : Sl, ∃ t46_3 : Sl, ∃ t46_4 : Sl, (At (fun w' => w' = w_11) ⟨b_y10, 0, none⟩ [.int .i64 t46, .int .i64 t46_1, .slice t46_2.a t46_2.len t46_2.cap, .slice t46_3.a t46_3.len t46_3.cap, .slice t46_4.a t46_4.len t46_4.cap]) ∧
  ∃ t47 : Int, ∃ t47_1 : Int, ∃ t47_2 : Sl, ∃ t47_3 : Sl, ∃ t47_4 : Sl, (At (fun w' => w' = w_11) ⟨b_also12, 0, none⟩ [.int .i64 t47, .int .i64 t47_1, .slice t47_2.a t47_2.len t47_2.cap, .slice t47_3.a t47_3.len t47_3.cap, .slice t47_4.a t47_4.len t47_4.cap]) ∧
  Calls Tryz.prog 13 #[.agg #[.int .i64 t46, .int .i64 t46_1, .slice t46_2.a t46_2.len t46_2.cap, .slice t46_3.a t46_3.len t46_3.cap, .slice t46_4.a t46_4.len t46_4.cap], .agg #[.int .i64 t47, .int .i64 t47_1, .slice t47_2.a t47_2.len t47_2.cap, .slice t47_3.a t47_3.len t47_3.cap, .slice t47_4.a t47_4.len t47_4.cap]] w_11 fun e_5 w_12 =>
  ∃ t48 : Bool, (e_5 = .returned (.bool t48)) ∧
  Br t15
   (∃ t52 : ByteArray, (∀ w', (fun w' => w' = w_12) w' → ((convert 25 9 (.slice t28.a t28.len t28.cap))).run Tryz.prog w' = .ok (.string t52) w') ∧
    ∃ t54 : ByteArray, (∀ w', (fun w' => w' = w_12) w' → ((convert 25 9 (.slice t33.a t33.len t33.cap))).run Tryz.prog w' = .ok (.string t54) w') ∧
    Br (t52.toList == t54.toList)
     (Br (t28_1 == t33_1)
       (Br t48
         (K (.bool (t38_5 == t43_5)) w_12)
         (K (.bool false) w_12))
       (K (.bool false) w_12))
     (K (.bool false) w_12))
   (K (.bool false) w_12)) w_9) w_6) w

def sk3 : Sk := (.seq .leaf (.seq .leaf (.cut [] [] [4, 16, 17, 18, 19, 20, 21, 22, 23, 24, 25] .leaf .leaf)))
theorem ok3 : fnOk Tryz.prog Tryz.f3.ntmps Tryz.f3 sk3 = true := by kernel_rfl
theorem eq3 (s0_0 : Int) (s0_1 : Int) (s0_2 : Sl) (s0_3 : Sl) (s0_4 : Sl) (b1 : Sl) (K : Value → World → Prop) (w : World) : fnF Tryz.prog cl Tryz.f3 sk3 [.agg #[.int .i64 s0_0, .int .i64 s0_1, .slice s0_2.a s0_2.len s0_2.cap, .slice s0_3.a s0_3.len s0_3.cap, .slice s0_4.a s0_4.len s0_4.cap], .slice b1.a b1.len b1.cap] K w = B3 s0_0 s0_1 s0_2 s0_3 s0_4 b1 K w := by kernel_rfl
theorem call3 (s0_0 : Int) (s0_1 : Int) (s0_2 : Sl) (s0_3 : Sl) (s0_4 : Sl) (b1 : Sl) (K : Value → World → Prop) (w : World) (h : B3 s0_0 s0_1 s0_2 s0_3 s0_4 b1 K w) : Gets Tryz.prog 3 #[.agg #[.int .i64 s0_0, .int .i64 s0_1, .slice s0_2.a s0_2.len s0_2.cap, .slice s0_3.a s0_3.len s0_3.cap, .slice s0_4.a s0_4.len s0_4.cap], .slice b1.a b1.len b1.cap] w K :=
  calls_of (sk := sk3) cl_ok mixed Tryz.func3 ok3 (args := [.agg #[.int .i64 s0_0, .int .i64 s0_1, .slice s0_2.a s0_2.len s0_2.cap, .slice s0_3.a s0_3.len s0_3.cap, .slice s0_4.a s0_4.len s0_4.cap], .slice b1.a b1.len b1.cap]) (Nat.le_of_ble_eq_true (by kernel_rfl)) (by rw [eq3]; exact h)

/-- jetway/jetwaylaw07.KeepApart. -/
def B4 (h0_0 : Int) (h0_1 : Int) (s1_0 : Int) (s1_1 : Int) (s1_2 : Sl) (s1_3 : Sl) (s1_4 : Sl) (k2_0 : Int) (k2_1 : Int) (K : Value → World → Prop) (w : World) : Prop :=
  New (.cells #[.int .i64 h0_0, .int .i64 h0_1] 37 (0, 0)) (fun b_h3 w_1 =>
  New (.cells #[.int .i64 s1_0, .int .i64 s1_1, .slice s1_2.a s1_2.len s1_2.cap, .slice s1_3.a s1_3.len s1_3.cap, .slice s1_4.a s1_4.len s1_4.cap] 27 (0, 0)) (fun b_s4 w_2 =>
  New (.cells #[.int .i64 k2_0, .int .i64 k2_1] 37 (0, 0)) (fun b_k5 w_3 =>
  Calls Tryz.prog 8 #[] w_3 fun e w_4 =>
  ∃ t17 : Bool, (e = .returned (.bool t17)) ∧
  ∃ (J : World → Prop), (Br (!t17)
     (K (.bool t17) w_4)
     (∃ t22 : Sl, (At (fun w' => w' = w_4) ⟨b_s4, 0 + 4, none⟩ [.slice t22.a t22.len t22.cap]) ∧
      Br (decide ((↑t22.len : Int) > 60000))
       (K (.bool t17) w_4)
       (∃ t29 : Sl, (At (fun w' => w' = w_4) ⟨b_s4, 0 + 2, none⟩ [.slice t29.a t29.len t29.cap]) ∧
        Br (decide ((↑t29.len : Int) > 100))
         (K (.bool t17) w_4)
         (∃ t36 : Sl, (At (fun w' => w' = w_4) ⟨b_s4, 0 + 2 + 1, none⟩ [.slice t36.a t36.len t36.cap]) ∧
          Br (decide ((↑t36.len : Int) > 100))
           (K (.bool t17) w_4)
           (J  w_4))))) ∧
  ∀ (z : Env)  (w_5 : World), J  w_5 →
  Calls Tryz.prog 14 #[.int .i64 300000] w_5 fun e_1 w_6 =>
  ∃ t42 : Option Addr, ∃ t42_1 : Int, (e_1 = .returned (.tuple #[.pointer t42, .int .i64 t42_1])) ∧
  ∃ (J_1 : World → Prop), (Br (t42_1 != 0)
     (K (.bool false) w_6)
     (Br t42.isNone
       (K (.bool false) w_6)
       (J_1  w_6))) ∧
  ∀ (z_1 : Env)  (w_7 : World), J_1  w_7 →
  ∃ t52 : Int, ∃ t52_1 : Int, (At (fun w' => w' = w_7) ⟨b_h3, 0, none⟩ [.int .i64 t52, .int .i64 t52_1]) ∧
  Calls Tryz.prog 15 #[.pointer t42, .agg #[.int .i64 t52, .int .i64 t52_1]] w_7 fun e_2 w_8 =>
  ∃ t53 : Int, (e_2 = .returned (.int .i64 t53)) ∧
  ∃ t55 : Int, ∃ t55_1 : Int, ∃ t55_2 : Sl, ∃ t55_3 : Sl, ∃ t55_4 : Sl, (At (fun w' => w' = w_8) ⟨b_s4, 0, none⟩ [.int .i64 t55, .int .i64 t55_1, .slice t55_2.a t55_2.len t55_2.cap, .slice t55_3.a t55_3.len t55_3.cap, .slice t55_4.a t55_4.len t55_4.cap]) ∧
  Calls Tryz.prog 16 #[.pointer t42, .agg #[.int .i64 t55, .int .i64 t55_1, .slice t55_2.a t55_2.len t55_2.cap, .slice t55_3.a t55_3.len t55_3.cap, .slice t55_4.a t55_4.len t55_4.cap]] w_8 fun e_3 w_9 =>
  ∃ t56 : Int, (e_3 = .returned (.int .i64 t56)) ∧
  ∃ (J_2 : World → Prop), (Br (t53 != 0)
     (Br (t53 == 1)
       (K (.bool true) w_9)
       (K (.bool (t56 == 1)) w_9))
     (Br (t56 != 0)
       (Br (t53 == 1)
         (K (.bool true) w_9)
         (K (.bool (t56 == 1)) w_9))
       (J_2  w_9))) ∧
  ∀ (z_2 : Env)  (w_10 : World), J_2  w_10 →
  Calls Tryz.prog 17 #[.pointer t42] w_10 fun e_4 w_11 =>
  ∃ t71 : Int, ∃ t71_1 : Int, ∃ t71_2 : Int, (e_4 = .returned (.tuple #[.agg #[.int .i64 t71, .int .i64 t71_1], .int .i64 t71_2])) ∧
  New (.cells #[.int .i64 0, .int .i64 0] 37 (0, 0)) (fun b_x12 w_12 =>
  ∃ w_13 : World, ((Instr.storeAt 37 (.pointer ((some ⟨b_x12, 0, none⟩))) (.agg #[.int .i64 t71, .int .i64 t71_1])).run Tryz.prog w_12 = .ok () w_13) ∧
  ∃ t75 : Int, ∃ t75_1 : Int, (At (fun w' => w' = w_13) ⟨b_k5, 0, none⟩ [.int .i64 t75, .int .i64 t75_1]) ∧
  Calls Tryz.prog 15 #[.pointer t42, .agg #[.int .i64 t75, .int .i64 t75_1]] w_13 fun e_5 w_14 =>
  ∃ t76 : Int, (e_5 = .returned (.int .i64 t76)) ∧
  Calls Tryz.prog 18 #[.pointer t42] w_14 fun e_6 w_15 =>
  ∃ t79 : Int, ∃ t79_1 : Int, ∃ t79_2 : Sl, ∃ t79_3 : Sl, ∃ t79_4 : Sl, ∃ t79_5 : Int, (e_6 = .returned (.tuple #[.agg #[.int .i64 t79, .int .i64 t79_1, .slice t79_2.a t79_2.len t79_2.cap, .slice t79_3.a t79_3.len t79_3.cap, .slice t79_4.a t79_4.len t79_4.cap], .int .i64 t79_5])) ∧
  New (.cells #[.int .i64 0, .int .i64 0, .slice none 0 0, .slice none 0 0, .slice none 0 0] 27 (0, 0)) (fun b_y14 w_16 =>
  ∃ w_17 : World, ((Instr.storeAt 27 (.pointer ((some ⟨b_y14, 0, none⟩))) (.agg #[.int .i64 t79, .int .i64 t79_1, .slice t79_2.a t79_2.len t79_2.cap, .slice t79_3.a t79_3.len t79_3.cap, .slice t79_4.a t79_4.len t79_4.cap])).run Tryz.prog w_16 = .ok () w_17) ∧
  ∃ t82 : Int, ∃ t82_1 : Int, ∃ t82_2 : Sl, ∃ t82_3 : Sl, ∃ t82_4 : Sl, (At (fun w' => w' = w_17) ⟨b_y14, 0, none⟩ [.int .i64 t82, .int .i64 t82_1, .slice t82_2.a t82_2.len t82_2.cap, .slice t82_3.a t82_3.len t82_3.cap, .slice t82_4.a t82_4.len t82_4.cap]) ∧
  ∃ t83 : Int, ∃ t83_1 : Int, ∃ t83_2 : Sl, ∃ t83_3 : Sl, ∃ t83_4 : Sl, (At (fun w' => w' = w_17) ⟨b_s4, 0, none⟩ [.int .i64 t83, .int .i64 t83_1, .slice t83_2.a t83_2.len t83_2.cap, .slice t83_3.a t83_3.len t83_3.cap, .slice t83_4.a t83_4.len t83_4.cap]) ∧
  Calls Tryz.prog 13 #[.agg #[.int .i64 t82, .int .i64 t82_1, .slice t82_2.a t82_2.len t82_2.cap, .slice t82_3.a t82_3.len t82_3.cap, .slice t82_4.a t82_4.len t82_4.cap], .agg #[.int .i64 t83, .int .i64 t83_1, .slice t83_2.a t83_2.len t83_2.cap, .slice t83_3.a t83_3.len t83_3.cap, .slice t83_4.a t83_4.len t83_4.cap]] w_17 fun e_7 w_18 =>
  ∃ t84 : Bool, (e_7 = .returned (.bool t84)) ∧
  Br (t71_2 == 0)
   (Br (t79_5 == 0)
     (∃ t92 : Int, ∃ t92_1 : Int, (At (fun w' => w' = w_18) ⟨b_x12, 0, none⟩ [.int .i64 t92, .int .i64 t92_1]) ∧
      ∃ t93 : Int, ∃ t93_1 : Int, (At (fun w' => w' = w_18) ⟨b_h3, 0, none⟩ [.int .i64 t93, .int .i64 t93_1]) ∧
      ∃ t94 : Bool, (∀ w', (fun w' => w' = w_18) w' → ((do eqGuard BinOp.eql 37 (Operand.tmp 92) (Operand.tmp 93) (.agg #[.int .i64 t92, .int .i64 t92_1]) (.agg #[.int .i64 t93, .int .i64 t93_1]); binOp BinOp.eql 37 (.agg #[.int .i64 t92, .int .i64 t92_1]) (.agg #[.int .i64 t93, .int .i64 t93_1]) : Sem Value)).run Tryz.prog w' = .ok (.bool t94) w') ∧
      Br t94
       (K (.bool t84) w_18)
       (K (.bool false) w_18))
     (K (.bool false) w_18))
   (K (.bool false) w_18)) w_15) w_11) w_2) w_1) w

def sk4 : Sk := (.seq .leaf (.seq .leaf (.cut [] [] [6, 18, 19, 20, 21, 22, 23, 24, 25, 26, 27, 28, 29, 30, 31, 32, 33, 34, 35, 36, 37, 38, 39, 40] .leaf (.seq .leaf (.cut [] [] [6, 45, 46, 47, 48, 49, 50] .leaf (.seq .leaf (.seq .leaf (.cut [] [] [6, 57, 58, 59, 60, 61, 62, 63, 64, 65, 66, 67, 68] .leaf .leaf))))))))
theorem ok4 : fnOk Tryz.prog Tryz.f4.ntmps Tryz.f4 sk4 = true := by kernel_rfl
theorem eq4 (h0_0 : Int) (h0_1 : Int) (s1_0 : Int) (s1_1 : Int) (s1_2 : Sl) (s1_3 : Sl) (s1_4 : Sl) (k2_0 : Int) (k2_1 : Int) (K : Value → World → Prop) (w : World) : fnF Tryz.prog cl Tryz.f4 sk4 [.agg #[.int .i64 h0_0, .int .i64 h0_1], .agg #[.int .i64 s1_0, .int .i64 s1_1, .slice s1_2.a s1_2.len s1_2.cap, .slice s1_3.a s1_3.len s1_3.cap, .slice s1_4.a s1_4.len s1_4.cap], .agg #[.int .i64 k2_0, .int .i64 k2_1]] K w = B4 h0_0 h0_1 s1_0 s1_1 s1_2 s1_3 s1_4 k2_0 k2_1 K w := by kernel_rfl
theorem call4 (h0_0 : Int) (h0_1 : Int) (s1_0 : Int) (s1_1 : Int) (s1_2 : Sl) (s1_3 : Sl) (s1_4 : Sl) (k2_0 : Int) (k2_1 : Int) (K : Value → World → Prop) (w : World) (h : B4 h0_0 h0_1 s1_0 s1_1 s1_2 s1_3 s1_4 k2_0 k2_1 K w) : Gets Tryz.prog 4 #[.agg #[.int .i64 h0_0, .int .i64 h0_1], .agg #[.int .i64 s1_0, .int .i64 s1_1, .slice s1_2.a s1_2.len s1_2.cap, .slice s1_3.a s1_3.len s1_3.cap, .slice s1_4.a s1_4.len s1_4.cap], .agg #[.int .i64 k2_0, .int .i64 k2_1]] w K :=
  calls_of (sk := sk4) cl_ok mixed Tryz.func4 ok4 (args := [.agg #[.int .i64 h0_0, .int .i64 h0_1], .agg #[.int .i64 s1_0, .int .i64 s1_1, .slice s1_2.a s1_2.len s1_2.cap, .slice s1_3.a s1_3.len s1_3.cap, .slice s1_4.a s1_4.len s1_4.cap], .agg #[.int .i64 k2_0, .int .i64 k2_1]]) (Nat.le_of_ble_eq_true (by kernel_rfl)) (by rw [eq4]; exact h)

/-- jetway/jetwaylaw07.KeepSnaps. -/
def B5 (s0_0 : Int) (s0_1 : Int) (s0_2 : Sl) (s0_3 : Sl) (s0_4 : Sl) (l1 : Sl) (K : Value → World → Prop) (w : World) : Prop :=
  New (.cells #[.int .i64 s0_0, .int .i64 s0_1, .slice s0_2.a s0_2.len s0_2.cap, .slice s0_3.a s0_3.len s0_3.cap, .slice s0_4.a s0_4.len s0_4.cap] 27 (0, 0)) (fun b_s2 w_1 =>
  Calls Tryz.prog 8 #[] w_1 fun e w_2 =>
  ∃ t17 : Bool, (e = .returned (.bool t17)) ∧
  ∃ (J : World → Prop), (Br (!t17)
     (K (.bool t17) w_2)
     (∃ t22 : Sl, (At (fun w' => w' = w_2) ⟨b_s2, 0 + 4, none⟩ [.slice t22.a t22.len t22.cap]) ∧
      Br (decide ((↑t22.len : Int) > 100000))
       (K (.bool t17) w_2)
       (∃ t29 : Sl, (At (fun w' => w' = w_2) ⟨b_s2, 0 + 2, none⟩ [.slice t29.a t29.len t29.cap]) ∧
        Br (decide ((↑t29.len : Int) > 100))
         (K (.bool t17) w_2)
         (∃ t36 : Sl, (At (fun w' => w' = w_2) ⟨b_s2, 0 + 2 + 1, none⟩ [.slice t36.a t36.len t36.cap]) ∧
          Br (decide ((↑t36.len : Int) > 100))
           (K (.bool t17) w_2)
           (J  w_2))))) ∧
  ∀ (z : Env)  (w_3 : World), J  w_3 →
  ∃ t42 : Int, ∃ t42_1 : Int, ∃ t42_2 : Sl, ∃ t42_3 : Sl, ∃ t42_4 : Sl, (At (fun w' => w' = w_3) ⟨b_s2, 0, none⟩ [.int .i64 t42, .int .i64 t42_1, .slice t42_2.a t42_2.len t42_2.cap, .slice t42_3.a t42_3.len t42_3.cap, .slice t42_4.a t42_4.len t42_4.cap]) ∧
  Calls Tryz.prog 9 #[.agg #[.int .i64 t42, .int .i64 t42_1, .slice t42_2.a t42_2.len t42_2.cap, .slice t42_3.a t42_3.len t42_3.cap, .slice t42_4.a t42_4.len t42_4.cap]] w_3 fun e_1 w_4 =>
  ∃ t43 : Sl, ∃ t43_1 : Int, (e_1 = .returned (.tuple #[.slice t43.a t43.len t43.cap, .int .i64 t43_1])) ∧
  Br (t43_1 != 0)
   (K (.bool (t43_1 == 1)) w_4)
   (Calls Tryz.prog 11 #[.slice t43.a t43.len t43.cap] w_4 fun e_2 w_5 =>
    ∃ t52 : Int, ∃ t52_1 : Int, ∃ t52_2 : Sl, ∃ t52_3 : Sl, ∃ t52_4 : Sl, ∃ t52_5 : Int, (e_2 = .returned (.tuple #[.agg #[.int .i64 t52, .int .i64 t52_1, .slice t52_2.a t52_2.len t52_2.cap, .slice t52_3.a t52_3.len t52_3.cap, .slice t52_4.a t52_4.len t52_4.cap], .int .i64 t52_5])) ∧
    New (.cells #[.int .i64 0, .int .i64 0, .slice none 0 0, .slice none 0 0, .slice none 0 0] 27 (0, 0)) (fun b_x8 w_6 =>
    ∃ w_7 : World, ((Instr.storeAt 27 (.pointer ((some ⟨b_x8, 0, none⟩))) (.agg #[.int .i64 t52, .int .i64 t52_1, .slice t52_2.a t52_2.len t52_2.cap, .slice t52_3.a t52_3.len t52_3.cap, .slice t52_4.a t52_4.len t52_4.cap])).run Tryz.prog w_6 = .ok () w_7) ∧
    Calls Tryz.prog 14 #[.int .i64 200000] w_7 fun e_3 w_8 =>
    ∃ t56 : Option Addr, ∃ t56_1 : Int, (e_3 = .returned (.tuple #[.pointer t56, .int .i64 t56_1])) ∧
    ∃ (J_1 : World → Prop), (Br (t56_1 != 0)
       (K (.bool false) w_8)
       (Br t56.isNone
         (K (.bool false) w_8)
         (J_1  w_8))) ∧
    ∀ (z_1 : Env)  (w_9 : World), J_1  w_9 →
    ∃ t66 : Int, ∃ t66_1 : Int, ∃ t66_2 : Sl, ∃ t66_3 : Sl, ∃ t66_4 : Sl, (At (fun w' => w' = w_9) ⟨b_s2, 0, none⟩ [.int .i64 t66, .int .i64 t66_1, .slice t66_2.a t66_2.len t66_2.cap, .slice t66_3.a t66_3.len t66_3.cap, .slice t66_4.a t66_4.len t66_4.cap]) ∧
    Calls Tryz.prog 16 #[.pointer t56, .agg #[.int .i64 t66, .int .i64 t66_1, .slice t66_2.a t66_2.len t66_2.cap, .slice t66_3.a t66_3.len t66_3.cap, .slice t66_4.a t66_4.len t66_4.cap]] w_9 fun e_4 w_10 =>
    ∃ t67 : Int, (e_4 = .returned (.int .i64 t67)) ∧
    Calls Tryz.prog 19 #[.pointer t56, .slice l1.a l1.len l1.cap] w_10 fun e_5 w_11 =>
    (e_5 = .returned (.tuple #[])) ∧
    Calls Tryz.prog 18 #[.pointer t56] w_11 fun e_6 w_12 =>
    ∃ t73 : Int, ∃ t73_1 : Int, ∃ t73_2 : Sl, ∃ t73_3 : Sl, ∃ t73_4 : Sl, ∃ t73_5 : Int, (e_6 = .returned (.tuple #[.agg #[.int .i64 t73, .int .i64 t73_1, .slice t73_2.a t73_2.len t73_2.cap, .slice t73_3.a t73_3.len t73_3.cap, .slice t73_4.a t73_4.len t73_4.cap], .int .i64 t73_5])) ∧
    New (.cells #[.int .i64 0, .int .i64 0, .slice none 0 0, .slice none 0 0, .slice none 0 0] 27 (0, 0)) (fun b_y13 w_13 =>
    ∃ w_14 : World, ((Instr.storeAt 27 (.pointer ((some ⟨b_y13, 0, none⟩))) (.agg #[.int .i64 t73, .int .i64 t73_1, .slice t73_2.a t73_2.len t73_2.cap, .slice t73_3.a t73_3.len t73_3.cap, .slice t73_4.a t73_4.len t73_4.cap])).run Tryz.prog w_13 = .ok () w_14) ∧
    ∃ t76 : Int, ∃ t76_1 : Int, ∃ t76_2 : Sl, ∃ t76_3 : Sl, ∃ t76_4 : Sl, (At (fun w' => w' = w_14) ⟨b_x8, 0, none⟩ [.int .i64 t76, .int .i64 t76_1, .slice t76_2.a t76_2.len t76_2.cap, .slice t76_3.a t76_3.len t76_3.cap, .slice t76_4.a t76_4.len t76_4.cap]) ∧
    ∃ t77 : Int, ∃ t77_1 : Int, ∃ t77_2 : Sl, ∃ t77_3 : Sl, ∃ t77_4 : Sl, (At (fun w' => w' = w_14) ⟨b_s2, 0, none⟩ [.int .i64 t77, .int .i64 t77_1, .slice t77_2.a t77_2.len t77_2.cap, .slice t77_3.a t77_3.len t77_3.cap, .slice t77_4.a t77_4.len t77_4.cap]) ∧
    Calls Tryz.prog 13 #[.agg #[.int .i64 t76, .int .i64 t76_1, .slice t76_2.a t76_2.len t76_2.cap, .slice t76_3.a t76_3.len t76_3.cap, .slice t76_4.a t76_4.len t76_4.cap], .agg #[.int .i64 t77, .int .i64 t77_1, .slice t77_2.a t77_2.len t77_2.cap, .slice t77_3.a t77_3.len t77_3.cap, .slice t77_4.a t77_4.len t77_4.cap]] w_14 fun e_7 w_15 =>
    ∃ t78 : Bool, (e_7 = .returned (.bool t78)) ∧
    ∃ t79 : Int, ∃ t79_1 : Int, ∃ t79_2 : Sl, ∃ t79_3 : Sl, ∃ t79_4 : Sl, (At (fun w' => w' = w_15) ⟨b_y13, 0, none⟩ [.int .i64 t79, .int .i64 t79_1, .slice t79_2.a t79_2.len t79_2.cap, .slice t79_3.a t79_3.len t79_3.cap, .slice t79_4.a t79_4.len t79_4.cap]) ∧
    ∃ t80 : Int, ∃ t80_1 : Int, ∃ t80_2 : Sl, ∃ t80_3 : Sl, ∃ t80_4 : Sl, (At (fun w' => w' = w_15) ⟨b_s2, 0, none⟩ [.int .i64 t80, .int .i64 t80_1, .slice t80_2.a t80_2.len t80_2.cap, .slice t80_3.a t80_3.len t80_3.cap, .slice t80_4.a t80_4.len t80_4.cap]) ∧
    Calls Tryz.prog 13 #[.agg #[.int .i64 t79, .int .i64 t79_1, .slice t79_2.a t79_2.len t79_2.cap, .slice t79_3.a t79_3.len t79_3.cap, .slice t79_4.a t79_4.len t79_4.cap], .agg #[.int .i64 t80, .int .i64 t80_1, .slice t80_2.a t80_2.len t80_2.cap, .slice t80_3.a t80_3.len t80_3.cap, .slice t80_4.a t80_4.len t80_4.cap]] w_15 fun e_8 w_16 =>
    ∃ t81 : Bool, (e_8 = .returned (.bool t81)) ∧
    Br (t52_5 == 0)
     (Br (t67 == 0)
       (Br (t73_5 == 0)
         (Br t78
           (K (.bool t81) w_16)
           (K (.bool false) w_16))
         (K (.bool false) w_16))
       (K (.bool false) w_16))
     (K (.bool false) w_16)) w_12) w_5)) w

def sk5 : Sk := (.seq .leaf (.seq .leaf (.cut [] [] [4, 18, 19, 20, 21, 22, 23, 24, 25, 26, 27, 28, 29, 30, 31, 32, 33, 34, 35, 36, 37, 38, 39, 40] .leaf (.seq .leaf (.seq .leaf (.seq .leaf (.seq .leaf (.cut [] [] [4, 59, 60, 61, 62, 63, 64] .leaf .leaf))))))))
theorem ok5 : fnOk Tryz.prog Tryz.f5.ntmps Tryz.f5 sk5 = true := by kernel_rfl
theorem eq5 (s0_0 : Int) (s0_1 : Int) (s0_2 : Sl) (s0_3 : Sl) (s0_4 : Sl) (l1 : Sl) (K : Value → World → Prop) (w : World) : fnF Tryz.prog cl Tryz.f5 sk5 [.agg #[.int .i64 s0_0, .int .i64 s0_1, .slice s0_2.a s0_2.len s0_2.cap, .slice s0_3.a s0_3.len s0_3.cap, .slice s0_4.a s0_4.len s0_4.cap], .slice l1.a l1.len l1.cap] K w = B5 s0_0 s0_1 s0_2 s0_3 s0_4 l1 K w := by kernel_rfl
theorem call5 (s0_0 : Int) (s0_1 : Int) (s0_2 : Sl) (s0_3 : Sl) (s0_4 : Sl) (l1 : Sl) (K : Value → World → Prop) (w : World) (h : B5 s0_0 s0_1 s0_2 s0_3 s0_4 l1 K w) : Gets Tryz.prog 5 #[.agg #[.int .i64 s0_0, .int .i64 s0_1, .slice s0_2.a s0_2.len s0_2.cap, .slice s0_3.a s0_3.len s0_3.cap, .slice s0_4.a s0_4.len s0_4.cap], .slice l1.a l1.len l1.cap] w K :=
  calls_of (sk := sk5) cl_ok mixed Tryz.func5 ok5 (args := [.agg #[.int .i64 s0_0, .int .i64 s0_1, .slice s0_2.a s0_2.len s0_2.cap, .slice s0_3.a s0_3.len s0_3.cap, .slice s0_4.a s0_4.len s0_4.cap], .slice l1.a l1.len l1.cap]) (Nat.le_of_ble_eq_true (by kernel_rfl)) (by rw [eq5]; exact h)

/-- jetway/jetwaylaw07.KeepAtomic. -/
def B6 (a0_0 : Int) (a0_1 : Int) (a0_2 : ByteArray) (a0_3 : Int) (a0_4 : Int) (a0_5 : Int) (a0_6 : Int) (a0_7 : Sl) (a0_8 : Sl) (a0_9 : Sl) (a0_10 : Sl) (a0_11 : Sl) (b1_0 : Int) (b1_1 : Int) (b1_2 : ByteArray) (b1_3 : Int) (b1_4 : Int) (b1_5 : Int) (b1_6 : Int) (b1_7 : Sl) (b1_8 : Sl) (b1_9 : Sl) (b1_10 : Sl) (b1_11 : Sl) (n2 : Int) (K : Value → World → Prop) (w : World) : Prop :=
  New (.cells #[.int .i64 a0_0, .int .i64 a0_1, .string a0_2, .int .i64 a0_3, .int .i64 a0_4, .int .i64 a0_5, .int .i64 a0_6, .slice a0_7.a a0_7.len a0_7.cap, .slice a0_8.a a0_8.len a0_8.cap, .slice a0_9.a a0_9.len a0_9.cap, .slice a0_10.a a0_10.len a0_10.cap, .slice a0_11.a a0_11.len a0_11.cap] 50 (0, 0)) (fun b_a3 w_1 =>
  New (.cells #[.int .i64 b1_0, .int .i64 b1_1, .string b1_2, .int .i64 b1_3, .int .i64 b1_4, .int .i64 b1_5, .int .i64 b1_6, .slice b1_7.a b1_7.len b1_7.cap, .slice b1_8.a b1_8.len b1_8.cap, .slice b1_9.a b1_9.len b1_9.cap, .slice b1_10.a b1_10.len b1_10.cap, .slice b1_11.a b1_11.len b1_11.cap] 50 (0, 0)) (fun b_b4 w_2 =>
  Calls Tryz.prog 8 #[] w_2 fun e w_3 =>
  ∃ t20 : Bool, (e = .returned (.bool t20)) ∧
  Calls Tryz.prog 14 #[.int .i64 200000] w_3 fun e_1 w_4 =>
  ∃ t22 : Option Addr, ∃ t22_1 : Int, (e_1 = .returned (.tuple #[.pointer t22, .int .i64 t22_1])) ∧
  ∃ (J : World → Prop), (Br (!t20)
     (K (.bool t20) w_4)
     (Br (t22_1 != 0)
       (K (.bool t20) w_4)
       (Br t22.isNone
         (K (.bool t20) w_4)
         (∃ t38 : Sl, (At (fun w' => w' = w_4) ⟨b_a3, 0 + 5 + 4, none⟩ [.slice t38.a t38.len t38.cap]) ∧
          Br (decide ((↑t38.len : Int) > 60000))
           (K (.bool t20) w_4)
           (∃ t45 : Sl, (At (fun w' => w' = w_4) ⟨b_b4, 0 + 5 + 4, none⟩ [.slice t45.a t45.len t45.cap]) ∧
            Br (decide ((↑t45.len : Int) > 60000))
             (K (.bool t20) w_4)
             (J  w_4)))))) ∧
  ∀ (z : Env)  (w_5 : World), J  w_5 →
  ∃ (J_1 : Bool → World → Prop), (∃ t51 : Int, ∃ t51_1 : Int, (At (fun w' => w' = w_5) ⟨b_a3, 0 + 3, none⟩ [.int .i64 t51, .int .i64 t51_1]) ∧
    Calls Tryz.prog 20 #[.agg #[.int .i64 t51, .int .i64 t51_1]] w_5 fun e_2 w_6 =>
    ∃ t52 : Bool, (e_2 = .returned (.bool t52)) ∧
    Br t52
     (∃ t55 : Int, ∃ t55_1 : Int, (At (fun w' => w' = w_6) ⟨b_b4, 0 + 3, none⟩ [.int .i64 t55, .int .i64 t55_1]) ∧
      Calls Tryz.prog 20 #[.agg #[.int .i64 t55, .int .i64 t55_1]] w_6 fun e_3 w_7 =>
      ∃ t56 : Bool, (e_3 = .returned (.bool t56)) ∧
      J_1 t56 w_7)
     (J_1 false w_6)) ∧
  ∀ (z_1 : Env) (one10 : Bool) (w_8 : World), J_1 one10 w_8 →
  ∃ (J_2 : Bool → World → Prop), (∃ t59 : Int, ∃ t59_1 : Int, ∃ t59_2 : Sl, ∃ t59_3 : Sl, ∃ t59_4 : Sl, (At (fun w' => w' = w_8) ⟨b_a3, 0 + 5, none⟩ [.int .i64 t59, .int .i64 t59_1, .slice t59_2.a t59_2.len t59_2.cap, .slice t59_3.a t59_3.len t59_3.cap, .slice t59_4.a t59_4.len t59_4.cap]) ∧
    Calls Tryz.prog 21 #[.agg #[.int .i64 t59, .int .i64 t59_1, .slice t59_2.a t59_2.len t59_2.cap, .slice t59_3.a t59_3.len t59_3.cap, .slice t59_4.a t59_4.len t59_4.cap]] w_8 fun e_4 w_9 =>
    ∃ t60 : Bool, (e_4 = .returned (.bool t60)) ∧
    Br t60
     (∃ t63 : Int, ∃ t63_1 : Int, ∃ t63_2 : Sl, ∃ t63_3 : Sl, ∃ t63_4 : Sl, (At (fun w' => w' = w_9) ⟨b_b4, 0 + 5, none⟩ [.int .i64 t63, .int .i64 t63_1, .slice t63_2.a t63_2.len t63_2.cap, .slice t63_3.a t63_3.len t63_3.cap, .slice t63_4.a t63_4.len t63_4.cap]) ∧
      Calls Tryz.prog 21 #[.agg #[.int .i64 t63, .int .i64 t63_1, .slice t63_2.a t63_2.len t63_2.cap, .slice t63_3.a t63_3.len t63_3.cap, .slice t63_4.a t63_4.len t63_4.cap]] w_9 fun e_5 w_10 =>
      ∃ t64 : Bool, (e_5 = .returned (.bool t64)) ∧
      J_2 t64 w_10)
     (J_2 false w_9)) ∧
  ∀ (z_2 : Env) (two11 : Bool) (w_11 : World), J_2 two11 w_11 →
  ∃ (J_3 : World → Prop), (Br (!one10)
     (K (.bool true) w_11)
     (Br (!two11)
       (K (.bool true) w_11)
       (Br (decide (n2 < 0))
         (K (.bool true) w_11)
         (J_3  w_11)))) ∧
  ∀ (z_3 : Env)  (w_12 : World), J_3  w_12 →
  ∃ t78 : Int, ∃ t78_1 : Int, (At (fun w' => w' = w_12) ⟨b_a3, 0 + 3, none⟩ [.int .i64 t78, .int .i64 t78_1]) ∧
  Calls Tryz.prog 15 #[.pointer t22, .agg #[.int .i64 t78, .int .i64 t78_1]] w_12 fun e_6 w_13 =>
  ∃ t79 : Int, (e_6 = .returned (.int .i64 t79)) ∧
  ∃ t82 : Int, ∃ t82_1 : Int, ∃ t82_2 : Sl, ∃ t82_3 : Sl, ∃ t82_4 : Sl, (At (fun w' => w' = w_13) ⟨b_a3, 0 + 5, none⟩ [.int .i64 t82, .int .i64 t82_1, .slice t82_2.a t82_2.len t82_2.cap, .slice t82_3.a t82_3.len t82_3.cap, .slice t82_4.a t82_4.len t82_4.cap]) ∧
  Calls Tryz.prog 16 #[.pointer t22, .agg #[.int .i64 t82, .int .i64 t82_1, .slice t82_2.a t82_2.len t82_2.cap, .slice t82_3.a t82_3.len t82_3.cap, .slice t82_4.a t82_4.len t82_4.cap]] w_13 fun e_7 w_14 =>
  ∃ t83 : Int, (e_7 = .returned (.int .i64 t83)) ∧
  ∃ (J_4 : World → Prop), (Br (t79 != 0)
     (K (.bool false) w_14)
     (Br (t83 != 0)
       (K (.bool false) w_14)
       (J_4  w_14))) ∧
  ∀ (z_4 : Env)  (w_15 : World), J_4  w_15 →
  Calls Tryz.prog 22 #[.pointer t22, .int .i64 n2] w_15 fun e_8 w_16 =>
  ∃ t92 : Int, (e_8 = .returned (.int .i64 t92)) ∧
  ∃ t95 : Int, ∃ t95_1 : Int, (At (fun w' => w' = w_16) ⟨b_b4, 0 + 3, none⟩ [.int .i64 t95, .int .i64 t95_1]) ∧
  Calls Tryz.prog 15 #[.pointer t22, .agg #[.int .i64 t95, .int .i64 t95_1]] w_16 fun e_9 w_17 =>
  ∃ t96 : Int, (e_9 = .returned (.int .i64 t96)) ∧
  ∃ t99 : Int, ∃ t99_1 : Int, ∃ t99_2 : Sl, ∃ t99_3 : Sl, ∃ t99_4 : Sl, (At (fun w' => w' = w_17) ⟨b_b4, 0 + 5, none⟩ [.int .i64 t99, .int .i64 t99_1, .slice t99_2.a t99_2.len t99_2.cap, .slice t99_3.a t99_3.len t99_3.cap, .slice t99_4.a t99_4.len t99_4.cap]) ∧
  Calls Tryz.prog 16 #[.pointer t22, .agg #[.int .i64 t99, .int .i64 t99_1, .slice t99_2.a t99_2.len t99_2.cap, .slice t99_3.a t99_3.len t99_3.cap, .slice t99_4.a t99_4.len t99_4.cap]] w_17 fun e_10 w_18 =>
  ∃ t100 : Int, (e_10 = .returned (.int .i64 t100)) ∧
  ∃ t103 : Sl, (At (fun w' => w' = w_18) ⟨b_b4, 0 + 10, none⟩ [.slice t103.a t103.len t103.cap]) ∧
  Calls Tryz.prog 19 #[.pointer t22, .slice t103.a t103.len t103.cap] w_18 fun e_11 w_19 =>
  (e_11 = .returned (.tuple #[])) ∧
  Calls Tryz.prog 17 #[.pointer t22] w_19 fun e_12 w_20 =>
  ∃ t107 : Int, ∃ t107_1 : Int, ∃ t107_2 : Int, (e_12 = .returned (.tuple #[.agg #[.int .i64 t107, .int .i64 t107_1], .int .i64 t107_2])) ∧
  New (.cells #[.int .i64 0, .int .i64 0] 37 (0, 0)) (fun b_h14 w_21 =>
  ∃ w_22 : World, ((Instr.storeAt 37 (.pointer ((some ⟨b_h14, 0, none⟩))) (.agg #[.int .i64 t107, .int .i64 t107_1])).run Tryz.prog w_21 = .ok () w_22) ∧
  Calls Tryz.prog 18 #[.pointer t22] w_22 fun e_13 w_23 =>
  ∃ t112 : Int, ∃ t112_1 : Int, ∃ t112_2 : Sl, ∃ t112_3 : Sl, ∃ t112_4 : Sl, ∃ t112_5 : Int, (e_13 = .returned (.tuple #[.agg #[.int .i64 t112, .int .i64 t112_1, .slice t112_2.a t112_2.len t112_2.cap, .slice t112_3.a t112_3.len t112_3.cap, .slice t112_4.a t112_4.len t112_4.cap], .int .i64 t112_5])) ∧
  New (.cells #[.int .i64 0, .int .i64 0, .slice none 0 0, .slice none 0 0, .slice none 0 0] 27 (0, 0)) (fun b_s16 w_24 =>
  ∃ w_25 : World, ((Instr.storeAt 27 (.pointer ((some ⟨b_s16, 0, none⟩))) (.agg #[.int .i64 t112, .int .i64 t112_1, .slice t112_2.a t112_2.len t112_2.cap, .slice t112_3.a t112_3.len t112_3.cap, .slice t112_4.a t112_4.len t112_4.cap])).run Tryz.prog w_24 = .ok () w_25) ∧
  ∃ t115 : Int, ∃ t115_1 : Int, ∃ t115_2 : Sl, ∃ t115_3 : Sl, ∃ t115_4 : Sl, (At (fun w' => w' = w_25) ⟨b_s16, 0, none⟩ [.int .i64 t115, .int .i64 t115_1, .slice t115_2.a t115_2.len t115_2.cap, .slice t115_3.a t115_3.len t115_3.cap, .slice t115_4.a t115_4.len t115_4.cap]) ∧
  ∃ t117 : Int, ∃ t117_1 : Int, ∃ t117_2 : Sl, ∃ t117_3 : Sl, ∃ t117_4 : Sl, (At (fun w' => w' = w_25) ⟨b_a3, 0 + 5, none⟩ [.int .i64 t117, .int .i64 t117_1, .slice t117_2.a t117_2.len t117_2.cap, .slice t117_3.a t117_3.len t117_3.cap, .slice t117_4.a t117_4.len t117_4.cap]) ∧
  Calls Tryz.prog 13 #[.agg #[.int .i64 t115, .int .i64 t115_1, .slice t115_2.a t115_2.len t115_2.cap, .slice t115_3.a t115_3.len t115_3.cap, .slice t115_4.a t115_4.len t115_4.cap], .agg #[.int .i64 t117, .int .i64 t117_1, .slice t117_2.a t117_2.len t117_2.cap, .slice t117_3.a t117_3.len t117_3.cap, .slice t117_4.a t117_4.len t117_4.cap]] w_25 fun e_14 w_26 =>
  ∃ t118 : Bool, (e_14 = .returned (.bool t118)) ∧
  ∃ t119 : Int, ∃ t119_1 : Int, ∃ t119_2 : Sl, ∃ t119_3 : Sl, ∃ t119_4 : Sl, (At (fun w' => w' = w_26) ⟨b_s16, 0, none⟩ [.int .i64 t119, .int .i64 t119_1, .slice t119_2.a t119_2.len t119_2.cap, .slice t119_3.a t119_3.len t119_3.cap, .slice t119_4.a t119_4.len t119_4.cap]) ∧
  ∃ t121 : Int, ∃ t121_1 : Int, ∃ t121_2 : Sl, ∃ t121_3 : Sl, ∃ t121_4 : Sl, (At (fun w' => w' = w_26) ⟨b_b4, 0 + 5, none⟩ [.int .i64 t121, .int .i64 t121_1, .slice t121_2.a t121_2.len t121_2.cap, .slice t121_3.a t121_3.len t121_3.cap, .slice t121_4.a t121_4.len t121_4.cap]) ∧
  Calls Tryz.prog 13 #[.agg #[.int .i64 t119, .int .i64 t119_1, .slice t119_2.a t119_2.len t119_2.cap, .slice t119_3.a t119_3.len t119_3.cap, .slice t119_4.a t119_4.len t119_4.cap], .agg #[.int .i64 t121, .int .i64 t121_1, .slice t121_2.a t121_2.len t121_2.cap, .slice t121_3.a t121_3.len t121_3.cap, .slice t121_4.a t121_4.len t121_4.cap]] w_26 fun e_15 w_27 =>
  ∃ t122 : Bool, (e_15 = .returned (.bool t122)) ∧
  ∃ (J_5 : World → Prop), (Br (t107_2 != 0)
     (K (.bool false) w_27)
     (Br (t112_5 != 0)
       (K (.bool false) w_27)
       (∃ t130 : Int, ∃ t130_1 : Int, (At (fun w' => w' = w_27) ⟨b_h14, 0, none⟩ [.int .i64 t130, .int .i64 t130_1]) ∧
        ∃ t132 : Int, ∃ t132_1 : Int, (At (fun w' => w' = w_27) ⟨b_a3, 0 + 3, none⟩ [.int .i64 t132, .int .i64 t132_1]) ∧
        ∃ t133 : Bool, (∀ w', (fun w' => w' = w_27) w' → ((do eqGuard BinOp.neq 37 (Operand.tmp 130) (Operand.tmp 132) (.agg #[.int .i64 t130, .int .i64 t130_1]) (.agg #[.int .i64 t132, .int .i64 t132_1]); binOp BinOp.neq 37 (.agg #[.int .i64 t130, .int .i64 t130_1]) (.agg #[.int .i64 t132, .int .i64 t132_1]) : Sem Value)).run Tryz.prog w' = .ok (.bool t133) w') ∧
        Br t133
         (∃ t135 : Int, ∃ t135_1 : Int, (At (fun w' => w' = w_27) ⟨b_h14, 0, none⟩ [.int .i64 t135, .int .i64 t135_1]) ∧
          ∃ t137 : Int, ∃ t137_1 : Int, (At (fun w' => w' = w_27) ⟨b_b4, 0 + 3, none⟩ [.int .i64 t137, .int .i64 t137_1]) ∧
          ∃ t138 : Bool, (∀ w', (fun w' => w' = w_27) w' → ((do eqGuard BinOp.neq 37 (Operand.tmp 135) (Operand.tmp 137) (.agg #[.int .i64 t135, .int .i64 t135_1]) (.agg #[.int .i64 t137, .int .i64 t137_1]); binOp BinOp.neq 37 (.agg #[.int .i64 t135, .int .i64 t135_1]) (.agg #[.int .i64 t137, .int .i64 t137_1]) : Sem Value)).run Tryz.prog w' = .ok (.bool t138) w') ∧
          Br t138
           (K (.bool false) w_27)
           (Br (!t118)
             (Br (!t122)
               (K (.bool false) w_27)
               (J_5  w_27))
             (J_5  w_27)))
         (Br (!t118)
           (Br (!t122)
             (K (.bool false) w_27)
             (J_5  w_27))
           (J_5  w_27))))) ∧
  ∀ (z_5 : Env)  (w_28 : World), J_5  w_28 →
  Br (t96 != 0)
   (Br (t100 != 0)
     (K (.bool true) w_28)
     (K (.bool t122) w_28))
   (∃ t152 : Int, ∃ t152_1 : Int, (At (fun w' => w' = w_28) ⟨b_h14, 0, none⟩ [.int .i64 t152, .int .i64 t152_1]) ∧
    ∃ t154 : Int, ∃ t154_1 : Int, (At (fun w' => w' = w_28) ⟨b_b4, 0 + 3, none⟩ [.int .i64 t154, .int .i64 t154_1]) ∧
    ∃ t155 : Bool, (∀ w', (fun w' => w' = w_28) w' → ((do eqGuard BinOp.eql 37 (Operand.tmp 152) (Operand.tmp 154) (.agg #[.int .i64 t152, .int .i64 t152_1]) (.agg #[.int .i64 t154, .int .i64 t154_1]); binOp BinOp.eql 37 (.agg #[.int .i64 t152, .int .i64 t152_1]) (.agg #[.int .i64 t154, .int .i64 t154_1]) : Sem Value)).run Tryz.prog w' = .ok (.bool t155) w') ∧
    Br t155
     (Br (t100 != 0)
       (K (.bool true) w_28)
       (K (.bool t122) w_28))
     (K (.bool false) w_28))) w_23) w_20) w_1) w

def sk6 : Sk := (.seq .leaf (.seq .leaf (.seq .leaf (.cut [] [] [6, 25, 26, 27, 28, 29, 30, 31, 32, 33, 34, 35, 36, 37, 38, 39, 40, 41, 42, 43, 44, 45, 46, 47, 48, 49] .leaf (.cut [10] [.bool] [10, 50, 51, 52, 53, 54, 55, 56, 57] .leaf (.cut [11] [.bool] [11, 58, 59, 60, 61, 62, 63, 64, 65] .leaf (.cut [] [] [6, 66, 67, 68, 69, 70, 71, 72, 73, 74, 75] .leaf (.seq .leaf (.seq .leaf (.cut [] [] [6, 84, 85, 86, 87, 88, 89] .leaf (.seq .leaf (.seq .leaf (.seq .leaf (.seq .leaf (.seq .leaf (.seq .leaf (.seq .leaf (.seq .leaf (.cut [] [] [6, 123, 124, 125, 126, 127, 128, 129, 130, 131, 132, 133, 134, 135, 136, 137, 138, 139, 140, 141, 142, 143, 144, 145, 146, 147, 148] .leaf .leaf)))))))))))))))))))
theorem ok6 : fnOk Tryz.prog Tryz.f6.ntmps Tryz.f6 sk6 = true := by kernel_rfl
theorem eq6 (a0_0 : Int) (a0_1 : Int) (a0_2 : ByteArray) (a0_3 : Int) (a0_4 : Int) (a0_5 : Int) (a0_6 : Int) (a0_7 : Sl) (a0_8 : Sl) (a0_9 : Sl) (a0_10 : Sl) (a0_11 : Sl) (b1_0 : Int) (b1_1 : Int) (b1_2 : ByteArray) (b1_3 : Int) (b1_4 : Int) (b1_5 : Int) (b1_6 : Int) (b1_7 : Sl) (b1_8 : Sl) (b1_9 : Sl) (b1_10 : Sl) (b1_11 : Sl) (n2 : Int) (K : Value → World → Prop) (w : World) : fnF Tryz.prog cl Tryz.f6 sk6 [.agg #[.int .i64 a0_0, .int .i64 a0_1, .string a0_2, .int .i64 a0_3, .int .i64 a0_4, .int .i64 a0_5, .int .i64 a0_6, .slice a0_7.a a0_7.len a0_7.cap, .slice a0_8.a a0_8.len a0_8.cap, .slice a0_9.a a0_9.len a0_9.cap, .slice a0_10.a a0_10.len a0_10.cap, .slice a0_11.a a0_11.len a0_11.cap], .agg #[.int .i64 b1_0, .int .i64 b1_1, .string b1_2, .int .i64 b1_3, .int .i64 b1_4, .int .i64 b1_5, .int .i64 b1_6, .slice b1_7.a b1_7.len b1_7.cap, .slice b1_8.a b1_8.len b1_8.cap, .slice b1_9.a b1_9.len b1_9.cap, .slice b1_10.a b1_10.len b1_10.cap, .slice b1_11.a b1_11.len b1_11.cap], .int .i64 n2] K w = B6 a0_0 a0_1 a0_2 a0_3 a0_4 a0_5 a0_6 a0_7 a0_8 a0_9 a0_10 a0_11 b1_0 b1_1 b1_2 b1_3 b1_4 b1_5 b1_6 b1_7 b1_8 b1_9 b1_10 b1_11 n2 K w := by kernel_rfl
theorem call6 (a0_0 : Int) (a0_1 : Int) (a0_2 : ByteArray) (a0_3 : Int) (a0_4 : Int) (a0_5 : Int) (a0_6 : Int) (a0_7 : Sl) (a0_8 : Sl) (a0_9 : Sl) (a0_10 : Sl) (a0_11 : Sl) (b1_0 : Int) (b1_1 : Int) (b1_2 : ByteArray) (b1_3 : Int) (b1_4 : Int) (b1_5 : Int) (b1_6 : Int) (b1_7 : Sl) (b1_8 : Sl) (b1_9 : Sl) (b1_10 : Sl) (b1_11 : Sl) (n2 : Int) (K : Value → World → Prop) (w : World) (h : B6 a0_0 a0_1 a0_2 a0_3 a0_4 a0_5 a0_6 a0_7 a0_8 a0_9 a0_10 a0_11 b1_0 b1_1 b1_2 b1_3 b1_4 b1_5 b1_6 b1_7 b1_8 b1_9 b1_10 b1_11 n2 K w) : Gets Tryz.prog 6 #[.agg #[.int .i64 a0_0, .int .i64 a0_1, .string a0_2, .int .i64 a0_3, .int .i64 a0_4, .int .i64 a0_5, .int .i64 a0_6, .slice a0_7.a a0_7.len a0_7.cap, .slice a0_8.a a0_8.len a0_8.cap, .slice a0_9.a a0_9.len a0_9.cap, .slice a0_10.a a0_10.len a0_10.cap, .slice a0_11.a a0_11.len a0_11.cap], .agg #[.int .i64 b1_0, .int .i64 b1_1, .string b1_2, .int .i64 b1_3, .int .i64 b1_4, .int .i64 b1_5, .int .i64 b1_6, .slice b1_7.a b1_7.len b1_7.cap, .slice b1_8.a b1_8.len b1_8.cap, .slice b1_9.a b1_9.len b1_9.cap, .slice b1_10.a b1_10.len b1_10.cap, .slice b1_11.a b1_11.len b1_11.cap], .int .i64 n2] w K :=
  calls_of (sk := sk6) cl_ok mixed Tryz.func6 ok6 (args := [.agg #[.int .i64 a0_0, .int .i64 a0_1, .string a0_2, .int .i64 a0_3, .int .i64 a0_4, .int .i64 a0_5, .int .i64 a0_6, .slice a0_7.a a0_7.len a0_7.cap, .slice a0_8.a a0_8.len a0_8.cap, .slice a0_9.a a0_9.len a0_9.cap, .slice a0_10.a a0_10.len a0_10.cap, .slice a0_11.a a0_11.len a0_11.cap], .agg #[.int .i64 b1_0, .int .i64 b1_1, .string b1_2, .int .i64 b1_3, .int .i64 b1_4, .int .i64 b1_5, .int .i64 b1_6, .slice b1_7.a b1_7.len b1_7.cap, .slice b1_8.a b1_8.len b1_8.cap, .slice b1_9.a b1_9.len b1_9.cap, .slice b1_10.a b1_10.len b1_10.cap, .slice b1_11.a b1_11.len b1_11.cap], .int .i64 n2]) (Nat.le_of_ble_eq_true (by kernel_rfl)) (by rw [eq6]; exact h)

/-- jetway/jetwaylaw07.KeepScripts. -/
def B7 (room0 : Int) (l1 : Sl) (K : Value → World → Prop) (w : World) : Prop :=
  Calls Tryz.prog 8 #[] w fun e w_1 =>
  ∃ t26 : Bool, (e = .returned (.bool t26)) ∧
  Calls Tryz.prog 14 #[.int .i64 room0] w_1 fun e_1 w_2 =>
  ∃ t29 : Option Addr, ∃ t29_1 : Int, (e_1 = .returned (.tuple #[.pointer t29, .int .i64 t29_1])) ∧
  Calls Tryz.prog 23 #[.int .i64 room0] w_2 fun e_2 w_3 =>
  ∃ t34 : Option Addr, ∃ t34_1 : Int, (e_2 = .returned (.tuple #[.pointer t34, .int .i64 t34_1])) ∧
  ∃ (J : World → Prop), (Br (!t26)
     (K (.bool false) w_3)
     (Br (t29_1 != t34_1)
       (K (.bool false) w_3)
       (Br (!t29.isNone == t34.isNone)
         (K (.bool false) w_3)
         (J  w_3)))) ∧
  ∀ (z : Env)  (w_4 : World), J  w_4 →
  Br t29.isNone
   (K (.bool true) w_4)
   (∃ (I : Int → World → Prop) (μ : Int → World → Nat), (I 0 w_4) ∧ ∀ (z_1 : Env) (i10 : Int) (w_5 : World), I i10 w_5 →
    ∃ (J_1 : World → Prop), (Br (decide (i10 < (↑l1.len : Int)))
       (Br (decide (i10 < 60))
         (J_1  w_5)
         (Calls Tryz.prog 15 #[.pointer none, .agg #[.int .i64 0, .int .i64 0]] w_5 fun e_3 w_6 =>
          ∃ t207 : Int, (e_3 = .returned (.int .i64 t207)) ∧
          K (.bool (t207 == 1)) w_6))
       (Calls Tryz.prog 15 #[.pointer none, .agg #[.int .i64 0, .int .i64 0]] w_5 fun e_4 w_7 =>
        ∃ t207_1 : Int, (e_4 = .returned (.int .i64 t207_1)) ∧
        K (.bool (t207_1 == 1)) w_7)) ∧
    ∀ (z_2 : Env)  (w_8 : World), J_1  w_8 →
    Rng i10 l1.len (NilP l1.a fun a_t65 =>
    ∃ t66 : Int, ∃ t66_1 : Int, ∃ t66_2 : ByteArray, ∃ t66_3 : Int, ∃ t66_4 : Int, ∃ t66_5 : Int, ∃ t66_6 : Int, ∃ t66_7 : Sl, ∃ t66_8 : Sl, ∃ t66_9 : Sl, ∃ t66_10 : Sl, ∃ t66_11 : Sl, (At (fun w' => w' = w_8) (Addr.add a_t65 (mulS i10.toNat 12)) [.int .i64 t66, .int .i64 t66_1, .string t66_2, .int .i64 t66_3, .int .i64 t66_4, .int .i64 t66_5, .int .i64 t66_6, .slice t66_7.a t66_7.len t66_7.cap, .slice t66_8.a t66_8.len t66_8.cap, .slice t66_9.a t66_9.len t66_9.cap, .slice t66_10.a t66_10.len t66_10.cap, .slice t66_11.a t66_11.len t66_11.cap]) ∧
    New (.cells #[.int .i64 0, .int .i64 0, .string (ByteArray.mk #[]), .int .i64 0, .int .i64 0, .int .i64 0, .int .i64 0, .slice none 0 0, .slice none 0 0, .slice none 0 0, .slice none 0 0, .slice none 0 0] 50 (0, 0)) (fun b_s11 w_9 =>
    ∃ w_10 : World, ((Instr.storeAt 50 (.pointer ((some ⟨b_s11, 0, none⟩))) (.agg #[.int .i64 t66, .int .i64 t66_1, .string t66_2, .int .i64 t66_3, .int .i64 t66_4, .int .i64 t66_5, .int .i64 t66_6, .slice t66_7.a t66_7.len t66_7.cap, .slice t66_8.a t66_8.len t66_8.cap, .slice t66_9.a t66_9.len t66_9.cap, .slice t66_10.a t66_10.len t66_10.cap, .slice t66_11.a t66_11.len t66_11.cap])).run Tryz.prog w_9 = .ok () w_10) ∧
    ∃ (J_2 : World → Prop), (∃ t68 : Sl, (At (fun w' => w' = w_10) ⟨b_s11, 0 + 11, none⟩ [.slice t68.a t68.len t68.cap]) ∧
      Br (decide ((↑t68.len : Int) > 100000))
       (K (.bool true) w_10)
       (∃ t74 : Sl, (At (fun w' => w' = w_10) ⟨b_s11, 0 + 5 + 4, none⟩ [.slice t74.a t74.len t74.cap]) ∧
        Br (decide ((↑t74.len : Int) > 100000))
         (K (.bool true) w_10)
         (J_2  w_10))) ∧
    ∀ (z_3 : Env)  (w_11 : World), J_2  w_11 →
    ∃ (J_3 : World → Prop), (∃ t79 : Int, (At (fun w' => w' = w_11) ⟨b_s11, 0, none⟩ [.int .i64 t79]) ∧
      Br (t79 == 0)
       (∃ t84 : Int, ∃ t84_1 : Int, (At (fun w' => w' = w_11) ⟨b_s11, 0 + 3, none⟩ [.int .i64 t84, .int .i64 t84_1]) ∧
        Calls Tryz.prog 15 #[.pointer t29, .agg #[.int .i64 t84, .int .i64 t84_1]] w_11 fun e_5 w_12 =>
        ∃ t85 : Int, (e_5 = .returned (.int .i64 t85)) ∧
        ∃ t88 : Int, ∃ t88_1 : Int, (At (fun w' => w' = w_12) ⟨b_s11, 0 + 3, none⟩ [.int .i64 t88, .int .i64 t88_1]) ∧
        Calls Tryz.prog 24 #[.pointer t34, .agg #[.int .i64 t88, .int .i64 t88_1]] w_12 fun e_6 w_13 =>
        ∃ t89 : Int, (e_6 = .returned (.int .i64 t89)) ∧
        Br (t85 != t89)
         (K (.bool false) w_13)
         (J_3  w_13))
       (Br (t79 == 1)
         (∃ t97 : Int, ∃ t97_1 : Int, ∃ t97_2 : Sl, ∃ t97_3 : Sl, ∃ t97_4 : Sl, (At (fun w' => w' = w_11) ⟨b_s11, 0 + 5, none⟩ [.int .i64 t97, .int .i64 t97_1, .slice t97_2.a t97_2.len t97_2.cap, .slice t97_3.a t97_3.len t97_3.cap, .slice t97_4.a t97_4.len t97_4.cap]) ∧
          Calls Tryz.prog 16 #[.pointer t29, .agg #[.int .i64 t97, .int .i64 t97_1, .slice t97_2.a t97_2.len t97_2.cap, .slice t97_3.a t97_3.len t97_3.cap, .slice t97_4.a t97_4.len t97_4.cap]] w_11 fun e_7 w_14 =>
          ∃ t98 : Int, (e_7 = .returned (.int .i64 t98)) ∧
          ∃ t101 : Int, ∃ t101_1 : Int, ∃ t101_2 : Sl, ∃ t101_3 : Sl, ∃ t101_4 : Sl, (At (fun w' => w' = w_14) ⟨b_s11, 0 + 5, none⟩ [.int .i64 t101, .int .i64 t101_1, .slice t101_2.a t101_2.len t101_2.cap, .slice t101_3.a t101_3.len t101_3.cap, .slice t101_4.a t101_4.len t101_4.cap]) ∧
          Calls Tryz.prog 25 #[.pointer t34, .agg #[.int .i64 t101, .int .i64 t101_1, .slice t101_2.a t101_2.len t101_2.cap, .slice t101_3.a t101_3.len t101_3.cap, .slice t101_4.a t101_4.len t101_4.cap]] w_14 fun e_8 w_15 =>
          ∃ t102 : Int, (e_8 = .returned (.int .i64 t102)) ∧
          Br (t98 != t102)
           (K (.bool false) w_15)
           (J_3  w_15))
         (Br (t79 == 4)
           (∃ t110 : Int, (At (fun w' => w' = w_11) ⟨b_s11, 0 + 1, none⟩ [.int .i64 t110]) ∧
            Calls Tryz.prog 26 #[.pointer t29, .int .i64 t110] w_11 fun e_9 w_16 =>
            ∃ t111 : Int, (e_9 = .returned (.int .i64 t111)) ∧
            ∃ t114 : Int, (At (fun w' => w' = w_16) ⟨b_s11, 0 + 1, none⟩ [.int .i64 t114]) ∧
            Calls Tryz.prog 27 #[.pointer t34, .int .i64 t114] w_16 fun e_10 w_17 =>
            ∃ t115 : Int, (e_10 = .returned (.int .i64 t115)) ∧
            J_3  w_17)
           (Br (t79 == 5)
             (∃ t120 : Int, (At (fun w' => w' = w_11) ⟨b_s11, 0 + 1, none⟩ [.int .i64 t120]) ∧
              Calls Tryz.prog 22 #[.pointer t29, .int .i64 t120] w_11 fun e_11 w_18 =>
              ∃ t121 : Int, (e_11 = .returned (.int .i64 t121)) ∧
              ∃ t124 : Int, (At (fun w' => w' = w_18) ⟨b_s11, 0 + 1, none⟩ [.int .i64 t124]) ∧
              Calls Tryz.prog 28 #[.pointer t34, .int .i64 t124] w_18 fun e_12 w_19 =>
              ∃ t125 : Int, (e_12 = .returned (.int .i64 t125)) ∧
              J_3  w_19)
             (Br (t79 == 6)
               (∃ t130 : Sl, (At (fun w' => w' = w_11) ⟨b_s11, 0 + 10, none⟩ [.slice t130.a t130.len t130.cap]) ∧
                Calls Tryz.prog 19 #[.pointer t29, .slice t130.a t130.len t130.cap] w_11 fun e_13 w_20 =>
                (e_13 = .returned (.tuple #[])) ∧
                ∃ t134 : Sl, (At (fun w' => w' = w_20) ⟨b_s11, 0 + 10, none⟩ [.slice t134.a t134.len t134.cap]) ∧
                Calls Tryz.prog 29 #[.pointer t34, .slice t134.a t134.len t134.cap] w_20 fun e_14 w_21 =>
                (e_14 = .returned (.tuple #[])) ∧
                J_3  w_21)
               (Br (t79 == 7)
                 (∃ t140 : ByteArray, (At (fun w' => w' = w_11) ⟨b_s11, 0 + 2, none⟩ [.string t140]) ∧
                  ∃ t142 : Sl, (At (fun w' => w' = w_11) ⟨b_s11, 0 + 11, none⟩ [.slice t142.a t142.len t142.cap]) ∧
                  Calls Tryz.prog 30 #[.pointer t29, .string t140, .slice t142.a t142.len t142.cap] w_11 fun e_15 w_22 =>
                  ∃ t143 : Int, (e_15 = .returned (.int .i64 t143)) ∧
                  ∃ t146 : ByteArray, (At (fun w' => w' = w_22) ⟨b_s11, 0 + 2, none⟩ [.string t146]) ∧
                  ∃ t148 : Sl, (At (fun w' => w' = w_22) ⟨b_s11, 0 + 11, none⟩ [.slice t148.a t148.len t148.cap]) ∧
                  Calls Tryz.prog 31 #[.pointer t34, .string t146, .slice t148.a t148.len t148.cap] w_22 fun e_16 w_23 =>
                  ∃ t149 : Int, (e_16 = .returned (.int .i64 t149)) ∧
                  J_3  w_23)
                 (J_3  w_11))))))) ∧
    ∀ (z_4 : Env)  (w_24 : World), J_3  w_24 →
    Calls Tryz.prog 17 #[.pointer t29] w_24 fun e_17 w_25 =>
    ∃ t152 : Int, ∃ t152_1 : Int, ∃ t152_2 : Int, (e_17 = .returned (.tuple #[.agg #[.int .i64 t152, .int .i64 t152_1], .int .i64 t152_2])) ∧
    New (.cells #[.int .i64 0, .int .i64 0] 37 (0, 0)) (fun b_h16 w_26 =>
    ∃ w_27 : World, ((Instr.storeAt 37 (.pointer ((some ⟨b_h16, 0, none⟩))) (.agg #[.int .i64 t152, .int .i64 t152_1])).run Tryz.prog w_26 = .ok () w_27) ∧
    Calls Tryz.prog 32 #[.pointer t34] w_27 fun e_18 w_28 =>
    ∃ t157 : Int, ∃ t157_1 : Int, ∃ t157_2 : Int, (e_18 = .returned (.tuple #[.agg #[.int .i64 t157, .int .i64 t157_1], .int .i64 t157_2])) ∧
    New (.cells #[.int .i64 0, .int .i64 0] 37 (0, 0)) (fun b_want18 w_29 =>
    ∃ w_30 : World, ((Instr.storeAt 37 (.pointer ((some ⟨b_want18, 0, none⟩))) (.agg #[.int .i64 t157, .int .i64 t157_1])).run Tryz.prog w_29 = .ok () w_30) ∧
    Calls Tryz.prog 18 #[.pointer t29] w_30 fun e_19 w_31 =>
    ∃ t162 : Int, ∃ t162_1 : Int, ∃ t162_2 : Sl, ∃ t162_3 : Sl, ∃ t162_4 : Sl, ∃ t162_5 : Int, (e_19 = .returned (.tuple #[.agg #[.int .i64 t162, .int .i64 t162_1, .slice t162_2.a t162_2.len t162_2.cap, .slice t162_3.a t162_3.len t162_3.cap, .slice t162_4.a t162_4.len t162_4.cap], .int .i64 t162_5])) ∧
    New (.cells #[.int .i64 0, .int .i64 0, .slice none 0 0, .slice none 0 0, .slice none 0 0] 27 (0, 0)) (fun b_x20 w_32 =>
    ∃ w_33 : World, ((Instr.storeAt 27 (.pointer ((some ⟨b_x20, 0, none⟩))) (.agg #[.int .i64 t162, .int .i64 t162_1, .slice t162_2.a t162_2.len t162_2.cap, .slice t162_3.a t162_3.len t162_3.cap, .slice t162_4.a t162_4.len t162_4.cap])).run Tryz.prog w_32 = .ok () w_33) ∧
    Calls Tryz.prog 33 #[.pointer t34] w_33 fun e_20 w_34 =>
    ∃ t167 : Int, ∃ t167_1 : Int, ∃ t167_2 : Sl, ∃ t167_3 : Sl, ∃ t167_4 : Sl, ∃ t167_5 : Int, (e_20 = .returned (.tuple #[.agg #[.int .i64 t167, .int .i64 t167_1, .slice t167_2.a t167_2.len t167_2.cap, .slice t167_3.a t167_3.len t167_3.cap, .slice t167_4.a t167_4.len t167_4.cap], .int .i64 t167_5])) ∧
    New (.cells #[.int .i64 0, .int .i64 0, .slice none 0 0, .slice none 0 0, .slice none 0 0] 27 (0, 0)) (fun b_y22 w_35 =>
    ∃ w_36 : World, ((Instr.storeAt 27 (.pointer ((some ⟨b_y22, 0, none⟩))) (.agg #[.int .i64 t167, .int .i64 t167_1, .slice t167_2.a t167_2.len t167_2.cap, .slice t167_3.a t167_3.len t167_3.cap, .slice t167_4.a t167_4.len t167_4.cap])).run Tryz.prog w_35 = .ok () w_36) ∧
    ∃ t170 : Int, ∃ t170_1 : Int, ∃ t170_2 : Sl, ∃ t170_3 : Sl, ∃ t170_4 : Sl, (At (fun w' => w' = w_36) ⟨b_x20, 0, none⟩ [.int .i64 t170, .int .i64 t170_1, .slice t170_2.a t170_2.len t170_2.cap, .slice t170_3.a t170_3.len t170_3.cap, .slice t170_4.a t170_4.len t170_4.cap]) ∧
    ∃ t171 : Int, ∃ t171_1 : Int, ∃ t171_2 : Sl, ∃ t171_3 : Sl, ∃ t171_4 : Sl, (At (fun w' => w' = w_36) ⟨b_y22, 0, none⟩ [.int .i64 t171, .int .i64 t171_1, .slice t171_2.a t171_2.len t171_2.cap, .slice t171_3.a t171_3.len t171_3.cap, .slice t171_4.a t171_4.len t171_4.cap]) ∧
    Calls Tryz.prog 13 #[.agg #[.int .i64 t170, .int .i64 t170_1, .slice t170_2.a t170_2.len t170_2.cap, .slice t170_3.a t170_3.len t170_3.cap, .slice t170_4.a t170_4.len t170_4.cap], .agg #[.int .i64 t171, .int .i64 t171_1, .slice t171_2.a t171_2.len t171_2.cap, .slice t171_3.a t171_3.len t171_3.cap, .slice t171_4.a t171_4.len t171_4.cap]] w_36 fun e_21 w_37 =>
    ∃ t172 : Bool, (e_21 = .returned (.bool t172)) ∧
    Drw w_37 fun S w_38 =>
    ∃ t173 : Int, ∃ t173_1 : Int, (At S ⟨b_h16, 0, none⟩ [.int .i64 t173, .int .i64 t173_1]) ∧
    ∃ t174 : Int, ∃ t174_1 : Int, (At S ⟨b_want18, 0, none⟩ [.int .i64 t174, .int .i64 t174_1]) ∧
    ∃ t175 : Bool, (∀ w', S w' → ((do eqGuard BinOp.neq 37 (Operand.tmp 173) (Operand.tmp 174) (.agg #[.int .i64 t173, .int .i64 t173_1]) (.agg #[.int .i64 t174, .int .i64 t174_1]); binOp BinOp.neq 37 (.agg #[.int .i64 t173, .int .i64 t173_1]) (.agg #[.int .i64 t174, .int .i64 t174_1]) : Sem Value)).run Tryz.prog w' = .ok (.bool t175) w') ∧
    Br t175
     (K (.bool false) w_38)
     (Br (t152_2 != t157_2)
       (K (.bool false) w_38)
       (Br (!t172)
         (K (.bool false) w_38)
         (Br (t162_5 != t167_5)
           (K (.bool false) w_38)
           (NilP t34 fun a_t194 =>
            ∃ t196 : Bool, (At S ⟨a_t194.block, a_t194.off + 4, none⟩ [.bool t196]) ∧
            Calls Tryz.prog 34 #[.pointer t29] w_38 fun e_22 w_39 =>
            ∃ t192 : Bool, (e_22 = .returned (.bool t192)) ∧
            (S w_39) ∧
            Br (!t192 == t196)
             (K (.bool false) w_39)
             (Calls Tryz.prog 35 #[.pointer t29] w_39 fun e_23 w_40 =>
              ∃ t201 : Int, (e_23 = .returned (.int .i64 t201)) ∧
              (S w_40) ∧
              Calls Tryz.prog 36 #[.pointer t34] w_40 fun e_24 w_41 =>
              ∃ t203 : Int, (e_24 = .returned (.int .i64 t203)) ∧
              (S w_41) ∧
              Br (t201 != t203)
               (K (.bool false) w_41)
               ((I (IntKind.i64.wrap (i10 + 1)) w_41) ∧ μ (IntKind.i64.wrap (i10 + 1)) w_41 < μ i10 w_5))))))) w_34) w_31) w_28) w_25) w_8))

def sk7 : Sk := (.seq .leaf (.seq .leaf (.seq .leaf (.seq .leaf (.cut [] [] [4, 37, 38, 39, 40, 41, 42, 43, 44, 45, 46, 47, 48, 49, 50] .leaf (.seq .leaf (.seq (.seq .leaf (.block (.loop [10] [(.int .i64)] [4, 10, 11, 12, 13, 14, 15, 16, 17, 18, 19, 20, 21, 22, 23, 24, 53, 54, 55, 56, 57, 58, 59, 60, 61, 62, 63, 64, 65, 66, 67, 68, 69, 70, 71, 72, 73, 74, 75, 76, 77, 78, 79, 80, 81, 82, 83, 84, 85, 86, 87, 88, 89, 90, 91, 92, 93, 94, 95, 96, 97, 98, 99, 100, 101, 102, 103, 104, 105, 106, 107, 108, 109, 110, 111, 112, 113, 114, 115, 116, 117, 118, 119, 120, 121, 122, 123, 124, 125, 126, 127, 128, 129, 130, 131, 132, 133, 134, 135, 136, 137, 138, 139, 140, 141, 142, 143, 144, 145, 146, 147, 148, 149, 150, 151, 152, 153, 154, 155, 156, 157, 158, 159, 160, 161, 162, 163, 164, 165, 166, 167, 168, 169, 170, 171, 172, 173, 174, 175, 176, 177, 178, 179, 180, 181, 182, 183, 184, 185, 186, 187, 188, 189, 190, 191, 192, 193, 194, 195, 196, 197, 198, 199, 200, 201, 202, 203, 204, 205] (.cut [] [] [53, 54, 55, 56, 57, 58, 59, 60] .leaf (.seq (.block (.seq .leaf (.cut [] [] [4, 67, 68, 69, 70, 71, 72, 73, 74, 75, 76, 77] .leaf (.cut [] [] [4, 12, 13, 14, 15, 78, 79, 80, 81, 82, 83, 84, 85, 86, 87, 88, 89, 90, 91, 92, 93, 94, 95, 96, 97, 98, 99, 100, 101, 102, 103, 104, 105, 106, 107, 108, 109, 110, 111, 112, 113, 114, 115, 116, 117, 118, 119, 120, 121, 122, 123, 124, 125, 126, 127, 128, 129, 130, 131, 132, 133, 134, 135, 136, 137, 138, 139, 140, 141, 142, 143, 144, 145, 146, 147, 148, 149] .leaf .leaf)))) .leaf))))) .leaf)))))))
theorem ok7 : fnOk Tryz.prog Tryz.f7.ntmps Tryz.f7 sk7 = true := by kernel_rfl
theorem eq7 (room0 : Int) (l1 : Sl) (K : Value → World → Prop) (w : World) : fnF Tryz.prog cl Tryz.f7 sk7 [.int .i64 room0, .slice l1.a l1.len l1.cap] K w = B7 room0 l1 K w := by kernel_rfl
theorem call7 (room0 : Int) (l1 : Sl) (K : Value → World → Prop) (w : World) (h : B7 room0 l1 K w) : Gets Tryz.prog 7 #[.int .i64 room0, .slice l1.a l1.len l1.cap] w K :=
  calls_of (sk := sk7) cl_ok mixed Tryz.func7 ok7 (args := [.int .i64 room0, .slice l1.a l1.len l1.cap]) (Nat.le_of_ble_eq_true (by kernel_rfl)) (by rw [eq7]; exact h)

/-- jetway/jetwaylaw07.awake. -/
def B8  (K : Value → World → Prop) (w : World) : Prop :=
  Calls Tryz.prog 14 #[.int .i64 1000] w fun e w_1 =>
  ∃ t7 : Option Addr, ∃ t7_1 : Int, (e = .returned (.tuple #[.pointer t7, .int .i64 t7_1])) ∧
  ∃ (J : World → Prop), (Br (t7_1 != 0)
     (K (.bool false) w_1)
     (Br t7.isNone
       (K (.bool false) w_1)
       (J  w_1))) ∧
  ∀ (z : Env)  (w_2 : World), J  w_2 →
  Calls Tryz.prog 15 #[.pointer t7, .agg #[.int .i64 3, .int .i64 1]] w_2 fun e_1 w_3 =>
  ∃ t18 : Int, (e_1 = .returned (.int .i64 t18)) ∧
  Calls Tryz.prog 17 #[.pointer t7] w_3 fun e_2 w_4 =>
  ∃ t21 : Int, ∃ t21_1 : Int, ∃ t21_2 : Int, (e_2 = .returned (.tuple #[.agg #[.int .i64 t21, .int .i64 t21_1], .int .i64 t21_2])) ∧
  New (.cells #[.int .i64 0, .int .i64 0] 37 (0, 0)) (fun b_h4 w_5 =>
  ∃ w_6 : World, ((Instr.storeAt 37 (.pointer ((some ⟨b_h4, 0, none⟩))) (.agg #[.int .i64 t21, .int .i64 t21_1])).run Tryz.prog w_5 = .ok () w_6) ∧
  Br (t18 == 0)
   (Br (t21_2 == 0)
     (∃ t31 : Int, ∃ t31_1 : Int, (At (fun w' => w' = w_6) ⟨b_h4, 0, none⟩ [.int .i64 t31, .int .i64 t31_1]) ∧
      ∃ t33 : Bool, (∀ w', (fun w' => w' = w_6) w' → ((do eqGuard BinOp.eql 37 (Operand.tmp 31) (Operand.tmp 32) (.agg #[.int .i64 t31, .int .i64 t31_1]) (.agg #[.int .i64 3, .int .i64 1]); binOp BinOp.eql 37 (.agg #[.int .i64 t31, .int .i64 t31_1]) (.agg #[.int .i64 3, .int .i64 1]) : Sem Value)).run Tryz.prog w' = .ok (.bool t33) w') ∧
      K (.bool t33) w_6)
     (K (.bool false) w_6))
   (K (.bool false) w_6)) w_4

def sk8 : Sk := (.seq .leaf (.seq .leaf (.cut [] [] [0, 10, 11, 12, 13, 14, 15] .leaf .leaf)))
theorem ok8 : fnOk Tryz.prog Tryz.f8.ntmps Tryz.f8 sk8 = true := by kernel_rfl
theorem eq8  (K : Value → World → Prop) (w : World) : fnF Tryz.prog cl Tryz.f8 sk8 [] K w = B8  K w := by kernel_rfl
theorem call8  (K : Value → World → Prop) (w : World) (h : B8  K w) : Gets Tryz.prog 8 #[] w K :=
  calls_of (sk := sk8) cl_ok mixed Tryz.func8 ok8 (args := []) (Nat.le_of_ble_eq_true (by kernel_rfl)) (by rw [eq8]; exact h)

/-- jetway/keep.SaveHard. -/
def B15 (d0 : Option Addr) (h1_0 : Int) (h1_1 : Int) (K : Value → World → Prop) (w : World) : Prop :=
  New (.cells #[.int .i64 h1_0, .int .i64 h1_1] 37 (0, 0)) (fun b_h3 w_1 =>
  ∃ t6 : Int, ∃ t6_1 : Int, (At (fun w' => w' = w_1) ⟨b_h3, 0, none⟩ [.int .i64 t6, .int .i64 t6_1]) ∧
  Calls Tryz.prog 54 #[.pointer d0, .string (ByteArray.mk #[104, 97, 114, 100]), .agg #[.int .i64 t6, .int .i64 t6_1], .func (.func 55) #[] #[]] w_1 fun e w_2 =>
  ∃ t7 : Int, (e = .returned (.int .i64 t7)) ∧
  K (.int .i64 t7) w_2) w

def sk15 : Sk := .leaf
theorem ok15 : fnOk Tryz.prog Tryz.f15.ntmps Tryz.f15 sk15 = true := by kernel_rfl
theorem eq15 (d0 : Option Addr) (h1_0 : Int) (h1_1 : Int) (K : Value → World → Prop) (w : World) : fnF Tryz.prog cl Tryz.f15 sk15 [.pointer d0, .agg #[.int .i64 h1_0, .int .i64 h1_1]] K w = B15 d0 h1_0 h1_1 K w := by kernel_rfl
theorem call15 (d0 : Option Addr) (h1_0 : Int) (h1_1 : Int) (K : Value → World → Prop) (w : World) (h : B15 d0 h1_0 h1_1 K w) : Gets Tryz.prog 15 #[.pointer d0, .agg #[.int .i64 h1_0, .int .i64 h1_1]] w K :=
  calls_of (sk := sk15) cl_ok mixed Tryz.func15 ok15 (args := [.pointer d0, .agg #[.int .i64 h1_0, .int .i64 h1_1]]) (Nat.le_of_ble_eq_true (by kernel_rfl)) (by rw [eq15]; exact h)

/-- jetway/keep.LoadHard. -/
def B17 (d0 : Option Addr) (K : Value → World → Prop) (w : World) : Prop :=
  New (.cells #[.int .i64 0, .int .i64 0] 37 (0, 0)) (fun b_t2 w_1 =>
  Calls Tryz.prog 57 #[.pointer d0, .string (ByteArray.mk #[104, 97, 114, 100]), .func (.func 58) #[] #[]] w_1 fun e w_2 =>
  ∃ t5 : Int, ∃ t5_1 : Int, ∃ t5_2 : Int, (e = .returned (.tuple #[.agg #[.int .i64 t5, .int .i64 t5_1], .int .i64 t5_2])) ∧
  ∃ w_3 : World, ((Instr.storeAt 37 (.pointer ((some ⟨b_t2, 0, none⟩))) (.agg #[.int .i64 t5, .int .i64 t5_1])).run Tryz.prog w_2 = .ok () w_3) ∧
  ∃ t3 : Int, ∃ t3_1 : Int, (At (fun w' => w' = w_3) ⟨b_t2, 0, none⟩ [.int .i64 t3, .int .i64 t3_1]) ∧
  K (.tuple #[.agg #[.int .i64 t3, .int .i64 t3_1], .int .i64 t5_2]) w_3) w

def sk17 : Sk := .leaf
theorem ok17 : fnOk Tryz.prog Tryz.f17.ntmps Tryz.f17 sk17 = true := by kernel_rfl
theorem eq17 (d0 : Option Addr) (K : Value → World → Prop) (w : World) : fnF Tryz.prog cl Tryz.f17 sk17 [.pointer d0] K w = B17 d0 K w := by kernel_rfl
theorem call17 (d0 : Option Addr) (K : Value → World → Prop) (w : World) (h : B17 d0 K w) : Gets Tryz.prog 17 #[.pointer d0] w K :=
  calls_of (sk := sk17) cl_ok mixed Tryz.func17 ok17 (args := [.pointer d0]) (Nat.le_of_ble_eq_true (by kernel_rfl)) (by rw [eq17]; exact h)

/-- jetway/keep.within. -/
def B75 (n0 : Int) (most1 : Int) (K : Value → World → Prop) (w : World) : Prop :=
  Br (decide (n0 ≥ 0))
   (K (.bool (decide (n0 ≤ most1))) w)
   (K (.bool false) w)

def sk75 : Sk := .leaf
theorem ok75 : fnOk Tryz.prog Tryz.f75.ntmps Tryz.f75 sk75 = true := by kernel_rfl
theorem eq75 (n0 : Int) (most1 : Int) (K : Value → World → Prop) (w : World) : fnF Tryz.prog cl Tryz.f75 sk75 [.int .i64 n0, .int .i64 most1] K w = B75 n0 most1 K w := by kernel_rfl
theorem call75 (n0 : Int) (most1 : Int) (K : Value → World → Prop) (w : World) (h : B75 n0 most1 K w) : Gets Tryz.prog 75 #[.int .i64 n0, .int .i64 most1] w K :=
  calls_of (sk := sk75) cl_ok mixed Tryz.func75 ok75 (args := [.int .i64 n0, .int .i64 most1]) (Nat.le_of_ble_eq_true (by kernel_rfl)) (by rw [eq75]; exact h)

/-- jetway/keep.write[jetway/api.Hard]. -/
def B54 (d0 : Option Addr) (name1 : ByteArray) (x2_0 : Int) (x2_1 : Int) (encode3 : Value) (K : Value → World → Prop) (w : World) : Prop :=
  New (.cells #[.int .i64 x2_0, .int .i64 x2_1] 37 (0, 0)) (fun b_x6 w_1 =>
  ∃ t18 : Int, ∃ t18_1 : Int, (At (fun w' => w' = w_1) ⟨b_x6, 0, none⟩ [.int .i64 t18, .int .i64 t18_1]) ∧
  CalW Tryz.prog cl encode3 [.agg #[.int .i64 t18, .int .i64 t18_1]] w_1 fun e w_2 =>
  ∃ t19 : Sl, ∃ t19_1 : Int, (e = .returned (.tuple #[.slice t19.a t19.len t19.cap, .int .i64 t19_1])) ∧
  ∃ (J : World → Prop), (Br d0.isNone
     (K (.int .i64 1) w_2)
     (Br (t19_1 != 0)
       (K (.int .i64 1) w_2)
       (J  w_2))) ∧
  ∀ (z : Env)  (w_3 : World), J  w_3 →
  Calls Tryz.prog 86 #[.slice t19.a t19.len t19.cap] w_3 fun e_1 w_4 =>
  ∃ t30 : Sl, ∃ t30_1 : Int, (e_1 = .returned (.tuple #[.slice t30.a t30.len t30.cap, .int .i64 t30_1])) ∧
  Br (t30_1 != 0)
   (K (.int .i64 t30_1) w_4)
   ((((↑(name1.size + (ByteArray.mk #[46, 110, 101, 119]).size) : Int) : Int) ≤ 9223372036854775807) ∧
    ∃ (J_1 : World → Prop), (Calls Tryz.prog 60 #[.pointer d0] w_4 fun e_2 w_5 =>
      ∃ t39 : Sl, (e_2 = .returned (.slice t39.a t39.len t39.cap)) ∧
      Calls Tryz.prog 87 #[.slice t39.a t39.len t39.cap, .string (name1 ++ ByteArray.mk #[46, 110, 101, 119])] w_5 fun e_3 w_6 =>
      ∃ t41 : Bool, (e_3 = .returned (.bool t41)) ∧
      Br t41
       (Calls Tryz.prog 88 #[.pointer d0, .string (name1 ++ ByteArray.mk #[46, 110, 101, 119])] w_6 fun e_4 w_7 =>
        ∃ t44 : Int, (e_4 = .returned (.int .i64 t44)) ∧
        Br (t44 != 0)
         (K (.int .i64 t44) w_7)
         (J_1  w_7))
       (J_1  w_6)) ∧
    ∀ (z_1 : Env)  (w_8 : World), J_1  w_8 →
    Calls Tryz.prog 30 #[.pointer d0, .string (name1 ++ ByteArray.mk #[46, 110, 101, 119]), .slice t30.a t30.len t30.cap] w_8 fun e_5 w_9 =>
    ∃ t51 : Int, (e_5 = .returned (.int .i64 t51)) ∧
    Br (t51 != 0)
     (K (.int .i64 t51) w_9)
     (Calls Tryz.prog 89 #[.pointer d0, .string (name1 ++ ByteArray.mk #[46, 110, 101, 119])] w_9 fun e_6 w_10 =>
      ∃ t57 : Int, (e_6 = .returned (.int .i64 t57)) ∧
      Br (t57 != 0)
       (K (.int .i64 t57) w_10)
       (Calls Tryz.prog 90 #[.pointer d0, .string (name1 ++ ByteArray.mk #[46, 110, 101, 119]), .string name1] w_10 fun e_7 w_11 =>
        ∃ t64 : Int, (e_7 = .returned (.int .i64 t64)) ∧
        K (.int .i64 t64) w_11)))) w

def sk54 : Sk := (.seq .leaf (.seq .leaf (.cut [] [] [8, 22, 23, 24, 25, 26, 27] .leaf (.seq .leaf (.seq .leaf (.seq .leaf (.cut [] [] [8, 13, 38, 39, 40, 41, 42, 43, 44, 45, 46, 47] .leaf .leaf)))))))
theorem ok54 : fnOk Tryz.prog Tryz.f54.ntmps Tryz.f54 sk54 = true := by kernel_rfl
theorem eq54 (d0 : Option Addr) (name1 : ByteArray) (x2_0 : Int) (x2_1 : Int) (encode3 : Value) (K : Value → World → Prop) (w : World) : fnF Tryz.prog cl Tryz.f54 sk54 [.pointer d0, .string name1, .agg #[.int .i64 x2_0, .int .i64 x2_1], encode3] K w = B54 d0 name1 x2_0 x2_1 encode3 K w := by kernel_rfl
theorem call54 (d0 : Option Addr) (name1 : ByteArray) (x2_0 : Int) (x2_1 : Int) (encode3 : Value) (K : Value → World → Prop) (w : World) (h : B54 d0 name1 x2_0 x2_1 encode3 K w) : Gets Tryz.prog 54 #[.pointer d0, .string name1, .agg #[.int .i64 x2_0, .int .i64 x2_1], encode3] w K :=
  calls_of (sk := sk54) cl_ok mixed Tryz.func54 ok54 (args := [.pointer d0, .string name1, .agg #[.int .i64 x2_0, .int .i64 x2_1], encode3]) (Nat.le_of_ble_eq_true (by kernel_rfl)) (by rw [eq54]; exact h)

/-- jetway/keep.encodeHard. -/
def B55 (h0_0 : Int) (h0_1 : Int) (K : Value → World → Prop) (w : World) : Prop :=
  New (.cells #[.int .i64 h0_0, .int .i64 h0_1] 37 (0, 0)) (fun b_h1 w_1 =>
  ∃ t5 : Int, (At (fun w' => w' = w_1) ⟨b_h1, 0, none⟩ [.int .i64 t5]) ∧
  Calls Tryz.prog 75 #[.int .i64 t5, .int .i64 1099511627776] w_1 fun e w_2 =>
  ∃ t6 : Bool, (e = .returned (.bool t6)) ∧
  Br (!t6)
   (K (.tuple #[.slice none 0 0, .int .i64 1]) w_2)
   (∃ t10 : Int, (At (fun w' => w' = w_2) ⟨b_h1, 0 + 1, none⟩ [.int .i64 t10]) ∧
    Calls Tryz.prog 75 #[.int .i64 t10, .int .i64 15] w_2 fun e_1 w_3 =>
    ∃ t11 : Bool, (e_1 = .returned (.bool t11)) ∧
    Br (!t11)
     (K (.tuple #[.slice none 0 0, .int .i64 1]) w_3)
     (Drw w_3 fun S w_4 =>
      ∃ t15 : Int, (At S ⟨b_h1, 0, none⟩ [.int .i64 t15]) ∧
      ∃ t19 : Int, (At S ⟨b_h1, 0 + 1, none⟩ [.int .i64 t19]) ∧
      Calls Tryz.prog 39 #[.int .u64 (IntKind.u64.wrap t15)] w_4 fun e_2 w_5 =>
      ∃ t17 : Sl, (e_2 = .returned (.slice t17.a t17.len t17.cap)) ∧
      (S w_5) ∧
      Calls Tryz.prog 39 #[.int .u64 (IntKind.u64.wrap t19)] w_5 fun e_3 w_6 =>
      ∃ t21 : Sl, (e_3 = .returned (.slice t21.a t21.len t21.cap)) ∧
      (S w_6) ∧
      ∃ w_7 : World, ∃ t22 : Sl, ((Builtin.append_ #[25, 25] 25 #[.slice t17.a t17.len t17.cap, .slice t21.a t21.len t21.cap]).run Tryz.prog w_6 = .ok (.slice t22.a t22.len t22.cap) w_7) ∧
      (S w_7) ∧
      K (.tuple #[.slice t22.a t22.len t22.cap, .int .i64 0]) w_7))) w

def sk55 : Sk := .leaf
theorem ok55 : fnOk Tryz.prog Tryz.f55.ntmps Tryz.f55 sk55 = true := by kernel_rfl
theorem eq55 (h0_0 : Int) (h0_1 : Int) (K : Value → World → Prop) (w : World) : fnF Tryz.prog cl Tryz.f55 sk55 [.agg #[.int .i64 h0_0, .int .i64 h0_1]] K w = B55 h0_0 h0_1 K w := by kernel_rfl
theorem call55 (h0_0 : Int) (h0_1 : Int) (K : Value → World → Prop) (w : World) (h : B55 h0_0 h0_1 K w) : Gets Tryz.prog 55 #[.agg #[.int .i64 h0_0, .int .i64 h0_1]] w K :=
  calls_of (sk := sk55) cl_ok mixed Tryz.func55 ok55 (args := [.agg #[.int .i64 h0_0, .int .i64 h0_1]]) (Nat.le_of_ble_eq_true (by kernel_rfl)) (by rw [eq55]; exact h)

/-- jetway/keep.read[jetway/api.Hard]. -/
def B57 (d0 : Option Addr) (name1 : ByteArray) (decode2 : Value) (K : Value → World → Prop) (w : World) : Prop :=
  New (.cells #[.int .i64 0, .int .i64 0] 37 (0, 0)) (fun b_t6 w_1 =>
  New (.cells #[.int .i64 0, .int .i64 0] 37 (0, 0)) (fun b_zero8 w_2 =>
  Br d0.isNone
   (∃ t15 : Int, ∃ t15_1 : Int, (At (fun w' => w' = w_2) ⟨b_zero8, 0, none⟩ [.int .i64 t15, .int .i64 t15_1]) ∧
    ∃ w_3 : World, ((Instr.storeAt 37 (.pointer ((some ⟨b_t6, 0, none⟩))) (.agg #[.int .i64 t15, .int .i64 t15_1])).run Tryz.prog w_2 = .ok () w_3) ∧
    ∃ t7 : Int, ∃ t7_1 : Int, (At (fun w' => w' = w_3) ⟨b_t6, 0, none⟩ [.int .i64 t7, .int .i64 t7_1]) ∧
    K (.tuple #[.agg #[.int .i64 t7, .int .i64 t7_1], .int .i64 1]) w_3)
   (Calls Tryz.prog 91 #[.pointer d0, .string name1] w_2 fun e w_4 =>
    ∃ t19 : Sl, ∃ t19_1 : Int, (e = .returned (.tuple #[.slice t19.a t19.len t19.cap, .int .i64 t19_1])) ∧
    Br (t19_1 == 0)
     (Calls Tryz.prog 92 #[.slice t19.a t19.len t19.cap] w_4 fun e_1 w_5 =>
      ∃ t32 : Sl, ∃ t32_1 : Int, (e_1 = .returned (.tuple #[.slice t32.a t32.len t32.cap, .int .i64 t32_1])) ∧
      Br ((↑t32.len : Int) != 1)
       (∃ t44 : Int, ∃ t44_1 : Int, (At (fun w' => w' = w_5) ⟨b_zero8, 0, none⟩ [.int .i64 t44, .int .i64 t44_1]) ∧
        ∃ w_6 : World, ((Instr.storeAt 37 (.pointer ((some ⟨b_t6, 0, none⟩))) (.agg #[.int .i64 t44, .int .i64 t44_1])).run Tryz.prog w_5 = .ok () w_6) ∧
        ∃ t7_2 : Int, ∃ t7_3 : Int, (At (fun w' => w' = w_6) ⟨b_t6, 0, none⟩ [.int .i64 t7_2, .int .i64 t7_3]) ∧
        K (.tuple #[.agg #[.int .i64 t7_2, .int .i64 t7_3], .int .i64 6]) w_6)
       (Br (t32_1 != (↑t19.len : Int))
         (∃ t44_2 : Int, ∃ t44_3 : Int, (At (fun w' => w' = w_5) ⟨b_zero8, 0, none⟩ [.int .i64 t44_2, .int .i64 t44_3]) ∧
          ∃ w_7 : World, ((Instr.storeAt 37 (.pointer ((some ⟨b_t6, 0, none⟩))) (.agg #[.int .i64 t44_2, .int .i64 t44_3])).run Tryz.prog w_5 = .ok () w_7) ∧
          ∃ t7_4 : Int, ∃ t7_5 : Int, (At (fun w' => w' = w_7) ⟨b_t6, 0, none⟩ [.int .i64 t7_4, .int .i64 t7_5]) ∧
          K (.tuple #[.agg #[.int .i64 t7_4, .int .i64 t7_5], .int .i64 6]) w_7)
         (Rng 0 t32.len (NilP t32.a fun a_t47 =>
          ∃ t48 : Sl, (At (fun w' => w' = w_5) (Addr.add a_t47 0) [.slice t48.a t48.len t48.cap]) ∧
          CalW Tryz.prog cl decode2 [.slice t48.a t48.len t48.cap] w_5 fun e_2 w_8 =>
          ∃ t49 : Int, ∃ t49_1 : Int, ∃ t49_2 : Int, (e_2 = .returned (.tuple #[.agg #[.int .i64 t49, .int .i64 t49_1], .int .i64 t49_2])) ∧
          ∃ w_9 : World, ((Instr.storeAt 37 (.pointer ((some ⟨b_t6, 0, none⟩))) (.agg #[.int .i64 t49, .int .i64 t49_1])).run Tryz.prog w_8 = .ok () w_9) ∧
          ∃ t7_6 : Int, ∃ t7_7 : Int, (At (fun w' => w' = w_9) ⟨b_t6, 0, none⟩ [.int .i64 t7_6, .int .i64 t7_7]) ∧
          K (.tuple #[.agg #[.int .i64 t7_6, .int .i64 t7_7], .int .i64 t49_2]) w_9))))
     (Br (t19_1 == 2)
       (∃ t29 : Int, ∃ t29_1 : Int, (At (fun w' => w' = w_4) ⟨b_zero8, 0, none⟩ [.int .i64 t29, .int .i64 t29_1]) ∧
        ∃ w_10 : World, ((Instr.storeAt 37 (.pointer ((some ⟨b_t6, 0, none⟩))) (.agg #[.int .i64 t29, .int .i64 t29_1])).run Tryz.prog w_4 = .ok () w_10) ∧
        ∃ t7_8 : Int, ∃ t7_9 : Int, (At (fun w' => w' = w_10) ⟨b_t6, 0, none⟩ [.int .i64 t7_8, .int .i64 t7_9]) ∧
        K (.tuple #[.agg #[.int .i64 t7_8, .int .i64 t7_9], .int .i64 0]) w_10)
       (∃ t23 : Int, ∃ t23_1 : Int, (At (fun w' => w' = w_4) ⟨b_zero8, 0, none⟩ [.int .i64 t23, .int .i64 t23_1]) ∧
        ∃ w_11 : World, ((Instr.storeAt 37 (.pointer ((some ⟨b_t6, 0, none⟩))) (.agg #[.int .i64 t23, .int .i64 t23_1])).run Tryz.prog w_4 = .ok () w_11) ∧
        ∃ t7_10 : Int, ∃ t7_11 : Int, (At (fun w' => w' = w_11) ⟨b_t6, 0, none⟩ [.int .i64 t7_10, .int .i64 t7_11]) ∧
        K (.tuple #[.agg #[.int .i64 t7_10, .int .i64 t7_11], .int .i64 t19_1]) w_11)))) w_1) w

def sk57 : Sk := .leaf
theorem ok57 : fnOk Tryz.prog Tryz.f57.ntmps Tryz.f57 sk57 = true := by kernel_rfl
theorem eq57 (d0 : Option Addr) (name1 : ByteArray) (decode2 : Value) (K : Value → World → Prop) (w : World) : fnF Tryz.prog cl Tryz.f57 sk57 [.pointer d0, .string name1, decode2] K w = B57 d0 name1 decode2 K w := by kernel_rfl
theorem call57 (d0 : Option Addr) (name1 : ByteArray) (decode2 : Value) (K : Value → World → Prop) (w : World) (h : B57 d0 name1 decode2 K w) : Gets Tryz.prog 57 #[.pointer d0, .string name1, decode2] w K :=
  calls_of (sk := sk57) cl_ok mixed Tryz.func57 ok57 (args := [.pointer d0, .string name1, decode2]) (Nat.le_of_ble_eq_true (by kernel_rfl)) (by rw [eq57]; exact h)

/-- jetway/keep.decodeHard. -/
def B58 (b0 : Sl) (K : Value → World → Prop) (w : World) : Prop :=
  New (.cells #[.int .i64 0, .int .i64 0] 37 (0, 0)) (fun b_t2 w_1 =>
  Calls Tryz.prog 44 #[.slice b0.a b0.len b0.cap] w_1 fun e w_2 =>
  ∃ t7 : Option Addr, (e = .returned (.pointer t7)) ∧
  Calls Tryz.prog 46 #[.pointer t7, .int .u64 1099511627776] w_2 fun e_1 w_3 =>
  ∃ t9 : Int, (e_1 = .returned (.int .u64 t9)) ∧
  Calls Tryz.prog 46 #[.pointer t7, .int .u64 15] w_3 fun e_2 w_4 =>
  ∃ t12 : Int, (e_2 = .returned (.int .u64 t12)) ∧
  New (.cells #[.int .i64 0, .int .i64 0] 37 (0, 0)) (fun b_h5 w_5 =>
  ∃ w_6 : World, ((Instr.storeAt 37 (.pointer ((some ⟨b_h5, 0, none⟩))) (.agg #[.int .i64 (IntKind.i64.wrap t9), .int .i64 (IntKind.i64.wrap t12)])).run Tryz.prog w_5 = .ok () w_6) ∧
  Calls Tryz.prog 48 #[.pointer t7] w_6 fun e_3 w_7 =>
  ∃ t16 : Bool, (e_3 = .returned (.bool t16)) ∧
  Br (!t16)
   (∃ w_8 : World, ((Instr.storeAt 37 (.pointer ((some ⟨b_t2, 0, none⟩))) (.agg #[.int .i64 0, .int .i64 0])).run Tryz.prog w_7 = .ok () w_8) ∧
    ∃ t3 : Int, ∃ t3_1 : Int, (At (fun w' => w' = w_8) ⟨b_t2, 0, none⟩ [.int .i64 t3, .int .i64 t3_1]) ∧
    K (.tuple #[.agg #[.int .i64 t3, .int .i64 t3_1], .int .i64 6]) w_8)
   (∃ t19 : Int, ∃ t19_1 : Int, (At (fun w' => w' = w_7) ⟨b_h5, 0, none⟩ [.int .i64 t19, .int .i64 t19_1]) ∧
    ∃ w_9 : World, ((Instr.storeAt 37 (.pointer ((some ⟨b_t2, 0, none⟩))) (.agg #[.int .i64 t19, .int .i64 t19_1])).run Tryz.prog w_7 = .ok () w_9) ∧
    ∃ t3_2 : Int, ∃ t3_3 : Int, (At (fun w' => w' = w_9) ⟨b_t2, 0, none⟩ [.int .i64 t3_2, .int .i64 t3_3]) ∧
    K (.tuple #[.agg #[.int .i64 t3_2, .int .i64 t3_3], .int .i64 0]) w_9)) w_4) w

def sk58 : Sk := .leaf
theorem ok58 : fnOk Tryz.prog Tryz.f58.ntmps Tryz.f58 sk58 = true := by kernel_rfl
theorem eq58 (b0 : Sl) (K : Value → World → Prop) (w : World) : fnF Tryz.prog cl Tryz.f58 sk58 [.slice b0.a b0.len b0.cap] K w = B58 b0 K w := by kernel_rfl
theorem call58 (b0 : Sl) (K : Value → World → Prop) (w : World) (h : B58 b0 K w) : Gets Tryz.prog 58 #[.slice b0.a b0.len b0.cap] w K :=
  calls_of (sk := sk58) cl_ok mixed Tryz.func58 ok58 (args := [.slice b0.a b0.len b0.cap]) (Nat.le_of_ble_eq_true (by kernel_rfl)) (by rw [eq58]; exact h)

/-- slices.Contains[[]string,string]. -/
def B87 (s0 : Sl) (v1 : ByteArray) (K : Value → World → Prop) (w : World) : Prop :=
  Calls Tryz.prog 114 #[.slice s0.a s0.len s0.cap, .string v1] w fun e w_1 =>
  ∃ t7 : Int, (e = .returned (.int .i64 t7)) ∧
  K (.bool (decide (t7 ≥ 0))) w_1

def sk87 : Sk := .leaf
theorem ok87 : fnOk Tryz.prog Tryz.f87.ntmps Tryz.f87 sk87 = true := by kernel_rfl
theorem eq87 (s0 : Sl) (v1 : ByteArray) (K : Value → World → Prop) (w : World) : fnF Tryz.prog cl Tryz.f87 sk87 [.slice s0.a s0.len s0.cap, .string v1] K w = B87 s0 v1 K w := by kernel_rfl
theorem call87 (s0 : Sl) (v1 : ByteArray) (K : Value → World → Prop) (w : World) (h : B87 s0 v1 K w) : Gets Tryz.prog 87 #[.slice s0.a s0.len s0.cap, .string v1] w K :=
  calls_of (sk := sk87) cl_ok mixed Tryz.func87 ok87 (args := [.slice s0.a s0.len s0.cap, .string v1]) (Nat.le_of_ble_eq_true (by kernel_rfl)) (by rw [eq87]; exact h)

/-- slices.Index[[]string,string]. -/
def B114 (s0 : Sl) (v1 : ByteArray) (K : Value → World → Prop) (w : World) : Prop :=
  ∃ (I : Int → World → Prop) (μ : Int → World → Nat), (I 0 w) ∧ ∀ (z : Env) (t8 : Int) (w_1 : World), I t8 w_1 →
  Br (decide (t8 < (↑s0.len : Int)))
   (Rng t8 s0.len (NilP s0.a fun a_t14 =>
    ∃ t15 : ByteArray, (At (fun w' => w' = w_1) (Addr.add a_t14 t8.toNat) [.string t15]) ∧
    Br (v1.toList == t15.toList)
     (K (.int .i64 t8) w_1)
     ((I (IntKind.i64.wrap (t8 + 1)) w_1) ∧ μ (IntKind.i64.wrap (t8 + 1)) w_1 < μ t8 w_1)))
   (K (.int .i64 ((-1))) w_1)

def sk114 : Sk := (.seq .leaf (.seq (.seq .leaf (.block (.loop [8] [(.int .i64)] [4, 5, 8, 9, 10, 11, 12, 13, 14, 15, 16, 17, 18] .leaf))) .leaf))
theorem ok114 : fnOk Tryz.prog Tryz.f114.ntmps Tryz.f114 sk114 = true := by kernel_rfl
theorem eq114 (s0 : Sl) (v1 : ByteArray) (K : Value → World → Prop) (w : World) : fnF Tryz.prog cl Tryz.f114 sk114 [.slice s0.a s0.len s0.cap, .string v1] K w = B114 s0 v1 K w := by kernel_rfl
theorem call114 (s0 : Sl) (v1 : ByteArray) (K : Value → World → Prop) (w : World) (h : B114 s0 v1 K w) : Gets Tryz.prog 114 #[.slice s0.a s0.len s0.cap, .string v1] w K :=
  calls_of (sk := sk114) cl_ok mixed Tryz.func114 ok114 (args := [.slice s0.a s0.len s0.cap, .string v1]) (Nat.le_of_ble_eq_true (by kernel_rfl)) (by rw [eq114]; exact h)

end Go.Proofs.YtgfneeoponiibaaGreat
