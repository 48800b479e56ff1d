/- VC, part 5: formulas for operations that read or change memory, and for calls; each is enough. No condition. -/
import Derived.Test.YtbniilhfbfcegaaVc4
namespace Go.VC

/-- In every world of S the cells from p on hold vs. -/
def At (S : World → Prop) (p : Addr) (vs : List Value) : Prop := ∀ w, S w → ∀ i v, vs[i]? = some v → w.cell? (p.add i) = some v

def loadF (P : Program) (S : World → Prop) (T : TypeId) (x : Value) (K : Value → Prop) : Prop :=
  match x with
  | .pointer q => NilP q fun p => (match isAggT P T with
      | true => (match flat P 6 T with
        | some ts => exAll ts fun vs => At S p vs ∧ K (.agg vs.toArray)
        | none => ∃ vs : List Value, vs.length = szOf P T ∧ At S p vs ∧ K (.agg vs.toArray))
      | false => (tyOf P T).ex fun v => At S p [v] ∧ K v)
  | _ => False

/-- A computation that in every world of S gives a value and changes nothing. -/
def Giv (P : Program) (S : World → Prop) (s : Sem Value) (t : Rt) (K : Value → Prop) : Prop :=
  t.ex fun v => (∀ w, S w → s.run P w = .ok v w) ∧ K v

def readKind (P : Program) (op : Op) : Nat :=
  match op with
  | .load _ _ => 1
  | .lookup _ _ _ _ => 2
  | .entry _ => 2
  | .typeAssert _ _ _ _ => 2
  | .binOp _ T _ _ _ => (match binKind P T with | 0 => 2 | _ => 0)
  | .convert src dst _ => (match P.underlying dst with | some .string => (match P.underlying src with | some (.slice _) => 2 | some .string => 2 | _ => 0) | _ => 0)
  | .call c => (match c.callee with
    | .builtin .len => (match c.argTypes[0]? with
      | some t => (match P.underlying t with | some (.map _ _) => 2 | _ => 0)
      | none => 0)
    | _ => 0)
  | _ => 0

/-- The computation of an operation that gives a value. -/
def valSem (ρ : Operand → Value) (o : Oper) : Sem Value :=
  match o.op with
  | .lookup T x i ok => Instr.lookup T (ρ x) (ρ i) ok
  | .entry it => Instr.entry (ρ it)
  | .typeAssert x T T' ok => Instr.typeAssert (ρ x) T T' ok
  | .binOp op T x y _ => (do eqGuard op T x y (ρ x) (ρ y); binOp op T (ρ x) (ρ y))
  | .convert src dst x => convert src dst (ρ x)
  | .makeSlice T l c => Instr.makeSlice T (ρ l) (ρ c)
  | .mapEntry T m k => Instr.mapEntry T (ρ m) (ρ k)
  | .range T x => Instr.range T (ρ x)
  | .next it isString => Instr.next (ρ it) isString o.type
  | .call c => (match c.callee with
    | .builtin .append => Builtin.append_ c.argTypes o.type (c.args.map ρ)
    | .builtin .copy => Builtin.copy_ c.argTypes o.type (c.args.map ρ)
    | .builtin .delete => Builtin.delete_ c.argTypes o.type (c.args.map ρ)
    | .builtin .clear => Builtin.clear_ c.argTypes o.type (c.args.map ρ)
    | .builtin .len => Builtin.len_ c.argTypes o.type (c.args.map ρ)
    | _ => stuck "")
  | _ => stuck ""

/-- Is 'execOp' just that computation? -/
def valOp (op : Op) : Bool :=
  match op with
  | .lookup _ _ _ _ | .entry _ | .typeAssert _ _ _ _ | .binOp _ _ _ _ _ | .convert _ _ _ | .makeSlice _ _ _ | .mapEntry _ _ _ | .range _ _ | .next _ _ => true
  | .call c => (match c.callee with
    | .builtin .append | .builtin .copy | .builtin .delete | .builtin .clear | .builtin .len => true
    | _ => false)
  | _ => false

theorem valSem_run {P : Program} {ρ : Operand → Value} {o : Oper} (h : valOp o.op = true) {v : Value} {w w' : World} (hr : (valSem ρ o).run P w = .ok v w') :
    (execOp ρ o).run P w = .ok (.value v) w' := by
  obtain ⟨dst, op, ty, pos, after, guard⟩ := o
  cases op <;> simp only [valOp, Bool.false_eq_true] at h
  case call c =>
    obtain ⟨callee, args, ats⟩ := c
    cases callee <;> simp only [Bool.false_eq_true] at h
    case builtin b =>
      cases b <;> simp only [Bool.false_eq_true] at h <;> exact value_run (s := _) hr
  all_goals exact value_run (s := _) hr

def readF (P : Program) (S : World → Prop) (ρ : Env) (o : Oper) (K : Value → Prop) : Prop :=
  match readKind P o.op with
  | 1 => (match o.op with | .load T x => loadF P S T (ρ.ev x) K | _ => False)
  | _ => Giv P S (valSem ρ.ev o) (rtOf P o.type) K

theorem exAll_len : ∀ {ts : List Ty} {φ : List Value → Prop}, exAll ts φ → ∃ vs, vs.length = ts.length ∧ φ vs
  | [], _, h => ⟨[], rfl, h⟩
  | _ :: _, _, h => let ⟨v, h⟩ := Ty.ex_some h; let ⟨vs, hl, h⟩ := exAll_len h; ⟨v :: vs, by simp [hl], h⟩

def ldOk (P : Program) (T : TypeId) : Bool :=
  (P.info? T).isSome && (P.underlying T).isSome && (match isAggT P T with
  | true => (match flat P 6 T with
    | some ts => Nat.beq ts.length (szOf P T)
    | none => true)
  | false => true)

theorem loadCells_run {P : Program} {p : Addr} {vs : List Value} {w : World} (h : ∀ i v, vs[i]? = some v → w.cell? (p.add i) = some v) :
    (loadCells p vs.length).run P w = .ok vs.toArray w := by
  have := run_loadCells_list (P := P) (w := w) p vs h
  simpa using this

theorem loadF_sound {P : Program} {S : World → Prop} {ρ : Operand → Value} {dst : Option Tmp} {ty : TypeId} {pos : String} {after : Array Edge} {guard : Option (Nat × Bool)} {K : Value → Prop}
    {T : TypeId} {x : Operand} (hok : ldOk P T = true) (h : loadF P S T (ρ x) K) : Gives P S (execOp ρ ⟨dst, .load T x, ty, pos, after, guard⟩) K := by
  unfold loadF at h
  unfold ldOk at hok
  simp only [Bool.and_eq_true] at hok
  obtain ⟨⟨hinfo, hund⟩, hok⟩ := hok
  obtain ⟨d, hd⟩ := Option.isSome_iff_exists.1 hund
  obtain ⟨i, hi⟩ := Option.isSome_iff_exists.1 hinfo
  split at h
  case h_2 => exact h.elim
  rename_i q hx
  unfold NilP at h
  split at h
  case h_2 => exact h.elim
  rename_i p
  split at h
  · rename_i hag
    have key : ∀ vs : List Value, vs.length = szOf P T → At S p vs → K (.agg vs.toArray) → Gives P S (execOp ρ ⟨dst, .load T x, ty, pos, after, guard⟩) K := fun vs hl hat hK => by
      refine ⟨_, fun w hw => ?_, hK⟩
      simp only [execOp, hx]
      refine value_run ?_
      simp only [Instr.loadAt, Instr.sureAddr, loadVar, Sem.run_bind, Sem.run_pure, Result.andThen_ok, isAgg_run hd, hag, if_true, sizeOf_run hi, ← hl, loadCells_run (hat w hw)]
    split at h
    · rename_i ts hts
      rw [hag] at hok; simp only [hts] at hok
      obtain ⟨vs, hl, hat, hK⟩ := exAll_len h
      exact key vs (by rw [hl]; exact Nat.eq_of_beq_eq_true hok) hat hK
    · obtain ⟨vs, hl, hat, hK⟩ := h
      exact key vs hl hat hK
  · rename_i hag
    obtain ⟨v, hat, hK⟩ := Ty.ex_some h
    refine ⟨_, fun w hw => ?_, hK⟩
    have hc : w.cell? p = some v := by have := hat w hw 0 v rfl; simpa [Addr.add] using this
    simp only [execOp, hx]
    refine value_run ?_
    simp [Instr.loadAt, Instr.sureAddr, loadVar, isAgg_run hd, hag, hc]


def ldOk' (P : Program) (op : Op) : Bool := match op with | .load T _ => ldOk P T | _ => true

theorem readF_sound {P : Program} {S : World → Prop} {e : Env} {o : Oper} {K : Value → Prop} (hk : readKind P o.op ≠ 0)
    (hok : ldOk' P o.op = true) (h : readF P S e o K) : Gives P S (execOp e.ev o) K := by
  unfold readF at h
  split at h
  · rename_i hk1
    obtain ⟨dst, op, ty, pos, after, guard⟩ := o
    cases op <;> simp only at h hok <;> first | exact h.elim | skip
    exact loadF_sound hok h
  · rename_i hk1
    obtain ⟨v, hv, hK⟩ := Rt.ex_some h
    refine ⟨v, fun w hw => valSem_run ?_ (hv w hw), hK⟩
    obtain ⟨dst, op, ty, pos, after, guard⟩ := o
    cases op <;> simp only [readKind, ne_eq, not_true_eq_false] at hk hk1 <;> first | rfl | exact (hk1 trivial).elim | skip
    case call c =>
      obtain ⟨callee, args, ats⟩ := c
      cases callee <;> simp only [not_true_eq_false] at hk
      case builtin b => cases b <;> simp only [not_true_eq_false] at hk <;> rfl

/-! ### Operations that change memory, and calls -/

def New (o : Obj) (K : Nat → World → Prop) (w : World) : Prop := K w.heap.size (w.alloc o)

def newF (P : Program) (s : Sem Next) (K : Value → World → Prop) (w : World) : Prop :=
  match newRun P s with
  | some (o, f) => New o (fun b w => match f b with | some (.value v) => K v w | _ => False) w
  | none => False

/-- A computation that gives a value. -/
def RunV (P : Program) (s : Sem Value) (t : Rt) (K : Value → World → Prop) (w : World) : Prop := ∃ w', t.ex fun v => s.run P w = .ok v w' ∧ K v w'
/-- A computation that gives none. -/
def RunU (P : Program) (s : Sem Unit) (K : World → Prop) (w : World) : Prop := ∃ w', s.run P w = .ok () w' ∧ K w'

/-- A call of a function value. -/
def CalW (P : Program) (cl : FuncId → Bool) (f : Value) (args : List Value) (w : World) (Q : Ending → World → Prop) : Prop :=
  match f with
  | .func fn first captured => (match fn with
    | .func g => (match cl g with
      | true => Calls P g (first.toList ++ (args ++ captured.toList)).toArray w Q
      | false => False)
    | _ => False)
  | _ => False

theorem CalW.mono {P : Program} {cl : FuncId → Bool} {f : Value} {args : List Value} {w : World} {Q Q' : Ending → World → Prop} (h : CalW P cl f args w Q) (hq : ∀ e w, Q e w → Q' e w) : CalW P cl f args w Q' := by
  unfold CalW at *
  split at h
  · split at h
    · split at h
      · exact Calls.mono h hq
      · exact h.elim
    · exact h.elim
  · exact h.elim

def calV (P : Program) (cl : FuncId → Bool) (f : Value) (args : Array Value) (t : Rt) (K : Value → World → Prop) (w : World) : Prop :=
  CalW P cl f args.toList w fun e w' => t.ex fun v => e = .returned v ∧ K v w'

def rawF (P : Program) (s : Sem Next) (K : Value → World → Prop) (w : World) : Prop :=
  match s.run P w with
  | .ok (.value v) w' => K v w'
  | .ok .skip w' => K undef w'
  | _ => False

/-- 1 one new block; 2 a computation that gives a value; 3 a store; 4 a map's update; 5 a stored entry; 6 a call of a function value; 0 else. -/
def effKind (op : Op) : Nat :=
  match op with
  | .alloc _ | .box _ _ | .buildSlice _ _ _ | .makeMap _ _ => 1
  | .makeSlice _ _ _ | .mapEntry _ _ _ | .range _ _ | .next _ _ | .convert _ _ _ => 2
  | .store _ _ _ => 3
  | .mapUpdate _ _ _ _ | .insert _ _ _ _ => 4
  | .entryStore _ _ _ _ => 5
  | .call c => (match c.callee with
    | .builtin .append | .builtin .copy | .builtin .delete | .builtin .clear => 2
    | .value _ => 6
    | _ => 0)
  | _ => 0

def effF (P : Program) (cl : FuncId → Bool) (ρ : Env) (o : Oper) (K : Value → World → Prop) (w : World) : Prop :=
  match effKind o.op with
  | 1 => newF P (execOp ρ.ev o) K w
  | 2 => RunV P (valSem ρ.ev o) (rtOf P o.type) K w
  | 3 => (match o.op with | .store T a x => RunU P (Instr.storeAt T (ρ.ev a) (ρ.ev x)) (K undef) w | _ => False)
  | 4 => (match o.op with | .mapUpdate T m k x | .insert T m k x => RunU P (Instr.mapUpdate T (ρ.ev m) (ρ.ev k) (ρ.ev x)) (K undef) w | _ => False)
  | 5 => (match o.op with | .entryStore T m s x => RunU P (Instr.entryStore T (ρ.ev m) (ρ.ev s) (ρ.ev x)) (K undef) w | _ => False)
  | 6 => (match o.op with | .call c => (match c.callee with | .value f => calV P cl (ρ.ev f) (c.args.map ρ.ev) (rtOf P o.type) K w | _ => False) | _ => False)
  | _ => rawF P (execOp ρ.ev o) K w

/-- A function that a call enters. -/
def callable (P : Program) (g : FuncId) : Bool :=
  match P.funcs[g]? with
  | some fn => fn.body.isSome && !(fn.name == "runtime.NumGoroutine")
  | none => false

theorem callFunc_run {P : Program} {g : FuncId} (h : callable P g = true) (args : Array Value) (w : World) : (callFunc g args).run P w = .ok (.enter g args) w := by
  unfold callable at h
  split at h
  · rename_i fn hf
    simp only [Bool.and_eq_true, Bool.not_eq_true'] at h
    have hb : fn.body.isNone = false := by cases hb : fn.body <;> simp_all
    simp only [callFunc, Sem.run_bind, run_program, Result.andThen_ok, hf, h.2, hb, Bool.false_eq_true, if_false]
    rfl
  · simp at h

/-- What follows an operation: the value in its temporary. -/
abbrev After (a : Act) (d : Option Tmp) (K : Value → World → Prop) : Act → World → Prop := fun a' w' => ∃ v, a' = a.put d v ∧ K v w'

theorem effF_sound {P : Program} {cl : FuncId → Bool} (hcl : ∀ g, cl g = true → callable P g = true) {a : Act} {e : Env} {o : Oper} {K : Value → World → Prop} {w : World}
    {Q : Exit → Act → World → Prop} (h : effF P cl e o K w) : o.upon P a (After a o.dst K) Q ((execOp e.ev o).run P w) := by
  unfold effF at h
  split at h
  · unfold newF at h
    split at h
    · rename_i ob f hn
      unfold New at h
      dsimp only at h
      split at h
      · rename_i v hv
        rw [newRun_sound hn w hv]
        exact ⟨v, rfl, h⟩
      · exact h.elim
    · exact h.elim
  · rename_i hk
    obtain ⟨w', h⟩ := h
    obtain ⟨v, hr, hK⟩ := Rt.ex_some h
    have hv : valOp o.op = true := by
      obtain ⟨dst, op, ty, pos, after, guard⟩ := o
      cases op <;> simp [effKind] at hk <;> first | rfl | skip
      case call c =>
        obtain ⟨callee, args, ats⟩ := c
        cases callee <;> simp at hk
        case builtin b => cases b <;> simp at hk <;> rfl
    rw [valSem_run hv hr]
    exact ⟨v, rfl, hK⟩
  · rename_i hk
    clear hk
    obtain ⟨dst, op, ty, pos, after, guard⟩ := o
    cases op <;> simp only at h <;> first | exact h.elim | skip
    rename_i T a' x
    obtain ⟨w', hr, hK⟩ := h
    have : (execOp e.ev ⟨dst, .store T a' x, ty, pos, after, guard⟩).run P w = .ok .skip w' := by simp only [execOp]; simp [hr]
    rw [this]
    exact ⟨undef, rfl, hK⟩
  · rename_i hk
    clear hk
    obtain ⟨dst, op, ty, pos, after, guard⟩ := o
    cases op <;> simp only at h <;> first | exact h.elim | skip
    case insert T m k x =>
      obtain ⟨w', hr, hK⟩ := h
      have : (execOp e.ev ⟨dst, .insert T m k x, ty, pos, after, guard⟩).run P w = .ok .skip w' := by simp only [execOp]; simp [hr]
      rw [this]
      exact ⟨undef, rfl, hK⟩
    case mapUpdate T m k x =>
      obtain ⟨w', hr, hK⟩ := h
      have : (execOp e.ev ⟨dst, .mapUpdate T m k x, ty, pos, after, guard⟩).run P w = .ok .skip w' := by simp only [execOp]; simp [hr]
      rw [this]
      exact ⟨undef, rfl, hK⟩
  · rename_i hk
    clear hk
    obtain ⟨dst, op, ty, pos, after, guard⟩ := o
    cases op <;> simp only at h <;> first | exact h.elim | skip
    rename_i T m s x
    obtain ⟨w', hr, hK⟩ := h
    have : (execOp e.ev ⟨dst, .entryStore T m s x, ty, pos, after, guard⟩).run P w = .ok .skip w' := by simp only [execOp]; simp [hr]
    rw [this]
    exact ⟨undef, rfl, hK⟩
  · rename_i hk
    clear hk
    obtain ⟨dst, op, ty, pos, after, guard⟩ := o
    cases op <;> simp only at h <;> first | exact h.elim | skip
    case call c =>
      obtain ⟨callee, args, ats⟩ := c
      cases callee <;> simp only at h <;> first | exact h.elim | skip
      case value f =>
        unfold calV CalW at h
        split at h
        case h_2 => exact h.elim
        rename_i fn first captured hf
        split at h
        case h_2 => exact h.elim
        rename_i g
        split at h
        case h_2 => exact h.elim
        rename_i hg
        have hargs : (first ++ args.map e.ev) ++ captured = (first.toList ++ ((args.map e.ev).toList ++ captured.toList)).toArray := by
          apply Array.ext'; simp
        have : (execOp e.ev ⟨dst, .call ⟨.value f, args, ats⟩, ty, pos, after, guard⟩).run P w = .ok (.enter g (first.toList ++ ((args.map e.ev).toList ++ captured.toList)).toArray) w := by
          simp only [execOp, resolve, hf, Deferred.ofValue]
          simp only [Sem.run_bind, Sem.run_pure, Result.andThen_ok, invoke, ← hargs]
          exact callFunc_run (hcl g hg) _ w
        rw [this]
        refine Calls.mono h ?_
        intro en w' hx
        obtain ⟨v, rfl, hK⟩ := Rt.ex_some hx
        exact ⟨v, rfl, hK⟩
  · unfold rawF at h
    split at h
    · rename_i hr; rw [hr]; exact ⟨_, rfl, h⟩
    · rename_i hr; rw [hr]; exact ⟨undef, rfl, h⟩
    · exact h.elim

/-- One operation. -/
def opF (P : Program) (cl : FuncId → Bool) (ρ : Env) (o : Oper) (K : Value → World → Prop) (w : World) : Prop :=
  match pureKind P o.op with
  | 0 => (match readKind P o.op with
    | 0 => effF P cl ρ o K w
    | _ => readF P (fun w' => w' = w) ρ o (fun v => K v w))
  | _ => pureF P ρ o (fun v => K v w)

/-- What is asked of the tables ahead, by operation. -/
def opOk (P : Program) (op : Op) : Bool :=
  match op with
  | .load T _ => ldOk P T
  | op => tabOk P op

theorem Gives.upon {P : Program} {S : World → Prop} {e : Env} {o : Oper} {K : Value → World → Prop} {a : Act} {w : World} {Q : Exit → Act → World → Prop}
    (hS : S w) (h : Gives P S (execOp e.ev o) (fun v => K v w)) : o.upon P a (After a o.dst K) Q ((execOp e.ev o).run P w) := by
  obtain ⟨v, hv, hK⟩ := h
  rw [hv w hS]
  exact ⟨v, rfl, hK⟩

theorem opOk_tab {P : Program} {op : Op} (h : opOk P op = true) : tabOk P op = true := by
  cases op <;> first | exact h | rfl

theorem opOk_ld {P : Program} {op : Op} (h : opOk P op = true) : ldOk' P op = true := by
  cases op <;> first | exact h | rfl

theorem opF_sound {P : Program} {cl : FuncId → Bool} (hcl : ∀ g, cl g = true → callable P g = true) {a : Act} {e : Env} {o : Oper} {K : Value → World → Prop} {w : World}
    {Q : Exit → Act → World → Prop} (hok : opOk P o.op = true) (h : opF P cl e o K w) : o.upon P a (After a o.dst K) Q ((execOp e.ev o).run P w) := by
  unfold opF at h
  split at h
  · split at h
    · exact effF_sound hcl h
    · rename_i hk
      exact Gives.upon (S := fun w' => w' = w) rfl (readF_sound hk (opOk_ld hok) h)
  · exact Gives.upon (S := fun _ => True) trivial (pureF_sound (opOk_tab hok) h)

end Go.VC
