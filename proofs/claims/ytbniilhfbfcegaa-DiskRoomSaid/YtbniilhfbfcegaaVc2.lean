/- VC, part 2: formulas for binary operations, with their proofs. No condition. -/
import Derived.Test.YtbniilhfbfcegaaVc1
namespace Go.VC

def Br (b : Bool) (A B : Prop) : Prop := match b with | true => A | false => B
theorem Br.mk {b : Bool} {A B : Prop} (h : b = true → A) (h' : b = false → B) : Br b A B := by
  cases b
  · exact h' rfl
  · exact h rfl
theorem Br.t {b : Bool} {A B : Prop} (hb : b = true) (h : A) : Br b A B := by subst hb; exact h
theorem Br.f {b : Bool} {A B : Prop} (hb : b = false) (h : B) : Br b A B := by subst hb; exact h

/-- 'b is not 0, and A'. -/
def Nz (b : Int) (A : Prop) : Prop := match decide (b = 0) with | true => False | false => A
theorem Nz.mk {b : Int} {A : Prop} (hb : b ≠ 0) (h : A) : Nz b A := by unfold Nz; rw [decide_eq_false hb]; exact h
theorem Nz.out {b : Int} {A : Prop} (h : Nz b A) : b ≠ 0 ∧ A := by
  unfold Nz at h; split at h
  · exact h.elim
  · rename_i hb; exact ⟨of_decide_eq_false hb, h⟩

def bitI (op : BinOp) (k : IntKind) (x y : Int) : Int :=
  let a := BitVec.ofInt k.bits x
  let b := BitVec.ofInt k.bits y
  k.wrap (match op with | .and => (a &&& b).toNat | .or => (a ||| b).toNat | .xor => (a ^^^ b).toNat | _ => (a &&& ~~~b).toNat : Nat)

def shlI (k : IntKind) (x y : Int) : Int := k.wrap (x * 2 ^ min y.toNat k.bits)
def shrI (k : IntKind) (x y : Int) : Int := x.fdiv (2 ^ min y.toNat k.bits)

/-- '0 ≤ y' told so that a numeral goes away. -/
def Ge0 (y : Int) (A : Prop) : Prop := match decide (y < 0) with | true => False | false => A
theorem Ge0.mk {y : Int} {A : Prop} (hy : 0 ≤ y) (h : A) : Ge0 y A := by unfold Ge0; rw [decide_eq_false (by omega)]; exact h

def ariF (op : BinOp) (k : IntKind) (a b : Int) (K : Value → Prop) : Prop :=
  match op with
  | .add => K (.int k (k.wrap (a + b)))
  | .sub => K (.int k (k.wrap (a - b)))
  | .mul => K (.int k (k.wrap (a * b)))
  | .quo => Nz b (K (.int k (k.wrap (a.tdiv b))))
  | .rem => Nz b (K (.int k (a.tmod b)))
  | .and => K (.int k (bitI .and k a b))
  | .or => K (.int k (bitI .or k a b))
  | .xor => K (.int k (bitI .xor k a b))
  | .andNot => K (.int k (bitI .andNot k a b))
  | .eql => K (.bool (a == b))
  | .neq => K (.bool (a != b))
  | .lss => K (.bool (decide (a < b)))
  | .leq => K (.bool (decide (a ≤ b)))
  | .gtr => K (.bool (decide (a > b)))
  | .geq => K (.bool (decide (a ≥ b)))
  | _ => False

def strF (op : BinOp) (a b : ByteArray) (K : Value → Prop) : Prop :=
  match op with
  | .add => ((a.size + b.size : Nat) : Int) ≤ IntKind.i64.max ∧ K (.string (a ++ b))
  | .eql => K (.bool (a.toList == b.toList))
  | .neq => K (.bool !(a.toList == b.toList))
  | .lss => K (.bool (Op.bytesLess a.toList b.toList))
  | .leq => K (.bool (Op.bytesLess a.toList b.toList || a.toList == b.toList))
  | .gtr => K (.bool !(Op.bytesLess a.toList b.toList || a.toList == b.toList))
  | .geq => K (.bool !(Op.bytesLess a.toList b.toList))
  | _ => False

def eqF (op : BinOp) (b : Bool) (K : Value → Prop) : Prop :=
  match op with
  | .eql => K (.bool b)
  | .neq => K (.bool !b)
  | _ => False

def isInt : Option TypeDesc → Bool | some (.int _) => true | _ => false
def isStr : Option TypeDesc → Bool | some .string => true | _ => false

/-- Which kinds of operand have a formula of their own at '==', '<', '+' ..: 0 none, 1 integers, 2 strings, 3 bools, 4 pointers, 5 slices and nil, 6 maps and nil, 7 functions and nil. -/
def binKind (P : Program) (T : TypeId) : Nat :=
  match P.underlying T with
  | some (.int _) => 1
  | some .string => 2
  | some .bool => 3
  | some (.pointer _) => 4
  | some (.slice _) => 5
  | some (.map _ _) => 6
  | some (.func _ _ _) => 7
  | _ => 0

def isShift : BinOp → Bool | .shl | .shr => true | _ => false

def shiftF (op : BinOp) (k : IntKind) (a y : Int) (K : Value → Prop) : Prop :=
  Ge0 y (match op with
  | .shl => K (.int k (shlI k a y))
  | _ => K (.int k (shrI k a y)))

def intF (op : BinOp) (x y : Value) (K : Value → Prop) : Prop :=
  match x with
  | .int k a => match y with
    | .int k' b => (match isShift op with
      | true => shiftF op k a b K
      | false => (match decide (k = k') with | true => ariF op k a b K | false => False))
    | _ => False
  | _ => False

def binF (P : Program) (op : BinOp) (T : TypeId) (x y : Value) (K : Value → Prop) : Prop :=
  match binKind P T with
  | 1 => intF op x y K
  | 2 => match x with
    | .string a => match y with | .string b => strF op a b K | _ => False
    | _ => False
  | 3 => match x with
    | .bool a => match y with | .bool b => eqF op (a == b) K | _ => False
    | _ => False
  | 4 => match x with
    | .pointer p => match y with | .pointer none => eqF op p.isNone K | _ => False
    | _ => False
  | 5 => match x with
    | .slice a _ _ => match y with | .slice none _ _ => eqF op a.isNone K | _ => False
    | _ => False
  | 6 => match x with
    | .map m => match y with | .map none => eqF op m.isNone K | _ => False
    | _ => False
  | 7 => match y with
    | .nilFunc => match x with | .nilFunc => eqF op true K | .func _ _ _ => eqF op false K | _ => False
    | _ => False
  | _ => False

theorem eq_sound {P : Program} {T : TypeId} {x y : Value} {b : Bool} (h : ∀ d w, (Op.equalIn (d + 1) T x y).run P w = .ok b w) (op : BinOp) {K : Value → Prop} (ox oy : Operand)
    (hop : eqF op b K) (hb : binOp .eql T x y = (do pure (.bool (← Op.equal T x y)) : Sem Value)) (hb' : binOp .neq T x y = (do pure (.bool (!(← Op.equal T x y))) : Sem Value))
    (hg : ∀ w, (eqGuard op T ox oy x y).run P w = .ok () w) :
    ∃ v, (∀ w, (do eqGuard op T ox oy x y; binOp op T x y : Sem Value).run P w = .ok v w) ∧ K v := by
  have h' : ∀ w, (Op.equal T x y).run P w = .ok b w := h 9999
  cases op <;> simp only [eqF] at hop
  · exact ⟨_, fun w => by rw [Sem.run_bind, hg w, hb]; simp [h'], hop⟩
  · exact ⟨_, fun w => by rw [Sem.run_bind, hg w, hb']; simp [h'], hop⟩

theorem binF_sound {P : Program} {op : BinOp} {T : TypeId} {x y : Value} {K : Value → Prop} (h : binF P op T x y K) (ox oy : Operand) :
    ∃ v, (∀ w, (do eqGuard op T ox oy x y; binOp op T x y : Sem Value).run P w = .ok v w) ∧ K v := by
  unfold binF at h
  split at h
  · -- integers
    unfold intF at h
    split at h
    · rename_i k a
      split at h
      · rename_i k' b
        split at h
        · rename_i hs
          unfold shiftF Ge0 at h
          split at h
          · exact h.elim
          · rename_i hy
            have hy := of_decide_eq_false hy
            have e : ∀ s : Sem Value, (do eqGuard op T ox oy (.int k a) (.int k' b); s : Sem Value) = s := fun s => by
              unfold eqGuard; cases op <;> simp [isShift] at hs <;> rfl
            cases op <;> simp only [isShift, Bool.false_eq_true] at hs <;> simp only at h
            · exact ⟨_, fun w => by simp only [e, binOp, Op.shift, if_neg hy]; rfl, h⟩
            · exact ⟨_, fun w => by simp only [e, binOp, Op.shift, if_neg hy]; rfl, h⟩
        · split at h
          · rename_i hk
            have hk := of_decide_eq_true hk
            subst hk
            unfold ariF at h
            cases op <;> simp only at h
            case add => exact ⟨_, fun w => by simp [eqGuard, binOp, Op.intArith], h⟩
            case sub => exact ⟨_, fun w => by simp [eqGuard, binOp, Op.intArith], h⟩
            case mul => exact ⟨_, fun w => by simp [eqGuard, binOp, Op.intArith], h⟩
            case quo => obtain ⟨hb, h⟩ := h.out; exact ⟨_, fun w => by simp [eqGuard, binOp, Op.intDiv, hb], h⟩
            case rem => obtain ⟨hb, h⟩ := h.out; exact ⟨_, fun w => by simp [eqGuard, binOp, Op.intDiv, hb], h⟩
            case and => exact ⟨_, fun w => by simp [eqGuard, binOp, Op.intBits, bitI], h⟩
            case or => exact ⟨_, fun w => by simp [eqGuard, binOp, Op.intBits, bitI], h⟩
            case xor => exact ⟨_, fun w => by simp [eqGuard, binOp, Op.intBits, bitI], h⟩
            case andNot => exact ⟨_, fun w => by simp [eqGuard, binOp, Op.intBits, bitI], h⟩
            case eql => exact ⟨_, fun w => by simp [eqGuard, binOp, Op.intCmp], h⟩
            case neq => exact ⟨_, fun w => by simp [eqGuard, binOp, Op.intCmp], h⟩
            case lss => exact ⟨_, fun w => by simp [eqGuard, binOp, Op.intCmp], h⟩
            case leq => exact ⟨_, fun w => by simp [eqGuard, binOp, Op.intCmp], h⟩
            case gtr => exact ⟨_, fun w => by simp [eqGuard, binOp, Op.intCmp], h⟩
            case geq => exact ⟨_, fun w => by simp [eqGuard, binOp, Op.intCmp], h⟩
          · exact h.elim
      · exact h.elim
    · exact h.elim
  · split at h
    · split at h
      · rename_i a _ b
        unfold strF at h
        cases op <;> simp only at h
        case add =>
          obtain ⟨hb, h⟩ := h
          exact ⟨_, fun w => by simp only [eqGuard, binOp, Op.stringOp]; rw [if_neg (Int.not_lt.2 hb)]; simp, h⟩
        all_goals exact ⟨_, fun w => by simp [eqGuard, binOp, Op.stringOp], h⟩
      · exact h.elim
    · exact h.elim
  · rename_i hT
    have hT : P.underlying T = some .bool := by
      unfold binKind at hT; split at hT <;> first | assumption | simp at hT
    split at h
    · split at h
      · exact eq_sound (fun d w => by simp [Op.equalIn, run_underlying hT]) op ox oy h rfl rfl (fun w => by cases op <;> rfl)
      · exact h.elim
    · exact h.elim
  · rename_i hT
    obtain ⟨e, hT⟩ : ∃ e, P.underlying T = some (.pointer e) := by
      unfold binKind at hT; split at hT <;> first | exact ⟨_, by assumption⟩ | simp at hT
    split at h
    · split at h
      · rename_i p _
        exact eq_sound (fun d w => by cases p <;> simp [Op.equalIn, run_underlying hT]) op ox oy h (by cases p <;> rfl) (by cases p <;> rfl) (fun w => by cases op <;> rfl)
      · exact h.elim
    · exact h.elim
  · rename_i hT
    obtain ⟨e, hT⟩ : ∃ e, P.underlying T = some (.slice e) := by
      unfold binKind at hT; split at hT <;> first | exact ⟨_, by assumption⟩ | simp at hT
    split at h
    · split at h
      · rename_i a _ _ _ _ _
        exact eq_sound (fun d w => by cases a <;> simp [Op.equalIn, run_underlying hT]) op ox oy h rfl rfl (fun w => by cases op <;> rfl)
      · exact h.elim
    · exact h.elim
  · rename_i hT
    obtain ⟨e, e', hT⟩ : ∃ e e', P.underlying T = some (.map e e') := by
      unfold binKind at hT; split at hT <;> first | exact ⟨_, _, by assumption⟩ | simp at hT
    split at h
    · split at h
      · rename_i m _
        exact eq_sound (fun d w => by cases m <;> simp [Op.equalIn, run_underlying hT]) op ox oy h rfl rfl (fun w => by cases op <;> rfl)
      · exact h.elim
    · exact h.elim
  · rename_i hT
    obtain ⟨e, e', e'', hT⟩ : ∃ e e' e'', P.underlying T = some (.func e e' e'') := by
      unfold binKind at hT; split at hT <;> first | exact ⟨_, _, _, by assumption⟩ | simp at hT
    split at h
    · split at h
      · exact eq_sound (fun d w => by simp [Op.equalIn, run_underlying hT]) op ox oy h rfl rfl (fun w => by cases op <;> rfl)
      · exact eq_sound (fun d w => by simp [Op.equalIn, run_underlying hT]) op ox oy h rfl rfl (fun w => by cases op <;> rfl)
      · exact h.elim
    · exact h.elim
  · exact h.elim
end Go.VC
