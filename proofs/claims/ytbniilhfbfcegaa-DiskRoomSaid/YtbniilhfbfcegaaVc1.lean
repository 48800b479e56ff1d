/- VC, part 1: readable formulas for single operations of the model, each proved to be enough for the model's own run of that operation. No condition. -/
import Derived.OrdersHeld
import Derived.KernelRfl
import Derived.Laws.Entries
import Derived.Laws.Cells
import Derived.Laws.World
namespace Go.VC

/-! ### Values by kind -/

/-- A slice value's three parts. -/
structure Sl where
  a : Option Addr
  len : Nat
  cap : Nat

inductive Ty where
  | int (k : IntKind) | bool | str | sl | ptr | map | any

@[reducible] def Ty.T : Ty → Type
  | .int _ => Int | .bool => Bool | .str => ByteArray | .sl => Sl | .ptr => Option Addr | .map => Option Nat | .any => Value

def Ty.enc : (t : Ty) → t.T → Value
  | .int k, n => .int k n
  | .bool, b => .bool b
  | .str, s => .string s
  | .sl, s => .slice s.a s.len s.cap
  | .ptr, p => .pointer p
  | .map, m => .map m
  | .any, v => v

/-- 'v is of kind t, and its content has φ'. -/
def Ty.un : (t : Ty) → Value → (t.T → Prop) → Prop
  | .int k, v, φ => match v with | .int k' n => (match decide (k = k') with | true => φ n | false => False) | _ => False
  | .bool, v, φ => match v with | .bool b => φ b | _ => False
  | .str, v, φ => match v with | .string s => φ s | _ => False
  | .sl, v, φ => match v with | .slice a n c => φ ⟨a, n, c⟩ | _ => False
  | .ptr, v, φ => match v with | .pointer p => φ p | _ => False
  | .map, v, φ => match v with | .map m => φ m | _ => False
  | .any, v, φ => φ v

theorem Ty.un_enc {t : Ty} {v : Value} {φ : t.T → Prop} (h : t.un v φ) : ∃ x, v = t.enc x ∧ φ x := by
  cases t <;> simp only [Ty.un] at h
  case int k =>
    split at h
    · split at h
      · rename_i hk; have := of_decide_eq_true hk; subst this; exact ⟨_, rfl, h⟩
      · exact h.elim
    · exact h.elim
  case any => exact ⟨v, rfl, h⟩
  all_goals (split at h <;> first | exact ⟨_, rfl, h⟩ | exact h.elim)

theorem Ty.un_of {t : Ty} {x : t.T} {φ : t.T → Prop} (h : φ x) : t.un (t.enc x) φ := by
  cases t <;> simp only [Ty.un, Ty.enc] <;> first | exact h | (simp; exact h)

/-- 'there is a value of kind t with φ'. -/
def Ty.ex : (t : Ty) → (Value → Prop) → Prop
  | .int k, φ => ∃ n : Int, φ (.int k n)
  | .bool, φ => ∃ b : Bool, φ (.bool b)
  | .str, φ => ∃ s : ByteArray, φ (.string s)
  | .sl, φ => ∃ s : Sl, φ (.slice s.a s.len s.cap)
  | .ptr, φ => ∃ p : Option Addr, φ (.pointer p)
  | .map, φ => ∃ m : Option Nat, φ (.map m)
  | .any, φ => ∃ v : Value, φ v

theorem Ty.ex_some {t : Ty} {φ : Value → Prop} (h : t.ex φ) : ∃ v, φ v := by
  cases t <;> (obtain ⟨x, h⟩ := h; exact ⟨_, h⟩)

def exAll : List Ty → (List Value → Prop) → Prop
  | [], φ => φ []
  | t :: ts, φ => t.ex fun v => exAll ts fun vs => φ (v :: vs)

theorem exAll_some : ∀ {ts : List Ty} {φ : List Value → Prop}, exAll ts φ → ∃ vs, φ vs
  | [], _, h => ⟨[], h⟩
  | _ :: _, _, h => let ⟨v, h⟩ := Ty.ex_some h; let ⟨vs, h⟩ := exAll_some h; ⟨v :: vs, h⟩

/-- A value, or a struct's cells. -/
inductive Vt where
  | one (t : Ty) | agg (ts : List Ty)

def Vt.ex : Vt → (Value → Prop) → Prop
  | .one t, φ => t.ex φ
  | .agg ts, φ => exAll ts fun vs => φ (.agg vs.toArray)

theorem Vt.ex_some {t : Vt} {φ : Value → Prop} (h : t.ex φ) : ∃ v, φ v := by
  cases t with
  | one t => exact Ty.ex_some h
  | agg ts => let ⟨vs, h⟩ := exAll_some h; exact ⟨_, h⟩

def exAllV : List Vt → (List Value → Prop) → Prop
  | [], φ => φ []
  | t :: ts, φ => t.ex fun v => exAllV ts fun vs => φ (v :: vs)

theorem exAllV_some : ∀ {ts : List Vt} {φ : List Value → Prop}, exAllV ts φ → ∃ vs, φ vs
  | [], _, h => ⟨[], h⟩
  | _ :: _, _, h => let ⟨v, h⟩ := Vt.ex_some h; let ⟨vs, h⟩ := exAllV_some h; ⟨v :: vs, h⟩

inductive Rt where
  | val (t : Vt) | tup (ts : List Vt)

def Rt.ex : Rt → (Value → Prop) → Prop
  | .val t, φ => t.ex φ
  | .tup ts, φ => exAllV ts fun vs => φ (.tuple vs.toArray)

theorem Rt.ex_some {t : Rt} {φ : Value → Prop} (h : t.ex φ) : ∃ v, φ v := by
  cases t with
  | val t => exact Vt.ex_some h
  | tup ts => let ⟨vs, h⟩ := exAllV_some h; exact ⟨_, h⟩

/-! ### Kinds out of the program's table -/

def tyOf (P : Program) (t : TypeId) : Ty :=
  match P.underlying t with
  | some .bool => .bool
  | some (.int k) => .int k
  | some .string => .str
  | some (.pointer _) => .ptr
  | some (.slice _) => .sl
  | some (.map _ _) => .map
  | _ => .any

def flatAll (f : TypeId → Option (List Ty)) : List Field → Option (List Ty)
  | [] => some []
  | x :: xs => match f x.type with
    | none => none
    | some l => match flatAll f xs with
      | none => none
      | some m => some (l ++ m)

def flat (P : Program) : Nat → TypeId → Option (List Ty)
  | 0, _ => none
  | d + 1, t => match P.underlying t with
    | some (.struct fs) => flatAll (flat P d) fs.toList
    | some (.array n e) => match Nat.ble n 4 with
      | true => match flat P d e with
        | some l => some (List.replicate n l).flatten
        | none => none
      | false => none
    | _ => some [tyOf P t]

def vtOf (P : Program) (t : TypeId) : Vt :=
  match P.underlying t with
  | some (.struct _) | some (.array _ _) => match flat P 6 t with
    | some l => .agg l
    | none => .one .any
  | _ => .one (tyOf P t)

def rtOf (P : Program) (t : TypeId) : Rt :=
  match P.underlying t with
  | some (.tuple ts) => .tup (ts.toList.map (vtOf P))
  | _ => .val (vtOf P t)

/-! ### Frames as functions -/

abbrev Env := Nat → Value
def Env.set (ρ : Env) (d : Nat) (v : Value) : Env := fun i => match Nat.beq i d with | true => v | false => ρ i
def Env.put (ρ : Env) (d : Option Tmp) (v : Value) : Env := match d with | some d => ρ.set d v | none => ρ
def Env.ev (ρ : Env) : Operand → Value
  | .tmp t => ρ t
  | .const v => v
  | .global g => .pointer (some ⟨g, 0, none⟩)
  | .func f => .func (.func f) #[] #[]

end Go.VC
