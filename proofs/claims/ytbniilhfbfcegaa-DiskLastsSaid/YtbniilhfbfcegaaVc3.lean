/- VC, part 3: formulas for operations that look at no memory, with their proofs. No condition. -/
import Derived.Test.YtbniilhfbfcegaaVc2
/-! ### Operations that look at no memory -/
namespace Go.VC

/-- What a computation gives that asks for nothing but the program's tables. -/
def pureRun {α : Type} (P : Program) : Sem α → Option α
  | .pure a => some a
  | .program k => pureRun P (k P)
  | .mark _ k => pureRun P k
  | _ => none

theorem pureRun_sound {α : Type} {P : Program} {s : Sem α} {a : α} (h : pureRun P s = some a) (w : World) : s.run P w = .ok a w := by
  induction s with
  | pure b => simp only [pureRun, Option.some.injEq] at h; subst h; rfl
  | program k ih => exact ih P h
  | mark m k ih => exact ih h
  | _ => simp [pureRun] at h

/-- What a computation gives that makes one block and asks for nothing else but the program's tables. -/
def newRun {α : Type} (P : Program) : Sem α → Option (Obj × (Nat → Option α))
  | .program k => newRun P (k P)
  | .mark _ k => newRun P k
  | .new o k => some (o, fun b => pureRun P (k b))
  | _ => none

theorem newRun_sound {α : Type} {P : Program} {s : Sem α} {o : Obj} {f : Nat → Option α} (h : newRun P s = some (o, f)) (w : World) {a : α} (ha : f w.heap.size = some a) :
    s.run P w = .ok a (w.alloc o) := by
  induction s with
  | program k ih => exact ih P h
  | mark m k ih => exact ih h
  | new o' k ih =>
    simp only [newRun, Option.some.injEq, Prod.mk.injEq] at h
    obtain ⟨rfl, rfl⟩ := h
    exact pureRun_sound ha _
  | _ => simp [newRun] at h

def PR (P : Program) (s : Sem Next) (K : Value → Prop) : Prop :=
  match pureRun P s with
  | some (.value v) => K v
  | _ => False

def szOf (P : Program) (t : TypeId) : Nat := match P.info? t with | some i => i.size | none => 0

/-- The pointer is not nil. -/
def NilP (p : Option Addr) (K : Addr → Prop) : Prop := match p with | some a => K a | none => False
theorem NilP.mk {p : Option Addr} {a : Addr} {K : Addr → Prop} (hp : p = some a) (h : K a) : NilP p K := by subst hp; exact h

/-- A value that is not nil where Go asks. -/
def NilCk (x : Value) (K : Value → Prop) : Prop :=
  match x with
  | .pointer p => NilP p fun a => K (.pointer (some a))
  | .func (.func f) first captured => K (.func (.func f) first captured)
  | .iface t v => K (.iface t v)
  | _ => False

def mulS (i n : Nat) : Nat := match n with | 1 => i | n => i * n
theorem mulS_eq (i n : Nat) : mulS i n = i * n := by unfold mulS; split <;> simp

/-- The index is in range. -/
def Rng (i : Int) (n : Nat) (A : Prop) : Prop := match decide (0 ≤ i ∧ i < (n : Int)) with | true => A | false => False
theorem Rng.mk {i : Int} {n : Nat} {A : Prop} (h0 : 0 ≤ i) (h1 : i < (n : Int)) (h : A) : Rng i n A := by unfold Rng; rw [decide_eq_true ⟨h0, h1⟩]; exact h
theorem Rng.out {i : Int} {n : Nat} {A : Prop} (h : Rng i n A) : 0 ≤ i ∧ i < (n : Int) ∧ A := by
  unfold Rng at h; split at h
  · rename_i hb; have := of_decide_eq_true hb; exact ⟨this.1, this.2, h⟩
  · exact h.elim
theorem NilP.out {p : Option Addr} {K : Addr → Prop} (h : NilP p K) : ∃ a, p = some a ∧ K a := by
  unfold NilP at h; split at h
  · exact ⟨_, rfl, h⟩
  · exact h.elim

def idxA (base : Option Addr) (len : Nat) (i : Int) (size : Nat) (K : Value → Prop) : Prop :=
  Rng i len (NilP base fun a => K (.pointer (some (a.add (mulS i.toNat size)))))

def idxAddrF (P : Program) (T : TypeId) (x i : Value) (K : Value → Prop) : Prop :=
  match i with
  | .int _ n => match P.underlying T with
    | some (.slice e) => (match x with | .slice a len _ => idxA a len n (szOf P e) K | _ => False)
    | some (.array len e) => (match x with | .pointer p => idxA p len n (szOf P e) K | _ => False)
    | _ => False
  | _ => False

def isAggT (P : Program) (t : TypeId) : Bool := match P.underlying t with | some (.struct _) | some (.array _ _) => true | _ => false

def idxF (P : Program) (T : TypeId) (x i : Value) (K : Value → Prop) : Prop :=
  match i with
  | .int _ n => match P.underlying T with
    | some .string => (match x with | .string s => ∃ c : UInt8, 0 ≤ n ∧ s[n.toNat]? = some c ∧ K (.int .u8 c.toNat) | _ => False)
    | some (.array len e) => (match x with
      | .agg cs => Rng n len (match isAggT P e with
        | true => K (.agg (cs.extract (mulS n.toNat (szOf P e)) (mulS n.toNat (szOf P e) + szOf P e)))
        | false => (tyOf P e).ex fun v => cs[mulS n.toNat (szOf P e)]? = some v ∧ K v)
      | _ => False)
    | _ => False
  | _ => False

def bnd (x : Option Value) (d y : Nat) (φ : Nat → Prop) : Prop :=
  match x with
  | none => φ d
  | some v => match v with | .int _ i => 0 ≤ i ∧ i ≤ (y : Int) ∧ φ i.toNat | _ => False

def cutA (a : Option Addr) (l m size : Nat) : Option Addr := if m = l then a else a.map (·.add (l * size))

def sliceF (P : Program) (T : TypeId) (x : Value) (lo hi mx : Option Value) (K : Value → Prop) : Prop :=
  match P.underlying T with
  | some .string => (match x with
    | .string s => (match mx with
      | some _ => False
      | none => bnd hi s.size s.size fun h => bnd lo 0 h fun l => K (.string (s.extract l h)))
    | _ => False)
  | some (.slice e) => (match x with
    | .slice a n c => bnd mx c c fun m => (match hi, mx with
      | none, some _ => False
      | _, _ => bnd hi n m fun h => (match lo with
        | none => K (.slice a h m)
        | some v => bnd (some v) 0 h fun l => K (.slice (cutA a l m (szOf P e)) (h - l) (m - l))))
    | _ => False)
  | some (.array n e) => (match x with
    | .pointer p => ∃ a : Addr, p = some a ∧ bnd mx n n fun m => (match hi, mx with
      | none, some _ => False
      | _, _ => bnd hi n m fun h => (match lo with
        | none => K (.slice (some a) h m)
        | some v => bnd (some v) 0 h fun l => K (.slice (cutA (some a) l m (szOf P e)) (h - l) (m - l))))
    | _ => False)
  | _ => False

/-- Which operations are told by a formula that looks at no memory: 0 none; 1 by the tables; 2 '+', '<' ..; 3 a nil check; 4 an element's address; 5 an element of a value; 6 a slice expression; 7 a field's address. -/
def pureKind (P : Program) (op : Op) : Nat :=
  match op with
  | .move _ | .assign _ | .pick _ _ _ | .field _ _ _ | .build _ _ | .extract _ _ | .makeFunc _ _ _ | .makeInterface _ _ | .unOp _ _ _ => 1
  | .convert _ dst _ => (match P.underlying dst with | some (.int _) => 1 | _ => 0)
  | .call c => (match c.callee with
    | .builtin .len | .builtin .cap => (match c.argTypes[0]? with
      | some t => (match P.underlying t with | some (.map _ _) | some (.chan _ _) => 0 | _ => 1)
      | none => 0)
    | .builtin .min | .builtin .max => 1
    | _ => 0)
  | .binOp _ T _ _ _ => (match binKind P T with | 0 => 0 | _ => 2)
  | .nilCheck _ => 3
  | .indexAddr _ _ _ => 4
  | .index _ _ _ => 5
  | .slice _ _ _ _ _ => 6
  | .fieldAddr _ _ _ => 7
  | _ => 0

def fldAddrF (P : Program) (T : TypeId) (x : Value) (i : Nat) (K : Value → Prop) : Prop :=
  match x with
  | .pointer p => NilP p fun a => PR P (do pure (.value (← Instr.fieldAt T (.pointer (some a)) i))) K
  | _ => False

def pureF (P : Program) (ρ : Env) (o : Oper) (K : Value → Prop) : Prop :=
  match pureKind P o.op with
  | 1 => PR P (execOp ρ.ev o) K
  | _ => match o.op with
    | .binOp op T x y _ => binF P op T (ρ.ev x) (ρ.ev y) K
    | .nilCheck x => NilCk (ρ.ev x) K
    | .indexAddr T x i => idxAddrF P T (ρ.ev x) (ρ.ev i) K
    | .index T x i => idxF P T (ρ.ev x) (ρ.ev i) K
    | .slice T x lo hi mx => sliceF P T (ρ.ev x) (lo.map ρ.ev) (hi.map ρ.ev) (mx.map ρ.ev) K
    | .fieldAddr T x i => fldAddrF P T (ρ.ev x) i K
    | _ => False

/-- The operation gives a value, whatever the memory. -/
def Gives (P : Program) (S : World → Prop) (s : Sem Next) (K : Value → Prop) : Prop := ∃ v, (∀ w, S w → s.run P w = .ok (.value v) w) ∧ K v

theorem run_typeInfo_of {P : Program} {t : TypeId} {i : TypeInfo} (h : P.info? t = some i) (w : World) : (typeInfo t).run P w = .ok i w := by
  simp [typeInfo, h]

theorem info_of_underlying {P : Program} {t : TypeId} {d : TypeDesc} (h : P.underlying t = some d) : ∃ i, P.info? t = some i := by
  unfold Program.underlying at h
  split at h <;> first | exact ⟨_, by assumption⟩ | simp at h

theorem value_run {P : Program} {s : Sem Value} {v : Value} {w w' : World} (h : s.run P w = .ok v w') : (do pure (.value (← s)) : Sem Next).run P w = .ok (.value v) w' := by
  simp [h]

theorem NilCk_sound {P : Program} {ρ : Operand → Value} {dst : Option Tmp} {ty : TypeId} {pos : String} {after : Array Edge} {guard : Option (Nat × Bool)} {x : Operand} {K : Value → Prop} (h : NilCk (ρ x) K) :
    Gives P (fun _ => True) (execOp ρ ⟨dst, .nilCheck x, ty, pos, after, guard⟩) K := by
  unfold NilCk at h
  split at h
  · rename_i hx
    unfold NilP at h
    split at h
    · exact ⟨_, fun w _ => by simp only [execOp, hx]; rfl, h⟩
    · exact h.elim
  · rename_i hx; exact ⟨_, fun w _ => by simp only [execOp, hx]; rfl, h⟩
  · rename_i hx; exact ⟨_, fun w _ => by simp only [execOp, hx]; rfl, h⟩
  · exact h.elim

end Go.VC
