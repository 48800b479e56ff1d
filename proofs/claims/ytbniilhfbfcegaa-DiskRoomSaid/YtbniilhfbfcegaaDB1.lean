/- The formulas of functions of this seat's translation, printed by a program of mine off the translation; each is proved equal to 'fnF' of the function's body, so it is enough for the call. No condition. -/
import Derived.Test.YtbniilhfbfcegaaProg
import Derived.Test.YtbniilhfbfcegaaSl2
namespace Go.Proofs.Ytbniilhfbfcegaa
open Go Go.VC
set_option linter.unusedVariables false

def clList : List Nat := [10,11,12,13,14,15,16,17,18,19,20,21,22,23,24,25,26,27,28,29,30,31,32,33,34,35,36,37,38,39,40,41,42,43,44,45,46,47,48,49,50,51,52,53,54,55,56,57,58]
def cl : FuncId → Bool := fun g => memB g clList
theorem clList_ok : clList.all (callable Try.prog) = true := by kernel_rfl
theorem cl_ok (g : FuncId) (h : cl g = true) : callable Try.prog g = true := by
  have key : ∀ l : List Nat, memB g l = true → l.all (callable Try.prog) = true → callable Try.prog g = true := fun l => by
    induction l with
    | nil => intro h; cases h
    | cons x l ih =>
      intro h h2
      simp only [List.all_cons, Bool.and_eq_true] at h2
      simp only [memB] at h
      split at h
      · rename_i hb; rw [Nat.eq_of_beq_eq_true hb]; exact h2.1
      · exact ih h h2.2
  exact key _ h clList_ok
theorem mixed : Try.prog.follows .mixedOrders = true := by kernel_rfl

/-- jetway/jetwaylaw04.DiskNews. -/
def B3 (room0 : Int) (K : Value → World → Prop) (w : World) : Prop :=
  Calls Try.prog 10 #[.int .i64 room0] w fun e w_1 =>
  ∃ t11 : Option Addr, ∃ t11_1 : Int, (e = .returned (.tuple #[.pointer t11, .int .i64 t11_1])) ∧
  Calls Try.prog 11 #[.int .i64 room0] w_1 fun e_1 w_2 =>
  ∃ t16 : Option Addr, ∃ t16_1 : Int, (e_1 = .returned (.tuple #[.pointer t16, .int .i64 t16_1])) ∧
  Calls Try.prog 10 #[.int .i64 1] w_2 fun e_2 w_3 =>
  ∃ t20 : Option Addr, ∃ t20_1 : Int, (e_2 = .returned (.tuple #[.pointer t20, .int .i64 t20_1])) ∧
  Br (!t20.isNone)
   (Br (t11_1 == t16_1)
     (K (.bool ((!t11.isNone) == (t11_1 == 0))) w_3)
     (K (.bool false) w_3))
   (K (.bool false) w_3)

def sk3 : Sk := .leaf
theorem ok3 : fnOk Try.prog Try.f3.ntmps Try.f3 sk3 = true := by kernel_rfl
theorem eq3 (room0 : Int) (K : Value → World → Prop) (w : World) : fnF Try.prog cl Try.f3 sk3 [.int .i64 room0] K w = B3 room0 K w := by kernel_rfl
theorem call3 (room0 : Int) (K : Value → World → Prop) (w : World) (h : B3 room0 K w) : Gets Try.prog 3 #[.int .i64 room0] w K :=
  calls_of (sk := sk3) cl_ok mixed Try.func3 ok3 (args := [.int .i64 room0]) (Nat.le_of_ble_eq_true (by kernel_rfl)) (by rw [eq3]; exact h)

/-- jetway/jetwaylaw04.DiskFails. -/
def B4 (n0 : Int) (name1 : ByteArray) (K : Value → World → Prop) (w : World) : Prop :=
  Calls Try.prog 10 #[.int .i64 10000] w fun e w_1 =>
  ∃ t11 : Option Addr, ∃ t11_1 : Int, (e = .returned (.tuple #[.pointer t11, .int .i64 t11_1])) ∧
  ∃ (J : World → Prop), (Br (t11_1 != 0)
     (K (.bool false) w_1)
     (Br t11.isNone
       (K (.bool false) w_1)
       (J  w_1))) ∧
  ∀ (z : Env)  (w_2 : World), J  w_2 →
  New (.cells #[.int .u8 1] 5 (0, 0)) (fun b_t22 w_3 =>
  Calls Try.prog 12 #[.pointer t11, .string name1, .slice ((some ⟨b_t22, 0, none⟩)) 1 1] w_3 fun e_1 w_4 =>
  ∃ t23 : Int, (e_1 = .returned (.int .i64 t23)) ∧
  ∃ (J_1 : World → Prop), (Br (t23 != 0)
     (Br (t23 == 0)
       (K (.bool true) w_4)
       (K (.bool (t23 == 1)) w_4))
     (Br (decide (n0 < 0))
       (Br (t23 == 0)
         (K (.bool true) w_4)
         (K (.bool (t23 == 1)) w_4))
       (Br (decide (n0 > 100))
         (Br (t23 == 0)
           (K (.bool true) w_4)
           (K (.bool (t23 == 1)) w_4))
         (J_1  w_4)))) ∧
  ∀ (z_1 : Env)  (w_5 : World), J_1  w_5 →
  Calls Try.prog 13 #[.pointer t11, .int .i64 n0] w_5 fun e_2 w_6 =>
  ∃ t42 : Int, (e_2 = .returned (.int .i64 t42)) ∧
  ∃ (I : Int → World → Prop) (μ : Int → World → Nat), (I 0 w_6) ∧ ∀ (z_2 : Env) (i8 : Int) (w_7 : World), I i8 w_7 →
  Br (decide (i8 < IntKind.i64.wrap (n0 + 3)))
   (Calls Try.prog 14 #[.pointer t11] w_7 fun e_3 w_8 =>
    ∃ t50 : Int, (e_3 = .returned (.int .i64 t50)) ∧
    New (.cells #[.int .u8 2] 5 (0, 0)) (fun b_t53 w_9 =>
    Calls Try.prog 12 #[.pointer t11, .string name1, .slice ((some ⟨b_t53, 0, none⟩)) 1 1] w_9 fun e_4 w_10 =>
    ∃ t54 : Int, (e_4 = .returned (.int .i64 t54)) ∧
    Br (i8 == n0)
     (Br (t54 != 4)
       (K (.bool false) w_10)
       (Calls Try.prog 14 #[.pointer t11] w_10 fun e_5 w_11 =>
        ∃ t63 : Int, (e_5 = .returned (.int .i64 t63)) ∧
        Br (t63 != t50)
         (K (.bool false) w_11)
         (Br (i8 != n0)
           (Br (t54 != 0)
             (K (.bool false) w_11)
             (Calls Try.prog 14 #[.pointer t11] w_11 fun e_6 w_12 =>
              ∃ t77 : Int, (e_6 = .returned (.int .i64 t77)) ∧
              Br (t77 != IntKind.i64.wrap (t50 + 1))
               (K (.bool false) w_12)
               ((I (IntKind.i64.wrap (i8 + 1)) w_12) ∧ μ (IntKind.i64.wrap (i8 + 1)) w_12 < μ i8 w_7)))
           ((I (IntKind.i64.wrap (i8 + 1)) w_11) ∧ μ (IntKind.i64.wrap (i8 + 1)) w_11 < μ i8 w_7))))
     (Br (i8 != n0)
       (Br (t54 != 0)
         (K (.bool false) w_10)
         (Calls Try.prog 14 #[.pointer t11] w_10 fun e_7 w_13 =>
          ∃ t77_1 : Int, (e_7 = .returned (.int .i64 t77_1)) ∧
          Br (t77_1 != IntKind.i64.wrap (t50 + 1))
           (K (.bool false) w_13)
           ((I (IntKind.i64.wrap (i8 + 1)) w_13) ∧ μ (IntKind.i64.wrap (i8 + 1)) w_13 < μ i8 w_7)))
       ((I (IntKind.i64.wrap (i8 + 1)) w_10) ∧ μ (IntKind.i64.wrap (i8 + 1)) w_10 < μ i8 w_7))) w_8)
   (K (.bool true) w_7)) w_2

def sk4 : Sk := (.seq .leaf (.seq .leaf (.cut [] [] [4, 14, 15, 16, 17, 18, 19] .leaf (.seq .leaf (.cut [] [] [4, 24, 25, 26, 27, 28, 29, 30, 31, 32, 33, 34, 35, 36, 37, 38, 39] .leaf (.seq .leaf (.seq (.seq .leaf (.block (.loop [8] [(.int .i64)] [4, 7, 8, 9, 43, 44, 45, 46, 47, 48, 49, 50, 51, 52, 53, 54, 55, 56, 57, 58, 59, 60, 61, 62, 63, 64, 65, 66, 67, 68, 69, 70, 71, 72, 73, 74, 75, 76, 77, 78, 79, 80, 81, 82, 83] .leaf))) .leaf)))))))
theorem ok4 : fnOk Try.prog Try.f4.ntmps Try.f4 sk4 = true := by kernel_rfl
theorem eq4 (n0 : Int) (name1 : ByteArray) (K : Value → World → Prop) (w : World) : fnF Try.prog cl Try.f4 sk4 [.int .i64 n0, .string name1] K w = B4 n0 name1 K w := by kernel_rfl
theorem call4 (n0 : Int) (name1 : ByteArray) (K : Value → World → Prop) (w : World) (h : B4 n0 name1 K w) : Gets Try.prog 4 #[.int .i64 n0, .string name1] w K :=
  calls_of (sk := sk4) cl_ok mixed Try.func4 ok4 (args := [.int .i64 n0, .string name1]) (Nat.le_of_ble_eq_true (by kernel_rfl)) (by rw [eq4]; exact h)

/-- jetway/disk.New. -/
def B10 (room0 : Int) (K : Value → World → Prop) (w : World) : Prop :=
  Br (decide (room0 < 1))
   (K (.tuple #[.pointer none, .int .i64 1]) w)
   (Br (decide (room0 > 16777216))
     (K (.tuple #[.pointer none, .int .i64 1]) w)
     (New (.map #[] 0) (fun b_t11 w_1 =>
      New (.cells #[.int .i64 room0, .int .i64 0, .map ((some b_t11)), .int .i64 ((-1)), .int .i64 ((-1)), .bool false] 53 (0, 0)) (fun b_t13 w_2 =>
      K (.tuple #[.pointer ((some ⟨b_t13, 0, none⟩)), .int .i64 0]) w_2) w_1) w))

def sk10 : Sk := .leaf
theorem ok10 : fnOk Try.prog Try.f10.ntmps Try.f10 sk10 = true := by kernel_rfl
theorem eq10 (room0 : Int) (K : Value → World → Prop) (w : World) : fnF Try.prog cl Try.f10 sk10 [.int .i64 room0] K w = B10 room0 K w := by kernel_rfl
theorem call10 (room0 : Int) (K : Value → World → Prop) (w : World) (h : B10 room0 K w) : Gets Try.prog 10 #[.int .i64 room0] w K :=
  calls_of (sk := sk10) cl_ok mixed Try.func10 ok10 (args := [.int .i64 room0]) (Nat.le_of_ble_eq_true (by kernel_rfl)) (by rw [eq10]; exact h)

/-- jetway/jetwayref04.New. -/
def B11 (room0 : Int) (K : Value → World → Prop) (w : World) : Prop :=
  Br (decide (room0 < 1))
   (K (.tuple #[.pointer none, .int .i64 1]) w)
   (Br (decide (room0 > 16777216))
     (K (.tuple #[.pointer none, .int .i64 1]) w)
     (New (.cells #[.int .i64 room0, .slice none 0 0, .int .i64 ((-1)), .int .i64 ((-1)), .bool false] 56 (0, 0)) (fun b_t12 w_1 =>
      K (.tuple #[.pointer ((some ⟨b_t12, 0, none⟩)), .int .i64 0]) w_1) w))

def sk11 : Sk := .leaf
theorem ok11 : fnOk Try.prog Try.f11.ntmps Try.f11 sk11 = true := by kernel_rfl
theorem eq11 (room0 : Int) (K : Value → World → Prop) (w : World) : fnF Try.prog cl Try.f11 sk11 [.int .i64 room0] K w = B11 room0 K w := by kernel_rfl
theorem call11 (room0 : Int) (K : Value → World → Prop) (w : World) (h : B11 room0 K w) : Gets Try.prog 11 #[.int .i64 room0] w K :=
  calls_of (sk := sk11) cl_ok mixed Try.func11 ok11 (args := [.int .i64 room0]) (Nat.le_of_ble_eq_true (by kernel_rfl)) (by rw [eq11]; exact h)

/-- (*jetway/disk.Disk).Append. -/
def B12 (d0 : Option Addr) (name1 : ByteArray) (b2 : Sl) (K : Value → World → Prop) (w : World) : Prop :=
  New (.cells #[.pointer d0] 22 (0, 0)) (fun b_d3 w_1 =>
  New (.cells #[.string name1] 9 (0, 0)) (fun b_name4 w_2 =>
  New (.cells #[.slice b2.a b2.len b2.cap] 31 (0, 0)) (fun b_b5 w_3 =>
  ∃ t7 : Option Addr, (At (fun w' => w' = w_3) ⟨b_d3, 0, none⟩ [.pointer t7]) ∧
  ∃ t9 : ByteArray, (At (fun w' => w' = w_3) ⟨b_name4, 0, none⟩ [.string t9]) ∧
  New (.cells #[.string t9] 9 (0, 0)) (fun b_t10 w_4 =>
  Calls Try.prog 24 #[.pointer t7, .func (.func 25) #[] #[.pointer ((some ⟨b_d3, 0, none⟩)), .pointer ((some ⟨b_b5, 0, none⟩)), .pointer ((some ⟨b_name4, 0, none⟩))], .slice ((some ⟨b_t10, 0, none⟩)) 1 1] w_4 fun e w_5 =>
  ∃ t11 : Int, (e = .returned (.int .i64 t11)) ∧
  K (.int .i64 t11) w_5) w_3) w_2) w_1) w

def sk12 : Sk := .leaf
theorem ok12 : fnOk Try.prog Try.f12.ntmps Try.f12 sk12 = true := by kernel_rfl
theorem eq12 (d0 : Option Addr) (name1 : ByteArray) (b2 : Sl) (K : Value → World → Prop) (w : World) : fnF Try.prog cl Try.f12 sk12 [.pointer d0, .string name1, .slice b2.a b2.len b2.cap] K w = B12 d0 name1 b2 K w := by kernel_rfl
theorem call12 (d0 : Option Addr) (name1 : ByteArray) (b2 : Sl) (K : Value → World → Prop) (w : World) (h : B12 d0 name1 b2 K w) : Gets Try.prog 12 #[.pointer d0, .string name1, .slice b2.a b2.len b2.cap] w K :=
  calls_of (sk := sk12) cl_ok mixed Try.func12 ok12 (args := [.pointer d0, .string name1, .slice b2.a b2.len b2.cap]) (Nat.le_of_ble_eq_true (by kernel_rfl)) (by rw [eq12]; exact h)

/-- (*jetway/disk.Disk).Fail. -/
def B13 (d0 : Option Addr) (n1 : Int) (K : Value → World → Prop) (w : World) : Prop :=
  NilP d0 fun a_t6 =>
  Calls Try.prog 26 #[.pointer ((some ⟨a_t6.block, a_t6.off + 3, none⟩)), .int .i64 n1] w fun e w_1 =>
  ∃ t9 : Int, (e = .returned (.int .i64 t9)) ∧
  K (.int .i64 t9) w_1

def sk13 : Sk := .leaf
theorem ok13 : fnOk Try.prog Try.f13.ntmps Try.f13 sk13 = true := by kernel_rfl
theorem eq13 (d0 : Option Addr) (n1 : Int) (K : Value → World → Prop) (w : World) : fnF Try.prog cl Try.f13 sk13 [.pointer d0, .int .i64 n1] K w = B13 d0 n1 K w := by kernel_rfl
theorem call13 (d0 : Option Addr) (n1 : Int) (K : Value → World → Prop) (w : World) (h : B13 d0 n1 K w) : Gets Try.prog 13 #[.pointer d0, .int .i64 n1] w K :=
  calls_of (sk := sk13) cl_ok mixed Try.func13 ok13 (args := [.pointer d0, .int .i64 n1]) (Nat.le_of_ble_eq_true (by kernel_rfl)) (by rw [eq13]; exact h)

/-- (*jetway/disk.Disk).Size. -/
def B14 (d0 : Option Addr) (K : Value → World → Prop) (w : World) : Prop :=
  NilP d0 fun a_t4 =>
  ∃ t6 : Int, (At (fun w' => w' = w) ⟨a_t4.block, a_t4.off + 1, none⟩ [.int .i64 t6]) ∧
  K (.int .i64 t6) w

def sk14 : Sk := .leaf
theorem ok14 : fnOk Try.prog Try.f14.ntmps Try.f14 sk14 = true := by kernel_rfl
theorem eq14 (d0 : Option Addr) (K : Value → World → Prop) (w : World) : fnF Try.prog cl Try.f14 sk14 [.pointer d0] K w = B14 d0 K w := by kernel_rfl
theorem call14 (d0 : Option Addr) (K : Value → World → Prop) (w : World) (h : B14 d0 K w) : Gets Try.prog 14 #[.pointer d0] w K :=
  calls_of (sk := sk14) cl_ok mixed Try.func14 ok14 (args := [.pointer d0]) (Nat.le_of_ble_eq_true (by kernel_rfl)) (by rw [eq14]; exact h)

/-- (*jetway/disk.Disk).Sync. -/
def B15 (d0 : Option Addr) (name1 : ByteArray) (K : Value → World → Prop) (w : World) : Prop :=
  Calls Try.prog 27 #[.pointer d0, .string name1, .func (.func 28) #[] #[]] w fun e w_1 =>
  ∃ t8 : Value, (e = .returned (t8)) ∧
  New (.cells #[.string name1] 9 (0, 0)) (fun b_t10 w_2 =>
  Calls Try.prog 24 #[.pointer d0, t8, .slice ((some ⟨b_t10, 0, none⟩)) 1 1] w_2 fun e_1 w_3 =>
  ∃ t11 : Int, (e_1 = .returned (.int .i64 t11)) ∧
  K (.int .i64 t11) w_3) w_1

def sk15 : Sk := .leaf
theorem ok15 : fnOk Try.prog Try.f15.ntmps Try.f15 sk15 = true := by kernel_rfl
theorem eq15 (d0 : Option Addr) (name1 : ByteArray) (K : Value → World → Prop) (w : World) : fnF Try.prog cl Try.f15 sk15 [.pointer d0, .string name1] K w = B15 d0 name1 K w := by kernel_rfl
theorem call15 (d0 : Option Addr) (name1 : ByteArray) (K : Value → World → Prop) (w : World) (h : B15 d0 name1 K w) : Gets Try.prog 15 #[.pointer d0, .string name1] w K :=
  calls_of (sk := sk15) cl_ok mixed Try.func15 ok15 (args := [.pointer d0, .string name1]) (Nat.le_of_ble_eq_true (by kernel_rfl)) (by rw [eq15]; exact h)

/-- (*jetway/disk.Disk).Arm. -/
def B16 (d0 : Option Addr) (n1 : Int) (K : Value → World → Prop) (w : World) : Prop :=
  NilP d0 fun a_t6 =>
  Calls Try.prog 26 #[.pointer ((some ⟨a_t6.block, a_t6.off + 4, none⟩)), .int .i64 n1] w fun e w_1 =>
  ∃ t9 : Int, (e = .returned (.int .i64 t9)) ∧
  K (.int .i64 t9) w_1

def sk16 : Sk := .leaf
theorem ok16 : fnOk Try.prog Try.f16.ntmps Try.f16 sk16 = true := by kernel_rfl
theorem eq16 (d0 : Option Addr) (n1 : Int) (K : Value → World → Prop) (w : World) : fnF Try.prog cl Try.f16 sk16 [.pointer d0, .int .i64 n1] K w = B16 d0 n1 K w := by kernel_rfl
theorem call16 (d0 : Option Addr) (n1 : Int) (K : Value → World → Prop) (w : World) (h : B16 d0 n1 K w) : Gets Try.prog 16 #[.pointer d0, .int .i64 n1] w K :=
  calls_of (sk := sk16) cl_ok mixed Try.func16 ok16 (args := [.pointer d0, .int .i64 n1]) (Nat.le_of_ble_eq_true (by kernel_rfl)) (by rw [eq16]; exact h)

/-- (*jetway/disk.Disk).Off. -/
def B17 (d0 : Option Addr) (K : Value → World → Prop) (w : World) : Prop :=
  NilP d0 fun a_t4 =>
  ∃ t6 : Bool, (At (fun w' => w' = w) ⟨a_t4.block, a_t4.off + 5, none⟩ [.bool t6]) ∧
  K (.bool t6) w

def sk17 : Sk := .leaf
theorem ok17 : fnOk Try.prog Try.f17.ntmps Try.f17 sk17 = true := by kernel_rfl
theorem eq17 (d0 : Option Addr) (K : Value → World → Prop) (w : World) : fnF Try.prog cl Try.f17 sk17 [.pointer d0] K w = B17 d0 K w := by kernel_rfl
theorem call17 (d0 : Option Addr) (K : Value → World → Prop) (w : World) (h : B17 d0 K w) : Gets Try.prog 17 #[.pointer d0] w K :=
  calls_of (sk := sk17) cl_ok mixed Try.func17 ok17 (args := [.pointer d0]) (Nat.le_of_ble_eq_true (by kernel_rfl)) (by rw [eq17]; exact h)

/-- (*jetway/disk.Disk).Read. -/
def B18 (d0 : Option Addr) (name1 : ByteArray) (K : Value → World → Prop) (w : World) : Prop :=
  NilP d0 fun a_t10 =>
  ∃ t12 : Bool, (At (fun w' => w' = w) ⟨a_t10.block, a_t10.off + 5, none⟩ [.bool t12]) ∧
  Br t12
   (K (.tuple #[.slice none 0 0, .int .i64 5]) w)
   (New (.cells #[.string name1] 9 (0, 0)) (fun b_t15 w_1 =>
    Calls Try.prog 29 #[.slice ((some ⟨b_t15, 0, none⟩)) 1 1] w_1 fun e w_2 =>
    ∃ t16 : Bool, (e = .returned (.bool t16)) ∧
    Br (!t16)
     (K (.tuple #[.slice none 0 0, .int .i64 1]) w_2)
     (NilP d0 fun a_t20 =>
      ∃ t22 : Option Nat, (At (fun w' => w' = w_2) ⟨a_t20.block, a_t20.off + 2, none⟩ [.map t22]) ∧
      ∃ t24 : Option Addr, ∃ t24_1 : Bool, (∀ w', (fun w' => w' = w_2) w' → ((Instr.lookup 51 (.map t22) (.string name1) true)).run Try.prog w' = .ok (.tuple #[.pointer t24, .bool t24_1]) w') ∧
      Br (!t24_1)
       (K (.tuple #[.slice none 0 0, .int .i64 2]) w_2)
       (NilP t24 fun a_t30 =>
        ∃ t32 : Sl, (At (fun w' => w' = w_2) (Addr.add a_t30 0) [.slice t32.a t32.len t32.cap]) ∧
        Calls Try.prog 30 #[.slice t32.a t32.len t32.cap] w_2 fun e_1 w_3 =>
        ∃ t33 : Sl, (e_1 = .returned (.slice t33.a t33.len t33.cap)) ∧
        K (.tuple #[.slice t33.a t33.len t33.cap, .int .i64 0]) w_3))) w)

def sk18 : Sk := .leaf
theorem ok18 : fnOk Try.prog Try.f18.ntmps Try.f18 sk18 = true := by kernel_rfl
theorem eq18 (d0 : Option Addr) (name1 : ByteArray) (K : Value → World → Prop) (w : World) : fnF Try.prog cl Try.f18 sk18 [.pointer d0, .string name1] K w = B18 d0 name1 K w := by kernel_rfl
theorem call18 (d0 : Option Addr) (name1 : ByteArray) (K : Value → World → Prop) (w : World) (h : B18 d0 name1 K w) : Gets Try.prog 18 #[.pointer d0, .string name1] w K :=
  calls_of (sk := sk18) cl_ok mixed Try.func18 ok18 (args := [.pointer d0, .string name1]) (Nat.le_of_ble_eq_true (by kernel_rfl)) (by rw [eq18]; exact h)

/-- (*jetway/disk.Disk).Crash. -/
def B19 (d0 : Option Addr) (keep1 : Sl) (K : Value → World → Prop) (w : World) : Prop :=
  Calls Try.prog 22 #[.pointer d0] w fun e w_1 =>
  ∃ t9 : Sl, (e = .returned (.slice t9.a t9.len t9.cap)) ∧
  ∃ (I : Int → World → Prop) (μ : Int → World → Nat), (I 0 w_1) ∧ ∀ (z : Env) (t11 : Int) (w_2 : World), I t11 w_2 →
  Br (decide (t11 < (↑t9.len : Int)))
   (Rng t11 t9.len (NilP t9.a fun a_t14 =>
    ∃ t15 : ByteArray, (At (fun w' => w' = w_2) (Addr.add a_t14 t11.toNat) [.string t15]) ∧
    NilP d0 fun a_t17 =>
    ∃ t19 : Option Nat, (At (fun w' => w' = w_2) ⟨a_t17.block, a_t17.off + 2, none⟩ [.map t19]) ∧
    ∃ t21 : Option Addr, (∀ w', (fun w' => w' = w_2) w' → ((Instr.lookup 51 (.map t19) (.string t15) false)).run Try.prog w' = .ok (.pointer t21) w') ∧
    ∃ (J : Int → World → Prop), (Br (decide (t11 < (↑keep1.len : Int)))
       (Drw w_2 fun S w_3 =>
        Rng t11 keep1.len (NilP keep1.a fun a_t28 =>
        ∃ t29 : Int, (At S (Addr.add a_t28 t11.toNat) [.int .i64 t29]) ∧
        NilP t21 fun a_t32 =>
        ∃ t34 : Sl, (At S (Addr.add a_t32 0) [.slice t34.a t34.len t34.cap]) ∧
        NilP t21 fun a_t37 =>
        ∃ t39 : Int, (At S ⟨a_t37.block, a_t37.off + 1, none⟩ [.int .i64 t39]) ∧
        J (if IntKind.i64.wrap ((↑t34.len : Int) - t39) < if 0 > t29 then 0 else t29 then IntKind.i64.wrap ((↑t34.len : Int) - t39) else if 0 > t29 then 0 else t29) w_3))
       (J 0 w_2)) ∧
    ∀ (z_1 : Env) (n7 : Int) (w_4 : World), J n7 w_4 →
    Drw w_4 fun S_1 w_5 =>
    NilP d0 fun a_t43 =>
    ∃ t45 : Int, (At S_1 ⟨a_t43.block, a_t43.off + 1, none⟩ [.int .i64 t45]) ∧
    NilP t21 fun a_t47 =>
    ∃ t49 : Sl, (At S_1 (Addr.add a_t47 0) [.slice t49.a t49.len t49.cap]) ∧
    NilP t21 fun a_t52 =>
    ∃ t54 : Int, (At S_1 ⟨a_t52.block, a_t52.off + 1, none⟩ [.int .i64 t54]) ∧
    NilP d0 fun a_t59 =>
    ∃ w_6 : World, ((Instr.storeAt 3 (.pointer ((some ⟨a_t59.block, a_t59.off + 1, none⟩))) (.int .i64 (IntKind.i64.wrap (t45 - IntKind.i64.wrap (IntKind.i64.wrap ((↑t49.len : Int) - t54) - n7))))).run Try.prog w_5 = .ok () w_6) ∧
    Drw w_6 fun S_2 w_7 =>
    NilP t21 fun a_t63 =>
    ∃ t65 : Sl, (At S_2 (Addr.add a_t63 0) [.slice t65.a t65.len t65.cap]) ∧
    NilP t21 fun a_t67 =>
    ∃ t69 : Int, (At S_2 ⟨a_t67.block, a_t67.off + 1, none⟩ [.int .i64 t69]) ∧
    ((0 : Int) ≤ IntKind.i64.wrap (t69 + n7)) ∧
    ((IntKind.i64.wrap (t69 + n7) : Int) ≤ (↑t65.cap : Int)) ∧
    NilP t21 fun a_t73 =>
    ∃ w_8 : World, ((Instr.storeAt 31 (.pointer ((some (Addr.add a_t73 0)))) (.slice t65.a ((IntKind.i64.wrap (t69 + n7)).toNat) t65.cap)).run Try.prog w_7 = .ok () w_8) ∧
    NilP t21 fun a_t77 =>
    ∃ t79 : Sl, (At (fun w' => w' = w_8) (Addr.add a_t77 0) [.slice t79.a t79.len t79.cap]) ∧
    NilP t21 fun a_t81 =>
    ∃ w_9 : World, ((Instr.storeAt 3 (.pointer ((some ⟨a_t81.block, a_t81.off + 1, none⟩))) (.int .i64 ((↑t79.len : Int)))).run Try.prog w_8 = .ok () w_9) ∧
    (I (IntKind.i64.wrap (t11 + 1)) w_9) ∧ μ (IntKind.i64.wrap (t11 + 1)) w_9 < μ t11 w_2))
   (NilP d0 fun a_t87 =>
    ∃ w_10 : World, ((Instr.storeAt 4 (.pointer ((some ⟨a_t87.block, a_t87.off + 5, none⟩))) (.bool false)).run Try.prog w_2 = .ok () w_10) ∧
    NilP d0 fun a_t89 =>
    ∃ w_11 : World, ((Instr.storeAt 3 (.pointer ((some ⟨a_t89.block, a_t89.off + 3, none⟩))) (.int .i64 ((-1)))).run Try.prog w_10 = .ok () w_11) ∧
    NilP d0 fun a_t91 =>
    ∃ w_12 : World, ((Instr.storeAt 3 (.pointer ((some ⟨a_t91.block, a_t91.off + 4, none⟩))) (.int .i64 ((-1)))).run Try.prog w_11 = .ok () w_12) ∧
    K (.tuple #[]) w_12)

def sk19 : Sk := (.seq (.seq .leaf (.block (.loop [11] [(.int .i64)] [4, 5, 6, 7, 11, 12, 13, 14, 15, 16, 17, 18, 19, 20, 21, 22, 23, 24, 25, 26, 27, 28, 29, 30, 31, 32, 33, 34, 35, 36, 37, 38, 39, 40, 41, 42, 43, 44, 45, 46, 47, 48, 49, 50, 51, 52, 53, 54, 55, 56, 57, 58, 59, 60, 61, 62, 63, 64, 65, 66, 67, 68, 69, 70, 71, 72, 73, 74, 75, 76, 77, 78, 79, 80, 81, 82, 83] (.seq .leaf (.seq .leaf (.seq (.block (.seq .leaf (.seq .leaf (.cut [7] [(.int .i64)] [7, 22, 23, 24, 25, 26, 27, 28, 29, 30, 31, 32, 33, 34, 35, 36, 37, 38, 39, 40, 41] .leaf .leaf)))) .leaf)))))) .leaf)
theorem ok19 : fnOk Try.prog Try.f19.ntmps Try.f19 sk19 = true := by kernel_rfl
theorem eq19 (d0 : Option Addr) (keep1 : Sl) (K : Value → World → Prop) (w : World) : fnF Try.prog cl Try.f19 sk19 [.pointer d0, .slice keep1.a keep1.len keep1.cap] K w = B19 d0 keep1 K w := by kernel_rfl
theorem call19 (d0 : Option Addr) (keep1 : Sl) (K : Value → World → Prop) (w : World) (h : B19 d0 keep1 K w) : Gets Try.prog 19 #[.pointer d0, .slice keep1.a keep1.len keep1.cap] w K :=
  calls_of (sk := sk19) cl_ok mixed Try.func19 ok19 (args := [.pointer d0, .slice keep1.a keep1.len keep1.cap]) (Nat.le_of_ble_eq_true (by kernel_rfl)) (by rw [eq19]; exact h)

/-- (*jetway/disk.Disk).change. -/
def B24 (d0 : Option Addr) (make1 : Value) (names2 : Sl) (K : Value → World → Prop) (w : World) : Prop :=
  Calls Try.prog 29 #[.slice names2.a names2.len names2.cap] w fun e w_1 =>
  ∃ t9 : Bool, (e = .returned (.bool t9)) ∧
  Br (!t9)
   (K (.int .i64 1) w_1)
   (NilP d0 fun a_t13 =>
    ∃ t15 : Bool, (At (fun w' => w' = w_1) ⟨a_t13.block, a_t13.off + 5, none⟩ [.bool t15]) ∧
    Br t15
     (K (.int .i64 5) w_1)
     (NilP d0 fun a_t18 =>
      Calls Try.prog 45 #[.pointer ((some ⟨a_t18.block, a_t18.off + 4, none⟩))] w_1 fun e_1 w_2 =>
      ∃ t20 : Bool, (e_1 = .returned (.bool t20)) ∧
      Br t20
       (NilP d0 fun a_t22 =>
        ∃ w_3 : World, ((Instr.storeAt 4 (.pointer ((some ⟨a_t22.block, a_t22.off + 5, none⟩))) (.bool true)).run Try.prog w_2 = .ok () w_3) ∧
        K (.int .i64 5) w_3)
       (NilP d0 fun a_t26 =>
        Calls Try.prog 45 #[.pointer ((some ⟨a_t26.block, a_t26.off + 3, none⟩))] w_2 fun e_2 w_4 =>
        ∃ t28 : Bool, (e_2 = .returned (.bool t28)) ∧
        Br t28
         (K (.int .i64 4) w_4)
         (CalW Try.prog cl make1 [] w_4 fun e_3 w_5 =>
          ∃ t30 : Int, (e_3 = .returned (.int .i64 t30)) ∧
          K (.int .i64 t30) w_5))))

def sk24 : Sk := .leaf
theorem ok24 : fnOk Try.prog Try.f24.ntmps Try.f24 sk24 = true := by kernel_rfl
theorem eq24 (d0 : Option Addr) (make1 : Value) (names2 : Sl) (K : Value → World → Prop) (w : World) : fnF Try.prog cl Try.f24 sk24 [.pointer d0, make1, .slice names2.a names2.len names2.cap] K w = B24 d0 make1 names2 K w := by kernel_rfl
theorem call24 (d0 : Option Addr) (make1 : Value) (names2 : Sl) (K : Value → World → Prop) (w : World) (h : B24 d0 make1 names2 K w) : Gets Try.prog 24 #[.pointer d0, make1, .slice names2.a names2.len names2.cap] w K :=
  calls_of (sk := sk24) cl_ok mixed Try.func24 ok24 (args := [.pointer d0, make1, .slice names2.a names2.len names2.cap]) (Nat.le_of_ble_eq_true (by kernel_rfl)) (by rw [eq24]; exact h)

/-- (*jetway/disk.Disk).Append$1. -/
def B25 (c0 : Option Addr) (c1 : Option Addr) (c2 : Option Addr) (K : Value → World → Prop) (w : World) : Prop :=
  Drw w fun S w_1 =>
  NilP c0 fun a_t6 =>
  ∃ t6 : Option Addr, (At S a_t6 [.pointer t6]) ∧
  NilP t6 fun a_t7 =>
  ∃ t9 : Int, (At S ⟨a_t7.block, a_t7.off + 1, none⟩ [.int .i64 t9]) ∧
  NilP c1 fun a_t10 =>
  ∃ t10 : Sl, (At S a_t10 [.slice t10.a t10.len t10.cap]) ∧
  NilP c0 fun a_t13 =>
  ∃ t13 : Option Addr, (At S a_t13 [.pointer t13]) ∧
  NilP t13 fun a_t14 =>
  ∃ t16 : Int, (At S (Addr.add a_t14 0) [.int .i64 t16]) ∧
  Br (decide (IntKind.i64.wrap (t9 + (↑t10.len : Int)) > t16))
   (K (.int .i64 3) w_1)
   (Drw w_1 fun S_1 w_2 =>
    NilP c0 fun a_t19 =>
    ∃ t19 : Option Addr, (At S_1 a_t19 [.pointer t19]) ∧
    NilP t19 fun a_t20 =>
    ∃ t22 : Option Nat, (At S_1 ⟨a_t20.block, a_t20.off + 2, none⟩ [.map t22]) ∧
    NilP c2 fun a_t23 =>
    ∃ t23 : ByteArray, (At S_1 a_t23 [.string t23]) ∧
    ∃ t24 : Option Addr, ∃ t24_1 : Bool, (∀ w', S_1 w' → ((Instr.lookup 51 (.map t22) (.string t23) true)).run Try.prog w' = .ok (.tuple #[.pointer t24, .bool t24_1]) w') ∧
    ∃ (J : Option Addr → World → Prop), (Br (!t24_1)
       (New (.cells #[.slice none 0 0, .int .i64 0] 61 (0, 0)) (fun b_t30 w_3 =>
        Drw w_3 fun S_2 w_4 =>
        NilP c0 fun a_t31 =>
        ∃ t31 : Option Addr, (At S_2 a_t31 [.pointer t31]) ∧
        NilP t31 fun a_t32 =>
        ∃ t34 : Option Nat, (At S_2 ⟨a_t32.block, a_t32.off + 2, none⟩ [.map t34]) ∧
        NilP c2 fun a_t35 =>
        ∃ t35 : ByteArray, (At S_2 a_t35 [.string t35]) ∧
        ∃ w_5 : World, ((Instr.mapUpdate 51 (.map t34) (.string t35) (.pointer ((some ⟨b_t30, 0, none⟩)))).run Try.prog w_4 = .ok () w_5) ∧
        J ((some ⟨b_t30, 0, none⟩)) w_5) w_2)
       (J t24 w_2)) ∧
    ∀ (z : Env) (f4 : Option Addr) (w_6 : World), J f4 w_6 →
    Drw w_6 fun S_3 w_7 =>
    NilP f4 fun a_t39 =>
    ∃ t41 : Sl, (At S_3 (Addr.add a_t39 0) [.slice t41.a t41.len t41.cap]) ∧
    NilP c1 fun a_t42 =>
    ∃ t42 : Sl, (At S_3 a_t42 [.slice t42.a t42.len t42.cap]) ∧
    ∃ w_8 : World, ∃ t43 : Sl, ((Builtin.append_ #[31, 31] 31 #[.slice t41.a t41.len t41.cap, .slice t42.a t42.len t42.cap]).run Try.prog w_7 = .ok (.slice t43.a t43.len t43.cap) w_8) ∧
    NilP f4 fun a_t44 =>
    ∃ w_9 : World, ((Instr.storeAt 31 (.pointer ((some (Addr.add a_t44 0)))) (.slice t43.a t43.len t43.cap)).run Try.prog w_8 = .ok () w_9) ∧
    Drw w_9 fun S_4 w_10 =>
    NilP c0 fun a_t46 =>
    ∃ t46 : Option Addr, (At S_4 a_t46 [.pointer t46]) ∧
    NilP t46 fun a_t47 =>
    ∃ t49 : Int, (At S_4 ⟨a_t47.block, a_t47.off + 1, none⟩ [.int .i64 t49]) ∧
    NilP c1 fun a_t50 =>
    ∃ t50 : Sl, (At S_4 a_t50 [.slice t50.a t50.len t50.cap]) ∧
    NilP t46 fun a_t53 =>
    ∃ w_11 : World, ((Instr.storeAt 3 (.pointer ((some ⟨a_t53.block, a_t53.off + 1, none⟩))) (.int .i64 (IntKind.i64.wrap (t49 + (↑t50.len : Int))))).run Try.prog w_10 = .ok () w_11) ∧
    K (.int .i64 0) w_11)

def sk25 : Sk := (.seq .leaf (.seq .leaf (.seq .leaf (.cut [4] [.ptr] [4, 27, 28, 29, 30, 31, 32, 33, 34, 35, 36] .leaf .leaf))))
theorem ok25 : fnOk Try.prog Try.f25.ntmps Try.f25 sk25 = true := by kernel_rfl
theorem eq25 (c0 : Option Addr) (c1 : Option Addr) (c2 : Option Addr) (K : Value → World → Prop) (w : World) : fnF Try.prog cl Try.f25 sk25 [.pointer c0, .pointer c1, .pointer c2] K w = B25 c0 c1 c2 K w := by kernel_rfl
theorem call25 (c0 : Option Addr) (c1 : Option Addr) (c2 : Option Addr) (K : Value → World → Prop) (w : World) (h : B25 c0 c1 c2 K w) : Gets Try.prog 25 #[.pointer c0, .pointer c1, .pointer c2] w K :=
  calls_of (sk := sk25) cl_ok mixed Try.func25 ok25 (args := [.pointer c0, .pointer c1, .pointer c2]) (Nat.le_of_ble_eq_true (by kernel_rfl)) (by rw [eq25]; exact h)

/-- jetway/disk.later. -/
def B26 (p0 : Option Addr) (n1 : Int) (K : Value → World → Prop) (w : World) : Prop :=
  Br (decide (n1 < 0))
   (K (.int .i64 1) w)
   (NilP p0 fun a_t9 =>
    ∃ w_1 : World, ((Instr.storeAt 3 (.pointer ((some (a_t9)))) (.int .i64 n1)).run Try.prog w = .ok () w_1) ∧
    K (.int .i64 0) w_1)

def sk26 : Sk := .leaf
theorem ok26 : fnOk Try.prog Try.f26.ntmps Try.f26 sk26 = true := by kernel_rfl
theorem eq26 (p0 : Option Addr) (n1 : Int) (K : Value → World → Prop) (w : World) : fnF Try.prog cl Try.f26 sk26 [.pointer p0, .int .i64 n1] K w = B26 p0 n1 K w := by kernel_rfl
theorem call26 (p0 : Option Addr) (n1 : Int) (K : Value → World → Prop) (w : World) (h : B26 p0 n1 K w) : Gets Try.prog 26 #[.pointer p0, .int .i64 n1] w K :=
  calls_of (sk := sk26) cl_ok mixed Try.func26 ok26 (args := [.pointer p0, .int .i64 n1]) (Nat.le_of_ble_eq_true (by kernel_rfl)) (by rw [eq26]; exact h)

/-- (*jetway/disk.Disk).with. -/
def B27 (d0 : Option Addr) (name1 : ByteArray) (make2 : Value) (K : Value → World → Prop) (w : World) : Prop :=
  New (.cells #[.pointer d0] 22 (0, 0)) (fun b_d3 w_1 =>
  New (.cells #[.string name1] 9 (0, 0)) (fun b_name4 w_2 =>
  New (.cells (Value.cells make2) 66 (0, 0)) (fun b_make5 w_3 =>
  K (.func (.func 46) #[] #[.pointer ((some ⟨b_d3, 0, none⟩)), .pointer ((some ⟨b_name4, 0, none⟩)), .pointer ((some ⟨b_make5, 0, none⟩))]) w_3) w_2) w_1) w

def sk27 : Sk := .leaf
theorem ok27 : fnOk Try.prog Try.f27.ntmps Try.f27 sk27 = true := by kernel_rfl
theorem eq27 (d0 : Option Addr) (name1 : ByteArray) (make2 : Value) (K : Value → World → Prop) (w : World) : fnF Try.prog cl Try.f27 sk27 [.pointer d0, .string name1, make2] K w = B27 d0 name1 make2 K w := by kernel_rfl
theorem call27 (d0 : Option Addr) (name1 : ByteArray) (make2 : Value) (K : Value → World → Prop) (w : World) (h : B27 d0 name1 make2 K w) : Gets Try.prog 27 #[.pointer d0, .string name1, make2] w K :=
  calls_of (sk := sk27) cl_ok mixed Try.func27 ok27 (args := [.pointer d0, .string name1, make2]) (Nat.le_of_ble_eq_true (by kernel_rfl)) (by rw [eq27]; exact h)

/-- (*jetway/disk.Disk).Sync$1. -/
def B28 (f0 : Option Addr) (K : Value → World → Prop) (w : World) : Prop :=
  NilP f0 fun a_t4 =>
  ∃ t6 : Sl, (At (fun w' => w' = w) (Addr.add a_t4 0) [.slice t6.a t6.len t6.cap]) ∧
  NilP f0 fun a_t8 =>
  ∃ w_1 : World, ((Instr.storeAt 3 (.pointer ((some ⟨a_t8.block, a_t8.off + 1, none⟩))) (.int .i64 ((↑t6.len : Int)))).run Try.prog w = .ok () w_1) ∧
  K (.tuple #[]) w_1

def sk28 : Sk := .leaf
theorem ok28 : fnOk Try.prog Try.f28.ntmps Try.f28 sk28 = true := by kernel_rfl
theorem eq28 (f0 : Option Addr) (K : Value → World → Prop) (w : World) : fnF Try.prog cl Try.f28 sk28 [.pointer f0] K w = B28 f0 K w := by kernel_rfl
theorem call28 (f0 : Option Addr) (K : Value → World → Prop) (w : World) (h : B28 f0 K w) : Gets Try.prog 28 #[.pointer f0] w K :=
  calls_of (sk := sk28) cl_ok mixed Try.func28 ok28 (args := [.pointer f0]) (Nat.le_of_ble_eq_true (by kernel_rfl)) (by rw [eq28]; exact h)

/-- jetway/disk.named. -/
def B29 (l0 : Sl) (K : Value → World → Prop) (w : World) : Prop :=
  ∃ (I : Int → World → Prop) (μ : Int → World → Nat), (I 0 w) ∧ ∀ (z : Env) (t9 : Int) (w_1 : World), I t9 w_1 →
  Br (decide (t9 < (↑l0.len : Int)))
   (Rng t9 l0.len (NilP l0.a fun a_t11 =>
    ∃ t12 : ByteArray, (At (fun w' => w' = w_1) (Addr.add a_t11 t9.toNat) [.string t12]) ∧
    ∃ (J : World → Prop), (Br (t12.toList == (ByteArray.mk #[]).toList)
       (K (.bool false) w_1)
       (Br (decide ((↑t12.size : Int) > 64))
         (K (.bool false) w_1)
         (J  w_1))) ∧
    ∀ (z_1 : Env)  (w_2 : World), J  w_2 →
    ∃ w_3 : World, ∃ t21 : Sl, ((convert 9 31 (.string t12)).run Try.prog w_2 = .ok (.slice t21.a t21.len t21.cap) w_3) ∧
    ∃ (I_1 : Int → World → Prop) (μ_1 : Int → World → Nat), (I_1 0 w_3) ∧ ∀ (z_2 : Env) (t23 : Int) (w_4 : World), I_1 t23 w_4 →
    Br (decide (t23 < (↑t21.len : Int)))
     (Rng t23 t21.len (NilP t21.a fun a_t25 =>
      ∃ t26 : Int, (At (fun w' => w' = w_4) (Addr.add a_t25 t23.toNat) [.int .u8 t26]) ∧
      Br (decide (t26 < 97))
       (Br (decide (t26 < 48))
         (Br (t26 != 46)
           (Br (t26 != 45)
             (K (.bool false) w_4)
             ((I_1 (IntKind.i64.wrap (t23 + 1)) w_4) ∧ μ_1 (IntKind.i64.wrap (t23 + 1)) w_4 < μ_1 t23 w_4))
           ((I_1 (IntKind.i64.wrap (t23 + 1)) w_4) ∧ μ_1 (IntKind.i64.wrap (t23 + 1)) w_4 < μ_1 t23 w_4))
         (Br (decide (t26 > 57))
           (Br (t26 != 46)
             (Br (t26 != 45)
               (K (.bool false) w_4)
               ((I_1 (IntKind.i64.wrap (t23 + 1)) w_4) ∧ μ_1 (IntKind.i64.wrap (t23 + 1)) w_4 < μ_1 t23 w_4))
             ((I_1 (IntKind.i64.wrap (t23 + 1)) w_4) ∧ μ_1 (IntKind.i64.wrap (t23 + 1)) w_4 < μ_1 t23 w_4))
           ((I_1 (IntKind.i64.wrap (t23 + 1)) w_4) ∧ μ_1 (IntKind.i64.wrap (t23 + 1)) w_4 < μ_1 t23 w_4)))
       (Br (decide (t26 > 122))
         (Br (decide (t26 < 48))
           (Br (t26 != 46)
             (Br (t26 != 45)
               (K (.bool false) w_4)
               ((I_1 (IntKind.i64.wrap (t23 + 1)) w_4) ∧ μ_1 (IntKind.i64.wrap (t23 + 1)) w_4 < μ_1 t23 w_4))
             ((I_1 (IntKind.i64.wrap (t23 + 1)) w_4) ∧ μ_1 (IntKind.i64.wrap (t23 + 1)) w_4 < μ_1 t23 w_4))
           (Br (decide (t26 > 57))
             (Br (t26 != 46)
               (Br (t26 != 45)
                 (K (.bool false) w_4)
                 ((I_1 (IntKind.i64.wrap (t23 + 1)) w_4) ∧ μ_1 (IntKind.i64.wrap (t23 + 1)) w_4 < μ_1 t23 w_4))
               ((I_1 (IntKind.i64.wrap (t23 + 1)) w_4) ∧ μ_1 (IntKind.i64.wrap (t23 + 1)) w_4 < μ_1 t23 w_4))
             ((I_1 (IntKind.i64.wrap (t23 + 1)) w_4) ∧ μ_1 (IntKind.i64.wrap (t23 + 1)) w_4 < μ_1 t23 w_4)))
         ((I_1 (IntKind.i64.wrap (t23 + 1)) w_4) ∧ μ_1 (IntKind.i64.wrap (t23 + 1)) w_4 < μ_1 t23 w_4))))
     ((I (IntKind.i64.wrap (t9 + 1)) w_4) ∧ μ (IntKind.i64.wrap (t9 + 1)) w_4 < μ t9 w_1)))
   (K (.bool true) w_1)

def sk29 : Sk := (.seq .leaf (.seq (.seq .leaf (.block (.loop [9] [(.int .i64)] [2, 4, 6, 9, 10, 11, 12, 13, 14, 15, 16, 17, 18, 19, 20, 21, 22, 23, 24, 25, 26, 27, 28, 29, 30, 31, 32, 33, 34, 35, 36, 37, 38, 39, 40, 41, 42, 43, 44, 45, 46, 47, 48, 49, 50] (.seq .leaf (.seq .leaf (.seq (.block (.seq .leaf (.cut [] [] [2, 13, 14, 15, 16, 17, 18, 19] .leaf (.seq .leaf (.block (.loop [23] [(.int .i64)] [2, 6, 23, 24, 25, 26, 27, 28, 29, 30, 31, 32, 33, 34, 35, 36, 37, 38, 39, 40, 41, 42, 43, 44, 45, 46, 47, 48, 49] .leaf)))))) .leaf)))))) .leaf))
theorem ok29 : fnOk Try.prog Try.f29.ntmps Try.f29 sk29 = true := by kernel_rfl
theorem eq29 (l0 : Sl) (K : Value → World → Prop) (w : World) : fnF Try.prog cl Try.f29 sk29 [.slice l0.a l0.len l0.cap] K w = B29 l0 K w := by kernel_rfl
theorem call29 (l0 : Sl) (K : Value → World → Prop) (w : World) (h : B29 l0 K w) : Gets Try.prog 29 #[.slice l0.a l0.len l0.cap] w K :=
  calls_of (sk := sk29) cl_ok mixed Try.func29 ok29 (args := [.slice l0.a l0.len l0.cap]) (Nat.le_of_ble_eq_true (by kernel_rfl)) (by rw [eq29]; exact h)

/-- slices.Clone[[]byte,byte]. -/
def B30 (s0 : Sl) (K : Value → World → Prop) (w : World) : Prop :=
  Br s0.a.isNone
   (K (.slice none 0 0) w)
   (New (.cells #[] 5 (0, 0)) (fun b_t5 w_1 =>
    ∃ w_2 : World, ∃ t7 : Sl, ((Builtin.append_ #[31, 31] 31 #[.slice ((some ⟨b_t5, 0, none⟩)) 0 0, .slice s0.a s0.len s0.cap]).run Try.prog w_1 = .ok (.slice t7.a t7.len t7.cap) w_2) ∧
    K (.slice t7.a t7.len t7.cap) w_2) w)

def sk30 : Sk := .leaf
theorem ok30 : fnOk Try.prog Try.f30.ntmps Try.f30 sk30 = true := by kernel_rfl
theorem eq30 (s0 : Sl) (K : Value → World → Prop) (w : World) : fnF Try.prog cl Try.f30 sk30 [.slice s0.a s0.len s0.cap] K w = B30 s0 K w := by kernel_rfl
theorem call30 (s0 : Sl) (K : Value → World → Prop) (w : World) (h : B30 s0 K w) : Gets Try.prog 30 #[.slice s0.a s0.len s0.cap] w K :=
  calls_of (sk := sk30) cl_ok mixed Try.func30 ok30 (args := [.slice s0.a s0.len s0.cap]) (Nat.le_of_ble_eq_true (by kernel_rfl)) (by rw [eq30]; exact h)

/-- jetway/disk.met. -/
def B45 (n0 : Option Addr) (K : Value → World → Prop) (w : World) : Prop :=
  NilP n0 fun a_t4 =>
  ∃ t5 : Int, (At (fun w' => w' = w) a_t4 [.int .i64 t5]) ∧
  Br (t5 == -1)
   (K (.bool false) w)
   (NilP n0 fun a_t8 =>
    ∃ t9 : Int, (At (fun w' => w' = w) a_t8 [.int .i64 t9]) ∧
    NilP n0 fun a_t11 =>
    ∃ w_1 : World, ((Instr.storeAt 3 (.pointer ((some (a_t11)))) (.int .i64 (IntKind.i64.wrap (t9 - 1)))).run Try.prog w = .ok () w_1) ∧
    NilP n0 fun a_t13 =>
    ∃ t14 : Int, (At (fun w' => w' = w_1) a_t13 [.int .i64 t14]) ∧
    K (.bool (t14 == -1)) w_1)

def sk45 : Sk := .leaf
theorem ok45 : fnOk Try.prog Try.f45.ntmps Try.f45 sk45 = true := by kernel_rfl
theorem eq45 (n0 : Option Addr) (K : Value → World → Prop) (w : World) : fnF Try.prog cl Try.f45 sk45 [.pointer n0] K w = B45 n0 K w := by kernel_rfl
theorem call45 (n0 : Option Addr) (K : Value → World → Prop) (w : World) (h : B45 n0 K w) : Gets Try.prog 45 #[.pointer n0] w K :=
  calls_of (sk := sk45) cl_ok mixed Try.func45 ok45 (args := [.pointer n0]) (Nat.le_of_ble_eq_true (by kernel_rfl)) (by rw [eq45]; exact h)

/-- (*jetway/disk.Disk).with$1. -/
def B46 (c0 : Option Addr) (c1 : Option Addr) (c2 : Option Addr) (K : Value → World → Prop) (w : World) : Prop :=
  Drw w fun S w_1 =>
  NilP c0 fun a_t7 =>
  ∃ t7 : Option Addr, (At S a_t7 [.pointer t7]) ∧
  NilP t7 fun a_t8 =>
  ∃ t10 : Option Nat, (At S ⟨a_t8.block, a_t8.off + 2, none⟩ [.map t10]) ∧
  NilP c1 fun a_t11 =>
  ∃ t11 : ByteArray, (At S a_t11 [.string t11]) ∧
  ∃ t12 : Option Addr, ∃ t12_1 : Bool, (∀ w', S w' → ((Instr.lookup 51 (.map t10) (.string t11) true)).run Try.prog w' = .ok (.tuple #[.pointer t12, .bool t12_1]) w') ∧
  Br (!t12_1)
   (K (.int .i64 2) w_1)
   (NilP c2 fun a_t17 =>
    ∃ t17 : Value, (At (fun w' => w' = w_1) a_t17 [t17]) ∧
    CalW Try.prog cl t17 [.pointer t12] w_1 fun e w_2 =>
    (e = .returned (.tuple #[])) ∧
    K (.int .i64 0) w_2)

def sk46 : Sk := .leaf
theorem ok46 : fnOk Try.prog Try.f46.ntmps Try.f46 sk46 = true := by kernel_rfl
theorem eq46 (c0 : Option Addr) (c1 : Option Addr) (c2 : Option Addr) (K : Value → World → Prop) (w : World) : fnF Try.prog cl Try.f46 sk46 [.pointer c0, .pointer c1, .pointer c2] K w = B46 c0 c1 c2 K w := by kernel_rfl
theorem call46 (c0 : Option Addr) (c1 : Option Addr) (c2 : Option Addr) (K : Value → World → Prop) (w : World) (h : B46 c0 c1 c2 K w) : Gets Try.prog 46 #[.pointer c0, .pointer c1, .pointer c2] w K :=
  calls_of (sk := sk46) cl_ok mixed Try.func46 ok46 (args := [.pointer c0, .pointer c1, .pointer c2]) (Nat.le_of_ble_eq_true (by kernel_rfl)) (by rw [eq46]; exact h)

end Go.Proofs.Ytbniilhfbfcegaa
