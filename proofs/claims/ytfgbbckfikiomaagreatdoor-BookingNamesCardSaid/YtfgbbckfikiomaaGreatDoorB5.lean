/- The formulas of functions of this seat's translation, printed by a program of mine off the translation; each is proved equal to 'fnF' of the function's body, so it is enough for the call. No condition. -/
import Derived.Test.YtfgbbckfikiomaaGreatDoorB4
import Derived.Test.YtfgbbckfikiomaaGreatDoorB2
import Derived.Test.YtfgbbckfikiomaaGreatDoorB1
import Derived.ProofKit
import Derived.OpenShut
import Derived.ShutString
import Derived.ChangeOld
import Derived.Below
import Derived.Lib.SmallJoins
import Derived.Test.YtfgbbckfikiomaaGreatDoorB3
import Derived.Maps.RangeRun
import Derived.Lib.Overlaps
namespace Go.Proofs.YtfgbbckfikiomaaGreatDoor
open Go Go.VC
set_option linter.unusedVariables false
set_option maxRecDepth 10000
def B40 (holds0 : Bool) (e1 : Int) (X : List PanicEntry → World → Prop) (K : Value → World → Prop) (w : World) : Prop :=
  Br (!holds0)
   (X [⟨.iface 27 (.int .i64 e1), false, false⟩] w)
   (K (.tuple #[]) w)
def sk40 : Sk := .leaf
theorem ok40 : fnOkx Tryz.prog Tryz.f40.ntmps Tryz.f40 sk40 [] = true := by kernel_rfl
theorem eq40 (holds0 : Bool) (e1 : Int) (X : List PanicEntry → World → Prop) (K : Value → World → Prop) (w : World) : fnFx Tryz.prog cl X Tryz.f40 sk40 [.bool holds0, .int .i64 e1] K w = B40 holds0 e1 X K w := by kernel_rfl
theorem call40 (holds0 : Bool) (e1 : Int) (X : List PanicEntry → World → Prop) (K : Value → World → Prop) (w : World) (h : B40 holds0 e1 X K w) : GetsX Tryz.prog 40 #[.bool holds0, .int .i64 e1] w X K :=
  callsx_of (sk := sk40) cl_ok mixed Tryz.func40 ok40 (args := [.bool holds0, .int .i64 e1]) (Nat.le_of_ble_eq_true (by kernel_rfl)) (by rw [eq40]; exact h)
def B110 (e0 : Int) (X : List PanicEntry → World → Prop) (K : Value → World → Prop) (w : World) : Prop :=
  Br (e0 != 0)
   (X [⟨.iface 27 (.int .i64 e0), false, false⟩] w)
   (K (.tuple #[]) w)
def sk110 : Sk := .leaf
theorem ok110 : fnOkx Tryz.prog Tryz.f110.ntmps Tryz.f110 sk110 [] = true := by kernel_rfl
theorem eq110 (e0 : Int) (X : List PanicEntry → World → Prop) (K : Value → World → Prop) (w : World) : fnFx Tryz.prog cl X Tryz.f110 sk110 [.int .i64 e0] K w = B110 e0 X K w := by kernel_rfl
theorem call110 (e0 : Int) (X : List PanicEntry → World → Prop) (K : Value → World → Prop) (w : World) (h : B110 e0 X K w) : GetsX Tryz.prog 110 #[.int .i64 e0] w X K :=
  callsx_of (sk := sk110) cl_ok mixed Tryz.func110 ok110 (args := [.int .i64 e0]) (Nat.le_of_ble_eq_true (by kernel_rfl)) (by rw [eq110]; exact h)
def B39 (r0 : Option Addr) (x : Value) (K : World → Prop) (w : World) : Prop :=
  ∃ t5 : Bool, (∀ w', (fun w' => w' = w) w' → ((do eqGuard BinOp.neq 20 (Operand.tmp 4) (Operand.const Value.nilIface) x .nilIface; binOp BinOp.neq 20 x .nilIface : Sem Value)).run Tryz.prog w' = .ok (.bool t5) w') ∧
  Br t5
   (∃ t8 : Int, (∀ w', (fun w' => w' = w) w' → ((Instr.typeAssert x 20 27 false)).run Tryz.prog w' = .ok (.int .i64 t8) w') ∧
    NilP r0 fun a_t10 =>
    ∃ w_1 : World, ((Instr.storeAt 31 (.pointer ((some (a_t10)))) (.agg #[.int .i64 t8, .string (ByteArray.mk #[]), .int .i64 0, .int .i64 0, .int .i64 0, .int .i64 0, .int .i64 0, .slice none 0 0, .slice none 0 0])).run Tryz.prog w = .ok () w_1) ∧
    K w_1)
   (K w)
def sk39 : Sk := .leaf
theorem ok39 : recOk Tryz.prog Tryz.f39 sk39 = true := by kernel_rfl
theorem eq39 (r0 : Option Addr) (x : Value) (K : World → Prop) (w : World) : recF Tryz.prog cl Tryz.f39 sk39 [.pointer r0] x K w = B39 r0 x K w := by kernel_rfl
theorem callP39 (r0 : Option Addr) (x : Value) (K : World → Prop) (w : World) (h : B39 r0 x K w) : CallsD Tryz.prog 39 #[.pointer r0] (.panicking [⟨x, false, false⟩]) w fun e v w' => (∃ y, e = .returned y) ∧ v = .panicking [⟨x, true, false⟩] ∧ K w' :=
  rec_panic (sk := sk39) cl_ok mixed Tryz.func39 ok39 (args := [.pointer r0]) (Nat.le_of_ble_eq_true (by kernel_rfl)) (by rw [eq39]; exact h)
theorem callR39 (r0 : Option Addr) (K : World → Prop) (w : World) (h : B39 r0 .nilIface K w) : CallsD Tryz.prog 39 #[.pointer r0] .returning w fun e v w' => (∃ y, e = .returned y) ∧ v = .returning ∧ K w' :=
  rec_return (sk := sk39) cl_ok mixed Tryz.func39 ok39 (args := [.pointer r0]) (Nat.le_of_ble_eq_true (by kernel_rfl)) (by rw [eq39]; exact h)
def B41 (c0_0 : Int) (c0_1 : ByteArray) (c0_2 : Int) (c0_3 : Int) (c0_4 : Int) (c0_5 : Int) (c0_6 : Nat) (c0_7 : ByteArray) (c0_8 : Int) (c0_9 : Sl) (c0_10 : Sl) (K : Value → World → Prop) (w : World) : Prop :=
  New (.cells #[.int .i64 c0_0, .string c0_1, .int .i64 c0_2, .int .i64 c0_3, .int .i64 c0_4, .int .i64 c0_5, .float .f64 c0_6, .string c0_7, .int .i64 c0_8, .slice c0_9.a c0_9.len c0_9.cap, .slice c0_10.a c0_10.len c0_10.cap] 38 (0, 0)) (fun b_c1 w_1 =>
  ∃ t9 : Int, (At (fun w' => w' = w_1) ⟨b_c1, 0 + 2, none⟩ [.int .i64 t9]) ∧
  ∃ t11 : Int, (At (fun w' => w' = w_1) ⟨b_c1, 0 + 3, none⟩ [.int .i64 t11]) ∧
  ∃ t13 : Int, (At (fun w' => w' = w_1) ⟨b_c1, 0 + 4, none⟩ [.int .i64 t13]) ∧
  ∃ t16 : Int, (At (fun w' => w' = w_1) ⟨b_c1, 0 + 8, none⟩ [.int .i64 t16]) ∧
  New (.cells #[.int .i64 t9, .int .i64 t11, .int .i64 t13, .int .i64 t16] 3 (0, 0)) (fun b_t17 w_2 =>
  ∃ t20 : Sl, (At (fun w' => w' = w_2) ⟨b_c1, 0 + 8 + 1, none⟩ [.slice t20.a t20.len t20.cap]) ∧
  ∃ w_3 : World, ∃ t21 : Sl, ((Builtin.append_ #[28, 28] 28 #[.slice ((some ⟨b_t17, 0, none⟩)) 4 4, .slice t20.a t20.len t20.cap]).run Tryz.prog w_2 = .ok (.slice t21.a t21.len t21.cap) w_3) ∧
  ∃ (I : Int → World → Prop) (μ : Int → World → Nat), (I 0 w_3) ∧ ∀ (z : Env) (t23 : Int) (w_4 : World), I t23 w_4 →
  Br (decide (t23 < (↑t21.len : Int)))
   (Rng t23 t21.len (NilP t21.a fun a_t25 =>
    ∃ t26 : Int, (At (fun w' => w' = w_4) (Addr.add a_t25 t23.toNat) [.int .i64 t26]) ∧
    Calls Tryz.prog 108 #[.int .i64 t26] w_4 fun e w_5 =>
    ∃ t29 : Bool, (e = .returned (.bool t29)) ∧
    Br t29
     (K (.bool false) w_5)
     ((I (IntKind.i64.wrap (t23 + 1)) w_5) ∧ μ (IntKind.i64.wrap (t23 + 1)) w_5 < μ t23 w_4)))
   (∃ (J : Bool → World → Prop), (∃ t32 : ByteArray, (At (fun w' => w' = w_4) ⟨b_c1, 0 + 1, none⟩ [.string t32]) ∧
      Br (decide ((↑t32.size : Int) ≤ 16))
       (∃ t37 : ByteArray, (At (fun w' => w' = w_4) ⟨b_c1, 0 + 7, none⟩ [.string t37]) ∧
        J (decide ((↑t37.size : Int) ≤ 16)) w_4)
       (J false w_4)) ∧
    ∀ (z_1 : Env) (texts6 : Bool) (w_6 : World), J texts6 w_6 →
    ∃ (J_1 : Bool → World → Prop), (∃ t43 : Sl, (At (fun w' => w' = w_6) ⟨b_c1, 0 + 8 + 1, none⟩ [.slice t43.a t43.len t43.cap]) ∧
      Br (decide ((↑t43.len : Int) ≤ 16))
       (∃ t48 : Sl, (At (fun w' => w' = w_6) ⟨b_c1, 0 + 10, none⟩ [.slice t48.a t48.len t48.cap]) ∧
        J_1 (decide ((↑t48.len : Int) ≤ 16)) w_6)
       (J_1 false w_6)) ∧
    ∀ (z_2 : Env) (lists7 : Bool) (w_7 : World), J_1 lists7 w_7 →
    Br texts6
     (Br lists7
       (∃ t58 : Int, (At (fun w' => w' = w_7) ⟨b_c1, 0, none⟩ [.int .i64 t58]) ∧
        Br (decide (t58 ≥ 1))
         (∃ t63 : Int, (At (fun w' => w' = w_7) ⟨b_c1, 0, none⟩ [.int .i64 t63]) ∧
          Br (decide (t63 ≤ 9))
           (∃ t68 : Int, (At (fun w' => w' = w_7) ⟨b_c1, 0 + 5, none⟩ [.int .i64 t68]) ∧
            Br (decide (t68 ≥ 0))
             (∃ t73 : Int, (At (fun w' => w' = w_7) ⟨b_c1, 0 + 5, none⟩ [.int .i64 t73]) ∧
              K (.bool (decide (t73 ≤ 1099511627776))) w_7)
             (K (.bool false) w_7))
           (K (.bool false) w_7))
         (K (.bool false) w_7))
       (K (.bool false) w_7))
     (K (.bool false) w_7))) w_1) w
def sk41 : Sk := (.seq .leaf (.seq .leaf (.seq (.seq .leaf (.block (.loop [23] [(.int .i64)] [2, 5, 23, 24, 25, 26, 27, 28, 29, 30] .leaf))) (.cut [6] [.bool] [6, 31, 32, 33, 34, 35, 36, 37, 38, 39, 40] .leaf (.cut [7] [.bool] [7, 41, 42, 43, 44, 45, 46, 47, 48, 49, 50, 51] .leaf .leaf)))))
theorem ok41 : fnOk Tryz.prog Tryz.f41.ntmps Tryz.f41 sk41 = true := by kernel_rfl
theorem eq41 (c0_0 : Int) (c0_1 : ByteArray) (c0_2 : Int) (c0_3 : Int) (c0_4 : Int) (c0_5 : Int) (c0_6 : Nat) (c0_7 : ByteArray) (c0_8 : Int) (c0_9 : Sl) (c0_10 : Sl) (K : Value → World → Prop) (w : World) : fnF Tryz.prog cl Tryz.f41 sk41 [.agg #[.int .i64 c0_0, .string c0_1, .int .i64 c0_2, .int .i64 c0_3, .int .i64 c0_4, .int .i64 c0_5, .float .f64 c0_6, .string c0_7, .int .i64 c0_8, .slice c0_9.a c0_9.len c0_9.cap, .slice c0_10.a c0_10.len c0_10.cap]] K w = B41 c0_0 c0_1 c0_2 c0_3 c0_4 c0_5 c0_6 c0_7 c0_8 c0_9 c0_10 K w := by kernel_rfl
theorem call41 (c0_0 : Int) (c0_1 : ByteArray) (c0_2 : Int) (c0_3 : Int) (c0_4 : Int) (c0_5 : Int) (c0_6 : Nat) (c0_7 : ByteArray) (c0_8 : Int) (c0_9 : Sl) (c0_10 : Sl) (K : Value → World → Prop) (w : World) (h : B41 c0_0 c0_1 c0_2 c0_3 c0_4 c0_5 c0_6 c0_7 c0_8 c0_9 c0_10 K w) : Gets Tryz.prog 41 #[.agg #[.int .i64 c0_0, .string c0_1, .int .i64 c0_2, .int .i64 c0_3, .int .i64 c0_4, .int .i64 c0_5, .float .f64 c0_6, .string c0_7, .int .i64 c0_8, .slice c0_9.a c0_9.len c0_9.cap, .slice c0_10.a c0_10.len c0_10.cap]] w K :=
  calls_of (sk := sk41) cl_ok mixed Tryz.func41 ok41 (args := [.agg #[.int .i64 c0_0, .string c0_1, .int .i64 c0_2, .int .i64 c0_3, .int .i64 c0_4, .int .i64 c0_5, .float .f64 c0_6, .string c0_7, .int .i64 c0_8, .slice c0_9.a c0_9.len c0_9.cap, .slice c0_10.a c0_10.len c0_10.cap]]) (Nat.le_of_ble_eq_true (by kernel_rfl)) (by rw [eq41]; exact h)
def B108 (n0 : Int) (K : Value → World → Prop) (w : World) : Prop :=
  Br (decide (n0 < 0))
   (K (.bool true) w)
   (K (.bool (decide (n0 > 9999))) w)
def sk108 : Sk := .leaf
theorem ok108 : fnOk Tryz.prog Tryz.f108.ntmps Tryz.f108 sk108 = true := by kernel_rfl
theorem eq108 (n0 : Int) (K : Value → World → Prop) (w : World) : fnF Tryz.prog cl Tryz.f108 sk108 [.int .i64 n0] K w = B108 n0 K w := by kernel_rfl
theorem call108 (n0 : Int) (K : Value → World → Prop) (w : World) (h : B108 n0 K w) : Gets Tryz.prog 108 #[.int .i64 n0] w K :=
  calls_of (sk := sk108) cl_ok mixed Tryz.func108 ok108 (args := [.int .i64 n0]) (Nat.le_of_ble_eq_true (by kernel_rfl)) (by rw [eq108]; exact h)
def B14  (K : Value → World → Prop) (w : World) : Prop :=
  New (.map #[] 0) (fun b_t1 w_1 =>
  New (.map #[] 0) (fun b_t2 w_2 =>
  New (.cells #[.int .i64 0, .int .i64 1, .map ((some b_t1)), .map ((some b_t2))] 80 (0, 0)) (fun b_t4 w_3 =>
  K (.pointer ((some ⟨b_t4, 0, none⟩))) w_3) w_2) w_1) w
def sk14 : Sk := .leaf
theorem ok14 : fnOk Tryz.prog Tryz.f14.ntmps Tryz.f14 sk14 = true := by kernel_rfl
theorem eq14  (K : Value → World → Prop) (w : World) : fnF Tryz.prog cl Tryz.f14 sk14 [] K w = B14  K w := by kernel_rfl
theorem call14  (K : Value → World → Prop) (w : World) (h : B14  K w) : Gets Tryz.prog 14 #[] w K :=
  calls_of (sk := sk14) cl_ok mixed Tryz.func14 ok14 (args := []) (Nat.le_of_ble_eq_true (by kernel_rfl)) (by rw [eq14]; exact h)
def B46 (b0 : Option Addr) (pnr1 : ByteArray) (X : List PanicEntry → World → Prop) (K : Value → World → Prop) (w : World) : Prop :=
  Calls Tryz.prog 119 #[.string pnr1] w fun e w_1 =>
  (∃ t11 : Int, ∃ t11_1 : Int, (e = .returned (.tuple #[.int .i64 t11, .int .i64 t11_1])) ∧
    Calls Tryz.prog 110 #[.int .i64 t11_1] w_1 fun e_1 w_2 =>
    ((e_1 = .returned (.tuple #[])) ∧
      NilP b0 fun a_t18 =>
      ∃ t20 : Option Nat, (At (fun w' => w' = w_2) ⟨a_t18.block, a_t18.off + 3, none⟩ [.map t20]) ∧
      ∃ t22 : Option Addr, ∃ t22_1 : Bool, (∀ w', (fun w' => w' = w_2) w' → ((Instr.lookup 78 (.map t20) (.int .i64 t11) true)).run Tryz.prog w' = .ok (.tuple #[.pointer t22, .bool t22_1]) w') ∧
      Calls Tryz.prog 40 #[.bool t22_1, .int .i64 2] w_2 fun e_2 w_3 =>
      ((e_2 = .returned (.tuple #[])) ∧
        K (.pointer t22) w_3) ∨
      (∃ ch_2 : List PanicEntry, (e_2 = .panicked ch_2) ∧ X ch_2 w_3)) ∨
    (∃ ch_1 : List PanicEntry, (e_1 = .panicked ch_1) ∧ X ch_1 w_2)) ∨
  (∃ ch : List PanicEntry, (e = .panicked ch) ∧ X ch w_1)
def sk46 : Sk := .leaf
theorem ok46 : fnOkx Tryz.prog Tryz.f46.ntmps Tryz.f46 sk46 [] = true := by kernel_rfl
theorem eq46 (b0 : Option Addr) (pnr1 : ByteArray) (X : List PanicEntry → World → Prop) (K : Value → World → Prop) (w : World) : fnFx Tryz.prog cl X Tryz.f46 sk46 [.pointer b0, .string pnr1] K w = B46 b0 pnr1 X K w := by kernel_rfl
theorem call46 (b0 : Option Addr) (pnr1 : ByteArray) (X : List PanicEntry → World → Prop) (K : Value → World → Prop) (w : World) (h : B46 b0 pnr1 X K w) : GetsX Tryz.prog 46 #[.pointer b0, .string pnr1] w X K :=
  callsx_of (sk := sk46) cl_ok mixed Tryz.func46 ok46 (args := [.pointer b0, .string pnr1]) (Nat.le_of_ble_eq_true (by kernel_rfl)) (by rw [eq46]; exact h)
def B57 (b0 : Option Addr) (number1 : Int) (X : List PanicEntry → World → Prop) (K : Value → World → Prop) (w : World) : Prop :=
  New (.cells #[.pointer none, .pointer none] 102 (0, 0)) (fun b_t4 w_1 =>
  NilP b0 fun a_t9 =>
  ∃ t11 : Option Nat, (At (fun w' => w' = w_1) ⟨a_t9.block, a_t9.off + 2, none⟩ [.map t11]) ∧
  ∃ t13 : Option Addr, ∃ t13_1 : Option Addr, ∃ t13_2 : Bool, (∀ w', (fun w' => w' = w_1) w' → ((Instr.lookup 77 (.map t11) (.int .i64 number1) true)).run Tryz.prog w' = .ok (.tuple #[.agg #[.pointer t13, .pointer t13_1], .bool t13_2]) w') ∧
  New (.cells #[.pointer none, .pointer none] 102 (0, 0)) (fun b_p5 w_2 =>
  ∃ w_3 : World, ((Instr.storeAt 102 (.pointer ((some ⟨b_p5, 0, none⟩))) (.agg #[.pointer t13, .pointer t13_1])).run Tryz.prog w_2 = .ok () w_3) ∧
  Calls Tryz.prog 40 #[.bool t13_2, .int .i64 2] w_3 fun e w_4 =>
  ((e = .returned (.tuple #[])) ∧
    ∃ t18 : Option Addr, ∃ t18_1 : Option Addr, (At (fun w' => w' = w_4) ⟨b_p5, 0, none⟩ [.pointer t18, .pointer t18_1]) ∧
    ∃ w_5 : World, ((Instr.storeAt 102 (.pointer ((some ⟨b_t4, 0, none⟩))) (.agg #[.pointer t18, .pointer t18_1])).run Tryz.prog w_4 = .ok () w_5) ∧
    ∃ u : Option Addr, ∃ u_1 : Option Addr, (At (fun w' => w' = w_5) ⟨b_t4, 0, none⟩ [.pointer u, .pointer u_1]) ∧
    K (.agg #[.pointer u, .pointer u_1]) w_5) ∨
  (∃ ch : List PanicEntry, (e = .panicked ch) ∧ X ch w_4)) w_1) w
def sk57 : Sk := .leaf
theorem ok57 : fnOkx Tryz.prog Tryz.f57.ntmps Tryz.f57 sk57 [] = true := by kernel_rfl
theorem eq57 (b0 : Option Addr) (number1 : Int) (X : List PanicEntry → World → Prop) (K : Value → World → Prop) (w : World) : fnFx Tryz.prog cl X Tryz.f57 sk57 [.pointer b0, .int .i64 number1] K w = B57 b0 number1 X K w := by kernel_rfl
theorem call57 (b0 : Option Addr) (number1 : Int) (X : List PanicEntry → World → Prop) (K : Value → World → Prop) (w : World) (h : B57 b0 number1 X K w) : GetsX Tryz.prog 57 #[.pointer b0, .int .i64 number1] w X K :=
  callsx_of (sk := sk57) cl_ok mixed Tryz.func57 ok57 (args := [.pointer b0, .int .i64 number1]) (Nat.le_of_ble_eq_true (by kernel_rfl)) (by rw [eq57]; exact h)
def B114 (b0 : Option Addr) (number1 : Int) (K : Value → World → Prop) (w : World) : Prop :=
  NilP b0 fun a_t8 =>
  ∃ t10 : Option Nat, (At (fun w' => w' = w) ⟨a_t8.block, a_t8.off + 2, none⟩ [.map t10]) ∧
  ∃ t12 : Option Addr, ∃ t12_1 : Option Addr, (∀ w', (fun w' => w' = w) w' → ((Instr.lookup 77 (.map t10) (.int .i64 number1) false)).run Tryz.prog w' = .ok (.agg #[.pointer t12, .pointer t12_1]) w') ∧
  New (.cells #[.pointer none, .pointer none] 102 (0, 0)) (fun b_p4 w_1 =>
  ∃ w_2 : World, ((Instr.storeAt 102 (.pointer ((some ⟨b_p4, 0, none⟩))) (.agg #[.pointer t12, .pointer t12_1])).run Tryz.prog w_1 = .ok () w_2) ∧
  ∃ (J : Option Addr → Bool → World → Prop), (Drw w_2 fun S w_3 =>
    ∃ t15 : Option Addr, (At S ⟨b_p4, 0 + 1, none⟩ [.pointer t15]) ∧
    ∃ t17 : Option Addr, (At S ⟨b_p4, 0, none⟩ [.pointer t17]) ∧
    (Calls Tryz.prog 58 #[.pointer t17] w_3 fun e w_4 =>
    ∃ t18 : Sl, (e = .returned (.slice t18.a t18.len t18.cap)) ∧
    (S w_4) ∧
    (Calls Tryz.prog 183 #[.pointer t15, .slice t18.a t18.len t18.cap] w_4 fun e_1 w_5 =>
    ∃ t19 : Int, ∃ t19_1 : Int, ∃ t19_2 : Int, ∃ t19_3 : Int, ∃ t19_4 : Nat, ∃ t19_5 : Bool, (e_1 = .returned (.tuple #[.agg #[.int .i64 t19, .int .i64 t19_1, .int .i64 t19_2, .int .i64 t19_3, .float .f64 t19_4], .bool t19_5])) ∧
    (S w_5) ∧
    New (.cells #[.int .i64 0, .int .i64 0, .int .i64 0, .int .i64 0, .float .f64 0] 65 (0, 0)) (fun b_w5 w_6 =>
    (S w_6) ∧
    ∃ w_7 : World, ((Instr.storeAt 65 (.pointer ((some ⟨b_w5, 0, none⟩))) (.agg #[.int .i64 t19, .int .i64 t19_1, .int .i64 t19_2, .int .i64 t19_3, .float .f64 t19_4])).run Tryz.prog w_6 = .ok () w_7) ∧
    J ((some ⟨b_w5, 0, none⟩)) t19_5 w_7) w_5) ∧
    New (.cells #[.int .i64 0, .int .i64 0, .int .i64 0, .int .i64 0, .float .f64 0] 65 (0, 0)) (fun b_w5_1 w_8 =>
    (S w_8) ∧
    Calls Tryz.prog 183 #[.pointer t15, .slice t18.a t18.len t18.cap] w_8 fun e_2 w_9 =>
    ∃ t19_6 : Int, ∃ t19_7 : Int, ∃ t19_8 : Int, ∃ t19_9 : Int, ∃ t19_10 : Nat, ∃ t19_11 : Bool, (e_2 = .returned (.tuple #[.agg #[.int .i64 t19_6, .int .i64 t19_7, .int .i64 t19_8, .int .i64 t19_9, .float .f64 t19_10], .bool t19_11])) ∧
    (S w_9) ∧
    ∃ w_10 : World, ((Instr.storeAt 65 (.pointer ((some ⟨b_w5_1, 0, none⟩))) (.agg #[.int .i64 t19_6, .int .i64 t19_7, .int .i64 t19_8, .int .i64 t19_9, .float .f64 t19_10])).run Tryz.prog w_9 = .ok () w_10) ∧
    J ((some ⟨b_w5_1, 0, none⟩)) t19_11 w_10) w_4) ∧
    New (.cells #[.int .i64 0, .int .i64 0, .int .i64 0, .int .i64 0, .float .f64 0] 65 (0, 0)) (fun b_w5_2 w_11 =>
    (S w_11) ∧
    Calls Tryz.prog 58 #[.pointer t17] w_11 fun e_3 w_12 =>
    ∃ t18_1 : Sl, (e_3 = .returned (.slice t18_1.a t18_1.len t18_1.cap)) ∧
    (S w_12) ∧
    Calls Tryz.prog 183 #[.pointer t15, .slice t18_1.a t18_1.len t18_1.cap] w_12 fun e_4 w_13 =>
    ∃ t19_12 : Int, ∃ t19_13 : Int, ∃ t19_14 : Int, ∃ t19_15 : Int, ∃ t19_16 : Nat, ∃ t19_17 : Bool, (e_4 = .returned (.tuple #[.agg #[.int .i64 t19_12, .int .i64 t19_13, .int .i64 t19_14, .int .i64 t19_15, .float .f64 t19_16], .bool t19_17])) ∧
    (S w_13) ∧
    ∃ w_14 : World, ((Instr.storeAt 65 (.pointer ((some ⟨b_w5_2, 0, none⟩))) (.agg #[.int .i64 t19_12, .int .i64 t19_13, .int .i64 t19_14, .int .i64 t19_15, .float .f64 t19_16])).run Tryz.prog w_13 = .ok () w_14) ∧
    J ((some ⟨b_w5_2, 0, none⟩)) t19_17 w_14) w_3) ∧
  ∀ (z : Env) (w5 : Option Addr) (fits6 : Bool) (w_15 : World), J w5 fits6 w_15 →
  ∃ (I : Option Addr → Bool → World → Prop) (μ : Option Addr → Bool → World → Nat), (I w5 fits6 w_15) ∧ ∀ (z_1 : Env) (w5_1 : Option Addr) (fits6_1 : Bool) (w_16 : World), I w5_1 fits6_1 w_16 →
  Br fits6_1
   (∃ t33 : Option Addr, (At (fun w' => w' = w_16) ⟨b_p4, 0 + 1, none⟩ [.pointer t33]) ∧
    NilP w5_1 fun a_t34 =>
    ∃ t35 : Int, (At (fun w' => w' = w_16) (Addr.add a_t34 0) [.int .i64 t35]) ∧
    Calls Tryz.prog 116 #[.pointer t33, .int .i64 t35] w_16 fun e_5 w_17 =>
    ∃ t36 : Int, (e_5 = .returned (.int .i64 t36)) ∧
    ∃ t38 : Option Addr, (At (fun w' => w' = w_17) ⟨b_p4, 0, none⟩ [.pointer t38]) ∧
    NilP w5_1 fun a_t39 =>
    ∃ t40 : Int, (At (fun w' => w' = w_17) (Addr.add a_t39 0) [.int .i64 t40]) ∧
    NilP w5_1 fun a_t41 =>
    ∃ t42 : Int, (At (fun w' => w' = w_17) ⟨a_t41.block, a_t41.off + 1, none⟩ [.int .i64 t42]) ∧
    NilP w5_1 fun a_t43 =>
    ∃ t44 : Int, (At (fun w' => w' = w_17) ⟨a_t43.block, a_t43.off + 2, none⟩ [.int .i64 t44]) ∧
    Calls Tryz.prog 112 #[.pointer t38, .int .i64 t40, .int .i64 t42, .int .i64 t44] w_17 fun e_6 w_18 =>
    ∃ t45 : Int, (e_6 = .returned (.int .i64 t45)) ∧
    Drw w_18 fun S_1 w_19 =>
    NilP b0 fun a_t47 =>
    ∃ t49 : Option Nat, (At S_1 ⟨a_t47.block, a_t47.off + 3, none⟩ [.map t49]) ∧
    NilP w5_1 fun a_t50 =>
    ∃ t51 : Int, (At S_1 (Addr.add a_t50 0) [.int .i64 t51]) ∧
    ∃ t52 : Option Addr, (∀ w', S_1 w' → ((Instr.lookup 78 (.map t49) (.int .i64 t51) false)).run Tryz.prog w' = .ok (.pointer t52) w') ∧
    NilP t52 fun a_t53 =>
    ∃ w_20 : World, ((Instr.storeAt 3 (.pointer ((some ⟨a_t53.block, a_t53.off + 4, none⟩))) (.int .i64 2)).run Tryz.prog w_19 = .ok () w_20) ∧
    NilP w5_1 fun a_t55 =>
    ∃ t55 : Int, ∃ t55_1 : Int, ∃ t55_2 : Int, ∃ t55_3 : Int, ∃ t55_4 : Nat, (At (fun w' => w' = w_20) a_t55 [.int .i64 t55, .int .i64 t55_1, .int .i64 t55_2, .int .i64 t55_3, .float .f64 t55_4]) ∧
    New (.cells #[.int .i64 0, .int .i64 0, .int .i64 0, .int .i64 0, .float .f64 0] 65 (0, 0)) (fun b_w5_3 w_21 =>
    ∃ w_22 : World, ((Instr.storeAt 65 (.pointer ((some ⟨b_w5_3, 0, none⟩))) (.agg #[.int .i64 t55, .int .i64 t55_1, .int .i64 t55_2, .int .i64 t55_3, .float .f64 t55_4])).run Tryz.prog w_21 = .ok () w_22) ∧
    Drw w_22 fun S_2 w_23 =>
    ∃ t25 : Option Addr, (At S_2 ⟨b_p4, 0 + 1, none⟩ [.pointer t25]) ∧
    ∃ t27 : Option Addr, (At S_2 ⟨b_p4, 0, none⟩ [.pointer t27]) ∧
    Calls Tryz.prog 58 #[.pointer t27] w_23 fun e_7 w_24 =>
    ∃ t28 : Sl, (e_7 = .returned (.slice t28.a t28.len t28.cap)) ∧
    (S_2 w_24) ∧
    Calls Tryz.prog 183 #[.pointer t25, .slice t28.a t28.len t28.cap] w_24 fun e_8 w_25 =>
    ∃ t29 : Int, ∃ t29_1 : Int, ∃ t29_2 : Int, ∃ t29_3 : Int, ∃ t29_4 : Nat, ∃ t29_5 : Bool, (e_8 = .returned (.tuple #[.agg #[.int .i64 t29, .int .i64 t29_1, .int .i64 t29_2, .int .i64 t29_3, .float .f64 t29_4], .bool t29_5])) ∧
    (S_2 w_25) ∧
    ∃ w_26 : World, ((Instr.storeAt 65 (.pointer ((some ⟨b_w5_3, 0, none⟩))) (.agg #[.int .i64 t29, .int .i64 t29_1, .int .i64 t29_2, .int .i64 t29_3, .float .f64 t29_4])).run Tryz.prog w_25 = .ok () w_26) ∧
    (I ((some ⟨b_w5_3, 0, none⟩)) t29_5 w_26) ∧ μ ((some ⟨b_w5_3, 0, none⟩)) t29_5 w_26 < μ w5_1 fits6_1 w_16) w_20)
   (K (.tuple #[]) w_16)) w
def sk114 : Sk := (.seq .leaf (.cut [5, 6] [.ptr, .bool] [5, 6, 13, 14, 15, 16, 17, 18, 19, 20, 21] .leaf (.block (.loop [5, 6] [.ptr, .bool] [5, 6, 22, 23, 24, 25, 26, 27, 28, 29, 30, 31, 32, 33, 34, 35, 36, 37, 38, 39, 40, 41, 42, 43, 44, 45, 46, 47, 48, 49, 50, 51, 52, 53, 54, 55] .leaf))))
theorem ok114 : fnOk Tryz.prog Tryz.f114.ntmps Tryz.f114 sk114 = true := by kernel_rfl
theorem eq114 (b0 : Option Addr) (number1 : Int) (K : Value → World → Prop) (w : World) : fnF Tryz.prog cl Tryz.f114 sk114 [.pointer b0, .int .i64 number1] K w = B114 b0 number1 K w := by kernel_rfl
theorem call114 (b0 : Option Addr) (number1 : Int) (K : Value → World → Prop) (w : World) (h : B114 b0 number1 K w) : Gets Tryz.prog 114 #[.pointer b0, .int .i64 number1] w K :=
  calls_of (sk := sk114) cl_ok mixed Tryz.func114 ok114 (args := [.pointer b0, .int .i64 number1]) (Nat.le_of_ble_eq_true (by kernel_rfl)) (by rw [eq114]; exact h)
def B56 (b0 : Option Addr) (x1 : Option Addr) (K : Value → World → Prop) (w : World) : Prop :=
  New (.cells #[.int .i64 0, .string (ByteArray.mk #[]), .int .i64 0, .int .i64 0, .int .i64 0, .int .i64 0, .int .i64 0, .slice none 0 0, .slice none 0 0] 31 (0, 0)) (fun b_t4 w_1 =>
  Drw w_1 fun S w_2 =>
  NilP b0 fun a_t9 =>
  ∃ t11 : Option Nat, (At S ⟨a_t9.block, a_t9.off + 2, none⟩ [.map t11]) ∧
  NilP x1 fun a_t13 =>
  ∃ t15 : Int, (At S ⟨a_t13.block, a_t13.off + 1, none⟩ [.int .i64 t15]) ∧
  ∃ t16 : Option Addr, ∃ t16_1 : Option Addr, (∀ w', S w' → ((Instr.lookup 77 (.map t11) (.int .i64 t15) false)).run Tryz.prog w' = .ok (.agg #[.pointer t16, .pointer t16_1]) w') ∧
  New (.cells #[.pointer none, .pointer none] 102 (0, 0)) (fun b_p5 w_3 =>
  (S w_3) ∧
  ∃ w_4 : World, ((Instr.storeAt 102 (.pointer ((some ⟨b_p5, 0, none⟩))) (.agg #[.pointer t16, .pointer t16_1])).run Tryz.prog w_3 = .ok () w_4) ∧
  NilP x1 fun a_t19 =>
  ∃ t21 : Int, (At (fun w' => w' = w_4) (Addr.add a_t19 0) [.int .i64 t21]) ∧
  Calls Tryz.prog 129 #[.int .i64 t21] w_4 fun e w_5 =>
  ∃ t22 : ByteArray, ∃ t22_1 : Int, (e = .returned (.tuple #[.string t22, .int .i64 t22_1])) ∧
  Drw w_5 fun S_1 w_6 =>
  NilP x1 fun a_t27 =>
  ∃ t29 : Int, (At S_1 ⟨a_t27.block, a_t27.off + 4, none⟩ [.int .i64 t29]) ∧
  NilP x1 fun a_t31 =>
  ∃ t33 : Int, (At S_1 ⟨a_t31.block, a_t31.off + 1, none⟩ [.int .i64 t33]) ∧
  NilP x1 fun a_t35 =>
  ∃ t37 : Int, (At S_1 ⟨a_t35.block, a_t35.off + 2, none⟩ [.int .i64 t37]) ∧
  NilP x1 fun a_t39 =>
  ∃ t41 : Int, (At S_1 ⟨a_t39.block, a_t39.off + 3, none⟩ [.int .i64 t41]) ∧
  NilP x1 fun a_t43 =>
  ∃ t45 : Int, (At S_1 ⟨a_t43.block, a_t43.off + 5, none⟩ [.int .i64 t45]) ∧
  ∃ t47 : Option Addr, (At S_1 ⟨b_p5, 0, none⟩ [.pointer t47]) ∧
  ∃ t50 : Option Addr, (At S_1 ⟨b_p5, 0, none⟩ [.pointer t50]) ∧
  NilP x1 fun a_t52 =>
  ∃ t54 : Int, (At S_1 (Addr.add a_t52 0) [.int .i64 t54]) ∧
  Calls Tryz.prog 58 #[.pointer t47] w_6 fun e_1 w_7 =>
  ∃ t48 : Sl, (e_1 = .returned (.slice t48.a t48.len t48.cap)) ∧
  (S_1 w_7) ∧
  Calls Tryz.prog 130 #[.pointer t50, .int .i64 t54] w_7 fun e_2 w_8 =>
  ∃ t55 : Sl, (e_2 = .returned (.slice t55.a t55.len t55.cap)) ∧
  (S_1 w_8) ∧
  ∃ w_9 : World, ((Instr.storeAt 31 (.pointer ((some ⟨b_t4, 0, none⟩))) (.agg #[.int .i64 0, .string t22, .int .i64 t29, .int .i64 t33, .int .i64 t37, .int .i64 t41, .int .i64 t45, .slice t48.a t48.len t48.cap, .slice t55.a t55.len t55.cap])).run Tryz.prog w_8 = .ok () w_9) ∧
  ∃ u : Int, ∃ u_1 : ByteArray, ∃ u_2 : Int, ∃ u_3 : Int, ∃ u_4 : Int, ∃ u_5 : Int, ∃ u_6 : Int, ∃ u_7 : Sl, ∃ u_8 : Sl, (At (fun w' => w' = w_9) ⟨b_t4, 0, none⟩ [.int .i64 u, .string u_1, .int .i64 u_2, .int .i64 u_3, .int .i64 u_4, .int .i64 u_5, .int .i64 u_6, .slice u_7.a u_7.len u_7.cap, .slice u_8.a u_8.len u_8.cap]) ∧
  K (.agg #[.int .i64 u, .string u_1, .int .i64 u_2, .int .i64 u_3, .int .i64 u_4, .int .i64 u_5, .int .i64 u_6, .slice u_7.a u_7.len u_7.cap, .slice u_8.a u_8.len u_8.cap]) w_9) w_2) w
def sk56 : Sk := .leaf
theorem ok56 : fnOk Tryz.prog Tryz.f56.ntmps Tryz.f56 sk56 = true := by kernel_rfl
theorem eq56 (b0 : Option Addr) (x1 : Option Addr) (K : Value → World → Prop) (w : World) : fnF Tryz.prog cl Tryz.f56 sk56 [.pointer b0, .pointer x1] K w = B56 b0 x1 K w := by kernel_rfl
theorem call56 (b0 : Option Addr) (x1 : Option Addr) (K : Value → World → Prop) (w : World) (h : B56 b0 x1 K w) : Gets Tryz.prog 56 #[.pointer b0, .pointer x1] w K :=
  calls_of (sk := sk56) cl_ok mixed Tryz.func56 ok56 (args := [.pointer b0, .pointer x1]) (Nat.le_of_ble_eq_true (by kernel_rfl)) (by rw [eq56]; exact h)
def B42 (b0 : Option Addr) (c1_0 : Int) (c1_1 : ByteArray) (c1_2 : Int) (c1_3 : Int) (c1_4 : Int) (c1_5 : Int) (c1_6 : Nat) (c1_7 : ByteArray) (c1_8 : Int) (c1_9 : Sl) (c1_10 : Sl) (X : List PanicEntry → World → Prop) (K : Value → World → Prop) (w : World) : Prop :=
  New (.cells #[.int .i64 c1_0, .string c1_1, .int .i64 c1_2, .int .i64 c1_3, .int .i64 c1_4, .int .i64 c1_5, .float .f64 c1_6, .string c1_7, .int .i64 c1_8, .slice c1_9.a c1_9.len c1_9.cap, .slice c1_10.a c1_10.len c1_10.cap] 38 (0, 0)) (fun b_c3 w_1 =>
  New (.cells #[.int .i64 0, .string (ByteArray.mk #[]), .int .i64 0, .int .i64 0, .int .i64 0, .int .i64 0, .int .i64 0, .slice none 0 0, .slice none 0 0] 31 (0, 0)) (fun b_t4 w_2 =>
  Drw w_2 fun S w_3 =>
  NilP b0 fun a_t11 =>
  ∃ t13 : Option Nat, (At S ⟨a_t11.block, a_t11.off + 2, none⟩ [.map t13]) ∧
  ∃ t15 : Int, (At S ⟨b_c3, 0 + 2, none⟩ [.int .i64 t15]) ∧
  ∃ t16 : Option Addr, ∃ t16_1 : Option Addr, ∃ t16_2 : Bool, (∀ w', S w' → ((Instr.lookup 77 (.map t13) (.int .i64 t15) true)).run Tryz.prog w' = .ok (.tuple #[.agg #[.pointer t16, .pointer t16_1], .bool t16_2]) w') ∧
  New (.cells #[.pointer none, .pointer none] 102 (0, 0)) (fun b_t5 w_4 =>
  (S w_4) ∧
  ∃ w_5 : World, ((Instr.storeAt 102 (.pointer ((some ⟨b_t5, 0, none⟩))) (.agg #[.pointer t16, .pointer t16_1])).run Tryz.prog w_4 = .ok () w_5) ∧
  Calls Tryz.prog 40 #[.bool (!t16_2), .int .i64 7] w_5 fun e w_6 =>
  ((e = .returned (.tuple #[])) ∧
    NilP b0 fun a_t23 =>
    ∃ t25 : Option Nat, (At (fun w' => w' = w_6) ⟨a_t23.block, a_t23.off + 2, none⟩ [.map t25]) ∧
    ∃ t26 : Int, (∀ w', (fun w' => w' = w_6) w' → ((Builtin.len_ #[77] 3 #[.map t25])).run Tryz.prog w' = .ok (.int .i64 t26) w') ∧
    Calls Tryz.prog 40 #[.bool (decide (t26 < 8)), .int .i64 3] w_6 fun e_1 w_7 =>
    ((e_1 = .returned (.tuple #[])) ∧
      ∃ t31 : Int, (At (fun w' => w' = w_7) ⟨b_c3, 0 + 2, none⟩ [.int .i64 t31]) ∧
      ∃ t33 : Int, ∃ t33_1 : Sl, (At (fun w' => w' = w_7) ⟨b_c3, 0 + 8, none⟩ [.int .i64 t33, .slice t33_1.a t33_1.len t33_1.cap]) ∧
      ∃ t35 : Sl, (At (fun w' => w' = w_7) ⟨b_c3, 0 + 10, none⟩ [.slice t35.a t35.len t35.cap]) ∧
      Calls Tryz.prog 109 #[.int .i64 t31, .agg #[.int .i64 t33, .slice t33_1.a t33_1.len t33_1.cap], .slice t35.a t35.len t35.cap] w_7 fun e_2 w_8 =>
      (∃ t36 : Option Addr, ∃ t36_1 : Int, (e_2 = .returned (.tuple #[.pointer t36, .int .i64 t36_1])) ∧
        Calls Tryz.prog 110 #[.int .i64 t36_1] w_8 fun e_3 w_9 =>
        ((e_3 = .returned (.tuple #[])) ∧
          Drw w_9 fun S_1 w_10 =>
          NilP b0 fun a_t42 =>
          ∃ t44 : Option Nat, (At S_1 ⟨a_t42.block, a_t42.off + 2, none⟩ [.map t44]) ∧
          ∃ t46 : Int, (At S_1 ⟨b_c3, 0 + 2, none⟩ [.int .i64 t46]) ∧
          Calls Tryz.prog 111 #[] w_10 fun e_4 w_11 =>
          (∃ t48 : Option Addr, (e_4 = .returned (.pointer t48)) ∧
            (S_1 w_11) ∧
            ∃ w_12 : World, ((Instr.mapUpdate 77 (.map t44) (.int .i64 t46) (.agg #[.pointer t36, .pointer t48])).run Tryz.prog w_11 = .ok () w_12) ∧
            Drw w_12 fun S_2 w_13 =>
            ∃ t51 : Int, (At S_2 ⟨b_c3, 0 + 2, none⟩ [.int .i64 t51]) ∧
            Calls Tryz.prog 58 #[.pointer t36] w_13 fun e_5 w_14 =>
            (∃ t53 : Sl, (e_5 = .returned (.slice t53.a t53.len t53.cap)) ∧
              (S_2 w_14) ∧
              ∃ w_15 : World, ((Instr.storeAt 31 (.pointer ((some ⟨b_t4, 0, none⟩))) (.agg #[.int .i64 0, .string (ByteArray.mk #[]), .int .i64 0, .int .i64 t51, .int .i64 0, .int .i64 0, .int .i64 0, .slice t53.a t53.len t53.cap, .slice none 0 0])).run Tryz.prog w_14 = .ok () w_15) ∧
              ∃ u : Int, ∃ u_1 : ByteArray, ∃ u_2 : Int, ∃ u_3 : Int, ∃ u_4 : Int, ∃ u_5 : Int, ∃ u_6 : Int, ∃ u_7 : Sl, ∃ u_8 : Sl, (At (fun w' => w' = w_15) ⟨b_t4, 0, none⟩ [.int .i64 u, .string u_1, .int .i64 u_2, .int .i64 u_3, .int .i64 u_4, .int .i64 u_5, .int .i64 u_6, .slice u_7.a u_7.len u_7.cap, .slice u_8.a u_8.len u_8.cap]) ∧
              K (.agg #[.int .i64 u, .string u_1, .int .i64 u_2, .int .i64 u_3, .int .i64 u_4, .int .i64 u_5, .int .i64 u_6, .slice u_7.a u_7.len u_7.cap, .slice u_8.a u_8.len u_8.cap]) w_15) ∨
            (∃ ch_5 : List PanicEntry, (e_5 = .panicked ch_5) ∧ X ch_5 w_14)) ∨
          (∃ ch_4 : List PanicEntry, (e_4 = .panicked ch_4) ∧ X ch_4 w_11)) ∨
        (∃ ch_3 : List PanicEntry, (e_3 = .panicked ch_3) ∧ X ch_3 w_9)) ∨
      (∃ ch_2 : List PanicEntry, (e_2 = .panicked ch_2) ∧ X ch_2 w_8)) ∨
    (∃ ch_1 : List PanicEntry, (e_1 = .panicked ch_1) ∧ X ch_1 w_7)) ∨
  (∃ ch : List PanicEntry, (e = .panicked ch) ∧ X ch w_6)) w_3) w_1) w
def sk42 : Sk := .leaf
theorem ok42 : fnOkx Tryz.prog Tryz.f42.ntmps Tryz.f42 sk42 [] = true := by kernel_rfl
theorem eq42 (b0 : Option Addr) (c1_0 : Int) (c1_1 : ByteArray) (c1_2 : Int) (c1_3 : Int) (c1_4 : Int) (c1_5 : Int) (c1_6 : Nat) (c1_7 : ByteArray) (c1_8 : Int) (c1_9 : Sl) (c1_10 : Sl) (X : List PanicEntry → World → Prop) (K : Value → World → Prop) (w : World) : fnFx Tryz.prog cl X Tryz.f42 sk42 [.pointer b0, .agg #[.int .i64 c1_0, .string c1_1, .int .i64 c1_2, .int .i64 c1_3, .int .i64 c1_4, .int .i64 c1_5, .float .f64 c1_6, .string c1_7, .int .i64 c1_8, .slice c1_9.a c1_9.len c1_9.cap, .slice c1_10.a c1_10.len c1_10.cap]] K w = B42 b0 c1_0 c1_1 c1_2 c1_3 c1_4 c1_5 c1_6 c1_7 c1_8 c1_9 c1_10 X K w := by kernel_rfl
theorem call42 (b0 : Option Addr) (c1_0 : Int) (c1_1 : ByteArray) (c1_2 : Int) (c1_3 : Int) (c1_4 : Int) (c1_5 : Int) (c1_6 : Nat) (c1_7 : ByteArray) (c1_8 : Int) (c1_9 : Sl) (c1_10 : Sl) (X : List PanicEntry → World → Prop) (K : Value → World → Prop) (w : World) (h : B42 b0 c1_0 c1_1 c1_2 c1_3 c1_4 c1_5 c1_6 c1_7 c1_8 c1_9 c1_10 X K w) : GetsX Tryz.prog 42 #[.pointer b0, .agg #[.int .i64 c1_0, .string c1_1, .int .i64 c1_2, .int .i64 c1_3, .int .i64 c1_4, .int .i64 c1_5, .float .f64 c1_6, .string c1_7, .int .i64 c1_8, .slice c1_9.a c1_9.len c1_9.cap, .slice c1_10.a c1_10.len c1_10.cap]] w X K :=
  callsx_of (sk := sk42) cl_ok mixed Tryz.func42 ok42 (args := [.pointer b0, .agg #[.int .i64 c1_0, .string c1_1, .int .i64 c1_2, .int .i64 c1_3, .int .i64 c1_4, .int .i64 c1_5, .float .f64 c1_6, .string c1_7, .int .i64 c1_8, .slice c1_9.a c1_9.len c1_9.cap, .slice c1_10.a c1_10.len c1_10.cap]]) (Nat.le_of_ble_eq_true (by kernel_rfl)) (by rw [eq42]; exact h)
def B43 (b0 : Option Addr) (c1_0 : Int) (c1_1 : ByteArray) (c1_2 : Int) (c1_3 : Int) (c1_4 : Int) (c1_5 : Int) (c1_6 : Nat) (c1_7 : ByteArray) (c1_8 : Int) (c1_9 : Sl) (c1_10 : Sl) (X : List PanicEntry → World → Prop) (K : Value → World → Prop) (w : World) : Prop :=
  New (.cells #[.int .i64 c1_0, .string c1_1, .int .i64 c1_2, .int .i64 c1_3, .int .i64 c1_4, .int .i64 c1_5, .float .f64 c1_6, .string c1_7, .int .i64 c1_8, .slice c1_9.a c1_9.len c1_9.cap, .slice c1_10.a c1_10.len c1_10.cap] 38 (0, 0)) (fun b_c3 w_1 =>
  New (.cells #[.int .i64 0, .string (ByteArray.mk #[]), .int .i64 0, .int .i64 0, .int .i64 0, .int .i64 0, .int .i64 0, .slice none 0 0, .slice none 0 0] 31 (0, 0)) (fun b_t4 w_2 =>
  ∃ t9 : Int, (At (fun w' => w' = w_2) ⟨b_c3, 0 + 2, none⟩ [.int .i64 t9]) ∧
  Calls Tryz.prog 57 #[.pointer b0, .int .i64 t9] w_2 fun e w_3 =>
  (∃ t10 : Option Addr, ∃ t10_1 : Option Addr, (e = .returned (.agg #[.pointer t10, .pointer t10_1])) ∧
    New (.cells #[.pointer none, .pointer none] 102 (0, 0)) (fun b_p5 w_4 =>
    ∃ w_5 : World, ((Instr.storeAt 102 (.pointer ((some ⟨b_p5, 0, none⟩))) (.agg #[.pointer t10, .pointer t10_1])).run Tryz.prog w_4 = .ok () w_5) ∧
    Drw w_5 fun S w_6 =>
    NilP b0 fun a_t12 =>
    ∃ t14 : Int, (At S ⟨a_t12.block, a_t12.off + 1, none⟩ [.int .i64 t14]) ∧
    ∃ t16 : Int, (At S ⟨b_c3, 0 + 2, none⟩ [.int .i64 t16]) ∧
    ∃ t18 : Int, (At S ⟨b_c3, 0 + 3, none⟩ [.int .i64 t18]) ∧
    ∃ t20 : Int, (At S ⟨b_c3, 0 + 4, none⟩ [.int .i64 t20]) ∧
    ∃ t22 : Int, (At S ⟨b_c3, 0 + 5, none⟩ [.int .i64 t22]) ∧
    New (.cells #[.int .i64 t14, .int .i64 t16, .int .i64 t18, .int .i64 t20, .int .i64 1, .int .i64 t22] 106 (0, 0)) (fun b_t24 w_7 =>
    (S w_7) ∧
    ∃ (J : World → Prop), (∃ t26 : Int, (At (fun w' => w' = w_7) ⟨b_c3, 0, none⟩ [.int .i64 t26]) ∧
      Br (t26 == 2)
       (Drw w_7 fun S_1 w_8 =>
        ∃ t29 : Int, (At S_1 ⟨b_c3, 0 + 5, none⟩ [.int .i64 t29]) ∧
        NilP b0 fun a_t31 =>
        ∃ t33 : Int, (At S_1 (Addr.add a_t31 0) [.int .i64 t33]) ∧
        Calls Tryz.prog 40 #[.bool (decide (t29 > t33)), .int .i64 1] w_8 fun e_1 w_9 =>
        ((e_1 = .returned (.tuple #[])) ∧
          (S_1 w_9) ∧
          J  w_9) ∨
        (∃ ch_1 : List PanicEntry, (e_1 = .panicked ch_1) ∧ X ch_1 w_9))
       (Drw w_7 fun S_2 w_10 =>
        ∃ t37 : Int, (At S_2 ⟨b_c3, 0 + 3, none⟩ [.int .i64 t37]) ∧
        ∃ t39 : Option Addr, (At S_2 ⟨b_p5, 0, none⟩ [.pointer t39]) ∧
        Calls Tryz.prog 58 #[.pointer t39] w_10 fun e_2 w_11 =>
        (∃ t40 : Sl, (e_2 = .returned (.slice t40.a t40.len t40.cap)) ∧
          (S_2 w_11) ∧
          Calls Tryz.prog 40 #[.bool (decide (t37 < (↑t40.len : Int))), .int .i64 1] w_11 fun e_3 w_12 =>
          ((e_3 = .returned (.tuple #[])) ∧
            (S_2 w_12) ∧
            ∃ w_13 : World, ((Instr.storeAt 3 (.pointer ((some ⟨b_t24, 0 + 4, none⟩))) (.int .i64 3)).run Tryz.prog w_12 = .ok () w_13) ∧
            ∃ w_14 : World, ((Instr.storeAt 3 (.pointer ((some ⟨b_t24, 0 + 5, none⟩))) (.int .i64 0)).run Tryz.prog w_13 = .ok () w_14) ∧
            J  w_14) ∨
          (∃ ch_3 : List PanicEntry, (e_3 = .panicked ch_3) ∧ X ch_3 w_12)) ∨
        (∃ ch_2 : List PanicEntry, (e_2 = .panicked ch_2) ∧ X ch_2 w_11))) ∧
    ∀ (z : Env)  (w_15 : World), J  w_15 →
    ∃ (J_1 : World → Prop), (NilP b0 fun a_t51 =>
      ∃ t53 : Option Nat, (At (fun w' => w' = w_15) ⟨a_t51.block, a_t51.off + 3, none⟩ [.map t53]) ∧
      ∃ t54 : Int, (∀ w', (fun w' => w' = w_15) w' → ((Builtin.len_ #[78] 3 #[.map t53])).run Tryz.prog w' = .ok (.int .i64 t54) w') ∧
      Br (decide (t54 < 300))
       (NilP b0 fun a_t58 =>
        ∃ t60 : Int, (At (fun w' => w' = w_15) ⟨a_t58.block, a_t58.off + 1, none⟩ [.int .i64 t60]) ∧
        Calls Tryz.prog 40 #[.bool (decide (t60 < 28629151)), .int .i64 3] w_15 fun e_4 w_16 =>
        ((e_4 = .returned (.tuple #[])) ∧
          J_1  w_16) ∨
        (∃ ch_4 : List PanicEntry, (e_4 = .panicked ch_4) ∧ X ch_4 w_16))
       (Calls Tryz.prog 40 #[.bool false, .int .i64 3] w_15 fun e_5 w_17 =>
        ((e_5 = .returned (.tuple #[])) ∧
          J_1  w_17) ∨
        (∃ ch_5 : List PanicEntry, (e_5 = .panicked ch_5) ∧ X ch_5 w_17))) ∧
    ∀ (z_1 : Env)  (w_18 : World), J_1  w_18 →
    ∃ (J_2 : World → Prop), (∃ t65 : Int, (At (fun w' => w' = w_18) ⟨b_c3, 0, none⟩ [.int .i64 t65]) ∧
      Br (t65 == 2)
       (Drw w_18 fun S_3 w_19 =>
        ∃ t68 : Option Addr, (At S_3 ⟨b_p5, 0, none⟩ [.pointer t68]) ∧
        ∃ t72 : Int, (At S_3 ⟨b_t24, 0, none⟩ [.int .i64 t72]) ∧
        ∃ t76 : Int, (At S_3 ⟨b_t24, 0 + 2, none⟩ [.int .i64 t76]) ∧
        ∃ t80 : Int, (At S_3 ⟨b_t24, 0 + 3, none⟩ [.int .i64 t80]) ∧
        Calls Tryz.prog 112 #[.pointer t68, .int .i64 t72, .int .i64 t76, .int .i64 t80] w_19 fun e_6 w_20 =>
        (∃ t81 : Int, (e_6 = .returned (.int .i64 t81)) ∧
          Calls Tryz.prog 110 #[.int .i64 t81] w_20 fun e_7 w_21 =>
          ((e_7 = .returned (.tuple #[])) ∧
            (S_3 w_21) ∧
            J_2  w_21) ∨
          (∃ ch_7 : List PanicEntry, (e_7 = .panicked ch_7) ∧ X ch_7 w_21)) ∨
        (∃ ch_6 : List PanicEntry, (e_6 = .panicked ch_6) ∧ X ch_6 w_20))
       (Drw w_18 fun S_4 w_22 =>
        ∃ t84 : Option Addr, (At S_4 ⟨b_p5, 0 + 1, none⟩ [.pointer t84]) ∧
        ∃ t88 : Int, (At S_4 ⟨b_t24, 0, none⟩ [.int .i64 t88]) ∧
        ∃ t92 : Int, (At S_4 ⟨b_t24, 0 + 2, none⟩ [.int .i64 t92]) ∧
        ∃ t96 : Int, (At S_4 ⟨b_t24, 0 + 3, none⟩ [.int .i64 t96]) ∧
        NilP b0 fun a_t98 =>
        ∃ t100 : Int, (At S_4 (Addr.add a_t98 0) [.int .i64 t100]) ∧
        ∃ t102 : Nat, (At S_4 ⟨b_c3, 0 + 6, none⟩ [.float .f64 t102]) ∧
        Calls Tryz.prog 113 #[.pointer t84, .agg #[.int .i64 t88, .int .i64 t92, .int .i64 t96, .int .i64 t100, .float .f64 t102]] w_22 fun e_8 w_23 =>
        (∃ t104 : Int, (e_8 = .returned (.int .i64 t104)) ∧
          (S_4 w_23) ∧
          Calls Tryz.prog 110 #[.int .i64 t104] w_23 fun e_9 w_24 =>
          ((e_9 = .returned (.tuple #[])) ∧
            (S_4 w_24) ∧
            J_2  w_24) ∨
          (∃ ch_9 : List PanicEntry, (e_9 = .panicked ch_9) ∧ X ch_9 w_24)) ∨
        (∃ ch_8 : List PanicEntry, (e_8 = .panicked ch_8) ∧ X ch_8 w_23))) ∧
    ∀ (z_2 : Env)  (w_25 : World), J_2  w_25 →
    Drw w_25 fun S_5 w_26 =>
    NilP b0 fun a_t107 =>
    ∃ t109 : Option Nat, (At S_5 ⟨a_t107.block, a_t107.off + 3, none⟩ [.map t109]) ∧
    ∃ t113 : Int, (At S_5 ⟨b_t24, 0, none⟩ [.int .i64 t113]) ∧
    ∃ w_27 : World, ((Instr.mapUpdate 78 (.map t109) (.int .i64 t113) (.pointer ((some ⟨b_t24, 0, none⟩)))).run Tryz.prog w_26 = .ok () w_27) ∧
    NilP b0 fun a_t116 =>
    ∃ t118 : Int, (At (fun w' => w' = w_27) ⟨a_t116.block, a_t116.off + 1, none⟩ [.int .i64 t118]) ∧
    NilP b0 fun a_t120 =>
    ∃ w_28 : World, ((Instr.storeAt 3 (.pointer ((some ⟨a_t120.block, a_t120.off + 1, none⟩))) (.int .i64 (IntKind.i64.wrap (t118 + 1)))).run Tryz.prog w_27 = .ok () w_28) ∧
    ∃ t123 : Int, (At (fun w' => w' = w_28) ⟨b_c3, 0, none⟩ [.int .i64 t123]) ∧
    Br (t123 == 7)
     (∃ t127 : Int, (At (fun w' => w' = w_28) ⟨b_c3, 0 + 2, none⟩ [.int .i64 t127]) ∧
      Calls Tryz.prog 114 #[.pointer b0, .int .i64 t127] w_28 fun e_10 w_29 =>
      ((e_10 = .returned (.tuple #[])) ∧
        Calls Tryz.prog 56 #[.pointer b0, .pointer ((some ⟨b_t24, 0, none⟩))] w_29 fun e_11 w_30 =>
        (∃ t131 : Int, ∃ t131_1 : ByteArray, ∃ t131_2 : Int, ∃ t131_3 : Int, ∃ t131_4 : Int, ∃ t131_5 : Int, ∃ t131_6 : Int, ∃ t131_7 : Sl, ∃ t131_8 : Sl, (e_11 = .returned (.agg #[.int .i64 t131, .string t131_1, .int .i64 t131_2, .int .i64 t131_3, .int .i64 t131_4, .int .i64 t131_5, .int .i64 t131_6, .slice t131_7.a t131_7.len t131_7.cap, .slice t131_8.a t131_8.len t131_8.cap])) ∧
          ∃ w_31 : World, ((Instr.storeAt 31 (.pointer ((some ⟨b_t4, 0, none⟩))) (.agg #[.int .i64 t131, .string t131_1, .int .i64 t131_2, .int .i64 t131_3, .int .i64 t131_4, .int .i64 t131_5, .int .i64 t131_6, .slice t131_7.a t131_7.len t131_7.cap, .slice t131_8.a t131_8.len t131_8.cap])).run Tryz.prog w_30 = .ok () w_31) ∧
          ∃ u : Int, ∃ u_1 : ByteArray, ∃ u_2 : Int, ∃ u_3 : Int, ∃ u_4 : Int, ∃ u_5 : Int, ∃ u_6 : Int, ∃ u_7 : Sl, ∃ u_8 : Sl, (At (fun w' => w' = w_31) ⟨b_t4, 0, none⟩ [.int .i64 u, .string u_1, .int .i64 u_2, .int .i64 u_3, .int .i64 u_4, .int .i64 u_5, .int .i64 u_6, .slice u_7.a u_7.len u_7.cap, .slice u_8.a u_8.len u_8.cap]) ∧
          K (.agg #[.int .i64 u, .string u_1, .int .i64 u_2, .int .i64 u_3, .int .i64 u_4, .int .i64 u_5, .int .i64 u_6, .slice u_7.a u_7.len u_7.cap, .slice u_8.a u_8.len u_8.cap]) w_31) ∨
        (∃ ch_11 : List PanicEntry, (e_11 = .panicked ch_11) ∧ X ch_11 w_30)) ∨
      (∃ ch_10 : List PanicEntry, (e_10 = .panicked ch_10) ∧ X ch_10 w_29))
     (Calls Tryz.prog 56 #[.pointer b0, .pointer ((some ⟨b_t24, 0, none⟩))] w_28 fun e_12 w_32 =>
      (∃ t131_9 : Int, ∃ t131_10 : ByteArray, ∃ t131_11 : Int, ∃ t131_12 : Int, ∃ t131_13 : Int, ∃ t131_14 : Int, ∃ t131_15 : Int, ∃ t131_16 : Sl, ∃ t131_17 : Sl, (e_12 = .returned (.agg #[.int .i64 t131_9, .string t131_10, .int .i64 t131_11, .int .i64 t131_12, .int .i64 t131_13, .int .i64 t131_14, .int .i64 t131_15, .slice t131_16.a t131_16.len t131_16.cap, .slice t131_17.a t131_17.len t131_17.cap])) ∧
        ∃ w_33 : World, ((Instr.storeAt 31 (.pointer ((some ⟨b_t4, 0, none⟩))) (.agg #[.int .i64 t131_9, .string t131_10, .int .i64 t131_11, .int .i64 t131_12, .int .i64 t131_13, .int .i64 t131_14, .int .i64 t131_15, .slice t131_16.a t131_16.len t131_16.cap, .slice t131_17.a t131_17.len t131_17.cap])).run Tryz.prog w_32 = .ok () w_33) ∧
        ∃ u_9 : Int, ∃ u_10 : ByteArray, ∃ u_11 : Int, ∃ u_12 : Int, ∃ u_13 : Int, ∃ u_14 : Int, ∃ u_15 : Int, ∃ u_16 : Sl, ∃ u_17 : Sl, (At (fun w' => w' = w_33) ⟨b_t4, 0, none⟩ [.int .i64 u_9, .string u_10, .int .i64 u_11, .int .i64 u_12, .int .i64 u_13, .int .i64 u_14, .int .i64 u_15, .slice u_16.a u_16.len u_16.cap, .slice u_17.a u_17.len u_17.cap]) ∧
        K (.agg #[.int .i64 u_9, .string u_10, .int .i64 u_11, .int .i64 u_12, .int .i64 u_13, .int .i64 u_14, .int .i64 u_15, .slice u_16.a u_16.len u_16.cap, .slice u_17.a u_17.len u_17.cap]) w_33) ∨
      (∃ ch_12 : List PanicEntry, (e_12 = .panicked ch_12) ∧ X ch_12 w_32))) w_6) w_3) ∨
  (∃ ch : List PanicEntry, (e = .panicked ch) ∧ X ch w_3)) w_1) w
def sk43 : Sk := (.seq .leaf (.seq .leaf (.seq .leaf (.cut [] [] [25, 26, 27, 28, 29, 30, 31, 32, 33, 34, 35, 36, 37, 38, 39, 40, 41, 42, 43, 44, 45, 46, 47, 48, 49] .leaf (.cut [] [] [50, 51, 52, 53, 54, 55, 56, 57, 58, 59, 60, 61, 62, 63] .leaf (.cut [] [] [64, 65, 66, 67, 68, 69, 70, 71, 72, 73, 74, 75, 76, 77, 78, 79, 80, 81, 82, 83, 84, 85, 86, 87, 88, 89, 90, 91, 92, 93, 94, 95, 96, 97, 98, 99, 100, 101, 102, 103, 104, 105] .leaf .leaf))))))
theorem ok43 : fnOkx Tryz.prog Tryz.f43.ntmps Tryz.f43 sk43 [] = true := by kernel_rfl
theorem eq43 (b0 : Option Addr) (c1_0 : Int) (c1_1 : ByteArray) (c1_2 : Int) (c1_3 : Int) (c1_4 : Int) (c1_5 : Int) (c1_6 : Nat) (c1_7 : ByteArray) (c1_8 : Int) (c1_9 : Sl) (c1_10 : Sl) (X : List PanicEntry → World → Prop) (K : Value → World → Prop) (w : World) : fnFx Tryz.prog cl X Tryz.f43 sk43 [.pointer b0, .agg #[.int .i64 c1_0, .string c1_1, .int .i64 c1_2, .int .i64 c1_3, .int .i64 c1_4, .int .i64 c1_5, .float .f64 c1_6, .string c1_7, .int .i64 c1_8, .slice c1_9.a c1_9.len c1_9.cap, .slice c1_10.a c1_10.len c1_10.cap]] K w = B43 b0 c1_0 c1_1 c1_2 c1_3 c1_4 c1_5 c1_6 c1_7 c1_8 c1_9 c1_10 X K w := by kernel_rfl
theorem call43 (b0 : Option Addr) (c1_0 : Int) (c1_1 : ByteArray) (c1_2 : Int) (c1_3 : Int) (c1_4 : Int) (c1_5 : Int) (c1_6 : Nat) (c1_7 : ByteArray) (c1_8 : Int) (c1_9 : Sl) (c1_10 : Sl) (X : List PanicEntry → World → Prop) (K : Value → World → Prop) (w : World) (h : B43 b0 c1_0 c1_1 c1_2 c1_3 c1_4 c1_5 c1_6 c1_7 c1_8 c1_9 c1_10 X K w) : GetsX Tryz.prog 43 #[.pointer b0, .agg #[.int .i64 c1_0, .string c1_1, .int .i64 c1_2, .int .i64 c1_3, .int .i64 c1_4, .int .i64 c1_5, .float .f64 c1_6, .string c1_7, .int .i64 c1_8, .slice c1_9.a c1_9.len c1_9.cap, .slice c1_10.a c1_10.len c1_10.cap]] w X K :=
  callsx_of (sk := sk43) cl_ok mixed Tryz.func43 ok43 (args := [.pointer b0, .agg #[.int .i64 c1_0, .string c1_1, .int .i64 c1_2, .int .i64 c1_3, .int .i64 c1_4, .int .i64 c1_5, .float .f64 c1_6, .string c1_7, .int .i64 c1_8, .slice c1_9.a c1_9.len c1_9.cap, .slice c1_10.a c1_10.len c1_10.cap]]) (Nat.le_of_ble_eq_true (by kernel_rfl)) (by rw [eq43]; exact h)
def B44 (b0 : Option Addr) (c1_0 : Int) (c1_1 : ByteArray) (c1_2 : Int) (c1_3 : Int) (c1_4 : Int) (c1_5 : Int) (c1_6 : Nat) (c1_7 : ByteArray) (c1_8 : Int) (c1_9 : Sl) (c1_10 : Sl) (X : List PanicEntry → World → Prop) (K : Value → World → Prop) (w : World) : Prop :=
  New (.cells #[.int .i64 c1_0, .string c1_1, .int .i64 c1_2, .int .i64 c1_3, .int .i64 c1_4, .int .i64 c1_5, .float .f64 c1_6, .string c1_7, .int .i64 c1_8, .slice c1_9.a c1_9.len c1_9.cap, .slice c1_10.a c1_10.len c1_10.cap] 38 (0, 0)) (fun b_c3 w_1 =>
  New (.cells #[.int .i64 0, .string (ByteArray.mk #[]), .int .i64 0, .int .i64 0, .int .i64 0, .int .i64 0, .int .i64 0, .slice none 0 0, .slice none 0 0] 31 (0, 0)) (fun b_t4 w_2 =>
  Drw w_2 fun S w_3 =>
  ∃ t11 : Int, (At S ⟨b_c3, 0 + 5, none⟩ [.int .i64 t11]) ∧
  NilP b0 fun a_t13 =>
  ∃ t15 : Int, (At S (Addr.add a_t13 0) [.int .i64 t15]) ∧
  Calls Tryz.prog 40 #[.bool (decide (t11 ≥ t15)), .int .i64 7] w_3 fun e w_4 =>
  ((e = .returned (.tuple #[])) ∧
    (S w_4) ∧
    ∃ t20 : Int, (At (fun w' => w' = w_4) ⟨b_c3, 0 + 5, none⟩ [.int .i64 t20]) ∧
    NilP b0 fun a_t21 =>
    ∃ w_5 : World, ((Instr.storeAt 3 (.pointer ((some (Addr.add a_t21 0)))) (.int .i64 t20)).run Tryz.prog w_4 = .ok () w_5) ∧
    NilP b0 fun a_t24 =>
    ∃ t26 : Option Nat, (At (fun w' => w' = w_5) ⟨a_t24.block, a_t24.off + 3, none⟩ [.map t26]) ∧
    Calls Tryz.prog 55 #[.map t26] w_5 fun e_1 w_6 =>
    (∃ t27 : Value, (e_1 = .returned (t27)) ∧
      Calls Tryz.prog 50 #[t27] w_6 fun e_2 w_7 =>
      (∃ t28 : Sl, (e_2 = .returned (.slice t28.a t28.len t28.cap)) ∧
        ∃ (I : Int → World → Prop) (μ : Int → World → Nat), (I 0 w_7) ∧ ∀ (z : Env) (t30 : Int) (w_8 : World), I t30 w_8 →
        Br (decide (t30 < (↑t28.len : Int)))
         (Rng t30 t28.len (NilP t28.a fun a_t32 =>
          ∃ t33 : Int, (At (fun w' => w' = w_8) (Addr.add a_t32 t30.toNat) [.int .i64 t33]) ∧
          NilP b0 fun a_t35 =>
          ∃ t37 : Option Nat, (At (fun w' => w' = w_8) ⟨a_t35.block, a_t35.off + 3, none⟩ [.map t37]) ∧
          ∃ t39 : Option Addr, (∀ w', (fun w' => w' = w_8) w' → ((Instr.lookup 78 (.map t37) (.int .i64 t33) false)).run Tryz.prog w' = .ok (.pointer t39) w') ∧
          ∃ (J : Bool → World → Prop), (Drw w_8 fun S_1 w_9 =>
            NilP t39 fun a_t41 =>
            ∃ t43 : Int, (At S_1 ⟨a_t41.block, a_t41.off + 4, none⟩ [.int .i64 t43]) ∧
            Br (t43 == 1)
             (NilP t39 fun a_t47 =>
              ∃ t49 : Int, (At S_1 ⟨a_t47.block, a_t47.off + 5, none⟩ [.int .i64 t49]) ∧
              NilP b0 fun a_t51 =>
              ∃ t53 : Int, (At S_1 (Addr.add a_t51 0) [.int .i64 t53]) ∧
              J (decide (t49 ≤ t53)) w_9)
             (J false w_9)) ∧
          ∀ (z_1 : Env) (t55 : Bool) (w_10 : World), J t55 w_10 →
          Br t55
           (Drw w_10 fun S_2 w_11 =>
            NilP b0 fun a_t57 =>
            ∃ t59 : Option Nat, (At S_2 ⟨a_t57.block, a_t57.off + 2, none⟩ [.map t59]) ∧
            NilP t39 fun a_t61 =>
            ∃ t63 : Int, (At S_2 ⟨a_t61.block, a_t61.off + 1, none⟩ [.int .i64 t63]) ∧
            ∃ t64 : Option Addr, ∃ t64_1 : Option Addr, (∀ w', S_2 w' → ((Instr.lookup 77 (.map t59) (.int .i64 t63) false)).run Tryz.prog w' = .ok (.agg #[.pointer t64, .pointer t64_1]) w') ∧
            Calls Tryz.prog 115 #[.pointer t64, .int .i64 t33] w_11 fun e_3 w_12 =>
            (∃ t67 : Int, (e_3 = .returned (.int .i64 t67)) ∧
              (S_2 w_12) ∧
              NilP b0 fun a_t69 =>
              ∃ t71 : Option Nat, (At (fun w' => w' = w_12) ⟨a_t69.block, a_t69.off + 3, none⟩ [.map t71]) ∧
              ∃ w_13 : World, ((Builtin.delete_ #[78, 3] 0 #[.map t71, .int .i64 t33]).run Tryz.prog w_12 = .ok (.tuple #[]) w_13) ∧
              (I (IntKind.i64.wrap (t30 + 1)) w_13) ∧ μ (IntKind.i64.wrap (t30 + 1)) w_13 < μ t30 w_8) ∨
            (∃ ch_3 : List PanicEntry, (e_3 = .panicked ch_3) ∧ X ch_3 w_12))
           ((I (IntKind.i64.wrap (t30 + 1)) w_10) ∧ μ (IntKind.i64.wrap (t30 + 1)) w_10 < μ t30 w_8)))
         (NilP b0 fun a_t75 =>
          ∃ t77 : Option Nat, (At (fun w' => w' = w_8) ⟨a_t75.block, a_t75.off + 2, none⟩ [.map t77]) ∧
          Calls Tryz.prog 51 #[.map t77] w_8 fun e_4 w_14 =>
          (∃ t78 : Value, (e_4 = .returned (t78)) ∧
            Calls Tryz.prog 50 #[t78] w_14 fun e_5 w_15 =>
            (∃ t79 : Sl, (e_5 = .returned (.slice t79.a t79.len t79.cap)) ∧
              ∃ (I_1 : Int → World → Prop) (μ_1 : Int → World → Nat), (I_1 0 w_15) ∧ ∀ (z_2 : Env) (t81 : Int) (w_16 : World), I_1 t81 w_16 →
              Br (decide (t81 < (↑t79.len : Int)))
               (Rng t81 t79.len (NilP t79.a fun a_t83 =>
                ∃ t84 : Int, (At (fun w' => w' = w_16) (Addr.add a_t83 t81.toNat) [.int .i64 t84]) ∧
                Calls Tryz.prog 114 #[.pointer b0, .int .i64 t84] w_16 fun e_6 w_17 =>
                ((e_6 = .returned (.tuple #[])) ∧
                  (I_1 (IntKind.i64.wrap (t81 + 1)) w_17) ∧ μ_1 (IntKind.i64.wrap (t81 + 1)) w_17 < μ_1 t81 w_16) ∨
                (∃ ch_6 : List PanicEntry, (e_6 = .panicked ch_6) ∧ X ch_6 w_17)))
               (NilP b0 fun a_t90 =>
                ∃ t92 : Int, (At (fun w' => w' = w_16) (Addr.add a_t90 0) [.int .i64 t92]) ∧
                ∃ w_18 : World, ((Instr.storeAt 31 (.pointer ((some ⟨b_t4, 0, none⟩))) (.agg #[.int .i64 0, .string (ByteArray.mk #[]), .int .i64 0, .int .i64 0, .int .i64 0, .int .i64 0, .int .i64 t92, .slice none 0 0, .slice none 0 0])).run Tryz.prog w_16 = .ok () w_18) ∧
                ∃ u : Int, ∃ u_1 : ByteArray, ∃ u_2 : Int, ∃ u_3 : Int, ∃ u_4 : Int, ∃ u_5 : Int, ∃ u_6 : Int, ∃ u_7 : Sl, ∃ u_8 : Sl, (At (fun w' => w' = w_18) ⟨b_t4, 0, none⟩ [.int .i64 u, .string u_1, .int .i64 u_2, .int .i64 u_3, .int .i64 u_4, .int .i64 u_5, .int .i64 u_6, .slice u_7.a u_7.len u_7.cap, .slice u_8.a u_8.len u_8.cap]) ∧
                K (.agg #[.int .i64 u, .string u_1, .int .i64 u_2, .int .i64 u_3, .int .i64 u_4, .int .i64 u_5, .int .i64 u_6, .slice u_7.a u_7.len u_7.cap, .slice u_8.a u_8.len u_8.cap]) w_18)) ∨
            (∃ ch_5 : List PanicEntry, (e_5 = .panicked ch_5) ∧ X ch_5 w_15)) ∨
          (∃ ch_4 : List PanicEntry, (e_4 = .panicked ch_4) ∧ X ch_4 w_14))) ∨
      (∃ ch_2 : List PanicEntry, (e_2 = .panicked ch_2) ∧ X ch_2 w_7)) ∨
    (∃ ch_1 : List PanicEntry, (e_1 = .panicked ch_1) ∧ X ch_1 w_6)) ∨
  (∃ ch : List PanicEntry, (e = .panicked ch) ∧ X ch w_4)) w_1) w
def sk44 : Sk := (.seq .leaf (.seq .leaf (.seq .leaf (.seq (.seq .leaf (.block (.loop [30] [(.int .i64)] [6, 7, 30, 31, 32, 33, 34, 35, 36, 37, 38, 39, 40, 41, 42, 43, 44, 45, 46, 47, 48, 49, 50, 51, 52, 53, 54, 55, 56, 57, 58, 59, 60, 61, 62, 63, 64, 65, 66, 67, 68, 69, 70, 71, 72, 73] (.seq .leaf (.seq .leaf (.seq (.block (.seq .leaf (.seq .leaf (.cut [55] [.bool] [40, 41, 42, 43, 44, 45, 46, 47, 48, 49, 50, 51, 52, 53, 54, 55] .leaf .leaf)))) .leaf)))))) (.seq (.seq .leaf (.block (.loop [81] [(.int .i64)] [9, 81, 82, 83, 84, 85, 86, 87, 88] .leaf))) .leaf)))))
theorem ok44 : fnOkx Tryz.prog Tryz.f44.ntmps Tryz.f44 sk44 [] = true := by kernel_rfl
theorem eq44 (b0 : Option Addr) (c1_0 : Int) (c1_1 : ByteArray) (c1_2 : Int) (c1_3 : Int) (c1_4 : Int) (c1_5 : Int) (c1_6 : Nat) (c1_7 : ByteArray) (c1_8 : Int) (c1_9 : Sl) (c1_10 : Sl) (X : List PanicEntry → World → Prop) (K : Value → World → Prop) (w : World) : fnFx Tryz.prog cl X Tryz.f44 sk44 [.pointer b0, .agg #[.int .i64 c1_0, .string c1_1, .int .i64 c1_2, .int .i64 c1_3, .int .i64 c1_4, .int .i64 c1_5, .float .f64 c1_6, .string c1_7, .int .i64 c1_8, .slice c1_9.a c1_9.len c1_9.cap, .slice c1_10.a c1_10.len c1_10.cap]] K w = B44 b0 c1_0 c1_1 c1_2 c1_3 c1_4 c1_5 c1_6 c1_7 c1_8 c1_9 c1_10 X K w := by kernel_rfl
theorem call44 (b0 : Option Addr) (c1_0 : Int) (c1_1 : ByteArray) (c1_2 : Int) (c1_3 : Int) (c1_4 : Int) (c1_5 : Int) (c1_6 : Nat) (c1_7 : ByteArray) (c1_8 : Int) (c1_9 : Sl) (c1_10 : Sl) (X : List PanicEntry → World → Prop) (K : Value → World → Prop) (w : World) (h : B44 b0 c1_0 c1_1 c1_2 c1_3 c1_4 c1_5 c1_6 c1_7 c1_8 c1_9 c1_10 X K w) : GetsX Tryz.prog 44 #[.pointer b0, .agg #[.int .i64 c1_0, .string c1_1, .int .i64 c1_2, .int .i64 c1_3, .int .i64 c1_4, .int .i64 c1_5, .float .f64 c1_6, .string c1_7, .int .i64 c1_8, .slice c1_9.a c1_9.len c1_9.cap, .slice c1_10.a c1_10.len c1_10.cap]] w X K :=
  callsx_of (sk := sk44) cl_ok mixed Tryz.func44 ok44 (args := [.pointer b0, .agg #[.int .i64 c1_0, .string c1_1, .int .i64 c1_2, .int .i64 c1_3, .int .i64 c1_4, .int .i64 c1_5, .float .f64 c1_6, .string c1_7, .int .i64 c1_8, .slice c1_9.a c1_9.len c1_9.cap, .slice c1_10.a c1_10.len c1_10.cap]]) (Nat.le_of_ble_eq_true (by kernel_rfl)) (by rw [eq44]; exact h)
def B45 (b0 : Option Addr) (x1 : Option Addr) (c2_0 : Int) (c2_1 : ByteArray) (c2_2 : Int) (c2_3 : Int) (c2_4 : Int) (c2_5 : Int) (c2_6 : Nat) (c2_7 : ByteArray) (c2_8 : Int) (c2_9 : Sl) (c2_10 : Sl) (X : List PanicEntry → World → Prop) (K : Value → World → Prop) (w : World) : Prop :=
  New (.cells #[.int .i64 c2_0, .string c2_1, .int .i64 c2_2, .int .i64 c2_3, .int .i64 c2_4, .int .i64 c2_5, .float .f64 c2_6, .string c2_7, .int .i64 c2_8, .slice c2_9.a c2_9.len c2_9.cap, .slice c2_10.a c2_10.len c2_10.cap] 38 (0, 0)) (fun b_c5 w_1 =>
  New (.cells #[.int .i64 0, .string (ByteArray.mk #[]), .int .i64 0, .int .i64 0, .int .i64 0, .int .i64 0, .int .i64 0, .slice none 0 0, .slice none 0 0] 31 (0, 0)) (fun b_t6 w_2 =>
  Drw w_2 fun S w_3 =>
  NilP b0 fun a_t12 =>
  ∃ t14 : Option Nat, (At S ⟨a_t12.block, a_t12.off + 2, none⟩ [.map t14]) ∧
  NilP x1 fun a_t16 =>
  ∃ t18 : Int, (At S ⟨a_t16.block, a_t16.off + 1, none⟩ [.int .i64 t18]) ∧
  ∃ t19 : Option Addr, ∃ t19_1 : Option Addr, (∀ w', S w' → ((Instr.lookup 77 (.map t14) (.int .i64 t18) false)).run Tryz.prog w' = .ok (.agg #[.pointer t19, .pointer t19_1]) w') ∧
  New (.cells #[.pointer none, .pointer none] 102 (0, 0)) (fun b_p7 w_4 =>
  (S w_4) ∧
  ∃ w_5 : World, ((Instr.storeAt 102 (.pointer ((some ⟨b_p7, 0, none⟩))) (.agg #[.pointer t19, .pointer t19_1])).run Tryz.prog w_4 = .ok () w_5) ∧
  NilP x1 fun a_t21 =>
  ∃ t23 : Int, (At (fun w' => w' = w_5) ⟨a_t21.block, a_t21.off + 4, none⟩ [.int .i64 t23]) ∧
  ∃ t26 : Int, (At (fun w' => w' = w_5) ⟨b_c5, 0, none⟩ [.int .i64 t26]) ∧
  Br (t26 == 3)
   (NilP x1 fun a_t30 =>
    ∃ t32 : Int, (At (fun w' => w' = w_5) ⟨a_t30.block, a_t30.off + 4, none⟩ [.int .i64 t32]) ∧
    Calls Tryz.prog 40 #[.bool (t32 == 1), .int .i64 7] w_5 fun e w_6 =>
    ((e = .returned (.tuple #[])) ∧
      NilP x1 fun a_t37 =>
      ∃ w_7 : World, ((Instr.storeAt 3 (.pointer ((some ⟨a_t37.block, a_t37.off + 4, none⟩))) (.int .i64 2)).run Tryz.prog w_6 = .ok () w_7) ∧
      NilP x1 fun a_t39 =>
      ∃ w_8 : World, ((Instr.storeAt 3 (.pointer ((some ⟨a_t39.block, a_t39.off + 5, none⟩))) (.int .i64 0)).run Tryz.prog w_7 = .ok () w_8) ∧
      Calls Tryz.prog 56 #[.pointer b0, .pointer x1] w_8 fun e_1 w_9 =>
      (∃ t109 : Int, ∃ t109_1 : ByteArray, ∃ t109_2 : Int, ∃ t109_3 : Int, ∃ t109_4 : Int, ∃ t109_5 : Int, ∃ t109_6 : Int, ∃ t109_7 : Sl, ∃ t109_8 : Sl, (e_1 = .returned (.agg #[.int .i64 t109, .string t109_1, .int .i64 t109_2, .int .i64 t109_3, .int .i64 t109_4, .int .i64 t109_5, .int .i64 t109_6, .slice t109_7.a t109_7.len t109_7.cap, .slice t109_8.a t109_8.len t109_8.cap])) ∧
        ∃ w_10 : World, ((Instr.storeAt 31 (.pointer ((some ⟨b_t6, 0, none⟩))) (.agg #[.int .i64 t109, .string t109_1, .int .i64 t109_2, .int .i64 t109_3, .int .i64 t109_4, .int .i64 t109_5, .int .i64 t109_6, .slice t109_7.a t109_7.len t109_7.cap, .slice t109_8.a t109_8.len t109_8.cap])).run Tryz.prog w_9 = .ok () w_10) ∧
        ∃ u : Int, ∃ u_1 : ByteArray, ∃ u_2 : Int, ∃ u_3 : Int, ∃ u_4 : Int, ∃ u_5 : Int, ∃ u_6 : Int, ∃ u_7 : Sl, ∃ u_8 : Sl, (At (fun w' => w' = w_10) ⟨b_t6, 0, none⟩ [.int .i64 u, .string u_1, .int .i64 u_2, .int .i64 u_3, .int .i64 u_4, .int .i64 u_5, .int .i64 u_6, .slice u_7.a u_7.len u_7.cap, .slice u_8.a u_8.len u_8.cap]) ∧
        K (.agg #[.int .i64 u, .string u_1, .int .i64 u_2, .int .i64 u_3, .int .i64 u_4, .int .i64 u_5, .int .i64 u_6, .slice u_7.a u_7.len u_7.cap, .slice u_8.a u_8.len u_8.cap]) w_10) ∨
      (∃ ch_1 : List PanicEntry, (e_1 = .panicked ch_1) ∧ X ch_1 w_9)) ∨
    (∃ ch : List PanicEntry, (e = .panicked ch) ∧ X ch w_6))
   (Br (t26 == 4)
     (∃ (J : World → Prop), (Br (t23 == 3)
         (Drw w_5 fun S_1 w_11 =>
          ∃ t45 : Option Addr, (At S_1 ⟨b_p7, 0 + 1, none⟩ [.pointer t45]) ∧
          NilP x1 fun a_t47 =>
          ∃ t49 : Int, (At S_1 (Addr.add a_t47 0) [.int .i64 t49]) ∧
          Calls Tryz.prog 116 #[.pointer t45, .int .i64 t49] w_11 fun e_2 w_12 =>
          (∃ t50 : Int, (e_2 = .returned (.int .i64 t50)) ∧
            J  w_12) ∨
          (∃ ch_2 : List PanicEntry, (e_2 = .panicked ch_2) ∧ X ch_2 w_12))
         (Drw w_5 fun S_2 w_13 =>
          ∃ t52 : Option Addr, (At S_2 ⟨b_p7, 0, none⟩ [.pointer t52]) ∧
          NilP x1 fun a_t54 =>
          ∃ t56 : Int, (At S_2 (Addr.add a_t54 0) [.int .i64 t56]) ∧
          Calls Tryz.prog 115 #[.pointer t52, .int .i64 t56] w_13 fun e_3 w_14 =>
          (∃ t57 : Int, (e_3 = .returned (.int .i64 t57)) ∧
            J  w_14) ∨
          (∃ ch_3 : List PanicEntry, (e_3 = .panicked ch_3) ∧ X ch_3 w_14))) ∧
      ∀ (z : Env)  (w_15 : World), J  w_15 →
      Drw w_15 fun S_3 w_16 =>
      NilP b0 fun a_t59 =>
      ∃ t61 : Option Nat, (At S_3 ⟨a_t59.block, a_t59.off + 3, none⟩ [.map t61]) ∧
      NilP x1 fun a_t63 =>
      ∃ t65 : Int, (At S_3 (Addr.add a_t63 0) [.int .i64 t65]) ∧
      ∃ w_17 : World, ((Builtin.delete_ #[78, 3] 0 #[.map t61, .int .i64 t65]).run Tryz.prog w_16 = .ok (.tuple #[]) w_17) ∧
      NilP x1 fun a_t68 =>
      ∃ t70 : Int, (At (fun w' => w' = w_17) ⟨a_t68.block, a_t68.off + 1, none⟩ [.int .i64 t70]) ∧
      Calls Tryz.prog 114 #[.pointer b0, .int .i64 t70] w_17 fun e_4 w_18 =>
      ((e_4 = .returned (.tuple #[])) ∧
        ∃ t73 : ByteArray, (At (fun w' => w' = w_18) ⟨b_c5, 0 + 1, none⟩ [.string t73]) ∧
        ∃ w_19 : World, ((Instr.storeAt 31 (.pointer ((some ⟨b_t6, 0, none⟩))) (.agg #[.int .i64 0, .string t73, .int .i64 0, .int .i64 0, .int .i64 0, .int .i64 0, .int .i64 0, .slice none 0 0, .slice none 0 0])).run Tryz.prog w_18 = .ok () w_19) ∧
        ∃ u_9 : Int, ∃ u_10 : ByteArray, ∃ u_11 : Int, ∃ u_12 : Int, ∃ u_13 : Int, ∃ u_14 : Int, ∃ u_15 : Int, ∃ u_16 : Sl, ∃ u_17 : Sl, (At (fun w' => w' = w_19) ⟨b_t6, 0, none⟩ [.int .i64 u_9, .string u_10, .int .i64 u_11, .int .i64 u_12, .int .i64 u_13, .int .i64 u_14, .int .i64 u_15, .slice u_16.a u_16.len u_16.cap, .slice u_17.a u_17.len u_17.cap]) ∧
        K (.agg #[.int .i64 u_9, .string u_10, .int .i64 u_11, .int .i64 u_12, .int .i64 u_13, .int .i64 u_14, .int .i64 u_15, .slice u_16.a u_16.len u_16.cap, .slice u_17.a u_17.len u_17.cap]) w_19) ∨
      (∃ ch_4 : List PanicEntry, (e_4 = .panicked ch_4) ∧ X ch_4 w_18))
     (Br (t26 == 5)
       (Calls Tryz.prog 40 #[.bool (!t23 == 3), .int .i64 7] w_5 fun e_5 w_20 =>
        ((e_5 = .returned (.tuple #[])) ∧
          Drw w_20 fun S_4 w_21 =>
          ∃ t81 : Option Addr, (At S_4 ⟨b_p7, 0, none⟩ [.pointer t81]) ∧
          NilP x1 fun a_t83 =>
          ∃ t85 : Int, (At S_4 (Addr.add a_t83 0) [.int .i64 t85]) ∧
          ∃ t87 : ByteArray, (At S_4 ⟨b_c5, 0 + 7, none⟩ [.string t87]) ∧
          Calls Tryz.prog 117 #[.pointer t81, .int .i64 t85, .string t87] w_21 fun e_6 w_22 =>
          (∃ t88 : Int, (e_6 = .returned (.int .i64 t88)) ∧
            Calls Tryz.prog 110 #[.int .i64 t88] w_22 fun e_7 w_23 =>
            ((e_7 = .returned (.tuple #[])) ∧
              (S_4 w_23) ∧
              Calls Tryz.prog 56 #[.pointer b0, .pointer x1] w_23 fun e_8 w_24 =>
              (∃ t109_9 : Int, ∃ t109_10 : ByteArray, ∃ t109_11 : Int, ∃ t109_12 : Int, ∃ t109_13 : Int, ∃ t109_14 : Int, ∃ t109_15 : Int, ∃ t109_16 : Sl, ∃ t109_17 : Sl, (e_8 = .returned (.agg #[.int .i64 t109_9, .string t109_10, .int .i64 t109_11, .int .i64 t109_12, .int .i64 t109_13, .int .i64 t109_14, .int .i64 t109_15, .slice t109_16.a t109_16.len t109_16.cap, .slice t109_17.a t109_17.len t109_17.cap])) ∧
                ∃ w_25 : World, ((Instr.storeAt 31 (.pointer ((some ⟨b_t6, 0, none⟩))) (.agg #[.int .i64 t109_9, .string t109_10, .int .i64 t109_11, .int .i64 t109_12, .int .i64 t109_13, .int .i64 t109_14, .int .i64 t109_15, .slice t109_16.a t109_16.len t109_16.cap, .slice t109_17.a t109_17.len t109_17.cap])).run Tryz.prog w_24 = .ok () w_25) ∧
                ∃ u_18 : Int, ∃ u_19 : ByteArray, ∃ u_20 : Int, ∃ u_21 : Int, ∃ u_22 : Int, ∃ u_23 : Int, ∃ u_24 : Int, ∃ u_25 : Sl, ∃ u_26 : Sl, (At (fun w' => w' = w_25) ⟨b_t6, 0, none⟩ [.int .i64 u_18, .string u_19, .int .i64 u_20, .int .i64 u_21, .int .i64 u_22, .int .i64 u_23, .int .i64 u_24, .slice u_25.a u_25.len u_25.cap, .slice u_26.a u_26.len u_26.cap]) ∧
                K (.agg #[.int .i64 u_18, .string u_19, .int .i64 u_20, .int .i64 u_21, .int .i64 u_22, .int .i64 u_23, .int .i64 u_24, .slice u_25.a u_25.len u_25.cap, .slice u_26.a u_26.len u_26.cap]) w_25) ∨
              (∃ ch_8 : List PanicEntry, (e_8 = .panicked ch_8) ∧ X ch_8 w_24)) ∨
            (∃ ch_7 : List PanicEntry, (e_7 = .panicked ch_7) ∧ X ch_7 w_23)) ∨
          (∃ ch_6 : List PanicEntry, (e_6 = .panicked ch_6) ∧ X ch_6 w_22)) ∨
        (∃ ch_5 : List PanicEntry, (e_5 = .panicked ch_5) ∧ X ch_5 w_20))
       (Br (t26 == 6)
         (Calls Tryz.prog 40 #[.bool (!t23 == 3), .int .i64 7] w_5 fun e_9 w_26 =>
          ((e_9 = .returned (.tuple #[])) ∧
            Drw w_26 fun S_5 w_27 =>
            ∃ t97 : Option Addr, (At S_5 ⟨b_p7, 0, none⟩ [.pointer t97]) ∧
            NilP x1 fun a_t99 =>
            ∃ t101 : Int, (At S_5 (Addr.add a_t99 0) [.int .i64 t101]) ∧
            Calls Tryz.prog 118 #[.pointer t97, .int .i64 t101] w_27 fun e_10 w_28 =>
            (∃ t102 : Sl, ∃ t102_1 : Int, (e_10 = .returned (.tuple #[.slice t102.a t102.len t102.cap, .int .i64 t102_1])) ∧
              Calls Tryz.prog 110 #[.int .i64 t102_1] w_28 fun e_11 w_29 =>
              ((e_11 = .returned (.tuple #[])) ∧
                Calls Tryz.prog 56 #[.pointer b0, .pointer x1] w_29 fun e_12 w_30 =>
                (∃ t109_18 : Int, ∃ t109_19 : ByteArray, ∃ t109_20 : Int, ∃ t109_21 : Int, ∃ t109_22 : Int, ∃ t109_23 : Int, ∃ t109_24 : Int, ∃ t109_25 : Sl, ∃ t109_26 : Sl, (e_12 = .returned (.agg #[.int .i64 t109_18, .string t109_19, .int .i64 t109_20, .int .i64 t109_21, .int .i64 t109_22, .int .i64 t109_23, .int .i64 t109_24, .slice t109_25.a t109_25.len t109_25.cap, .slice t109_26.a t109_26.len t109_26.cap])) ∧
                  ∃ w_31 : World, ((Instr.storeAt 31 (.pointer ((some ⟨b_t6, 0, none⟩))) (.agg #[.int .i64 t109_18, .string t109_19, .int .i64 t109_20, .int .i64 t109_21, .int .i64 t109_22, .int .i64 t109_23, .int .i64 t109_24, .slice t109_25.a t109_25.len t109_25.cap, .slice t109_26.a t109_26.len t109_26.cap])).run Tryz.prog w_30 = .ok () w_31) ∧
                  ∃ u_27 : Int, ∃ u_28 : ByteArray, ∃ u_29 : Int, ∃ u_30 : Int, ∃ u_31 : Int, ∃ u_32 : Int, ∃ u_33 : Int, ∃ u_34 : Sl, ∃ u_35 : Sl, (At (fun w' => w' = w_31) ⟨b_t6, 0, none⟩ [.int .i64 u_27, .string u_28, .int .i64 u_29, .int .i64 u_30, .int .i64 u_31, .int .i64 u_32, .int .i64 u_33, .slice u_34.a u_34.len u_34.cap, .slice u_35.a u_35.len u_35.cap]) ∧
                  K (.agg #[.int .i64 u_27, .string u_28, .int .i64 u_29, .int .i64 u_30, .int .i64 u_31, .int .i64 u_32, .int .i64 u_33, .slice u_34.a u_34.len u_34.cap, .slice u_35.a u_35.len u_35.cap]) w_31) ∨
                (∃ ch_12 : List PanicEntry, (e_12 = .panicked ch_12) ∧ X ch_12 w_30)) ∨
              (∃ ch_11 : List PanicEntry, (e_11 = .panicked ch_11) ∧ X ch_11 w_29)) ∨
            (∃ ch_10 : List PanicEntry, (e_10 = .panicked ch_10) ∧ X ch_10 w_28)) ∨
          (∃ ch_9 : List PanicEntry, (e_9 = .panicked ch_9) ∧ X ch_9 w_26))
         (Calls Tryz.prog 56 #[.pointer b0, .pointer x1] w_5 fun e_13 w_32 =>
          (∃ t109_27 : Int, ∃ t109_28 : ByteArray, ∃ t109_29 : Int, ∃ t109_30 : Int, ∃ t109_31 : Int, ∃ t109_32 : Int, ∃ t109_33 : Int, ∃ t109_34 : Sl, ∃ t109_35 : Sl, (e_13 = .returned (.agg #[.int .i64 t109_27, .string t109_28, .int .i64 t109_29, .int .i64 t109_30, .int .i64 t109_31, .int .i64 t109_32, .int .i64 t109_33, .slice t109_34.a t109_34.len t109_34.cap, .slice t109_35.a t109_35.len t109_35.cap])) ∧
            ∃ w_33 : World, ((Instr.storeAt 31 (.pointer ((some ⟨b_t6, 0, none⟩))) (.agg #[.int .i64 t109_27, .string t109_28, .int .i64 t109_29, .int .i64 t109_30, .int .i64 t109_31, .int .i64 t109_32, .int .i64 t109_33, .slice t109_34.a t109_34.len t109_34.cap, .slice t109_35.a t109_35.len t109_35.cap])).run Tryz.prog w_32 = .ok () w_33) ∧
            ∃ u_36 : Int, ∃ u_37 : ByteArray, ∃ u_38 : Int, ∃ u_39 : Int, ∃ u_40 : Int, ∃ u_41 : Int, ∃ u_42 : Int, ∃ u_43 : Sl, ∃ u_44 : Sl, (At (fun w' => w' = w_33) ⟨b_t6, 0, none⟩ [.int .i64 u_36, .string u_37, .int .i64 u_38, .int .i64 u_39, .int .i64 u_40, .int .i64 u_41, .int .i64 u_42, .slice u_43.a u_43.len u_43.cap, .slice u_44.a u_44.len u_44.cap]) ∧
            K (.agg #[.int .i64 u_36, .string u_37, .int .i64 u_38, .int .i64 u_39, .int .i64 u_40, .int .i64 u_41, .int .i64 u_42, .slice u_43.a u_43.len u_43.cap, .slice u_44.a u_44.len u_44.cap]) w_33) ∨
          (∃ ch_13 : List PanicEntry, (e_13 = .panicked ch_13) ∧ X ch_13 w_32)))))) w_3) w_1) w
def sk45 : Sk := (.seq .leaf (.seq .leaf (.seq .leaf (.seq (.seq .leaf (.block (.seq .leaf (.cond .leaf (.seq .leaf (.cond (.cut [] [] [43, 44, 45, 46, 47, 48, 49, 50, 51, 52, 53, 54, 55, 56, 57] .leaf .leaf) .leaf)))))) .leaf))))
theorem ok45 : fnOkx Tryz.prog Tryz.f45.ntmps Tryz.f45 sk45 [] = true := by kernel_rfl
theorem eq45 (b0 : Option Addr) (x1 : Option Addr) (c2_0 : Int) (c2_1 : ByteArray) (c2_2 : Int) (c2_3 : Int) (c2_4 : Int) (c2_5 : Int) (c2_6 : Nat) (c2_7 : ByteArray) (c2_8 : Int) (c2_9 : Sl) (c2_10 : Sl) (X : List PanicEntry → World → Prop) (K : Value → World → Prop) (w : World) : fnFx Tryz.prog cl X Tryz.f45 sk45 [.pointer b0, .pointer x1, .agg #[.int .i64 c2_0, .string c2_1, .int .i64 c2_2, .int .i64 c2_3, .int .i64 c2_4, .int .i64 c2_5, .float .f64 c2_6, .string c2_7, .int .i64 c2_8, .slice c2_9.a c2_9.len c2_9.cap, .slice c2_10.a c2_10.len c2_10.cap]] K w = B45 b0 x1 c2_0 c2_1 c2_2 c2_3 c2_4 c2_5 c2_6 c2_7 c2_8 c2_9 c2_10 X K w := by kernel_rfl
theorem call45 (b0 : Option Addr) (x1 : Option Addr) (c2_0 : Int) (c2_1 : ByteArray) (c2_2 : Int) (c2_3 : Int) (c2_4 : Int) (c2_5 : Int) (c2_6 : Nat) (c2_7 : ByteArray) (c2_8 : Int) (c2_9 : Sl) (c2_10 : Sl) (X : List PanicEntry → World → Prop) (K : Value → World → Prop) (w : World) (h : B45 b0 x1 c2_0 c2_1 c2_2 c2_3 c2_4 c2_5 c2_6 c2_7 c2_8 c2_9 c2_10 X K w) : GetsX Tryz.prog 45 #[.pointer b0, .pointer x1, .agg #[.int .i64 c2_0, .string c2_1, .int .i64 c2_2, .int .i64 c2_3, .int .i64 c2_4, .int .i64 c2_5, .float .f64 c2_6, .string c2_7, .int .i64 c2_8, .slice c2_9.a c2_9.len c2_9.cap, .slice c2_10.a c2_10.len c2_10.cap]] w X K :=
  callsx_of (sk := sk45) cl_ok mixed Tryz.func45 ok45 (args := [.pointer b0, .pointer x1, .agg #[.int .i64 c2_0, .string c2_1, .int .i64 c2_2, .int .i64 c2_3, .int .i64 c2_4, .int .i64 c2_5, .float .f64 c2_6, .string c2_7, .int .i64 c2_8, .slice c2_9.a c2_9.len c2_9.cap, .slice c2_10.a c2_10.len c2_10.cap]]) (Nat.le_of_ble_eq_true (by kernel_rfl)) (by rw [eq45]; exact h)
def B15 (b0 : Option Addr) (c1_0 : Int) (c1_1 : ByteArray) (c1_2 : Int) (c1_3 : Int) (c1_4 : Int) (c1_5 : Int) (c1_6 : Nat) (c1_7 : ByteArray) (c1_8 : Int) (c1_9 : Sl) (c1_10 : Sl) (K : Value → World → Prop) (w : World) : Prop :=
  New (.cells #[.int .i64 c1_0, .string c1_1, .int .i64 c1_2, .int .i64 c1_3, .int .i64 c1_4, .int .i64 c1_5, .float .f64 c1_6, .string c1_7, .int .i64 c1_8, .slice c1_9.a c1_9.len c1_9.cap, .slice c1_10.a c1_10.len c1_10.cap] 38 (0, 0)) (fun b_c3 w_1 =>
  New (.cells #[.int .i64 0, .string (ByteArray.mk #[]), .int .i64 0, .int .i64 0, .int .i64 0, .int .i64 0, .int .i64 0, .slice none 0 0, .slice none 0 0] 31 (0, 0)) (fun b_r4 w_2 =>
  ∃ t5 : Int, ∃ t5_1 : ByteArray, ∃ t5_2 : Int, ∃ t5_3 : Int, ∃ t5_4 : Int, ∃ t5_5 : Int, ∃ t5_6 : Nat, ∃ t5_7 : ByteArray, ∃ t5_8 : Int, ∃ t5_9 : Sl, ∃ t5_10 : Sl, (At (fun w' => w' = w_2) ⟨b_c3, 0, none⟩ [.int .i64 t5, .string t5_1, .int .i64 t5_2, .int .i64 t5_3, .int .i64 t5_4, .int .i64 t5_5, .float .f64 t5_6, .string t5_7, .int .i64 t5_8, .slice t5_9.a t5_9.len t5_9.cap, .slice t5_10.a t5_10.len t5_10.cap]) ∧
  Calls Tryz.prog 41 #[.agg #[.int .i64 t5, .string t5_1, .int .i64 t5_2, .int .i64 t5_3, .int .i64 t5_4, .int .i64 t5_5, .float .f64 t5_6, .string t5_7, .int .i64 t5_8, .slice t5_9.a t5_9.len t5_9.cap, .slice t5_10.a t5_10.len t5_10.cap]] w_2 fun e w_3 =>
  (∃ t6 : Bool, (e = .returned (.bool t6)) ∧
    Calls Tryz.prog 40 #[.bool t6, .int .i64 1] w_3 fun e_1 w_4 =>
    ((e_1 = .returned (.tuple #[])) ∧
      ∃ t9 : Int, (At (fun w' => w' = w_4) ⟨b_c3, 0, none⟩ [.int .i64 t9]) ∧
      Br (t9 == 1)
       (∃ t13 : Int, ∃ t13_1 : ByteArray, ∃ t13_2 : Int, ∃ t13_3 : Int, ∃ t13_4 : Int, ∃ t13_5 : Int, ∃ t13_6 : Nat, ∃ t13_7 : ByteArray, ∃ t13_8 : Int, ∃ t13_9 : Sl, ∃ t13_10 : Sl, (At (fun w' => w' = w_4) ⟨b_c3, 0, none⟩ [.int .i64 t13, .string t13_1, .int .i64 t13_2, .int .i64 t13_3, .int .i64 t13_4, .int .i64 t13_5, .float .f64 t13_6, .string t13_7, .int .i64 t13_8, .slice t13_9.a t13_9.len t13_9.cap, .slice t13_10.a t13_10.len t13_10.cap]) ∧
        Calls Tryz.prog 42 #[.pointer b0, .agg #[.int .i64 t13, .string t13_1, .int .i64 t13_2, .int .i64 t13_3, .int .i64 t13_4, .int .i64 t13_5, .float .f64 t13_6, .string t13_7, .int .i64 t13_8, .slice t13_9.a t13_9.len t13_9.cap, .slice t13_10.a t13_10.len t13_10.cap]] w_4 fun e_2 w_5 =>
        (∃ t14 : Int, ∃ t14_1 : ByteArray, ∃ t14_2 : Int, ∃ t14_3 : Int, ∃ t14_4 : Int, ∃ t14_5 : Int, ∃ t14_6 : Int, ∃ t14_7 : Sl, ∃ t14_8 : Sl, (e_2 = .returned (.agg #[.int .i64 t14, .string t14_1, .int .i64 t14_2, .int .i64 t14_3, .int .i64 t14_4, .int .i64 t14_5, .int .i64 t14_6, .slice t14_7.a t14_7.len t14_7.cap, .slice t14_8.a t14_8.len t14_8.cap])) ∧
          ∃ w_6 : World, ((Instr.storeAt 31 (.pointer ((some ⟨b_r4, 0, none⟩))) (.agg #[.int .i64 t14, .string t14_1, .int .i64 t14_2, .int .i64 t14_3, .int .i64 t14_4, .int .i64 t14_5, .int .i64 t14_6, .slice t14_7.a t14_7.len t14_7.cap, .slice t14_8.a t14_8.len t14_8.cap])).run Tryz.prog w_5 = .ok () w_6) ∧
          LeaveF Tryz.prog 39 [.pointer ((some ⟨b_r4, 0, none⟩))] .returning (fun w_7 => ∃ u : Int, ∃ u_1 : ByteArray, ∃ u_2 : Int, ∃ u_3 : Int, ∃ u_4 : Int, ∃ u_5 : Int, ∃ u_6 : Int, ∃ u_7 : Sl, ∃ u_8 : Sl, (At (fun w' => w' = w_7) ⟨b_r4, 0, none⟩ [.int .i64 u, .string u_1, .int .i64 u_2, .int .i64 u_3, .int .i64 u_4, .int .i64 u_5, .int .i64 u_6, .slice u_7.a u_7.len u_7.cap, .slice u_8.a u_8.len u_8.cap]) ∧
            K (.agg #[.int .i64 u, .string u_1, .int .i64 u_2, .int .i64 u_3, .int .i64 u_4, .int .i64 u_5, .int .i64 u_6, .slice u_7.a u_7.len u_7.cap, .slice u_8.a u_8.len u_8.cap]) w_7) w_6) ∨
        (∃ ch_2 : List PanicEntry, (e_2 = .panicked ch_2) ∧ LeaveF Tryz.prog 39 [.pointer ((some ⟨b_r4, 0, none⟩))] (.panicking ch_2) (fun w_8 => ∃ u_9 : Int, ∃ u_10 : ByteArray, ∃ u_11 : Int, ∃ u_12 : Int, ∃ u_13 : Int, ∃ u_14 : Int, ∃ u_15 : Int, ∃ u_16 : Sl, ∃ u_17 : Sl, (At (fun w' => w' = w_8) ⟨b_r4, 0, none⟩ [.int .i64 u_9, .string u_10, .int .i64 u_11, .int .i64 u_12, .int .i64 u_13, .int .i64 u_14, .int .i64 u_15, .slice u_16.a u_16.len u_16.cap, .slice u_17.a u_17.len u_17.cap]) ∧
            K (.agg #[.int .i64 u_9, .string u_10, .int .i64 u_11, .int .i64 u_12, .int .i64 u_13, .int .i64 u_14, .int .i64 u_15, .slice u_16.a u_16.len u_16.cap, .slice u_17.a u_17.len u_17.cap]) w_8) w_5))
       (∃ (J : Bool → World → Prop), (Br (t9 == 2)
           (J (t9 == 2) w_4)
           (J (t9 == 7) w_4)) ∧
        ∀ (z : Env) (t15 : Bool) (w_9 : World), J t15 w_9 →
        Br t15
         (∃ t19 : Int, ∃ t19_1 : ByteArray, ∃ t19_2 : Int, ∃ t19_3 : Int, ∃ t19_4 : Int, ∃ t19_5 : Int, ∃ t19_6 : Nat, ∃ t19_7 : ByteArray, ∃ t19_8 : Int, ∃ t19_9 : Sl, ∃ t19_10 : Sl, (At (fun w' => w' = w_9) ⟨b_c3, 0, none⟩ [.int .i64 t19, .string t19_1, .int .i64 t19_2, .int .i64 t19_3, .int .i64 t19_4, .int .i64 t19_5, .float .f64 t19_6, .string t19_7, .int .i64 t19_8, .slice t19_9.a t19_9.len t19_9.cap, .slice t19_10.a t19_10.len t19_10.cap]) ∧
          Calls Tryz.prog 43 #[.pointer b0, .agg #[.int .i64 t19, .string t19_1, .int .i64 t19_2, .int .i64 t19_3, .int .i64 t19_4, .int .i64 t19_5, .float .f64 t19_6, .string t19_7, .int .i64 t19_8, .slice t19_9.a t19_9.len t19_9.cap, .slice t19_10.a t19_10.len t19_10.cap]] w_9 fun e_3 w_10 =>
          (∃ t20 : Int, ∃ t20_1 : ByteArray, ∃ t20_2 : Int, ∃ t20_3 : Int, ∃ t20_4 : Int, ∃ t20_5 : Int, ∃ t20_6 : Int, ∃ t20_7 : Sl, ∃ t20_8 : Sl, (e_3 = .returned (.agg #[.int .i64 t20, .string t20_1, .int .i64 t20_2, .int .i64 t20_3, .int .i64 t20_4, .int .i64 t20_5, .int .i64 t20_6, .slice t20_7.a t20_7.len t20_7.cap, .slice t20_8.a t20_8.len t20_8.cap])) ∧
            ∃ w_11 : World, ((Instr.storeAt 31 (.pointer ((some ⟨b_r4, 0, none⟩))) (.agg #[.int .i64 t20, .string t20_1, .int .i64 t20_2, .int .i64 t20_3, .int .i64 t20_4, .int .i64 t20_5, .int .i64 t20_6, .slice t20_7.a t20_7.len t20_7.cap, .slice t20_8.a t20_8.len t20_8.cap])).run Tryz.prog w_10 = .ok () w_11) ∧
            LeaveF Tryz.prog 39 [.pointer ((some ⟨b_r4, 0, none⟩))] .returning (fun w_12 => ∃ u_18 : Int, ∃ u_19 : ByteArray, ∃ u_20 : Int, ∃ u_21 : Int, ∃ u_22 : Int, ∃ u_23 : Int, ∃ u_24 : Int, ∃ u_25 : Sl, ∃ u_26 : Sl, (At (fun w' => w' = w_12) ⟨b_r4, 0, none⟩ [.int .i64 u_18, .string u_19, .int .i64 u_20, .int .i64 u_21, .int .i64 u_22, .int .i64 u_23, .int .i64 u_24, .slice u_25.a u_25.len u_25.cap, .slice u_26.a u_26.len u_26.cap]) ∧
              K (.agg #[.int .i64 u_18, .string u_19, .int .i64 u_20, .int .i64 u_21, .int .i64 u_22, .int .i64 u_23, .int .i64 u_24, .slice u_25.a u_25.len u_25.cap, .slice u_26.a u_26.len u_26.cap]) w_12) w_11) ∨
          (∃ ch_3 : List PanicEntry, (e_3 = .panicked ch_3) ∧ LeaveF Tryz.prog 39 [.pointer ((some ⟨b_r4, 0, none⟩))] (.panicking ch_3) (fun w_13 => ∃ u_27 : Int, ∃ u_28 : ByteArray, ∃ u_29 : Int, ∃ u_30 : Int, ∃ u_31 : Int, ∃ u_32 : Int, ∃ u_33 : Int, ∃ u_34 : Sl, ∃ u_35 : Sl, (At (fun w' => w' = w_13) ⟨b_r4, 0, none⟩ [.int .i64 u_27, .string u_28, .int .i64 u_29, .int .i64 u_30, .int .i64 u_31, .int .i64 u_32, .int .i64 u_33, .slice u_34.a u_34.len u_34.cap, .slice u_35.a u_35.len u_35.cap]) ∧
              K (.agg #[.int .i64 u_27, .string u_28, .int .i64 u_29, .int .i64 u_30, .int .i64 u_31, .int .i64 u_32, .int .i64 u_33, .slice u_34.a u_34.len u_34.cap, .slice u_35.a u_35.len u_35.cap]) w_13) w_10))
         (Br (t9 == 8)
           (∃ t24 : Int, ∃ t24_1 : ByteArray, ∃ t24_2 : Int, ∃ t24_3 : Int, ∃ t24_4 : Int, ∃ t24_5 : Int, ∃ t24_6 : Nat, ∃ t24_7 : ByteArray, ∃ t24_8 : Int, ∃ t24_9 : Sl, ∃ t24_10 : Sl, (At (fun w' => w' = w_9) ⟨b_c3, 0, none⟩ [.int .i64 t24, .string t24_1, .int .i64 t24_2, .int .i64 t24_3, .int .i64 t24_4, .int .i64 t24_5, .float .f64 t24_6, .string t24_7, .int .i64 t24_8, .slice t24_9.a t24_9.len t24_9.cap, .slice t24_10.a t24_10.len t24_10.cap]) ∧
            Calls Tryz.prog 44 #[.pointer b0, .agg #[.int .i64 t24, .string t24_1, .int .i64 t24_2, .int .i64 t24_3, .int .i64 t24_4, .int .i64 t24_5, .float .f64 t24_6, .string t24_7, .int .i64 t24_8, .slice t24_9.a t24_9.len t24_9.cap, .slice t24_10.a t24_10.len t24_10.cap]] w_9 fun e_4 w_14 =>
            (∃ t25 : Int, ∃ t25_1 : ByteArray, ∃ t25_2 : Int, ∃ t25_3 : Int, ∃ t25_4 : Int, ∃ t25_5 : Int, ∃ t25_6 : Int, ∃ t25_7 : Sl, ∃ t25_8 : Sl, (e_4 = .returned (.agg #[.int .i64 t25, .string t25_1, .int .i64 t25_2, .int .i64 t25_3, .int .i64 t25_4, .int .i64 t25_5, .int .i64 t25_6, .slice t25_7.a t25_7.len t25_7.cap, .slice t25_8.a t25_8.len t25_8.cap])) ∧
              ∃ w_15 : World, ((Instr.storeAt 31 (.pointer ((some ⟨b_r4, 0, none⟩))) (.agg #[.int .i64 t25, .string t25_1, .int .i64 t25_2, .int .i64 t25_3, .int .i64 t25_4, .int .i64 t25_5, .int .i64 t25_6, .slice t25_7.a t25_7.len t25_7.cap, .slice t25_8.a t25_8.len t25_8.cap])).run Tryz.prog w_14 = .ok () w_15) ∧
              LeaveF Tryz.prog 39 [.pointer ((some ⟨b_r4, 0, none⟩))] .returning (fun w_16 => ∃ u_36 : Int, ∃ u_37 : ByteArray, ∃ u_38 : Int, ∃ u_39 : Int, ∃ u_40 : Int, ∃ u_41 : Int, ∃ u_42 : Int, ∃ u_43 : Sl, ∃ u_44 : Sl, (At (fun w' => w' = w_16) ⟨b_r4, 0, none⟩ [.int .i64 u_36, .string u_37, .int .i64 u_38, .int .i64 u_39, .int .i64 u_40, .int .i64 u_41, .int .i64 u_42, .slice u_43.a u_43.len u_43.cap, .slice u_44.a u_44.len u_44.cap]) ∧
                K (.agg #[.int .i64 u_36, .string u_37, .int .i64 u_38, .int .i64 u_39, .int .i64 u_40, .int .i64 u_41, .int .i64 u_42, .slice u_43.a u_43.len u_43.cap, .slice u_44.a u_44.len u_44.cap]) w_16) w_15) ∨
            (∃ ch_4 : List PanicEntry, (e_4 = .panicked ch_4) ∧ LeaveF Tryz.prog 39 [.pointer ((some ⟨b_r4, 0, none⟩))] (.panicking ch_4) (fun w_17 => ∃ u_45 : Int, ∃ u_46 : ByteArray, ∃ u_47 : Int, ∃ u_48 : Int, ∃ u_49 : Int, ∃ u_50 : Int, ∃ u_51 : Int, ∃ u_52 : Sl, ∃ u_53 : Sl, (At (fun w' => w' = w_17) ⟨b_r4, 0, none⟩ [.int .i64 u_45, .string u_46, .int .i64 u_47, .int .i64 u_48, .int .i64 u_49, .int .i64 u_50, .int .i64 u_51, .slice u_52.a u_52.len u_52.cap, .slice u_53.a u_53.len u_53.cap]) ∧
                K (.agg #[.int .i64 u_45, .string u_46, .int .i64 u_47, .int .i64 u_48, .int .i64 u_49, .int .i64 u_50, .int .i64 u_51, .slice u_52.a u_52.len u_52.cap, .slice u_53.a u_53.len u_53.cap]) w_17) w_14))
           (Br (t9 == 9)
             (∃ t29 : Int, ∃ t29_1 : ByteArray, ∃ t29_2 : Int, ∃ t29_3 : Int, ∃ t29_4 : Int, ∃ t29_5 : Int, ∃ t29_6 : Nat, ∃ t29_7 : ByteArray, ∃ t29_8 : Int, ∃ t29_9 : Sl, ∃ t29_10 : Sl, (At (fun w' => w' = w_9) ⟨b_c3, 0, none⟩ [.int .i64 t29, .string t29_1, .int .i64 t29_2, .int .i64 t29_3, .int .i64 t29_4, .int .i64 t29_5, .float .f64 t29_6, .string t29_7, .int .i64 t29_8, .slice t29_9.a t29_9.len t29_9.cap, .slice t29_10.a t29_10.len t29_10.cap]) ∧
              Calls Tryz.prog 19 #[.pointer b0, .agg #[.int .i64 t29, .string t29_1, .int .i64 t29_2, .int .i64 t29_3, .int .i64 t29_4, .int .i64 t29_5, .float .f64 t29_6, .string t29_7, .int .i64 t29_8, .slice t29_9.a t29_9.len t29_9.cap, .slice t29_10.a t29_10.len t29_10.cap]] w_9 fun e_5 w_18 =>
              (∃ t30 : Int, ∃ t30_1 : ByteArray, ∃ t30_2 : Int, ∃ t30_3 : Int, ∃ t30_4 : Int, ∃ t30_5 : Int, ∃ t30_6 : Int, ∃ t30_7 : Sl, ∃ t30_8 : Sl, (e_5 = .returned (.agg #[.int .i64 t30, .string t30_1, .int .i64 t30_2, .int .i64 t30_3, .int .i64 t30_4, .int .i64 t30_5, .int .i64 t30_6, .slice t30_7.a t30_7.len t30_7.cap, .slice t30_8.a t30_8.len t30_8.cap])) ∧
                ∃ w_19 : World, ((Instr.storeAt 31 (.pointer ((some ⟨b_r4, 0, none⟩))) (.agg #[.int .i64 t30, .string t30_1, .int .i64 t30_2, .int .i64 t30_3, .int .i64 t30_4, .int .i64 t30_5, .int .i64 t30_6, .slice t30_7.a t30_7.len t30_7.cap, .slice t30_8.a t30_8.len t30_8.cap])).run Tryz.prog w_18 = .ok () w_19) ∧
                LeaveF Tryz.prog 39 [.pointer ((some ⟨b_r4, 0, none⟩))] .returning (fun w_20 => ∃ u_54 : Int, ∃ u_55 : ByteArray, ∃ u_56 : Int, ∃ u_57 : Int, ∃ u_58 : Int, ∃ u_59 : Int, ∃ u_60 : Int, ∃ u_61 : Sl, ∃ u_62 : Sl, (At (fun w' => w' = w_20) ⟨b_r4, 0, none⟩ [.int .i64 u_54, .string u_55, .int .i64 u_56, .int .i64 u_57, .int .i64 u_58, .int .i64 u_59, .int .i64 u_60, .slice u_61.a u_61.len u_61.cap, .slice u_62.a u_62.len u_62.cap]) ∧
                  K (.agg #[.int .i64 u_54, .string u_55, .int .i64 u_56, .int .i64 u_57, .int .i64 u_58, .int .i64 u_59, .int .i64 u_60, .slice u_61.a u_61.len u_61.cap, .slice u_62.a u_62.len u_62.cap]) w_20) w_19) ∨
              (∃ ch_5 : List PanicEntry, (e_5 = .panicked ch_5) ∧ LeaveF Tryz.prog 39 [.pointer ((some ⟨b_r4, 0, none⟩))] (.panicking ch_5) (fun w_21 => ∃ u_63 : Int, ∃ u_64 : ByteArray, ∃ u_65 : Int, ∃ u_66 : Int, ∃ u_67 : Int, ∃ u_68 : Int, ∃ u_69 : Int, ∃ u_70 : Sl, ∃ u_71 : Sl, (At (fun w' => w' = w_21) ⟨b_r4, 0, none⟩ [.int .i64 u_63, .string u_64, .int .i64 u_65, .int .i64 u_66, .int .i64 u_67, .int .i64 u_68, .int .i64 u_69, .slice u_70.a u_70.len u_70.cap, .slice u_71.a u_71.len u_71.cap]) ∧
                  K (.agg #[.int .i64 u_63, .string u_64, .int .i64 u_65, .int .i64 u_66, .int .i64 u_67, .int .i64 u_68, .int .i64 u_69, .slice u_70.a u_70.len u_70.cap, .slice u_71.a u_71.len u_71.cap]) w_21) w_18))
             (Drw w_9 fun S w_22 =>
              ∃ t34 : ByteArray, (At S ⟨b_c3, 0 + 1, none⟩ [.string t34]) ∧
              ∃ t36 : Int, ∃ t36_1 : ByteArray, ∃ t36_2 : Int, ∃ t36_3 : Int, ∃ t36_4 : Int, ∃ t36_5 : Int, ∃ t36_6 : Nat, ∃ t36_7 : ByteArray, ∃ t36_8 : Int, ∃ t36_9 : Sl, ∃ t36_10 : Sl, (At S ⟨b_c3, 0, none⟩ [.int .i64 t36, .string t36_1, .int .i64 t36_2, .int .i64 t36_3, .int .i64 t36_4, .int .i64 t36_5, .float .f64 t36_6, .string t36_7, .int .i64 t36_8, .slice t36_9.a t36_9.len t36_9.cap, .slice t36_10.a t36_10.len t36_10.cap]) ∧
              Calls Tryz.prog 46 #[.pointer b0, .string t34] w_22 fun e_6 w_23 =>
              (∃ t35 : Option Addr, (e_6 = .returned (.pointer t35)) ∧
                (S w_23) ∧
                Calls Tryz.prog 45 #[.pointer b0, .pointer t35, .agg #[.int .i64 t36, .string t36_1, .int .i64 t36_2, .int .i64 t36_3, .int .i64 t36_4, .int .i64 t36_5, .float .f64 t36_6, .string t36_7, .int .i64 t36_8, .slice t36_9.a t36_9.len t36_9.cap, .slice t36_10.a t36_10.len t36_10.cap]] w_23 fun e_7 w_24 =>
                (∃ t37 : Int, ∃ t37_1 : ByteArray, ∃ t37_2 : Int, ∃ t37_3 : Int, ∃ t37_4 : Int, ∃ t37_5 : Int, ∃ t37_6 : Int, ∃ t37_7 : Sl, ∃ t37_8 : Sl, (e_7 = .returned (.agg #[.int .i64 t37, .string t37_1, .int .i64 t37_2, .int .i64 t37_3, .int .i64 t37_4, .int .i64 t37_5, .int .i64 t37_6, .slice t37_7.a t37_7.len t37_7.cap, .slice t37_8.a t37_8.len t37_8.cap])) ∧
                  (S w_24) ∧
                  ∃ w_25 : World, ((Instr.storeAt 31 (.pointer ((some ⟨b_r4, 0, none⟩))) (.agg #[.int .i64 t37, .string t37_1, .int .i64 t37_2, .int .i64 t37_3, .int .i64 t37_4, .int .i64 t37_5, .int .i64 t37_6, .slice t37_7.a t37_7.len t37_7.cap, .slice t37_8.a t37_8.len t37_8.cap])).run Tryz.prog w_24 = .ok () w_25) ∧
                  LeaveF Tryz.prog 39 [.pointer ((some ⟨b_r4, 0, none⟩))] .returning (fun w_26 => ∃ u_72 : Int, ∃ u_73 : ByteArray, ∃ u_74 : Int, ∃ u_75 : Int, ∃ u_76 : Int, ∃ u_77 : Int, ∃ u_78 : Int, ∃ u_79 : Sl, ∃ u_80 : Sl, (At (fun w' => w' = w_26) ⟨b_r4, 0, none⟩ [.int .i64 u_72, .string u_73, .int .i64 u_74, .int .i64 u_75, .int .i64 u_76, .int .i64 u_77, .int .i64 u_78, .slice u_79.a u_79.len u_79.cap, .slice u_80.a u_80.len u_80.cap]) ∧
                    K (.agg #[.int .i64 u_72, .string u_73, .int .i64 u_74, .int .i64 u_75, .int .i64 u_76, .int .i64 u_77, .int .i64 u_78, .slice u_79.a u_79.len u_79.cap, .slice u_80.a u_80.len u_80.cap]) w_26) w_25) ∨
                (∃ ch_7 : List PanicEntry, (e_7 = .panicked ch_7) ∧ LeaveF Tryz.prog 39 [.pointer ((some ⟨b_r4, 0, none⟩))] (.panicking ch_7) (fun w_27 => ∃ u_81 : Int, ∃ u_82 : ByteArray, ∃ u_83 : Int, ∃ u_84 : Int, ∃ u_85 : Int, ∃ u_86 : Int, ∃ u_87 : Int, ∃ u_88 : Sl, ∃ u_89 : Sl, (At (fun w' => w' = w_27) ⟨b_r4, 0, none⟩ [.int .i64 u_81, .string u_82, .int .i64 u_83, .int .i64 u_84, .int .i64 u_85, .int .i64 u_86, .int .i64 u_87, .slice u_88.a u_88.len u_88.cap, .slice u_89.a u_89.len u_89.cap]) ∧
                    K (.agg #[.int .i64 u_81, .string u_82, .int .i64 u_83, .int .i64 u_84, .int .i64 u_85, .int .i64 u_86, .int .i64 u_87, .slice u_88.a u_88.len u_88.cap, .slice u_89.a u_89.len u_89.cap]) w_27) w_24)) ∨
              (∃ ch_6 : List PanicEntry, (e_6 = .panicked ch_6) ∧ LeaveF Tryz.prog 39 [.pointer ((some ⟨b_r4, 0, none⟩))] (.panicking ch_6) (fun w_28 => ∃ u_90 : Int, ∃ u_91 : ByteArray, ∃ u_92 : Int, ∃ u_93 : Int, ∃ u_94 : Int, ∃ u_95 : Int, ∃ u_96 : Int, ∃ u_97 : Sl, ∃ u_98 : Sl, (At (fun w' => w' = w_28) ⟨b_r4, 0, none⟩ [.int .i64 u_90, .string u_91, .int .i64 u_92, .int .i64 u_93, .int .i64 u_94, .int .i64 u_95, .int .i64 u_96, .slice u_97.a u_97.len u_97.cap, .slice u_98.a u_98.len u_98.cap]) ∧
                  K (.agg #[.int .i64 u_90, .string u_91, .int .i64 u_92, .int .i64 u_93, .int .i64 u_94, .int .i64 u_95, .int .i64 u_96, .slice u_97.a u_97.len u_97.cap, .slice u_98.a u_98.len u_98.cap]) w_28) w_23)))))) ∨
    (∃ ch_1 : List PanicEntry, (e_1 = .panicked ch_1) ∧ LeaveF Tryz.prog 39 [.pointer ((some ⟨b_r4, 0, none⟩))] (.panicking ch_1) (fun w_29 => ∃ u_99 : Int, ∃ u_100 : ByteArray, ∃ u_101 : Int, ∃ u_102 : Int, ∃ u_103 : Int, ∃ u_104 : Int, ∃ u_105 : Int, ∃ u_106 : Sl, ∃ u_107 : Sl, (At (fun w' => w' = w_29) ⟨b_r4, 0, none⟩ [.int .i64 u_99, .string u_100, .int .i64 u_101, .int .i64 u_102, .int .i64 u_103, .int .i64 u_104, .int .i64 u_105, .slice u_106.a u_106.len u_106.cap, .slice u_107.a u_107.len u_107.cap]) ∧
        K (.agg #[.int .i64 u_99, .string u_100, .int .i64 u_101, .int .i64 u_102, .int .i64 u_103, .int .i64 u_104, .int .i64 u_105, .slice u_106.a u_106.len u_106.cap, .slice u_107.a u_107.len u_107.cap]) w_29) w_4)) ∨
  (∃ ch : List PanicEntry, (e = .panicked ch) ∧ LeaveF Tryz.prog 39 [.pointer ((some ⟨b_r4, 0, none⟩))] (.panicking ch) (fun w_30 => ∃ u_108 : Int, ∃ u_109 : ByteArray, ∃ u_110 : Int, ∃ u_111 : Int, ∃ u_112 : Int, ∃ u_113 : Int, ∃ u_114 : Int, ∃ u_115 : Sl, ∃ u_116 : Sl, (At (fun w' => w' = w_30) ⟨b_r4, 0, none⟩ [.int .i64 u_108, .string u_109, .int .i64 u_110, .int .i64 u_111, .int .i64 u_112, .int .i64 u_113, .int .i64 u_114, .slice u_115.a u_115.len u_115.cap, .slice u_116.a u_116.len u_116.cap]) ∧
      K (.agg #[.int .i64 u_108, .string u_109, .int .i64 u_110, .int .i64 u_111, .int .i64 u_112, .int .i64 u_113, .int .i64 u_114, .slice u_115.a u_115.len u_115.cap, .slice u_116.a u_116.len u_116.cap]) w_30) w_3)) w_1) w
def sk15 : Sk := (.seq .leaf (.seq (.seq .leaf (.block (.seq .leaf (.cond .leaf (.cut [15] [.bool] [15, 16, 17] .leaf .leaf))))) .leaf))
theorem ok15 : defOk Tryz.prog cl Tryz.f15 sk15 = true := by kernel_rfl
theorem eq15 (b0 : Option Addr) (c1_0 : Int) (c1_1 : ByteArray) (c1_2 : Int) (c1_3 : Int) (c1_4 : Int) (c1_5 : Int) (c1_6 : Nat) (c1_7 : ByteArray) (c1_8 : Int) (c1_9 : Sl) (c1_10 : Sl) (K : Value → World → Prop) (w : World) : defF Tryz.prog cl Tryz.f15 sk15 [.pointer b0, .agg #[.int .i64 c1_0, .string c1_1, .int .i64 c1_2, .int .i64 c1_3, .int .i64 c1_4, .int .i64 c1_5, .float .f64 c1_6, .string c1_7, .int .i64 c1_8, .slice c1_9.a c1_9.len c1_9.cap, .slice c1_10.a c1_10.len c1_10.cap]] K w = B15 b0 c1_0 c1_1 c1_2 c1_3 c1_4 c1_5 c1_6 c1_7 c1_8 c1_9 c1_10 K w := by kernel_rfl
theorem call15 (b0 : Option Addr) (c1_0 : Int) (c1_1 : ByteArray) (c1_2 : Int) (c1_3 : Int) (c1_4 : Int) (c1_5 : Int) (c1_6 : Nat) (c1_7 : ByteArray) (c1_8 : Int) (c1_9 : Sl) (c1_10 : Sl) (K : Value → World → Prop) (w : World) (h : B15 b0 c1_0 c1_1 c1_2 c1_3 c1_4 c1_5 c1_6 c1_7 c1_8 c1_9 c1_10 K w) : Gets Tryz.prog 15 #[.pointer b0, .agg #[.int .i64 c1_0, .string c1_1, .int .i64 c1_2, .int .i64 c1_3, .int .i64 c1_4, .int .i64 c1_5, .float .f64 c1_6, .string c1_7, .int .i64 c1_8, .slice c1_9.a c1_9.len c1_9.cap, .slice c1_10.a c1_10.len c1_10.cap]] w K :=
  callsd_of (sk := sk15) cl_ok mixed Tryz.func15 ok15 (args := [.pointer b0, .agg #[.int .i64 c1_0, .string c1_1, .int .i64 c1_2, .int .i64 c1_3, .int .i64 c1_4, .int .i64 c1_5, .float .f64 c1_6, .string c1_7, .int .i64 c1_8, .slice c1_9.a c1_9.len c1_9.cap, .slice c1_10.a c1_10.len c1_10.cap]]) (Nat.le_of_ble_eq_true (by kernel_rfl)) (by rw [eq15]; exact h)
def B19 (b0 : Option Addr) (c1_0 : Int) (c1_1 : ByteArray) (c1_2 : Int) (c1_3 : Int) (c1_4 : Int) (c1_5 : Int) (c1_6 : Nat) (c1_7 : ByteArray) (c1_8 : Int) (c1_9 : Sl) (c1_10 : Sl) (K : Value → World → Prop) (w : World) : Prop :=
  New (.cells #[.int .i64 c1_0, .string c1_1, .int .i64 c1_2, .int .i64 c1_3, .int .i64 c1_4, .int .i64 c1_5, .float .f64 c1_6, .string c1_7, .int .i64 c1_8, .slice c1_9.a c1_9.len c1_9.cap, .slice c1_10.a c1_10.len c1_10.cap] 38 (0, 0)) (fun b_c3 w_1 =>
  New (.cells #[.int .i64 0, .string (ByteArray.mk #[]), .int .i64 0, .int .i64 0, .int .i64 0, .int .i64 0, .int .i64 0, .slice none 0 0, .slice none 0 0] 31 (0, 0)) (fun b_r4 w_2 =>
  ∃ (J : World → Prop), (∃ t6 : Int, ∃ t6_1 : ByteArray, ∃ t6_2 : Int, ∃ t6_3 : Int, ∃ t6_4 : Int, ∃ t6_5 : Int, ∃ t6_6 : Nat, ∃ t6_7 : ByteArray, ∃ t6_8 : Int, ∃ t6_9 : Sl, ∃ t6_10 : Sl, (At (fun w' => w' = w_2) ⟨b_c3, 0, none⟩ [.int .i64 t6, .string t6_1, .int .i64 t6_2, .int .i64 t6_3, .int .i64 t6_4, .int .i64 t6_5, .float .f64 t6_6, .string t6_7, .int .i64 t6_8, .slice t6_9.a t6_9.len t6_9.cap, .slice t6_10.a t6_10.len t6_10.cap]) ∧
    Calls Tryz.prog 41 #[.agg #[.int .i64 t6, .string t6_1, .int .i64 t6_2, .int .i64 t6_3, .int .i64 t6_4, .int .i64 t6_5, .float .f64 t6_6, .string t6_7, .int .i64 t6_8, .slice t6_9.a t6_9.len t6_9.cap, .slice t6_10.a t6_10.len t6_10.cap]] w_2 fun e w_3 =>
    (∃ t7 : Bool, (e = .returned (.bool t7)) ∧
      Br t7
       (∃ t10 : Int, (At (fun w' => w' = w_3) ⟨b_c3, 0, none⟩ [.int .i64 t10]) ∧
        Calls Tryz.prog 40 #[.bool (t10 == 9), .int .i64 1] w_3 fun e_1 w_4 =>
        ((e_1 = .returned (.tuple #[])) ∧
          J  w_4) ∨
        (∃ ch_1 : List PanicEntry, (e_1 = .panicked ch_1) ∧ LeaveF Tryz.prog 39 [.pointer ((some ⟨b_r4, 0, none⟩))] (.panicking ch_1) (fun w_5 => ∃ t13 : Int, ∃ t13_1 : ByteArray, ∃ t13_2 : Int, ∃ t13_3 : Int, ∃ t13_4 : Int, ∃ t13_5 : Int, ∃ t13_6 : Int, ∃ t13_7 : Sl, ∃ t13_8 : Sl, (At (fun w' => w' = w_5) ⟨b_r4, 0, none⟩ [.int .i64 t13, .string t13_1, .int .i64 t13_2, .int .i64 t13_3, .int .i64 t13_4, .int .i64 t13_5, .int .i64 t13_6, .slice t13_7.a t13_7.len t13_7.cap, .slice t13_8.a t13_8.len t13_8.cap]) ∧
            K (.agg #[.int .i64 t13, .string t13_1, .int .i64 t13_2, .int .i64 t13_3, .int .i64 t13_4, .int .i64 t13_5, .int .i64 t13_6, .slice t13_7.a t13_7.len t13_7.cap, .slice t13_8.a t13_8.len t13_8.cap]) w_5) w_4))
       (Calls Tryz.prog 40 #[.bool false, .int .i64 1] w_3 fun e_2 w_6 =>
        ((e_2 = .returned (.tuple #[])) ∧
          J  w_6) ∨
        (∃ ch_2 : List PanicEntry, (e_2 = .panicked ch_2) ∧ LeaveF Tryz.prog 39 [.pointer ((some ⟨b_r4, 0, none⟩))] (.panicking ch_2) (fun w_7 => ∃ t13_9 : Int, ∃ t13_10 : ByteArray, ∃ t13_11 : Int, ∃ t13_12 : Int, ∃ t13_13 : Int, ∃ t13_14 : Int, ∃ t13_15 : Int, ∃ t13_16 : Sl, ∃ t13_17 : Sl, (At (fun w' => w' = w_7) ⟨b_r4, 0, none⟩ [.int .i64 t13_9, .string t13_10, .int .i64 t13_11, .int .i64 t13_12, .int .i64 t13_13, .int .i64 t13_14, .int .i64 t13_15, .slice t13_16.a t13_16.len t13_16.cap, .slice t13_17.a t13_17.len t13_17.cap]) ∧
            K (.agg #[.int .i64 t13_9, .string t13_10, .int .i64 t13_11, .int .i64 t13_12, .int .i64 t13_13, .int .i64 t13_14, .int .i64 t13_15, .slice t13_16.a t13_16.len t13_16.cap, .slice t13_17.a t13_17.len t13_17.cap]) w_7) w_6))) ∨
    (∃ ch : List PanicEntry, (e = .panicked ch) ∧ LeaveF Tryz.prog 39 [.pointer ((some ⟨b_r4, 0, none⟩))] (.panicking ch) (fun w_8 => ∃ t13_18 : Int, ∃ t13_19 : ByteArray, ∃ t13_20 : Int, ∃ t13_21 : Int, ∃ t13_22 : Int, ∃ t13_23 : Int, ∃ t13_24 : Int, ∃ t13_25 : Sl, ∃ t13_26 : Sl, (At (fun w' => w' = w_8) ⟨b_r4, 0, none⟩ [.int .i64 t13_18, .string t13_19, .int .i64 t13_20, .int .i64 t13_21, .int .i64 t13_22, .int .i64 t13_23, .int .i64 t13_24, .slice t13_25.a t13_25.len t13_25.cap, .slice t13_26.a t13_26.len t13_26.cap]) ∧
        K (.agg #[.int .i64 t13_18, .string t13_19, .int .i64 t13_20, .int .i64 t13_21, .int .i64 t13_22, .int .i64 t13_23, .int .i64 t13_24, .slice t13_25.a t13_25.len t13_25.cap, .slice t13_26.a t13_26.len t13_26.cap]) w_8) w_3)) ∧
  ∀ (z : Env)  (w_9 : World), J  w_9 →
  ∃ t15 : ByteArray, (At (fun w' => w' = w_9) ⟨b_c3, 0 + 1, none⟩ [.string t15]) ∧
  Br (!t15.toList == (ByteArray.mk #[]).toList)
   (∃ t20 : ByteArray, (At (fun w' => w' = w_9) ⟨b_c3, 0 + 1, none⟩ [.string t20]) ∧
    Calls Tryz.prog 46 #[.pointer b0, .string t20] w_9 fun e_3 w_10 =>
    (∃ t21 : Option Addr, (e_3 = .returned (.pointer t21)) ∧
      Calls Tryz.prog 56 #[.pointer b0, .pointer t21] w_10 fun e_4 w_11 =>
      (∃ t22 : Int, ∃ t22_1 : ByteArray, ∃ t22_2 : Int, ∃ t22_3 : Int, ∃ t22_4 : Int, ∃ t22_5 : Int, ∃ t22_6 : Int, ∃ t22_7 : Sl, ∃ t22_8 : Sl, (e_4 = .returned (.agg #[.int .i64 t22, .string t22_1, .int .i64 t22_2, .int .i64 t22_3, .int .i64 t22_4, .int .i64 t22_5, .int .i64 t22_6, .slice t22_7.a t22_7.len t22_7.cap, .slice t22_8.a t22_8.len t22_8.cap])) ∧
        ∃ w_12 : World, ((Instr.storeAt 31 (.pointer ((some ⟨b_r4, 0, none⟩))) (.agg #[.int .i64 t22, .string t22_1, .int .i64 t22_2, .int .i64 t22_3, .int .i64 t22_4, .int .i64 t22_5, .int .i64 t22_6, .slice t22_7.a t22_7.len t22_7.cap, .slice t22_8.a t22_8.len t22_8.cap])).run Tryz.prog w_11 = .ok () w_12) ∧
        LeaveF Tryz.prog 39 [.pointer ((some ⟨b_r4, 0, none⟩))] .returning (fun w_13 => ∃ u : Int, ∃ u_1 : ByteArray, ∃ u_2 : Int, ∃ u_3 : Int, ∃ u_4 : Int, ∃ u_5 : Int, ∃ u_6 : Int, ∃ u_7 : Sl, ∃ u_8 : Sl, (At (fun w' => w' = w_13) ⟨b_r4, 0, none⟩ [.int .i64 u, .string u_1, .int .i64 u_2, .int .i64 u_3, .int .i64 u_4, .int .i64 u_5, .int .i64 u_6, .slice u_7.a u_7.len u_7.cap, .slice u_8.a u_8.len u_8.cap]) ∧
          K (.agg #[.int .i64 u, .string u_1, .int .i64 u_2, .int .i64 u_3, .int .i64 u_4, .int .i64 u_5, .int .i64 u_6, .slice u_7.a u_7.len u_7.cap, .slice u_8.a u_8.len u_8.cap]) w_13) w_12) ∨
      (∃ ch_4 : List PanicEntry, (e_4 = .panicked ch_4) ∧ LeaveF Tryz.prog 39 [.pointer ((some ⟨b_r4, 0, none⟩))] (.panicking ch_4) (fun w_14 => ∃ u_9 : Int, ∃ u_10 : ByteArray, ∃ u_11 : Int, ∃ u_12 : Int, ∃ u_13 : Int, ∃ u_14 : Int, ∃ u_15 : Int, ∃ u_16 : Sl, ∃ u_17 : Sl, (At (fun w' => w' = w_14) ⟨b_r4, 0, none⟩ [.int .i64 u_9, .string u_10, .int .i64 u_11, .int .i64 u_12, .int .i64 u_13, .int .i64 u_14, .int .i64 u_15, .slice u_16.a u_16.len u_16.cap, .slice u_17.a u_17.len u_17.cap]) ∧
          K (.agg #[.int .i64 u_9, .string u_10, .int .i64 u_11, .int .i64 u_12, .int .i64 u_13, .int .i64 u_14, .int .i64 u_15, .slice u_16.a u_16.len u_16.cap, .slice u_17.a u_17.len u_17.cap]) w_14) w_11)) ∨
    (∃ ch_3 : List PanicEntry, (e_3 = .panicked ch_3) ∧ LeaveF Tryz.prog 39 [.pointer ((some ⟨b_r4, 0, none⟩))] (.panicking ch_3) (fun w_15 => ∃ u_18 : Int, ∃ u_19 : ByteArray, ∃ u_20 : Int, ∃ u_21 : Int, ∃ u_22 : Int, ∃ u_23 : Int, ∃ u_24 : Int, ∃ u_25 : Sl, ∃ u_26 : Sl, (At (fun w' => w' = w_15) ⟨b_r4, 0, none⟩ [.int .i64 u_18, .string u_19, .int .i64 u_20, .int .i64 u_21, .int .i64 u_22, .int .i64 u_23, .int .i64 u_24, .slice u_25.a u_25.len u_25.cap, .slice u_26.a u_26.len u_26.cap]) ∧
        K (.agg #[.int .i64 u_18, .string u_19, .int .i64 u_20, .int .i64 u_21, .int .i64 u_22, .int .i64 u_23, .int .i64 u_24, .slice u_25.a u_25.len u_25.cap, .slice u_26.a u_26.len u_26.cap]) w_15) w_10))
   (∃ t25 : Int, (At (fun w' => w' = w_9) ⟨b_c3, 0 + 2, none⟩ [.int .i64 t25]) ∧
    Calls Tryz.prog 57 #[.pointer b0, .int .i64 t25] w_9 fun e_5 w_16 =>
    (∃ t26 : Option Addr, ∃ t26_1 : Option Addr, (e_5 = .returned (.agg #[.pointer t26, .pointer t26_1])) ∧
      New (.cells #[.pointer none, .pointer none] 102 (0, 0)) (fun b_p5 w_17 =>
      ∃ w_18 : World, ((Instr.storeAt 102 (.pointer ((some ⟨b_p5, 0, none⟩))) (.agg #[.pointer t26, .pointer t26_1])).run Tryz.prog w_17 = .ok () w_18) ∧
      Drw w_18 fun S w_19 =>
      ∃ t28 : Int, (At S ⟨b_c3, 0 + 2, none⟩ [.int .i64 t28]) ∧
      ∃ t30 : Option Addr, (At S ⟨b_p5, 0, none⟩ [.pointer t30]) ∧
      ∃ t33 : Option Addr, (At S ⟨b_p5, 0 + 1, none⟩ [.pointer t33]) ∧
      Calls Tryz.prog 58 #[.pointer t30] w_19 fun e_6 w_20 =>
      (∃ t31 : Sl, (e_6 = .returned (.slice t31.a t31.len t31.cap)) ∧
        (S w_20) ∧
        Calls Tryz.prog 59 #[.pointer t33] w_20 fun e_7 w_21 =>
        (∃ t34 : Sl, (e_7 = .returned (.slice t34.a t34.len t34.cap)) ∧
          (S w_21) ∧
          ∃ w_22 : World, ((Instr.storeAt 31 (.pointer ((some ⟨b_r4, 0, none⟩))) (.agg #[.int .i64 0, .string (ByteArray.mk #[]), .int .i64 0, .int .i64 t28, .int .i64 0, .int .i64 ((↑t34.len : Int)), .int .i64 0, .slice t31.a t31.len t31.cap, .slice none 0 0])).run Tryz.prog w_21 = .ok () w_22) ∧
          LeaveF Tryz.prog 39 [.pointer ((some ⟨b_r4, 0, none⟩))] .returning (fun w_23 => ∃ u_27 : Int, ∃ u_28 : ByteArray, ∃ u_29 : Int, ∃ u_30 : Int, ∃ u_31 : Int, ∃ u_32 : Int, ∃ u_33 : Int, ∃ u_34 : Sl, ∃ u_35 : Sl, (At (fun w' => w' = w_23) ⟨b_r4, 0, none⟩ [.int .i64 u_27, .string u_28, .int .i64 u_29, .int .i64 u_30, .int .i64 u_31, .int .i64 u_32, .int .i64 u_33, .slice u_34.a u_34.len u_34.cap, .slice u_35.a u_35.len u_35.cap]) ∧
            K (.agg #[.int .i64 u_27, .string u_28, .int .i64 u_29, .int .i64 u_30, .int .i64 u_31, .int .i64 u_32, .int .i64 u_33, .slice u_34.a u_34.len u_34.cap, .slice u_35.a u_35.len u_35.cap]) w_23) w_22) ∨
        (∃ ch_7 : List PanicEntry, (e_7 = .panicked ch_7) ∧ LeaveF Tryz.prog 39 [.pointer ((some ⟨b_r4, 0, none⟩))] (.panicking ch_7) (fun w_24 => ∃ u_36 : Int, ∃ u_37 : ByteArray, ∃ u_38 : Int, ∃ u_39 : Int, ∃ u_40 : Int, ∃ u_41 : Int, ∃ u_42 : Int, ∃ u_43 : Sl, ∃ u_44 : Sl, (At (fun w' => w' = w_24) ⟨b_r4, 0, none⟩ [.int .i64 u_36, .string u_37, .int .i64 u_38, .int .i64 u_39, .int .i64 u_40, .int .i64 u_41, .int .i64 u_42, .slice u_43.a u_43.len u_43.cap, .slice u_44.a u_44.len u_44.cap]) ∧
            K (.agg #[.int .i64 u_36, .string u_37, .int .i64 u_38, .int .i64 u_39, .int .i64 u_40, .int .i64 u_41, .int .i64 u_42, .slice u_43.a u_43.len u_43.cap, .slice u_44.a u_44.len u_44.cap]) w_24) w_21)) ∨
      (∃ ch_6 : List PanicEntry, (e_6 = .panicked ch_6) ∧ LeaveF Tryz.prog 39 [.pointer ((some ⟨b_r4, 0, none⟩))] (.panicking ch_6) (fun w_25 => ∃ u_45 : Int, ∃ u_46 : ByteArray, ∃ u_47 : Int, ∃ u_48 : Int, ∃ u_49 : Int, ∃ u_50 : Int, ∃ u_51 : Int, ∃ u_52 : Sl, ∃ u_53 : Sl, (At (fun w' => w' = w_25) ⟨b_r4, 0, none⟩ [.int .i64 u_45, .string u_46, .int .i64 u_47, .int .i64 u_48, .int .i64 u_49, .int .i64 u_50, .int .i64 u_51, .slice u_52.a u_52.len u_52.cap, .slice u_53.a u_53.len u_53.cap]) ∧
          K (.agg #[.int .i64 u_45, .string u_46, .int .i64 u_47, .int .i64 u_48, .int .i64 u_49, .int .i64 u_50, .int .i64 u_51, .slice u_52.a u_52.len u_52.cap, .slice u_53.a u_53.len u_53.cap]) w_25) w_20)) w_16) ∨
    (∃ ch_5 : List PanicEntry, (e_5 = .panicked ch_5) ∧ LeaveF Tryz.prog 39 [.pointer ((some ⟨b_r4, 0, none⟩))] (.panicking ch_5) (fun w_26 => ∃ u_54 : Int, ∃ u_55 : ByteArray, ∃ u_56 : Int, ∃ u_57 : Int, ∃ u_58 : Int, ∃ u_59 : Int, ∃ u_60 : Int, ∃ u_61 : Sl, ∃ u_62 : Sl, (At (fun w' => w' = w_26) ⟨b_r4, 0, none⟩ [.int .i64 u_54, .string u_55, .int .i64 u_56, .int .i64 u_57, .int .i64 u_58, .int .i64 u_59, .int .i64 u_60, .slice u_61.a u_61.len u_61.cap, .slice u_62.a u_62.len u_62.cap]) ∧
        K (.agg #[.int .i64 u_54, .string u_55, .int .i64 u_56, .int .i64 u_57, .int .i64 u_58, .int .i64 u_59, .int .i64 u_60, .slice u_61.a u_61.len u_61.cap, .slice u_62.a u_62.len u_62.cap]) w_26) w_16))) w_1) w
def sk19 : Sk := (.cut [] [] [6, 7, 8, 9, 10, 11, 12, 13] .leaf .leaf)
theorem ok19 : defOk Tryz.prog cl Tryz.f19 sk19 = true := by kernel_rfl
theorem eq19 (b0 : Option Addr) (c1_0 : Int) (c1_1 : ByteArray) (c1_2 : Int) (c1_3 : Int) (c1_4 : Int) (c1_5 : Int) (c1_6 : Nat) (c1_7 : ByteArray) (c1_8 : Int) (c1_9 : Sl) (c1_10 : Sl) (K : Value → World → Prop) (w : World) : defF Tryz.prog cl Tryz.f19 sk19 [.pointer b0, .agg #[.int .i64 c1_0, .string c1_1, .int .i64 c1_2, .int .i64 c1_3, .int .i64 c1_4, .int .i64 c1_5, .float .f64 c1_6, .string c1_7, .int .i64 c1_8, .slice c1_9.a c1_9.len c1_9.cap, .slice c1_10.a c1_10.len c1_10.cap]] K w = B19 b0 c1_0 c1_1 c1_2 c1_3 c1_4 c1_5 c1_6 c1_7 c1_8 c1_9 c1_10 K w := by kernel_rfl
theorem call19 (b0 : Option Addr) (c1_0 : Int) (c1_1 : ByteArray) (c1_2 : Int) (c1_3 : Int) (c1_4 : Int) (c1_5 : Int) (c1_6 : Nat) (c1_7 : ByteArray) (c1_8 : Int) (c1_9 : Sl) (c1_10 : Sl) (K : Value → World → Prop) (w : World) (h : B19 b0 c1_0 c1_1 c1_2 c1_3 c1_4 c1_5 c1_6 c1_7 c1_8 c1_9 c1_10 K w) : Gets Tryz.prog 19 #[.pointer b0, .agg #[.int .i64 c1_0, .string c1_1, .int .i64 c1_2, .int .i64 c1_3, .int .i64 c1_4, .int .i64 c1_5, .float .f64 c1_6, .string c1_7, .int .i64 c1_8, .slice c1_9.a c1_9.len c1_9.cap, .slice c1_10.a c1_10.len c1_10.cap]] w K :=
  callsd_of (sk := sk19) cl_ok mixed Tryz.func19 ok19 (args := [.pointer b0, .agg #[.int .i64 c1_0, .string c1_1, .int .i64 c1_2, .int .i64 c1_3, .int .i64 c1_4, .int .i64 c1_5, .float .f64 c1_6, .string c1_7, .int .i64 c1_8, .slice c1_9.a c1_9.len c1_9.cap, .slice c1_10.a c1_10.len c1_10.cap]]) (Nat.le_of_ble_eq_true (by kernel_rfl)) (by rw [eq19]; exact h)
end Go.Proofs.YtfgbbckfikiomaaGreatDoor
/- The formulas of functions of this seat's translation, printed by a program of mine off the translation; each is proved equal to 'fnF' of the function's body, so it is enough for the call. No condition. -/
namespace Go.Proofs.YtfgbbckfikiomaaGreatDoor
open Go Go.VC
set_option linter.unusedVariables false
set_option maxRecDepth 10000
def B47 (c0 : Int) (K : Value → World → Prop) (w : World) : Prop :=
  ∃ (I : Int → World → Prop) (μ : Int → World → Nat), (I 0 w) ∧ ∀ (z : Env) (i3 : Int) (w_1 : World), I i3 w_1 →
  Br (decide (i3 < 31))
   (∃ t9 : UInt8, ((0 : Int) ≤ i3) ∧
    ((ByteArray.mk #[65, 66, 67, 68, 69, 70, 71, 72, 74, 75, 76, 77, 78, 80, 81, 82, 84, 85, 86, 87, 88, 89, 90, 50, 51, 52, 53, 54, 55, 56, 57])[i3.toNat]? = some t9) ∧
    Br ((↑t9.toNat : Int) == c0)
     (K (.int .i64 i3) w_1)
     ((I (IntKind.i64.wrap (i3 + 1)) w_1) ∧ μ (IntKind.i64.wrap (i3 + 1)) w_1 < μ i3 w_1))
   (K (.int .i64 ((-1))) w_1)
def sk47 : Sk := (.seq .leaf (.seq (.seq .leaf (.block (.loop [3] [(.int .i64)] [2, 3, 4, 5, 6, 7, 8, 9, 10, 11, 12] .leaf))) .leaf))
theorem ok47 : fnOk Tryz.prog Tryz.f47.ntmps Tryz.f47 sk47 = true := by kernel_rfl
theorem eq47 (c0 : Int) (K : Value → World → Prop) (w : World) : fnF Tryz.prog cl Tryz.f47 sk47 [.int .u8 c0] K w = B47 c0 K w := by kernel_rfl
theorem call47 (c0 : Int) (K : Value → World → Prop) (w : World) (h : B47 c0 K w) : Gets Tryz.prog 47 #[.int .u8 c0] w K :=
  calls_of (sk := sk47) cl_ok mixed Tryz.func47 ok47 (args := [.int .u8 c0]) (Nat.le_of_ble_eq_true (by kernel_rfl)) (by rw [eq47]; exact h)
def B48 (d0 : Value) (K : Value → World → Prop) (w : World) : Prop :=
  New (.cells (Value.cells d0) 88 (0, 0)) (fun b_d1 w_1 =>
  ∃ t4 : Int, (At (fun w' => w' = w_1) (Addr.add ⟨b_d1, 0, none⟩ 0) [.int .i64 t4]) ∧
  ∃ t7 : Int, (At (fun w' => w' = w_1) (Addr.add ⟨b_d1, 0, none⟩ 1) [.int .i64 t7]) ∧
  ∃ t11 : Int, (At (fun w' => w' = w_1) (Addr.add ⟨b_d1, 0, none⟩ 2) [.int .i64 t11]) ∧
  ∃ t15 : Int, (At (fun w' => w' = w_1) (Addr.add ⟨b_d1, 0, none⟩ 3) [.int .i64 t15]) ∧
  ∃ t19 : Int, (At (fun w' => w' = w_1) (Addr.add ⟨b_d1, 0, none⟩ 4) [.int .i64 t19]) ∧
  ∃ t23 : Int, (At (fun w' => w' = w_1) (Addr.add ⟨b_d1, 0, none⟩ 5) [.int .i64 t23]) ∧
  K (.int .i64 (IntKind.i64.wrap (IntKind.i64.wrap (IntKind.i64.wrap (IntKind.i64.wrap (IntKind.i64.wrap (IntKind.i64.wrap (2 * t4) + IntKind.i64.wrap (3 * t7)) + IntKind.i64.wrap (4 * t11)) + IntKind.i64.wrap (5 * t15)) + IntKind.i64.wrap (6 * t19)) + t23))) w_1) w
def sk48 : Sk := .leaf
theorem ok48 : fnOk Tryz.prog Tryz.f48.ntmps Tryz.f48 sk48 = true := by kernel_rfl
theorem eq48 (d0 : Value) (K : Value → World → Prop) (w : World) : fnF Tryz.prog cl Tryz.f48 sk48 [d0] K w = B48 d0 K w := by kernel_rfl
theorem call48 (d0 : Value) (K : Value → World → Prop) (w : World) (h : B48 d0 K w) : Gets Tryz.prog 48 #[d0] w K :=
  calls_of (sk := sk48) cl_ok mixed Tryz.func48 ok48 (args := [d0]) (Nat.le_of_ble_eq_true (by kernel_rfl)) (by rw [eq48]; exact h)
def B16 (s0 : ByteArray) (K : Value → World → Prop) (w : World) : Prop :=
  Br ((↑s0.size : Int) != 6)
   (K (.tuple #[.int .i64 0, .int .i64 6]) w)
   (New (.cells #[.int .i64 0, .int .i64 0, .int .i64 0, .int .i64 0, .int .i64 0, .int .i64 0] 88 (0, 0)) (fun b_d4 w_1 =>
    ∃ (I : Int → Int → World → Prop) (μ : Int → Int → World → Nat), (I 0 0 w_1) ∧ ∀ (z : Env) (n5 : Int) (i6 : Int) (w_2 : World), I n5 i6 w_2 →
    Br (decide (i6 < 6))
     (∃ t17 : UInt8, ((0 : Int) ≤ i6) ∧
      (s0[i6.toNat]? = some t17) ∧
      Calls Tryz.prog 47 #[.int .u8 ((↑t17.toNat : Int))] w_2 fun e w_3 =>
      ∃ t18 : Int, (e = .returned (.int .i64 t18)) ∧
      Rng i6 6 (∃ w_4 : World, ((Instr.storeAt 3 (.pointer ((some (Addr.add ⟨b_d4, 0, none⟩ i6.toNat)))) (.int .i64 t18)).run Tryz.prog w_3 = .ok () w_4) ∧
      Rng i6 6 (∃ t22 : Int, (At (fun w' => w' = w_4) (Addr.add ⟨b_d4, 0, none⟩ i6.toNat) [.int .i64 t22]) ∧
      Br (decide (t22 < 0))
       (K (.tuple #[.int .i64 0, .int .i64 6]) w_4)
       (Br (decide (i6 < 5))
         (Rng i6 6 (∃ t30 : Int, (At (fun w' => w' = w_4) (Addr.add ⟨b_d4, 0, none⟩ i6.toNat) [.int .i64 t30]) ∧
          (I (IntKind.i64.wrap (IntKind.i64.wrap (n5 * 31) + t30)) (IntKind.i64.wrap (i6 + 1)) w_4) ∧ μ (IntKind.i64.wrap (IntKind.i64.wrap (n5 * 31) + t30)) (IntKind.i64.wrap (i6 + 1)) w_4 < μ n5 i6 w_2))
         ((I n5 (IntKind.i64.wrap (i6 + 1)) w_4) ∧ μ n5 (IntKind.i64.wrap (i6 + 1)) w_4 < μ n5 i6 w_2)))))
     (∃ t32 : List Value, (t32.length = 6) ∧
      (At (fun w' => w' = w_2) ⟨b_d4, 0, none⟩ t32) ∧
      Calls Tryz.prog 48 #[.agg t32.toArray] w_2 fun e_1 w_5 =>
      ∃ t33 : Int, (e_1 = .returned (.int .i64 t33)) ∧
      Br (t33.tmod 31 != 0)
       (K (.tuple #[.int .i64 0, .int .i64 6]) w_5)
       (K (.tuple #[.int .i64 n5, .int .i64 0]) w_5))) w)
def sk16 : Sk := (.seq .leaf (.seq .leaf (.seq .leaf (.seq .leaf (.seq (.seq .leaf (.block (.loop [5, 6] [(.int .i64), (.int .i64)] [2, 3, 5, 6, 10, 11, 12, 13, 14, 15, 16, 17, 18, 19, 20, 21, 22, 23, 24, 25, 26, 27, 28, 29, 30, 31] .leaf))) .leaf)))))
theorem ok16 : fnOk Tryz.prog Tryz.f16.ntmps Tryz.f16 sk16 = true := by kernel_rfl
theorem eq16 (s0 : ByteArray) (K : Value → World → Prop) (w : World) : fnF Tryz.prog cl Tryz.f16 sk16 [.string s0] K w = B16 s0 K w := by kernel_rfl
theorem call16 (s0 : ByteArray) (K : Value → World → Prop) (w : World) (h : B16 s0 K w) : Gets Tryz.prog 16 #[.string s0] w K :=
  calls_of (sk := sk16) cl_ok mixed Tryz.func16 ok16 (args := [.string s0]) (Nat.le_of_ble_eq_true (by kernel_rfl)) (by rw [eq16]; exact h)
end Go.Proofs.YtfgbbckfikiomaaGreatDoor

/- Packages fare, cmp: floats in order, their places. Condition: words. -/
namespace Go.Proofs.YtfgbbckfikiomaaGreatDoor
set_option linter.unusedVariables false
open Go Go.VC Ieee
variable {R : Cx} {Hs Rest : List HP} {w : World}
theorem cmpF_lt (t1 t2 : Operand) (T : TypeId) (x y : Nat) (w : World) : ((do eqGuard BinOp.lss T t1 t2 (.float .f64 x) (.float .f64 y); binOp BinOp.lss T (.float .f64 x) (.float .f64 y) : Sem Value)).run Tryz.prog w = .ok (.bool (double.order x y == some .lt)) w := by
  simp [eqGuard, binOp, Op.floatCmp, FloatKind.format]
theorem nan_spec {x : Nat} (hw : Sat R Hs w) : Gets Tryz.prog 273 #[.float .f64 x] w fun v w' => v = .bool (nanF x) ∧ Sat R Hs w' := by
  apply call273
  refine ⟨_, fun w' _ => cmp_ne _ _ _ _ _ w', ?_, hw⟩
  have h := ord_self x
  rw [bne, h, Bool.not_not]
theorem compareF_spec {x y : Nat} (hw : Sat R Hs w) : Gets Tryz.prog 258 #[.float .f64 x, .float .f64 y] w fun v w' => v = .int .i64 (rankF x y) ∧ Sat R Hs w' := by
  apply call258
  refine (nan_spec hw).use ?_
  clear hw
  rintro _ w ⟨rfl, hw⟩
  refine ⟨_, rfl, ?_⟩
  refine (nan_spec hw).use ?_
  clear hw
  rintro _ w ⟨rfl, hw⟩
  refine ⟨_, rfl, ?_⟩
  unfold rankF
  refine Br.mk (fun hx => ?_) (fun hx => ?_)
  · refine Br.mk (fun hy => ⟨?_, hw⟩) (fun hy => ⟨?_, hw⟩)
    · rw [kv_nan hx, kv_nan hy, if_neg (by omega), if_pos rfl]
    · have := kv_bd hy
      rw [kv_nan hx, if_pos (by omega)]
  · refine Br.mk (fun hy => ⟨?_, hw⟩) (fun hy => ?_)
    · have := kv_bd hx
      rw [kv_nan hy, if_neg (by omega), if_neg (by omega)]
    · obtain ⟨o1, o2, o3⟩ := ord_lt hx hy
      refine ⟨_, fun w' _ => cmpF_lt _ _ _ _ _ w', ?_⟩
      rw [o1]
      refine Br.d (fun h => ⟨by rw [if_pos h], hw⟩) (fun h => ?_)
      refine ⟨_, fun w' _ => cmp_gt _ _ _ _ _ w', ?_⟩
      rw [o3]
      refine Br.d (fun h2 => ⟨by rw [if_neg h, if_neg (by omega)], hw⟩) (fun h2 => ⟨by rw [if_neg h, if_pos (by omega)], hw⟩)
theorem rank_spec {x y : Nat} (hw : Sat R Hs w) : Gets Tryz.prog 221 #[.float .f64 x, .float .f64 y] w fun v w' => v = .int .i64 (rankF x y) ∧ Sat R Hs w' := by
  apply call221
  refine (compareF_spec hw).use ?_
  rintro _ w ⟨rfl, hw⟩
  exact ⟨_, rfl, rfl, hw⟩
def cmpI (x y : Int) : Int := if x < y then -1 else if y < x then 1 else 0
theorem compareI_spec {x y : Int} (hw : Sat R Hs w) : Gets Tryz.prog 222 #[.int .i64 x, .int .i64 y] w fun v w' => v = .int .i64 (cmpI x y) ∧ Sat R Hs w' := by
  apply call222
  have nan : ∀ {z : Int} {w : World}, Sat R Hs w → Gets Tryz.prog 259 #[.int .i64 z] w fun v w' => v = .bool false ∧ Sat R Hs w' := fun {z w} hw => by
    apply call259
    exact ⟨by simp, hw⟩
  refine (nan hw).use ?_
  clear hw
  rintro _ w ⟨rfl, hw⟩
  refine ⟨_, rfl, ?_⟩
  refine (nan hw).use ?_
  clear hw
  rintro _ w ⟨rfl, hw⟩
  refine ⟨_, rfl, Br.f rfl (Br.f rfl ?_)⟩
  unfold cmpI
  refine Br.d (fun h => ⟨by rw [if_pos h], hw⟩) (fun h => Br.d (fun h2 => ⟨by rw [if_neg h, if_pos (by omega)], hw⟩) (fun h2 => ⟨by rw [if_neg h, if_neg (by omega)], hw⟩))
end Go.Proofs.YtfgbbckfikiomaaGreatDoor

/- Package booking: whether a command may be. Condition: bounds on lengths. -/
namespace Go.Proofs.YtfgbbckfikiomaaGreatDoor
set_option linter.unusedVariables false
open Go Go.VC
open scoped Classical
variable {R : Cx} {Hs Rest : List HP} {w : World}
abbrev cmV (c : Cm) (sg sp : Sl) : List Value := [.int .i64 c.kind, .string c.pnr, .int .i64 c.flt, .int .i64 c.cls, .int .i64 c.many, .int .i64 c.time, .float .f64 c.sc, .string c.lab, .int .i64 c.rows, .slice sg.a sg.len sg.cap, .slice sp.a sp.len sp.cap]
abbrev cmC (b : Nat) (c : Cm) (sg sp : Sl) : HP := pts b (.cells (cmV c sg sp).toArray 38 (0, 0))
theorem right_iff {c : Cm} : RightC c ↔ (∀ n ∈ [c.flt, c.cls, c.many, c.rows] ++ c.grps, numOk n) ∧ (c.pnr.size ≤ 16 ∧ c.lab.size ≤ 16) ∧ (c.grps.length ≤ 16 ∧ c.parts.length ≤ 16) ∧ 1 ≤ c.kind ∧ c.kind ≤ 9 ∧ 0 ≤ c.time ∧ c.time ≤ 1099511627776 := by
  constructor
  · intro h
    refine ⟨fun n hn => ?_, ⟨h.pnr, h.lab⟩, ⟨h.gl, h.pl⟩, h.kind.1, h.kind.2, h.time.1, h.time.2⟩
    simp only [List.cons_append, List.nil_append, List.mem_cons] at hn
    rcases hn with rfl | rfl | rfl | rfl | hn
    · exact h.flt
    · exact h.cls
    · exact h.many
    · exact h.rows
    · exact h.grps n hn
  · rintro ⟨h1, ⟨h2, h3⟩, ⟨h4, h5⟩, h6, h7, h8, h9⟩
    exact ⟨h1 _ (by simp), h1 _ (by simp), h1 _ (by simp), h1 _ (by simp), fun n hn => h1 n (by simp [hn]), h2, h3, h4, h5, ⟨h6, h7⟩, h8, h9⟩
theorem bodd_spec {n : Int} : Gets Tryz.prog 108 #[.int .i64 n] w fun v w' => v = .bool (decide (n < 0 ∨ n > 9999)) ∧ w' = w := by
  apply call108
  refine Br.d (fun h => ⟨by rw [decide_eq_true (by omega)], rfl⟩) (fun h => ⟨?_, rfl⟩)
  congr 1
  exact decide_eq_decide.2 (by omega)
set_option maxHeartbeats 400000 in
theorem bright_spec {c : Cm} {sg sp : Sl} (hg : RoI R sg c.grps) (hgl : c.grps.length ≤ 17592186043904) (hp : sp.len = c.parts.length) (hw : Sat R Hs w) :
    Gets Tryz.prog 41 #[.agg #[.int .i64 c.kind, .string c.pnr, .int .i64 c.flt, .int .i64 c.cls, .int .i64 c.many, .int .i64 c.time, .float .f64 c.sc, .string c.lab, .int .i64 c.rows, .slice sg.a sg.len sg.cap, .slice sp.a sp.len sp.cap]] w fun v w' => v = .bool (decide (RightC c)) ∧ Sat R Hs w' := by
  have hglen := hg.len
  apply call41
  refine new_rule hw fun b w hw => ?_
  have hw : Sat R (cmC b c sg sp :: Hs) w := hw
  repeat (first | refine NilP.mk rfl ?_ | refine ⟨_, At.own selfS (by exact ⟨rfl, trivial⟩), ?_⟩ | refine ⟨_, At.own (eqS hw) (by exact ⟨rfl, trivial⟩), ?_⟩ | refine ⟨_, (by rw [add_off]; exact At.own selfS (by exact ⟨rfl, trivial⟩)), ?_⟩ | refine ⟨_, (by rw [add_off]; exact At.own (eqS hw) (by exact ⟨rfl, trivial⟩)), ?_⟩)
  refine new_rule hw fun b2 w hw => ?_
  have hw : Sat R (Own ⟨some ⟨b2, 0, none⟩, 4, 4⟩ 3 (intsI [c.flt, c.cls, c.many, c.rows]) :: cmC b c sg sp :: Hs) w := own_lit hw
  refine ⟨sg, At.own (eqS hw) (by exact ⟨rfl, trivial⟩), ?_⟩
  refine appendRI (n := 17592186044416) (s := ⟨some ⟨b2, 0, none⟩, 4, 4⟩) (ty := 28) elI8 Tryz.underlying28 hw hg (by simp; omega) (by omega) (by omega) fun t w hw => ?_
  obtain ⟨L, hL⟩ : ∃ L, L = [c.flt, c.cls, c.many, c.rows] ++ c.grps := ⟨_, rfl⟩
  have hLl : L.length = 4 + c.grps.length := by rw [hL]; simp; omega
  rw [← hL] at hw
  have htl : t.len = L.length := by have := Own.len hw; simpa using this
  refine ⟨fun i w => ∃ k : Nat, i = k ∧ k ≤ L.length ∧ (∀ n ∈ L.take k, numOk n) ∧ Sat R (Own t 3 (intsI L) :: cmC b c sg sp :: Hs) w, fun i _ => L.length - i.toNat, ⟨0, rfl, by omega, by simp, hw⟩, ?_⟩
  clear hw
  rintro _ _ w ⟨k, rfl, hk, hok, hw⟩
  have no : ¬ RightC c → ∀ {w}, Sat R (Own t 3 (intsI L) :: cmC b c sg sp :: Hs) w → (Value.bool false = .bool (decide (RightC c)) ∧ Sat R Hs w) := fun h w hw => ⟨by rw [decide_eq_false h], hw.drop.drop⟩
  refine Br.d (fun h => ?_) (fun h => ?_)
  · have hkx : k < L.length := by omega
    refine Own.ix hw (eqS hw) k rfl hkx ?_
    refine bodd_spec.use ?_
    rintro _ w2 ⟨rfl, rfl⟩
    refine ⟨_, rfl, Br.mk (fun h2 => no (fun hr => ?_) hw) (fun h2 => ?_)⟩
    · have h3 := (right_iff.1 hr).1 L[k] (by rw [← hL]; exact List.getElem_mem hkx)
      have h4 := of_decide_eq_true h2
      unfold numOk at h3
      omega
    · rw [wrap64 (by omega) (by omega)]
      refine ⟨⟨k + 1, by omega, by omega, fun n hn => ?_, hw⟩, by dsimp only; omega⟩
      rw [List.take_add_one, List.getElem?_eq_getElem hkx] at hn
      rcases List.mem_append.1 hn with hn | hn
      · exact hok n hn
      · rw [show n = L[k] by simpa using hn]
        have h4 := of_decide_eq_false h2
        unfold numOk
        omega
  · have hall : ∀ n ∈ L, numOk n := by rw [List.take_of_length_le (by omega)] at hok; exact hok
    refine ⟨fun t6 w => t6 = decide (c.pnr.size ≤ 16 ∧ c.lab.size ≤ 16) ∧ Sat R (Own t 3 (intsI L) :: cmC b c sg sp :: Hs) w, ⟨c.pnr, At.own (eqS hw) (by exact ⟨rfl, trivial⟩), Br.d (fun h => ?_) (fun h => ?_)⟩, ?_⟩
    · refine ⟨c.lab, At.own (eqS hw) (by exact ⟨rfl, trivial⟩), ?_, hw⟩
      exact decide_eq_decide.2 (by omega)
    · exact ⟨by rw [decide_eq_false (by omega)], hw⟩
    clear hw
    rintro _ _ w ⟨rfl, hw⟩
    refine ⟨fun t7 w => t7 = decide (c.grps.length ≤ 16 ∧ c.parts.length ≤ 16) ∧ Sat R (Own t 3 (intsI L) :: cmC b c sg sp :: Hs) w, ⟨sg, At.own (eqS hw) (by exact ⟨rfl, trivial⟩), Br.d (fun h => ?_) (fun h => ?_)⟩, ?_⟩
    · refine ⟨sp, At.own (eqS hw) (by exact ⟨rfl, trivial⟩), ?_, hw⟩
      exact decide_eq_decide.2 (by omega)
    · exact ⟨by rw [decide_eq_false (by omega)], hw⟩
    clear hw
    rintro _ _ w ⟨rfl, hw⟩
    have no2 : ¬ RightC c → (Value.bool false = .bool (decide (RightC c)) ∧ Sat R Hs w) := fun h => no h hw
    refine Br.d (fun h1 => ?_) (fun h1 => no2 fun hr => h1 (right_iff.1 hr).2.1)
    refine Br.d (fun h2 => ?_) (fun h2 => no2 fun hr => h2 (right_iff.1 hr).2.2.1)
    refine ⟨c.kind, At.own (eqS hw) (by exact ⟨rfl, trivial⟩), Br.d (fun h3 => ?_) (fun h3 => no2 fun hr => h3 (right_iff.1 hr).2.2.2.1)⟩
    refine ⟨c.kind, At.own (eqS hw) (by exact ⟨rfl, trivial⟩), Br.d (fun h4 => ?_) (fun h4 => no2 fun hr => h4 (right_iff.1 hr).2.2.2.2.1)⟩
    refine ⟨c.time, At.own (eqS hw) (by exact ⟨rfl, trivial⟩), Br.d (fun h5 => ?_) (fun h5 => no2 fun hr => h5 (right_iff.1 hr).2.2.2.2.2.1)⟩
    refine ⟨c.time, At.own (eqS hw) (by exact ⟨rfl, trivial⟩), ?_, hw.drop.drop⟩
    congr 1
    refine decide_eq_decide.2 ?_
    rw [right_iff, ← hL]
    exact ⟨fun h6 => ⟨hall, h1, h2, h3, h4, h5, h6⟩, fun h6 => h6.2.2.2.2.2.2⟩
end Go.Proofs.YtfgbbckfikiomaaGreatDoor


/- Package booking: Answer. Condition: bounds on lengths. -/
namespace Go.Proofs.YtfgbbckfikiomaaGreatDoor
set_option linter.unusedVariables false
open Go Go.VC
variable {R : Cx} {Hs Rest : List HP} {w : World}
abbrev rpV (r : Rp) (sl sb : Sl) : List Value := [.int .i64 r.code, .string r.pnr, .int .i64 r.state, .int .i64 r.flt, .int .i64 r.cls, .int .i64 r.many, .int .i64 r.time, .slice sl.a sl.len sl.cap, .slice sb.a sb.len sb.cap]
abbrev rpC (b : Nat) (r : Rp) (sl sb : Sl) : HP := pts b (.cells (rpV r sl sb).toArray 31 (0, 0))
structure RpW (r : Rp) : Prop where
  ints : ∀ x ∈ [r.code, r.state, r.flt, r.cls, r.many, r.time] ++ r.left, x < 9223372036854775808
  pnr : r.pnr.size ≤ 100000
  ll : r.left.length ≤ 100000
  bl : r.labs.length ≤ 100000
  labs : ∀ s ∈ r.labs, s.size ≤ 100000
end Go.Proofs.YtfgbbckfikiomaaGreatDoor





/- Package booking: Decode. Condition: bounds on lengths. -/
namespace Go.Proofs.YtfgbbckfikiomaaGreatDoor
set_option linter.unusedVariables false
open Go Go.VC
open scoped Classical
variable {R : Cx} {Hs Rest : List HP} {w : World}
abbrev nilSl : Sl := ⟨none, 0, 0⟩
abbrev cmHead (k : Int) (p : ByteArray) (f c m t : Int) : Cm := ⟨k, p, f, c, m, t, 0, ByteArray.mk #[], 0, [], []⟩
abbrev cmNew (b : Nat) : HP := cmC b (cmHead 0 (ByteArray.mk #[]) 0 0 0 0) nilSl nilSl
section
variable (S : World → Prop) (J : Option Addr → World → Prop) (b4 b : Nat) (r : Option Addr)
end
section
variable {J : Option Addr → World → Prop} {b4 b r : Nat} {rd : Rd} {k f c m t : Int} {p : ByteArray}
def hd2 (rd : Rd) : (Int × Int × Int × Int) × Rd :=
  let f := rdNum 9999 rd
  let c := rdNum 9999 f.2
  let m := rdNum 9999 c.2
  let t := rdNum 1099511627776 m.2
  ((f.1, c.1, m.1, t.1), t.2)
end
end Go.Proofs.YtfgbbckfikiomaaGreatDoor

/- Package booking: Read. Condition: bounds on lengths. -/
namespace Go.Proofs.YtfgbbckfikiomaaGreatDoor
set_option linter.unusedVariables false
open Go Go.VC
open scoped Classical
variable {R : Cx} {Hs Rest : List HP} {w : World}
abbrev rpHead (k : Int) (p : ByteArray) (s f c m t : Int) : Rp := ⟨k, p, s, f, c, m, t, [], []⟩
abbrev rpNew (b : Nat) : HP := rpC b (rpHead 0 (ByteArray.mk #[]) 0 0 0 0 0) nilSl nilSl
section
variable (S : World → Prop) (J : Option Addr → World → Prop) (b4 b : Nat) (r : Option Addr)
end
section
variable {J : Option Addr → World → Prop} {b4 b r : Nat} {rd : Rd} {k s f c m t : Int} {p : ByteArray}
end
end Go.Proofs.YtfgbbckfikiomaaGreatDoor





/- The formulas of functions of this seat's translation, printed by a program of mine off the translation; each is proved equal to 'fnF' of the function's body, so it is enough for the call. No condition. -/
namespace Go.Proofs.YtfgbbckfikiomaaGreatDoor
open Go Go.VC
set_option linter.unusedVariables false
set_option maxRecDepth 10000
def B12  (K : Value → World → Prop) (w : World) : Prop :=
  Calls Tryz.prog 14 #[] w fun e w_1 =>
  ∃ t3 : Option Addr, (e = .returned (.pointer t3)) ∧
  Br t3.isNone
   (K (.bool false) w_1)
   (Calls Tryz.prog 38 #[] w_1 fun e_1 w_2 =>
    ∃ t7 : Int, ∃ t7_1 : ByteArray, ∃ t7_2 : Int, ∃ t7_3 : Int, ∃ t7_4 : Int, ∃ t7_5 : Int, ∃ t7_6 : Nat, ∃ t7_7 : ByteArray, ∃ t7_8 : Int, ∃ t7_9 : Sl, ∃ t7_10 : Sl, (e_1 = .returned (.agg #[.int .i64 t7, .string t7_1, .int .i64 t7_2, .int .i64 t7_3, .int .i64 t7_4, .int .i64 t7_5, .float .f64 t7_6, .string t7_7, .int .i64 t7_8, .slice t7_9.a t7_9.len t7_9.cap, .slice t7_10.a t7_10.len t7_10.cap])) ∧
    Calls Tryz.prog 15 #[.pointer t3, .agg #[.int .i64 t7, .string t7_1, .int .i64 t7_2, .int .i64 t7_3, .int .i64 t7_4, .int .i64 t7_5, .float .f64 t7_6, .string t7_7, .int .i64 t7_8, .slice t7_9.a t7_9.len t7_9.cap, .slice t7_10.a t7_10.len t7_10.cap]] w_2 fun e_2 w_3 =>
    ∃ t8 : Int, ∃ t8_1 : ByteArray, ∃ t8_2 : Int, ∃ t8_3 : Int, ∃ t8_4 : Int, ∃ t8_5 : Int, ∃ t8_6 : Int, ∃ t8_7 : Sl, ∃ t8_8 : Sl, (e_2 = .returned (.agg #[.int .i64 t8, .string t8_1, .int .i64 t8_2, .int .i64 t8_3, .int .i64 t8_4, .int .i64 t8_5, .int .i64 t8_6, .slice t8_7.a t8_7.len t8_7.cap, .slice t8_8.a t8_8.len t8_8.cap])) ∧
    New (.cells #[.int .i64 0, .string (ByteArray.mk #[]), .int .i64 0, .int .i64 0, .int .i64 0, .int .i64 0, .int .i64 0, .slice none 0 0, .slice none 0 0] 31 (0, 0)) (fun b_r2 w_4 =>
    ∃ w_5 : World, ((Instr.storeAt 31 (.pointer ((some ⟨b_r2, 0, none⟩))) (.agg #[.int .i64 t8, .string t8_1, .int .i64 t8_2, .int .i64 t8_3, .int .i64 t8_4, .int .i64 t8_5, .int .i64 t8_6, .slice t8_7.a t8_7.len t8_7.cap, .slice t8_8.a t8_8.len t8_8.cap])).run Tryz.prog w_4 = .ok () w_5) ∧
    ∃ t10 : Int, (At (fun w' => w' = w_5) ⟨b_r2, 0, none⟩ [.int .i64 t10]) ∧
    Br (t10 == 0)
     (∃ t14 : Sl, (At (fun w' => w' = w_5) ⟨b_r2, 0 + 7, none⟩ [.slice t14.a t14.len t14.cap]) ∧
      Br ((↑t14.len : Int) == 1)
       (∃ t20 : Sl, (At (fun w' => w' = w_5) ⟨b_r2, 0 + 7, none⟩ [.slice t20.a t20.len t20.cap]) ∧
        Rng 0 t20.len (NilP t20.a fun a_t21 =>
        ∃ t22 : Int, (At (fun w' => w' = w_5) (Addr.add a_t21 0) [.int .i64 t22]) ∧
        K (.bool (t22 == 2)) w_5))
       (K (.bool false) w_5))
     (K (.bool false) w_5)) w_3)
def sk12 : Sk := .leaf
theorem ok12 : fnOk Tryz.prog Tryz.f12.ntmps Tryz.f12 sk12 = true := by kernel_rfl
theorem eq12  (K : Value → World → Prop) (w : World) : fnF Tryz.prog cl Tryz.f12 sk12 [] K w = B12  K w := by kernel_rfl
theorem call12  (K : Value → World → Prop) (w : World) (h : B12  K w) : Gets Tryz.prog 12 #[] w K :=
  calls_of (sk := sk12) cl_ok mixed Tryz.func12 ok12 (args := []) (Nat.le_of_ble_eq_true (by kernel_rfl)) (by rw [eq12]; exact h)
def B38  (K : Value → World → Prop) (w : World) : Prop :=
  New (.cells #[.int .i64 0, .string (ByteArray.mk #[]), .int .i64 0, .int .i64 0, .int .i64 0, .int .i64 0, .float .f64 0, .string (ByteArray.mk #[]), .int .i64 0, .slice none 0 0, .slice none 0 0] 38 (0, 0)) (fun b_t0 w_1 =>
  New (.cells #[.int .i64 2] 3 (0, 0)) (fun b_t1 w_2 =>
  New (.cells #[.float .f64 4607182418800017408] 33 (0, 0)) (fun b_t3 w_3 =>
  ∃ w_4 : World, ((Instr.storeAt 38 (.pointer ((some ⟨b_t0, 0, none⟩))) (.agg #[.int .i64 1, .string (ByteArray.mk #[]), .int .i64 7, .int .i64 0, .int .i64 0, .int .i64 0, .float .f64 0, .string (ByteArray.mk #[]), .int .i64 1, .slice ((some ⟨b_t1, 0, none⟩)) 1 1, .slice ((some ⟨b_t3, 0, none⟩)) 1 1])).run Tryz.prog w_3 = .ok () w_4) ∧
  ∃ u : Int, ∃ u_1 : ByteArray, ∃ u_2 : Int, ∃ u_3 : Int, ∃ u_4 : Int, ∃ u_5 : Int, ∃ u_6 : Nat, ∃ u_7 : ByteArray, ∃ u_8 : Int, ∃ u_9 : Sl, ∃ u_10 : Sl, (At (fun w' => w' = w_4) ⟨b_t0, 0, none⟩ [.int .i64 u, .string u_1, .int .i64 u_2, .int .i64 u_3, .int .i64 u_4, .int .i64 u_5, .float .f64 u_6, .string u_7, .int .i64 u_8, .slice u_9.a u_9.len u_9.cap, .slice u_10.a u_10.len u_10.cap]) ∧
  K (.agg #[.int .i64 u, .string u_1, .int .i64 u_2, .int .i64 u_3, .int .i64 u_4, .int .i64 u_5, .float .f64 u_6, .string u_7, .int .i64 u_8, .slice u_9.a u_9.len u_9.cap, .slice u_10.a u_10.len u_10.cap]) w_4) w_2) w_1) w
def sk38 : Sk := .leaf
theorem ok38 : fnOk Tryz.prog Tryz.f38.ntmps Tryz.f38 sk38 = true := by kernel_rfl
theorem eq38  (K : Value → World → Prop) (w : World) : fnF Tryz.prog cl Tryz.f38 sk38 [] K w = B38  K w := by kernel_rfl
theorem call38  (K : Value → World → Prop) (w : World) (h : B38  K w) : Gets Tryz.prog 38 #[] w K :=
  calls_of (sk := sk38) cl_ok mixed Tryz.func38 ok38 (args := []) (Nat.le_of_ble_eq_true (by kernel_rfl)) (by rw [eq38]; exact h)
def B13 (l0 : Sl) (K : Value → World → Prop) (w : World) : Prop :=
  ∃ (I : Int → World → Prop) (μ : Int → World → Nat), (I 0 w) ∧ ∀ (z : Env) (i3 : Int) (w_1 : World), I i3 w_1 →
  ∃ (J : World → Prop), (Br (decide (i3 < (↑l0.len : Int)))
     (Br (decide (i3 < 400))
       (J  w_1)
       (K (.bool false) w_1))
     (K (.bool false) w_1)) ∧
  ∀ (z_1 : Env)  (w_2 : World), J  w_2 →
  Rng i3 l0.len (NilP l0.a fun a_t16 =>
  ∃ t19 : Sl, (At (fun w' => w' = w_2) ⟨(a_t16.add (mulS i3.toNat 11)).block, (a_t16.add (mulS i3.toNat 11)).off + 8 + 1, none⟩ [.slice t19.a t19.len t19.cap]) ∧
  Br (decide ((↑t19.len : Int) > 100))
   (K (.bool true) w_2)
   (Rng i3 l0.len (NilP l0.a fun a_t25 =>
    ∃ t27 : Sl, (At (fun w' => w' = w_2) ⟨(a_t25.add (mulS i3.toNat 11)).block, (a_t25.add (mulS i3.toNat 11)).off + 10, none⟩ [.slice t27.a t27.len t27.cap]) ∧
    Br (decide ((↑t27.len : Int) > 100))
     (K (.bool true) w_2)
     (Rng i3 l0.len (NilP l0.a fun a_t34 =>
      ∃ t36 : ByteArray, (At (fun w' => w' = w_2) ⟨(a_t34.add (mulS i3.toNat 11)).block, (a_t34.add (mulS i3.toNat 11)).off + 1, none⟩ [.string t36]) ∧
      Br (decide ((↑t36.size : Int) > 1000))
       (K (.bool true) w_2)
       (Rng i3 l0.len (NilP l0.a fun a_t43 =>
        ∃ t45 : ByteArray, (At (fun w' => w' = w_2) ⟨(a_t43.add (mulS i3.toNat 11)).block, (a_t43.add (mulS i3.toNat 11)).off + 7, none⟩ [.string t45]) ∧
        Br (decide ((↑t45.size : Int) > 1000))
         (K (.bool true) w_2)
         ((I (IntKind.i64.wrap (i3 + 1)) w_2) ∧ μ (IntKind.i64.wrap (i3 + 1)) w_2 < μ i3 w_1))))))))
def sk13 : Sk := (.seq .leaf (.seq (.seq .leaf (.block (.loop [3] [(.int .i64)] [2, 3, 4, 5, 6, 7, 8, 9, 10, 11, 12, 13, 14, 15, 16, 17, 18, 19, 20, 21, 22, 23, 24, 25, 26, 27, 28, 29, 30, 31, 32, 33, 34, 35, 36, 37, 38, 39, 40, 41, 42, 43, 44, 45, 46, 47, 48] (.cut [] [] [4, 5, 6, 7, 8, 9, 10, 11] .leaf .leaf)))) .leaf))
theorem ok13 : fnOk Tryz.prog Tryz.f13.ntmps Tryz.f13 sk13 = true := by kernel_rfl
theorem eq13 (l0 : Sl) (K : Value → World → Prop) (w : World) : fnF Tryz.prog cl Tryz.f13 sk13 [.slice l0.a l0.len l0.cap] K w = B13 l0 K w := by kernel_rfl
theorem call13 (l0 : Sl) (K : Value → World → Prop) (w : World) (h : B13 l0 K w) : Gets Tryz.prog 13 #[.slice l0.a l0.len l0.cap] w K :=
  calls_of (sk := sk13) cl_ok mixed Tryz.func13 ok13 (args := [.slice l0.a l0.len l0.cap]) (Nat.le_of_ble_eq_true (by kernel_rfl)) (by rw [eq13]; exact h)
def B3 (l0 : Sl) (K : Value → World → Prop) (w : World) : Prop :=
  Calls Tryz.prog 12 #[] w fun e w_1 =>
  ∃ t11 : Bool, (e = .returned (.bool t11)) ∧
  Calls Tryz.prog 13 #[.slice l0.a l0.len l0.cap] w_1 fun e_1 w_2 =>
  ∃ t13 : Bool, (e_1 = .returned (.bool t13)) ∧
  ∃ (J : World → Prop), (Br (!t11)
     (K (.bool t11) w_2)
     (Br t13
       (K (.bool t11) w_2)
       (J  w_2))) ∧
  ∀ (z : Env)  (w_3 : World), J  w_3 →
  Calls Tryz.prog 14 #[] w_3 fun e_2 w_4 =>
  ∃ t20 : Option Addr, (e_2 = .returned (.pointer t20)) ∧
  ∃ (I : Int → Int → World → Prop) (μ : Int → Int → World → Nat), (I 0 0 w_4) ∧ ∀ (z_1 : Env) (last6 : Int) (i7 : Int) (w_5 : World), I last6 i7 w_5 →
  ∃ (J_1 : World → Prop), (Br (decide (i7 < (↑l0.len : Int)))
     (Br (decide (i7 < 120))
       (J_1  w_5)
       (K (.bool true) w_5))
     (K (.bool true) w_5)) ∧
  ∀ (z_2 : Env)  (w_6 : World), J_1  w_6 →
  Rng i7 l0.len (NilP l0.a fun a_t34 =>
  ∃ t35 : Int, ∃ t35_1 : ByteArray, ∃ t35_2 : Int, ∃ t35_3 : Int, ∃ t35_4 : Int, ∃ t35_5 : Int, ∃ t35_6 : Nat, ∃ t35_7 : ByteArray, ∃ t35_8 : Int, ∃ t35_9 : Sl, ∃ t35_10 : Sl, (At (fun w' => w' = w_6) (Addr.add a_t34 (mulS i7.toNat 11)) [.int .i64 t35, .string t35_1, .int .i64 t35_2, .int .i64 t35_3, .int .i64 t35_4, .int .i64 t35_5, .float .f64 t35_6, .string t35_7, .int .i64 t35_8, .slice t35_9.a t35_9.len t35_9.cap, .slice t35_10.a t35_10.len t35_10.cap]) ∧
  Calls Tryz.prog 15 #[.pointer t20, .agg #[.int .i64 t35, .string t35_1, .int .i64 t35_2, .int .i64 t35_3, .int .i64 t35_4, .int .i64 t35_5, .float .f64 t35_6, .string t35_7, .int .i64 t35_8, .slice t35_9.a t35_9.len t35_9.cap, .slice t35_10.a t35_10.len t35_10.cap]] w_6 fun e_3 w_7 =>
  ∃ t36 : Int, ∃ t36_1 : ByteArray, ∃ t36_2 : Int, ∃ t36_3 : Int, ∃ t36_4 : Int, ∃ t36_5 : Int, ∃ t36_6 : Int, ∃ t36_7 : Sl, ∃ t36_8 : Sl, (e_3 = .returned (.agg #[.int .i64 t36, .string t36_1, .int .i64 t36_2, .int .i64 t36_3, .int .i64 t36_4, .int .i64 t36_5, .int .i64 t36_6, .slice t36_7.a t36_7.len t36_7.cap, .slice t36_8.a t36_8.len t36_8.cap])) ∧
  New (.cells #[.int .i64 0, .string (ByteArray.mk #[]), .int .i64 0, .int .i64 0, .int .i64 0, .int .i64 0, .int .i64 0, .slice none 0 0, .slice none 0 0] 31 (0, 0)) (fun b_r8 w_8 =>
  ∃ w_9 : World, ((Instr.storeAt 31 (.pointer ((some ⟨b_r8, 0, none⟩))) (.agg #[.int .i64 t36, .string t36_1, .int .i64 t36_2, .int .i64 t36_3, .int .i64 t36_4, .int .i64 t36_5, .int .i64 t36_6, .slice t36_7.a t36_7.len t36_7.cap, .slice t36_8.a t36_8.len t36_8.cap])).run Tryz.prog w_8 = .ok () w_9) ∧
  ∃ (J_2 : World → Prop), (∃ t38 : Int, (At (fun w' => w' = w_9) ⟨b_r8, 0, none⟩ [.int .i64 t38]) ∧
    Br (t38 != 0)
     ((I last6 (IntKind.i64.wrap (i7 + 1)) w_9) ∧ μ last6 (IntKind.i64.wrap (i7 + 1)) w_9 < μ last6 i7 w_5)
     (Rng i7 l0.len (NilP l0.a fun a_t43 =>
      ∃ t45 : Int, (At (fun w' => w' = w_9) (Addr.add (Addr.add a_t43 (mulS i7.toNat 11)) 0) [.int .i64 t45]) ∧
      Br (t45 != 2)
       (Rng i7 l0.len (NilP l0.a fun a_t50 =>
        ∃ t52 : Int, (At (fun w' => w' = w_9) (Addr.add (Addr.add a_t50 (mulS i7.toNat 11)) 0) [.int .i64 t52]) ∧
        Br (t52 != 7)
         ((I last6 (IntKind.i64.wrap (i7 + 1)) w_9) ∧ μ last6 (IntKind.i64.wrap (i7 + 1)) w_9 < μ last6 i7 w_5)
         (J_2  w_9)))
       (J_2  w_9)))) ∧
  ∀ (z_3 : Env)  (w_10 : World), J_2  w_10 →
  ∃ t58 : ByteArray, (At (fun w' => w' = w_10) ⟨b_r8, 0 + 1, none⟩ [.string t58]) ∧
  Calls Tryz.prog 16 #[.string t58] w_10 fun e_4 w_11 =>
  ∃ t59 : Int, ∃ t59_1 : Int, (e_4 = .returned (.tuple #[.int .i64 t59, .int .i64 t59_1])) ∧
  Drw w_11 fun S w_12 =>
  Br (t59_1 != 0)
   (K (.bool false) w_12)
   (Br (decide (t59 ≤ last6))
     (K (.bool false) w_12)
     (∃ t71 : Int, (At S ⟨b_r8, 0 + 3, none⟩ [.int .i64 t71]) ∧
      Rng i7 l0.len (NilP l0.a fun a_t74 =>
      ∃ t76 : Int, (At S ⟨(a_t74.add (mulS i7.toNat 11)).block, (a_t74.add (mulS i7.toNat 11)).off + 2, none⟩ [.int .i64 t76]) ∧
      Br (t71 != t76)
       (K (.bool false) w_12)
       (∃ t81 : Int, (At S ⟨b_r8, 0 + 5, none⟩ [.int .i64 t81]) ∧
        Rng i7 l0.len (NilP l0.a fun a_t84 =>
        ∃ t86 : Int, (At S ⟨(a_t84.add (mulS i7.toNat 11)).block, (a_t84.add (mulS i7.toNat 11)).off + 4, none⟩ [.int .i64 t86]) ∧
        Br (t81 != t86)
         (K (.bool false) w_12)
         (∃ t91 : Int, (At S ⟨b_r8, 0 + 4, none⟩ [.int .i64 t91]) ∧
          Rng i7 l0.len (NilP l0.a fun a_t94 =>
          ∃ t96 : Int, (At S ⟨(a_t94.add (mulS i7.toNat 11)).block, (a_t94.add (mulS i7.toNat 11)).off + 3, none⟩ [.int .i64 t96]) ∧
          Br (t91 != t96)
           (K (.bool false) w_12)
           ((I t59 (IntKind.i64.wrap (i7 + 1)) w_12) ∧ μ t59 (IntKind.i64.wrap (i7 + 1)) w_12 < μ last6 i7 w_5))))))))) w_7)
def sk3 : Sk := (.seq .leaf (.seq .leaf (.seq .leaf (.cut [] [] [2, 14, 15, 16, 17, 18, 19] .leaf (.seq .leaf (.seq .leaf (.seq (.seq .leaf (.block (.loop [6, 7] [(.int .i64), (.int .i64)] [2, 6, 7, 8, 9, 10, 21, 22, 23, 24, 25, 26, 27, 28, 29, 30, 31, 32, 33, 34, 35, 36, 37, 38, 39, 40, 41, 42, 43, 44, 45, 46, 47, 48, 49, 50, 51, 52, 53, 54, 55, 56, 57, 58, 59, 60, 61, 62, 63, 64, 65, 66, 67, 68, 69, 70, 71, 72, 73, 74, 75, 76, 77, 78, 79, 80, 81, 82, 83, 84, 85, 86, 87, 88, 89, 90, 91, 92, 93, 94, 95, 96, 97, 98, 99] (.cut [] [] [21, 22, 23, 24, 25, 26, 27, 28] .leaf (.seq (.block (.seq .leaf (.cut [] [] [37, 38, 39, 40, 41, 42, 43, 44, 45, 46, 47, 48, 49, 50, 51, 52, 53, 54, 55] .leaf .leaf))) .leaf))))) .leaf)))))))
theorem ok3 : fnOk Tryz.prog Tryz.f3.ntmps Tryz.f3 sk3 = true := by kernel_rfl
theorem eq3 (l0 : Sl) (K : Value → World → Prop) (w : World) : fnF Tryz.prog cl Tryz.f3 sk3 [.slice l0.a l0.len l0.cap] K w = B3 l0 K w := by kernel_rfl
theorem call3 (l0 : Sl) (K : Value → World → Prop) (w : World) (h : B3 l0 K w) : Gets Tryz.prog 3 #[.slice l0.a l0.len l0.cap] w K :=
  calls_of (sk := sk3) cl_ok mixed Tryz.func3 ok3 (args := [.slice l0.a l0.len l0.cap]) (Nat.le_of_ble_eq_true (by kernel_rfl)) (by rw [eq3]; exact h)
end Go.Proofs.YtfgbbckfikiomaaGreatDoor
/- The laws of chapter 18: two replies, two commands; many commands. Condition: bounds on lengths. -/
namespace Go.Proofs.YtfgbbckfikiomaaGreatDoor
set_option linter.unusedVariables false
open Go Go.VC
open scoped Classical
variable {R : Cx} {Hs Rest : List HP} {w : World}
abbrev CmS := Cm × Sl × Sl
abbrev cmRow (c : CmS) : List Value := cmV c.1 c.2.1 c.2.2
def Much (c : CmS) : Prop := 100 < c.2.1.len ∨ 100 < c.2.2.len ∨ 1000 < c.1.pnr.size ∨ 1000 < c.1.lab.size
theorem much_spec {l : Sl} {cs : List CmS} (hr : ∀ S : World → Prop, (∀ w, S w → Sat R Hs w) → ReadsN 11 l (cs.map cmRow) S) (hw : Sat R Hs w) :
    Gets Tryz.prog 13 #[.slice l.a l.len l.cap] w fun v w' => ∃ b : Bool, v = .bool b ∧ (b = false → ∀ c ∈ cs.take 400, ¬ Much c) ∧ Sat R Hs w' := by
  have hlen := (hr _ (eqS hw)).1
  rw [List.length_map] at hlen
  apply call13
  refine ⟨fun i w => ∃ k : Nat, i = k ∧ k ≤ 400 ∧ k ≤ cs.length ∧ (∀ c ∈ cs.take k, ¬ Much c) ∧ Sat R Hs w, fun i _ => 400 - i.toNat, ⟨0, rfl, by omega, by omega, by simp, hw⟩, ?_⟩
  clear hw
  rintro _ _ w ⟨k, rfl, hk, hkc, hm, hw⟩
  have fin : (cs.take k = cs.take 400) → ∃ b : Bool, Value.bool false = .bool b ∧ (b = false → ∀ c ∈ cs.take 400, ¬ Much c) ∧ Sat R Hs w := fun e => ⟨false, rfl, fun _ => by rw [← e]; exact hm, hw⟩
  refine ⟨fun w => (k < 400 ∧ k < cs.length) ∧ Sat R Hs w, ?_, ?_⟩
  · with_reducible refine Br.d (fun h => ?_) (fun h => fin ?_)
    · with_reducible refine Br.d (fun h2 => ?_) (fun h2 => fin ?_)
      · exact ⟨⟨by omega, by omega⟩, hw⟩
      · rw [show k = 400 by omega]
    · rw [List.take_of_length_le (by omega), List.take_of_length_le (by omega)]
  clear hw
  rintro _ w ⟨⟨h1, h2⟩, hw⟩
  have hS := hr _ (eqS hw)
  have yes : ∀ {b : Bool}, b = true → ∃ b2 : Bool, Value.bool b = .bool b2 ∧ (b2 = false → ∀ c ∈ cs.take 400, ¬ Much c) ∧ Sat R Hs w := fun {b} e => ⟨b, rfl, fun h => (by rw [e] at h; cases h), hw⟩
  refine hS.rngM h2 fun a _ he => ⟨cs[k].2.1, he.f 9 (by exact ⟨rfl, trivial⟩), Br.d (fun _ => yes rfl) (fun g1 => ?_)⟩
  refine hS.rngM h2 fun a _ he => ⟨cs[k].2.2, he.f 10 (by exact ⟨rfl, trivial⟩), Br.d (fun _ => yes rfl) (fun g2 => ?_)⟩
  refine hS.rngM h2 fun a _ he => ⟨cs[k].1.pnr, he.f 1 (by exact ⟨rfl, trivial⟩), Br.d (fun _ => yes rfl) (fun g3 => ?_)⟩
  refine hS.rngM h2 fun a _ he => ⟨cs[k].1.lab, he.f 7 (by exact ⟨rfl, trivial⟩), Br.d (fun _ => yes rfl) (fun g4 => ?_)⟩
  rw [wrap64 (by omega) (by omega)]
  refine ⟨⟨k + 1, by omega, by omega, by omega, fun c hc => ?_, hw⟩, by dsimp only; omega⟩
  rw [List.take_add_one, List.getElem?_eq_getElem h2] at hc
  rcases List.mem_append.1 hc with hc | hc
  · exact hm c hc
  · rw [show c = cs[k] by simpa using hc]
    unfold Much
    omega
end Go.Proofs.YtfgbbckfikiomaaGreatDoor
/- Package booking: the book in memory; errors that are thrown and caught. Condition: none. -/
namespace Go.Proofs.YtfgbbckfikiomaaGreatDoor
set_option linter.unusedVariables false
open Go Go.VC
open scoped Classical
variable {R : Cx} {Hs Rest : List HP} {w : World}
def wtV (w : Wt) : List Value := [.int .i64 w.id, .int .i64 w.cls, .int .i64 w.many, .int .i64 w.time, .float .f64 w.sc]
abbrev quCell (s : Sl) : Obj := .cells [.slice s.a s.len s.cap].toArray 179 (0, 0)
def QuAt (q : Nat) (l : List Wt) : HP := exs fun s : Sl => Star [pts q (quCell s), OwnN 5 s 181 (l.map wtV)]
theorem Sat.qu {q : Nat} {l : List Wt} : Sat R (QuAt q l :: Hs) w ↔ ∃ s : Sl, Sat R (pts q (quCell s) :: OwnN 5 s 181 (l.map wtV) :: Hs) w := by
  unfold QuAt
  rw [Sat.exs]
  exact ⟨fun ⟨s, h⟩ => ⟨s, Sat.star.1 h⟩, fun ⟨s, h⟩ => ⟨s, Sat.star.2 h⟩⟩
abbrev FE := Nat × Nat × Pl
abbrev BE := Nat × Bk
def plAt (e : FE) : HP := Star [LoneAt e.1 e.2.2.r, QuAt e.2.1 e.2.2.q]
abbrev bkObj (x : Bk) : Obj := .cells [.int .i64 x.id, .int .i64 x.flt, .int .i64 x.cls, .int .i64 x.many, .int .i64 x.state, .int .i64 x.till].toArray 106 (0, 0)
def bkAt (e : BE) : HP := pts e.1 (bkObj e.2)
def FlsAt (fs : List FE) : HP := Star (fs.map plAt)
def BksAt (xs : List BE) : HP := Star (xs.map bkAt)
def flV (e : FE) : Int × Value := (e.2.2.n, .agg #[.pointer (some ⟨e.1, 0, none⟩), .pointer (some ⟨e.2.1, 0, none⟩)])
def bkV (e : BE) : Int × Value := (e.2.id, .pointer (some ⟨e.1, 0, none⟩))
abbrev bookC (b : Book) (m1 m2 : Nat) : Obj := .cells [.int .i64 b.now, .int .i64 b.next, .map (some m1), .map (some m2)].toArray 80 (0, 0)
structure BookL (b : Book) (fs : List FE) (xs : List BE) : Prop where
  fl : (fs.map fun e => e.2.2).Perm b.fl
  bk : xs.map (fun e => e.2) = b.L
def BookAt (p : Nat) (b : Book) : HP := exs fun m1 : Nat => exs fun m2 : Nat => exs fun fs : List FE => exs fun xs : List BE =>
  Star [pur (BookL b fs xs), pts p (bookC b m1 m2), MapAt m1 (fs.map flV), MapAt m2 (xs.map bkV), FlsAt fs, BksAt xs]
theorem Sat.book {p : Nat} {b : Book} : Sat R (BookAt p b :: Hs) w ↔ ∃ m1 m2 fs xs, BookL b fs xs ∧ Sat R (pts p (bookC b m1 m2) :: MapAt m1 (fs.map flV) :: MapAt m2 (xs.map bkV) :: FlsAt fs :: BksAt xs :: Hs) w := by
  unfold BookAt
  simp only [Sat.exs]
  constructor
  · rintro ⟨m1, m2, fs, xs, h⟩
    obtain ⟨h1, h2⟩ := Sat.pur.1 (Sat.star.1 h)
    exact ⟨m1, m2, fs, xs, h1, h2⟩
  · rintro ⟨m1, m2, fs, xs, h1, h2⟩
    exact ⟨m1, m2, fs, xs, Sat.star.2 (Sat.pur.2 ⟨h1, h2⟩)⟩
abbrev pMap : MapT Tryz.prog 77 Int 3 102 (.agg #[.pointer none, .pointer none]) := ⟨Tryz.underlying77, Tryz.underlying3, Tryz.zeroValue102⟩
abbrev bMap : MapT Tryz.prog 78 Int 3 86 (.pointer none) := ⟨Tryz.underlying78, Tryz.underlying3, Tryz.zeroValue86⟩
theorem FlsAt.snoc {fs : List FE} {f q : Nat} {p : Pl} (hw : Sat R (LoneAt f p.r :: QuAt q p.q :: FlsAt fs :: Hs) w) : Sat R (FlsAt (fs ++ [(f, q, p)]) :: Hs) w := by
  unfold FlsAt at hw ⊢
  rw [Sat.star, List.map_append, List.append_assoc]
  have hw : Sat R (Star (fs.map plAt) :: LoneAt f p.r :: QuAt q p.q :: Hs) w := hw.arr
  rw [Sat.star] at hw
  have key : ∀ (L : List HP) {R : Cx}, Sat R (L ++ LoneAt f p.r :: QuAt q p.q :: Hs) w → Sat R (L ++ (List.map plAt [(f, q, p)] ++ Hs)) w := fun L => by
    induction L with
    | nil => exact fun h => Sat.star.2 h
    | cons A L ih => exact fun h => h.cons fun _ h => ih h
  exact key _ hw
theorem getM_ne {β : Type} {k : Int} : ∀ {l : List (Int × β)}, getM k l = none ↔ ∀ e ∈ l, e.1 ≠ k
  | [] => ⟨fun _ _ h => (by cases h), fun _ => rfl⟩
  | e :: l => by
    rw [getM]
    by_cases h : k = e.1
    · rw [if_pos (by simpa using h)]
      exact ⟨fun h2 => (by cases h2), fun h2 => absurd h.symm (h2 e (by simp))⟩
    · rw [if_neg (by simpa using h), getM_ne]
      exact ⟨fun h2 x hx => by
        rcases List.mem_cons.1 hx with h1 | h1
        · rw [h1]; exact fun e => h e.symm
        · exact h2 x h1, fun h2 x hx => h2 x (by simp [hx])⟩
theorem fl_none {b : Book} {fs : List FE} {xs : List BE} (hl : BookL b fs xs) {n : Int} : getM n (fs.map flV) = none ↔ b.at n = none := by
  unfold Book.at
  rw [getM_ne, kget_none]
  constructor
  · intro h p hp
    obtain ⟨e, he, rfl⟩ := List.mem_map.1 (hl.fl.mem_iff.2 hp)
    exact h (flV e) (List.mem_map.2 ⟨e, he, rfl⟩)
  · rintro h _ he
    obtain ⟨e, h1, rfl⟩ := List.mem_map.1 he
    exact h e.2.2 (hl.fl.mem_iff.1 (List.mem_map.2 ⟨e, h1, rfl⟩))
theorem fl_len {b : Book} {fs : List FE} {xs : List BE} (hl : BookL b fs xs) : fs.length = b.fl.length := by
  have := hl.fl.length_eq
  rwa [List.length_map] at this
abbrev errP (e : Int) : List PanicEntry := [⟨.iface 27 (.int .i64 e), false, false⟩]
theorem need_c {b : Bool} {e : Int} {Q : Ending → World → Prop} (h1 : b = true → Q (.returned (.tuple #[])) w) (h2 : b = false → Q (.panicked (errP e)) w) : Calls Tryz.prog 40 #[.bool b, .int .i64 e] w Q := by
  have h : GetsX Tryz.prog 40 #[.bool b, .int .i64 e] w (fun ch w' => b = false ∧ ch = errP e ∧ w' = w) (fun v w' => b = true ∧ v = .tuple #[] ∧ w' = w) := by
    apply call40
    exact Br.nb (fun h => ⟨h, rfl, rfl⟩) (fun h => ⟨h, rfl, rfl⟩)
  refine h.use ?_ ?_
  · rintro v w' ⟨hb, rfl, e⟩; rw [e]; exact h1 hb
  · rintro v w' ⟨hb, rfl, e⟩; rw [e]; exact h2 hb
theorem mustE_c {e : Int} {Q : Ending → World → Prop} (h1 : e = 0 → Q (.returned (.tuple #[])) w) (h2 : ¬ e = 0 → Q (.panicked (errP e)) w) : Calls Tryz.prog 110 #[.int .i64 e] w Q := by
  have h : GetsX Tryz.prog 110 #[.int .i64 e] w (fun ch w' => ¬ e = 0 ∧ ch = errP e ∧ w' = w) (fun v w' => e = 0 ∧ v = .tuple #[] ∧ w' = w) := by
    apply call110
    exact Br.ne (fun h => ⟨h, rfl, rfl⟩) (fun h => ⟨h, rfl, rfl⟩)
  refine h.use ?_ ?_
  · rintro v w' ⟨hb, rfl, e⟩; rw [e]; exact h1 hb
  · rintro v w' ⟨hb, rfl, e⟩; rw [e]; exact h2 hb
theorem caughtP {r : Nat} {x : Rp} {sl sb : Sl} {e : Int} {Kr : World → Prop} (hw : Sat R (rpC r x sl sb :: Hs) w) (k : ∀ w, Sat R (rpC r (errR e) nilSl nilSl :: Hs) w → Kr w) :
    LeaveF Tryz.prog 39 [.pointer (some ⟨r, 0, none⟩)] (.panicking (errP e)) Kr w := by
  unfold LeaveF
  refine CallsD.mono (callP39 (some ⟨r, 0, none⟩) (.iface 27 (.int .i64 e)) Kr w ?_) ?_
  · refine ⟨true, fun w' _ => by kernel_rfl, Br.t rfl ?_⟩
    refine ⟨e, fun w' _ => by kernel_rfl, NilP.mk rfl ?_⟩
    refine store_rule hw (by kernel_rfl) rfl (by simp [Value.cells]) fun w hw => ?_
    exact k w (hw.re (rpC r (errR e) nilSl nilSl))
  · rintro e v w' ⟨hy, rfl, hk⟩
    exact ⟨hy, rfl, hk⟩
theorem caughtR {r : Nat} {Kr : World → Prop} (k : Kr w) : LeaveF Tryz.prog 39 [.pointer (some ⟨r, 0, none⟩)] .returning Kr w := by
  unfold LeaveF
  refine CallsD.mono (callR39 (some ⟨r, 0, none⟩) Kr w ?_) ?_
  · exact ⟨false, fun w' _ => by kernel_rfl, Br.f rfl k⟩
  · rintro e v w' ⟨hy, rfl, hk⟩
    exact ⟨hy, rfl, hk⟩
theorem qnew_spec (hw : Sat R Hs w) : Gets Tryz.prog 111 #[] w fun v w' => ∃ q, v = .pointer (some ⟨q, 0, none⟩) ∧ Sat R (QuAt q [] :: Hs) w' := by
  apply call111
  refine new_rule hw fun q w hw => ⟨q, rfl, Sat.qu.2 ⟨nilSl, ?_⟩⟩
  exact (OwnN.nil hw).swap
theorem bnew_spec (hw : Sat R Hs w) : Gets Tryz.prog 14 #[] w fun v w' => ∃ p, v = .pointer (some ⟨p, 0, none⟩) ∧ Sat R (BookAt p newBook :: Hs) w' := by
  apply call14
  refine new_rule hw fun m1 w hw => ?_
  have hw := MapAt.new (α := Int) rfl hw
  refine new_rule hw fun m2 w hw => ?_
  have hw := MapAt.new (α := Int) rfl hw
  refine new_rule hw fun p w hw => ⟨p, rfl, Sat.book.2 ⟨m1, m2, [], [], ⟨List.Perm.refl _, rfl⟩, ?_⟩⟩
  have hw : Sat R (pts p (bookC newBook m1 m2) :: MapAt (α := Int) m2 [] :: MapAt (α := Int) m1 [] :: Hs) w := hw
  have hw : Sat R (pts p (bookC newBook m1 m2) :: MapAt (α := Int) m1 [] :: MapAt (α := Int) m2 [] :: Hs) w := hw.arr
  exact hw.cons fun _ h => h.cons fun _ h => h.cons fun _ h => Sat.star.2 (Sat.star.2 h)
end Go.Proofs.YtfgbbckfikiomaaGreatDoor
/- Package booking: a flight is opened. Condition: bounds. -/
namespace Go.Proofs.YtfgbbckfikiomaaGreatDoor
set_option linter.unusedVariables false
open Go Go.VC
open scoped Classical
variable {R : Cx} {Hs Rest : List HP} {w : World}
abbrev openR (c : Cm) : Rp := ⟨0, emS, 0, c.flt, 0, 0, 0, rleftsF (rnewF c.flt c.rows c.grps (limitsT (layN c.rows c.grps) c.parts).1), []⟩
set_option maxHeartbeats 1000000 in
theorem bopen_spec {p : Nat} {b : Book} {c : Cm} {sg sp : Sl} (hfl : b.fl.length ≤ 1000000) (hg : RoI R sg c.grps) (hp : SlR R.m sp (flts c.parts)) (hw : Sat R (BookAt p b :: Hs) w) :
    GetsX Tryz.prog 42 #[.pointer (some ⟨p, 0, none⟩), .agg #[.int .i64 c.kind, .string c.pnr, .int .i64 c.flt, .int .i64 c.cls, .int .i64 c.many, .int .i64 c.time, .float .f64 c.sc, .string c.lab, .int .i64 c.rows, .slice sg.a sg.len sg.cap, .slice sp.a sp.len sp.cap]] w
      (fun ch w' => ∃ e, ch = errP e ∧ openB b c = (b, errR e) ∧ Sat R (BookAt p b :: Hs) w')
      (fun v w' => (openB b c).2 = openR c ∧ ∃ sl : Sl, v = .agg (rpV (openR c) sl nilSl).toArray ∧ Sat R (Own sl 3 (intsI (openR c).left) :: BookAt p (openB b c).1 :: Hs) w') := by
  apply call42
  suffices H : ∀ (X : List PanicEntry → World → Prop) (K : Value → World → Prop), (∀ e w', openB b c = (b, errR e) → Sat R (BookAt p b :: Hs) w' → X (errP e) w') →
      (∀ sl w', (openB b c).2 = openR c → Sat R (Own sl 3 (intsI (openR c).left) :: BookAt p (openB b c).1 :: Hs) w' → K (.agg (rpV (openR c) sl nilSl).toArray) w') → B42 (some ⟨p, 0, none⟩) c.kind c.pnr c.flt c.cls c.many c.time c.sc c.lab c.rows sg sp X K w from
    H _ _ (fun e w' h1 h2 => ⟨e, rfl, h1, h2⟩) (fun sl w' h1 h2 => ⟨h1, sl, rfl, h2⟩)
  intro X K hX hK
  obtain ⟨m1, m2, fs, xs, hl, hw⟩ := Sat.book.1 hw
  have hlen := fl_len hl
  refine new_rule hw fun b3 w hw => new_rule hw fun b4 w hw => ?_
  have hw : Sat R (MapAt m1 (fs.map flV) :: pts p (bookC b m1 m2) :: cmC b3 c sg sp :: rpNew b4 :: MapAt m2 (xs.map bkV) :: FlsAt fs :: BksAt xs :: Hs) w := by
    have hw : Sat R (rpNew b4 :: cmC b3 c sg sp :: pts p (bookC b m1 m2) :: MapAt m1 (fs.map flV) :: MapAt m2 (xs.map bkV) :: FlsAt fs :: BksAt xs :: Hs) w := hw
    exact hw.arr
  have close : ∀ {w}, Sat R (MapAt m1 (fs.map flV) :: pts p (bookC b m1 m2) :: cmC b3 c sg sp :: rpNew b4 :: MapAt m2 (xs.map bkV) :: FlsAt fs :: BksAt xs :: Hs) w → Sat R (BookAt p b :: Hs) w := fun {w} hw => by
    have hw : Sat R (cmC b3 c sg sp :: rpNew b4 :: pts p (bookC b m1 m2) :: MapAt m1 (fs.map flV) :: MapAt m2 (xs.map bkV) :: FlsAt fs :: BksAt xs :: Hs) w := hw.arr
    exact Sat.book.2 ⟨m1, m2, fs, xs, hl, hw.drop.drop⟩
  refine drw_ruleT hw fun w hw => ?_
  refine NilP.mk rfl ⟨some m1, At.own (fun _ h => h) (by exact ⟨rfl, trivial⟩), c.flt, At.own (fun _ h => h) (by exact ⟨rfl, trivial⟩), ?_⟩
  have look : ∀ w', Sat R (VC.tru :: MapAt m1 (fs.map flV) :: pts p (bookC b m1 m2) :: cmC b3 c sg sp :: rpNew b4 :: MapAt m2 (xs.map bkV) :: FlsAt fs :: BksAt xs :: Hs) w' →
      (Instr.lookup 77 (.map (some m1)) (.int .i64 c.flt) true).run Tryz.prog w' = .ok (.tuple #[(getM c.flt (fs.map flV)).getD (.agg #[.pointer none, .pointer none]), .bool (getM c.flt (fs.map flV)).isSome]) w' := fun w' h =>
    MapAt.look pMap h.swap c.flt true
  obtain ⟨v1, v2, hv⟩ : ∃ v1 v2 : Option Addr, (getM c.flt (fs.map flV)).getD (.agg #[.pointer none, .pointer none]) = .agg #[.pointer v1, .pointer v2] := by
    cases hgm : getM c.flt (fs.map flV) with
    | none => exact ⟨none, none, rfl⟩
    | some v =>
      obtain ⟨A, C, e, _⟩ := getM_split hgm
      have : (c.flt, v) ∈ fs.map flV := by rw [e]; simp
      obtain ⟨x, _, hx⟩ := List.mem_map.1 this
      have hx2 := congrArg Prod.snd hx
      exact ⟨_, _, hx2.symm⟩
  rw [hv] at look
  refine ⟨v1, v2, _, look, ?_⟩
  refine new_rule hw fun b5 w hw => ⟨hw.absorb, ?_⟩
  refine store_rule hw (by kernel_rfl) rfl (by simp [Value.cells]) fun w hw => ?_
  have hw := hw.drop.drop
  have hat := fl_none hl (n := c.flt)
  refine need_c (fun hn => .inl ⟨rfl, ?_⟩) (fun hn => .inr ⟨_, rfl, hX 7 w ?_ (close hw)⟩)
  rotate_left
  · unfold openB
    rw [if_pos]
    cases hba : b.at c.flt with
    | none => rw [hat.2 hba] at hn; cases hn
    | some _ => rfl
  have hno : getM c.flt (fs.map flV) = none := by
    cases hgm : getM c.flt (fs.map flV) with
    | none => rfl
    | some v => rw [hgm] at hn; cases hn
  have hba := hat.1 hno
  have o1 : ¬ (b.at c.flt).isSome = true := by rw [hba]; simp
  refine NilP.mk rfl ⟨some m1, At.own (eqS hw) (by exact ⟨rfl, trivial⟩), ((fs.map flV).length : Int), fun w' e => ?_, ?_⟩
  · rw [show w' = w from e]
    exact MapAt.len (by kernel_rfl) hw
  rw [List.length_map, hlen]
  refine need_c (fun hn8 => .inl ⟨rfl, ?_⟩) (fun hn8 => .inr ⟨_, rfl, hX 3 w ?_ (close hw)⟩)
  rotate_left
  · have := of_decide_eq_false hn8
    unfold openB
    rw [if_neg o1, if_pos (by omega)]
  have h8 := of_decide_eq_true hn8
  have o2 : ¬ 8 ≤ b.fl.length := by omega
  refine ⟨c.flt, At.own (eqS hw) (by exact ⟨rfl, trivial⟩), c.rows, sg, At.own (eqS hw) (by exact ⟨rfl, rfl, trivial⟩), sp, At.own (eqS hw) (by exact ⟨rfl, trivial⟩), ?_⟩
  refine (fnew_spec' hg hp hw).use ?_
  clear hw
  rintro _ w (⟨hn, rfl, hw⟩ | ⟨hn, f, rfl, hw⟩)
  · refine .inl ⟨none, 1, rfl, mustE_c (fun h => by cases h) (fun _ => .inr ⟨_, rfl, hX 1 w ?_ (close hw)⟩)⟩
    unfold openB
    rw [if_neg o1, if_neg o2, if_pos hn]
  have hopen : openB b c = ({ b with fl := kins Pl.n ⟨rnewF c.flt c.rows c.grps (limitsT (layN c.rows c.grps) c.parts).1, []⟩ b.fl }, openR c) := by
    unfold openB
    rw [if_neg o1, if_neg o2, if_neg (fun h => h hn)]
  obtain ⟨r, hr⟩ : ∃ r, r = rnewF c.flt c.rows c.grps (limitsT (layN c.rows c.grps) c.parts).1 := ⟨_, rfl⟩
  have hw : Sat R (LoneAt f r :: MapAt m1 (fs.map flV) :: pts p (bookC b m1 m2) :: cmC b3 c sg sp :: rpNew b4 :: MapAt m2 (xs.map bkV) :: FlsAt fs :: BksAt xs :: Hs) w := by
    rw [hr]
    exact Sat.lone.2 ⟨_, ⟨tie_new, good_new hn⟩, hw⟩
  rw [← hr] at hopen
  refine .inl ⟨some ⟨f, 0, none⟩, 0, rfl, mustE_c (fun _ => .inl ⟨rfl, ?_⟩) (fun h => absurd rfl h)⟩
  refine drw_rule' (Sat R [cmC b3 c sg sp, pts p (bookC b m1 m2), VC.tru]) hw (fun w hw => ?_) fun w hw => ?_
  · exact (hw.arr (Hs' := cmC b3 c sg sp :: pts p (bookC b m1 m2) :: LoneAt f r :: MapAt m1 (fs.map flV) :: rpNew b4 :: MapAt m2 (xs.map bkV) :: FlsAt fs :: BksAt xs :: Hs)).cons fun _ h => h.restTru2
  refine NilP.mk rfl ⟨some m1, At.own (fun _ h => h) (by exact ⟨rfl, trivial⟩), c.flt, At.own (fun _ h => h) (by exact ⟨rfl, trivial⟩), ?_⟩
  refine (qnew_spec hw).use ?_
  clear hw
  rintro _ w ⟨q, rfl, hw⟩
  refine .inl ⟨_, rfl, ?_, ?_⟩
  · exact (hw.arr (Hs' := cmC b3 c sg sp :: pts p (bookC b m1 m2) :: QuAt q [] :: LoneAt f r :: MapAt m1 (fs.map flV) :: rpNew b4 :: MapAt m2 (xs.map bkV) :: FlsAt fs :: BksAt xs :: Hs)).cons fun _ h => h.restTru2
  have hw : Sat R (MapAt m1 (fs.map flV) :: LoneAt f r :: QuAt q [] :: FlsAt fs :: pts p (bookC b m1 m2) :: cmC b3 c sg sp :: rpNew b4 :: MapAt m2 (xs.map bkV) :: BksAt xs :: Hs) w := hw.arr
  refine MapAt.put pMap hw c.flt (.agg #[.pointer (some ⟨f, 0, none⟩), .pointer (some ⟨q, 0, none⟩)]) fun w hw => ?_
  have hput : putM c.flt (.agg #[.pointer (some ⟨f, 0, none⟩), .pointer (some ⟨q, 0, none⟩)]) (fs.map flV) = (fs ++ [((f, q, ⟨r, []⟩) : FE)]).map flV := by
    unfold putM
    rw [hno]
    have : r.num = c.flt := by rw [hr]; rfl
    simp only [Option.isSome_none, Bool.false_eq_true, if_false, List.map_append, List.map_cons, List.map_nil, flV, Pl.n, this]
  rw [hput] at hw
  refine drw_rule' (Sat R [cmC b3 c sg sp, VC.tru]) hw (fun w hw => ?_) fun w hw => ?_
  · exact (hw.arr (Hs' := cmC b3 c sg sp :: MapAt m1 ((fs ++ [((f, q, ⟨r, []⟩) : FE)]).map flV) :: LoneAt f r :: QuAt q [] :: FlsAt fs :: pts p (bookC b m1 m2) :: rpNew b4 :: MapAt m2 (xs.map bkV) :: BksAt xs :: Hs)).restTru2
  refine ⟨c.flt, At.own (fun _ h => h) (by exact ⟨rfl, trivial⟩), ?_⟩
  have hw : Sat R (LoneAt f r :: MapAt m1 ((fs ++ [((f, q, ⟨r, []⟩) : FE)]).map flV) :: QuAt q [] :: FlsAt fs :: pts p (bookC b m1 m2) :: cmC b3 c sg sp :: rpNew b4 :: MapAt m2 (xs.map bkV) :: BksAt xs :: Hs) w := hw.swap
  refine (lone_left hw).use ?_
  clear hw
  rintro _ w ⟨sl, rfl, hw⟩
  refine .inl ⟨sl, rfl, ?_, ?_⟩
  · exact (hw.arr (Hs' := cmC b3 c sg sp :: Own sl 3 (intsI (rleftsF r)) :: LoneAt f r :: MapAt m1 ((fs ++ [((f, q, ⟨r, []⟩) : FE)]).map flV) :: QuAt q [] :: FlsAt fs :: pts p (bookC b m1 m2) :: rpNew b4 :: MapAt m2 (xs.map bkV) :: BksAt xs :: Hs)).restTru2
  refine store_rule hw (by kernel_rfl) rfl (by simp [Value.cells]) fun w hw => ?_
  have hw := hw.re (rpC b4 (openR c) sl nilSl)
  refine ⟨0, emS, 0, c.flt, 0, 0, 0, sl, nilSl, At.own (eqS hw) (by exact ⟨rfl, rfl, rfl, rfl, rfl, rfl, rfl, rfl, rfl, trivial⟩), ?_⟩
  have hw : Sat R (Own sl 3 (intsI (rleftsF r)) :: pts p (bookC b m1 m2) :: MapAt m1 ((fs ++ [((f, q, ⟨r, []⟩) : FE)]).map flV) :: MapAt m2 (xs.map bkV) :: LoneAt f r :: QuAt q [] :: FlsAt fs :: BksAt xs :: rpC b4 (openR c) sl nilSl :: cmC b3 c sg sp :: Hs) w := hw.arr
  refine hK sl w (by rw [hopen]) ?_
  rw [hopen]
  dsimp only
  rw [← hr]
  refine hw.cons fun _ hw => Sat.book.2 ⟨m1, m2, fs ++ [((f, q, ⟨r, []⟩) : FE)], xs, ⟨?_, hl.bk⟩, ?_⟩
  · rw [List.map_append]
    refine (List.perm_append_singleton _ _).trans (List.Perm.trans (hl.fl.cons _) kins_perm.symm)
  · refine hw.cons fun _ h => h.cons fun _ h => h.cons fun _ h => ?_
    exact (FlsAt.snoc h).cons fun _ h => h.cons fun _ h => h.drop.drop
end Go.Proofs.YtfgbbckfikiomaaGreatDoor
/- Chapter 18: a flight is opened in a book of nothing: awake. Condition: none. -/
namespace Go.Proofs.YtfgbbckfikiomaaGreatDoor
set_option linter.unusedVariables false
open Go Go.VC
open scoped Classical
variable {R : Cx} {Hs Rest : List HP} {w : World}
set_option maxHeartbeats 1000000 in
theorem bapply1_spec {p : Nat} {b : Book} {c : Cm} {sg sp : Sl} (hk : c.kind = 1) (hr : RightC c) (hfl : b.fl.length ≤ 1000000) (hg : RoI R sg c.grps) (hp : SlR R.m sp (flts c.parts)) (hw : Sat R (BookAt p b :: Hs) w) :
    Gets Tryz.prog 15 #[.pointer (some ⟨p, 0, none⟩), .agg #[.int .i64 c.kind, .string c.pnr, .int .i64 c.flt, .int .i64 c.cls, .int .i64 c.many, .int .i64 c.time, .float .f64 c.sc, .string c.lab, .int .i64 c.rows, .slice sg.a sg.len sg.cap, .slice sp.a sp.len sp.cap]] w
      fun v w' => ∃ sl : Sl, v = .agg (rpV (openB b c).2 sl nilSl).toArray ∧ Sat R (Own sl 3 (intsI (openB b c).2.left) :: BookAt p (openB b c).1 :: Hs) w' := by
  have hplen : sp.len = c.parts.length := by have := hp.len; simpa using this
  have hgl : c.grps.length ≤ 17592186043904 := by have := hr.gl; omega
  apply call15
  refine new_rule hw fun b3 w hw => new_rule hw fun b4 w hw => ?_
  have hw : Sat R (rpNew b4 :: cmC b3 c sg sp :: BookAt p b :: Hs) w := hw
  refine ⟨c.kind, c.pnr, c.flt, c.cls, c.many, c.time, c.sc, c.lab, c.rows, sg, sp, At.own (eqS hw) (by exact ⟨rfl, rfl, rfl, rfl, rfl, rfl, rfl, rfl, rfl, rfl, rfl, trivial⟩), ?_⟩
  refine (bright_spec hg hgl hplen hw).use ?_
  clear hw
  rintro _ w ⟨rfl, hw⟩
  refine .inl ⟨_, rfl, need_c (fun _ => .inl ⟨rfl, ?_⟩) (fun h => absurd hr (of_decide_eq_false h))⟩
  refine ⟨c.kind, At.own (eqS hw) (by exact ⟨rfl, trivial⟩), Br.e (fun _ => ?_) (fun h => absurd hk h)⟩
  refine ⟨c.kind, c.pnr, c.flt, c.cls, c.many, c.time, c.sc, c.lab, c.rows, sg, sp, At.own (eqS hw) (by exact ⟨rfl, rfl, rfl, rfl, rfl, rfl, rfl, rfl, rfl, rfl, rfl, trivial⟩), ?_⟩
  have hw : Sat R (BookAt p b :: rpNew b4 :: cmC b3 c sg sp :: Hs) w := hw.arr
  refine (bopen_spec hfl hg hp hw).use ?_ ?_
  · clear hw
    rintro _ w ⟨he, sl, rfl, hw⟩
    refine .inl ⟨0, emS, 0, c.flt, 0, 0, 0, sl, nilSl, rfl, ?_⟩
    refine store_rule hw (by kernel_rfl) rfl (by simp [Value.cells]) fun w hw => ?_
    have hw := hw.re (rpC b4 (openR c) sl nilSl)
    refine caughtR ⟨0, emS, 0, c.flt, 0, 0, 0, sl, nilSl, At.own (eqS hw) (by exact ⟨rfl, rfl, rfl, rfl, rfl, rfl, rfl, rfl, rfl, trivial⟩), sl, ?_, ?_⟩
    · rw [he]
    · rw [he]
      have hw : Sat R (Own sl 3 (intsI (openR c).left) :: BookAt p (openB b c).1 :: rpC b4 (openR c) sl nilSl :: cmC b3 c sg sp :: Hs) w := hw.arr
      exact hw.cons fun _ h => h.cons fun _ h => h.drop.drop
  · clear hw
    rintro _ w ⟨e, rfl, he, hw⟩
    refine .inr ⟨_, rfl, ?_⟩
    have hw : Sat R (rpNew b4 :: BookAt p b :: cmC b3 c sg sp :: Hs) w := hw.swap
    refine caughtP hw fun w hw => ⟨e, emS, 0, 0, 0, 0, 0, nilSl, nilSl, At.own (eqS hw) (by exact ⟨rfl, rfl, rfl, rfl, rfl, rfl, rfl, rfl, rfl, trivial⟩), nilSl, ?_, ?_⟩
    · rw [he]; rfl
    · rw [he]
      exact Own.nil (hw.drop.cons fun _ h => h.drop)
def aw18 : Cm := ⟨1, ByteArray.mk #[], 7, 0, 0, 0, 0, ByteArray.mk #[], 1, [2], [4607182418800017408]⟩
theorem aw18_lims : limitsT (layN 1 [2]) [4607182418800017408] = ([2], 0) := by kernel_rfl
theorem aw18_left : rleftsF (rnewF 7 1 [2] [2]) = [2] := by kernel_rfl
theorem aw18_ok : newOk 7 1 [2] [4607182418800017408] := ⟨by omega, by omega, by kernel_rfl, by rw [aw18_lims]⟩
theorem aw18_right : RightC aw18 := by
  refine ⟨?_, ?_, ?_, ?_, ?_, ?_, ?_, ?_, ?_, ?_, ?_⟩ <;> unfold aw18 <;> try (unfold numOk) <;> try (simp only; omega)
  · intro n hn
    simp only [List.mem_singleton] at hn
    subst hn; omega
  all_goals first | (show (0 : Nat) ≤ 16; omega) | simp
theorem aw18_open : (openB newBook aw18).2 = ⟨0, emS, 0, 7, 0, 0, 0, [2], []⟩ := by
  have h1 : ¬ (newBook.at aw18.flt).isSome = true := by
    show ¬ (kget Pl.n 7 []).isSome = true
    unfold kget
    simp
  unfold openB
  rw [if_neg h1, if_neg (by show ¬ 8 ≤ 0; omega), if_neg (fun h => h aw18_ok)]
  show (⟨0, emS, 0, 7, 0, 0, 0, rleftsF (rnewF 7 1 [2] (limitsT (layN 1 [2]) [4607182418800017408]).1), []⟩ : Rp) = _
  rw [aw18_lims, aw18_left]
theorem lopen_spec (hw : Sat R Hs w) : Gets Tryz.prog 38 #[] w fun v w' => ∃ sg sp : Sl, v = .agg (cmV aw18 sg sp).toArray ∧ Sat R (Own sg 3 (intsI aw18.grps) :: Own sp 33 (flts aw18.parts) :: Hs) w' := by
  apply call38
  refine new_rule hw fun b w hw => new_rule hw fun x w hw => new_rule hw fun y w hw => ?_
  have hw : Sat R (pts y (.cells (flts [4607182418800017408]).toArray 33 (0, 0)) :: pts x (.cells (intsI [2]).toArray 3 (0, 0)) :: cmNew b :: Hs) w := hw
  have hw : Sat R (cmNew b :: pts y (.cells (flts [4607182418800017408]).toArray 33 (0, 0)) :: pts x (.cells (intsI [2]).toArray 3 (0, 0)) :: Hs) w := hw.arr
  refine store_rule hw (by kernel_rfl) rfl (by simp [Value.cells]) fun w hw => ?_
  have hw := hw.re (cmC b aw18 ⟨some ⟨x, 0, none⟩, 1, 1⟩ ⟨some ⟨y, 0, none⟩, 1, 1⟩)
  refine ⟨_, _, _, _, _, _, _, _, _, ⟨some ⟨x, 0, none⟩, 1, 1⟩, ⟨some ⟨y, 0, none⟩, 1, 1⟩, At.own (eqS hw) (by exact ⟨rfl, rfl, rfl, rfl, rfl, rfl, rfl, rfl, rfl, rfl, rfl, trivial⟩), ⟨some ⟨x, 0, none⟩, 1, 1⟩, ⟨some ⟨y, 0, none⟩, 1, 1⟩, rfl, ?_⟩
  exact (own_lit (n := 1) (hw.drop.swap)).cons fun _ h => own_lit (n := 1) h
theorem aw18_spec (hw : Sat R Hs w) : Gets Tryz.prog 12 #[] w fun v w' => v = .bool true ∧ Sat R Hs w' := by
  apply call12
  refine (bnew_spec hw).use ?_
  clear hw
  rintro _ w ⟨p, rfl, hw⟩
  refine ⟨_, rfl, Br.f rfl ?_⟩
  refine (lopen_spec hw).use ?_
  clear hw
  rintro _ w ⟨sg, sp, rfl, hw⟩
  obtain ⟨R1, e1, g1, hw⟩ := Own.leak hw
  obtain ⟨R2, e2, g2, hw⟩ := Own.leak hw
  refine ⟨_, _, _, _, _, _, _, _, _, sg, sp, rfl, ?_⟩
  refine (bapply1_spec (c := aw18) rfl aw18_right (by show 0 ≤ 1000000; omega) (e2.ro (g1.ro (by unfold aw18; simp))) g2 hw).use ?_
  clear hw
  rintro _ w ⟨sl, rfl, hw⟩
  rw [aw18_open] at hw ⊢
  refine ⟨_, _, _, _, _, _, _, sl, nilSl, rfl, ?_⟩
  refine new_rule hw fun b w hw => ?_
  refine store_rule hw (by kernel_rfl) rfl (by simp [Value.cells]) fun w hw => ?_
  have hw := hw.re (rpC b ⟨0, emS, 0, 7, 0, 0, 0, [2], []⟩ sl nilSl)
  refine ⟨0, At.own (eqS hw) (by exact ⟨rfl, trivial⟩), Br.e (fun _ => ?_) (fun h => absurd rfl h)⟩
  have hw := hw.swap
  have hsl := Own.len hw
  have hsl : sl.len = 1 := hsl
  refine ⟨sl, At.own (eqS hw) (by exact ⟨rfl, trivial⟩), Br.e (fun _ => ?_) (fun h => absurd (by rw [hsl]; rfl) h)⟩
  refine ⟨sl, At.own (eqS hw) (by exact ⟨rfl, trivial⟩), Own.ix (xs := [2]) hw (eqS hw) 0 rfl (by simp) ⟨rfl, ?_⟩⟩
  exact e1.back (e2.back hw.drop.drop.drop)
end Go.Proofs.YtfgbbckfikiomaaGreatDoor


/- ROW: from a reading of an argument to what the contracts ask; from a walk's end to 'Below'. No condition. -/
namespace Go.VC
set_option linter.unusedVariables false
open Go.ChangeShapes Go.WideShapes Go.ChangeAt Go.RowKit
theorem below_of {W W' : World} {Hs : List HP} (h : Sat (Cx.of W) Hs W') : Below W.heap.size W W' := by
  obtain ⟨h1, h2, h3⟩ := h.streams
  have hb : ∀ k, k < W.heap.size → W'.heap[k]? = W.heap[k]? := fun k hk => by
    have : (Cx.of W).m k = some W.heap[k] := by simp [Cx.of, hk]
    rw [h.of_ro this]; simp [hk]
  refine ⟨h1, h2, h3, ?_, hb⟩
  rcases Nat.lt_or_ge W'.heap.size W.heap.size with hl | hl
  · have := hb W'.heap.size hl
    rw [Array.getElem?_eq_none (Nat.le_refl _)] at this
    simp [hl] at this
  · exact hl
theorem block_of_cell {w : World} {a : Addr} {v : Value} (h : w.cell? a = some v) : a.spot = none ∧ ∃ l T fr, w.heap[a.block]? = some (.cells l T fr) ∧ l[a.off]? = some v := by
  unfold World.cell? at h
  split at h
  · rename_i c T fr hb
    split at h
    · cases h
    · rename_i hs
      exact ⟨by simpa using hs, c, T, fr, hb, h⟩
  · cases h
section
variable {H : Type} {enc : TypeId × Value → H} {P : Program} {W : World} {base : Nat} {spare : Nat → Bool} {held : Bool}
end
end Go.VC

/- ROW, part 3: arguments of any plain type (integers, bools, floats, strings, slices, structs, arrays of such), read as trees. No condition. -/
namespace Go.VC
set_option linter.unusedVariables false
open Go.ChangeShapes Go.WideShapes Go.ChangeAt Go.RowKit
inductive Tr where
  | int (k : IntKind) (n : Int) | bool (b : Bool) | flt (n : Nat) | str (s : ByteArray) | sl (s : Sl) (xs : List Tr) | st (xs : List Tr)
mutual
def Tr.cells : Tr → List Value
  | .int k n => [.int k n]
  | .bool b => [.bool b]
  | .flt n => [.float .f64 n]
  | .str s => [.string s]
  | .sl s _ => [.slice s.a s.len s.cap]
  | .st xs => Tr.cellsL xs
def Tr.cellsL : List Tr → List Value
  | [] => []
  | x :: xs => x.cells ++ Tr.cellsL xs
end
inductive U where
  | int (k : IntKind) | bool | flt | str | sl (u : U) | st (us : List U)
mutual
def U.size : U → Nat
  | .st us => U.sizeL us
  | _ => 1
def U.sizeL : List U → Nat
  | [] => 0
  | u :: us => u.size + U.sizeL us
end
mutual
def Tr.Ok (R : Cx) : U → Tr → Prop
  | .int k, .int k' n => k' = k ∧ (Lit.int k n).wf = true
  | .bool, .bool _ => True
  | .flt, .flt n => (Lit.float .f64 n).wf = true
  | .str, .str s => s.size ≤ maxLen
  | .sl u, .sl s xs => (RoN u.size R s (xs.map Tr.cells) ∧ s.len ≤ s.cap) ∧ xs.length ≤ maxLen ∧ Tr.OkA R u xs
  | .st us, .st xs => Tr.OkL R us xs
  | _, _ => False
def Tr.OkA (R : Cx) (u : U) : List Tr → Prop
  | [] => True
  | x :: xs => Tr.Ok R u x ∧ Tr.OkA R u xs
def Tr.OkL (R : Cx) : List U → List Tr → Prop
  | [], [] => True
  | u :: us, x :: xs => Tr.Ok R u x ∧ Tr.OkL R us xs
  | _, _ => False
end
theorem Tr.okA {R : Cx} {u : U} : ∀ {xs : List Tr}, Tr.OkA R u xs → ∀ x ∈ xs, Tr.Ok R u x
  | [], _, x, hx => by cases hx
  | y :: ys, h, x, hx => by
    unfold Tr.OkA at h
    rcases List.mem_cons.1 hx with rfl | hx
    · exact h.1
    · exact Tr.okA h.2 x hx
theorem Tr.okA_mk {R : Cx} {u : U} : ∀ {xs : List Tr}, (∀ x ∈ xs, Tr.Ok R u x) → Tr.OkA R u xs
  | [], _ => by unfold Tr.OkA; trivial
  | y :: ys, h => by
    unfold Tr.OkA
    exact ⟨h y List.mem_cons_self, Tr.okA_mk fun x hx => h x (List.mem_cons_of_mem _ hx)⟩
def fieldsU (P : Program) (f : TypeId → Option U) : Nat → List Field → Option (List U)
  | _, [] => some []
  | off, x :: xs => match Nat.beq x.offset off with
    | false => none
    | true => match f x.type with
      | none => none
      | some u => match Nat.beq (P.cellsOf x.type) u.size with
        | false => none
        | true => match fieldsU P f (off + u.size) xs with
          | none => none
          | some us => some (u :: us)
def uOf (P : Program) : Nat → TypeId → Option U
  | 0, _ => none
  | d + 1, t => match P.underlying t with
    | some (.int k) => some (.int k)
    | some .bool => some .bool
    | some (.float .f64) => some .flt
    | some .string => some .str
    | some (.slice e) => match uOf P d e with
      | some u => (match Nat.beq (P.cellsOf e) u.size && Nat.blt 0 u.size with | true => some (.sl u) | false => none)
      | none => none
    | some (.struct fs) => match fieldsU P (uOf P d) 0 fs.toList with
      | some us => (match Nat.beq (P.cellsOf t) (U.sizeL us) with | true => some (.st us) | false => none)
      | none => none
    | some (.array n e) => match uOf P d e with
      | some u => (match Nat.beq (P.cellsOf e) u.size && Nat.beq (P.cellsOf t) (n * u.size) with | true => some (.st (List.replicate n u)) | false => none)
      | none => none
    | _ => none
section
variable {H : Type} {enc : TypeId × Value → H} {P : Program} {W : World} {base : Nat} {spare : Nat → Bool} {held : Bool}
def IsTr (R : Cx) (u : U) (cs : List Value) : Prop := ∃ x : Tr, x.cells = cs ∧ x.Ok R u
theorem cells?_cell {w : World} {base : Nat} {a : Addr} {n : Nat} {cs : List Value} (h : w.cells? base a n = some cs) : cs.length = n ∧ ∀ i, i < n → w.cell? (a.add i) = cs[i]? := by
  unfold World.cells? at h
  split at h
  · refine ⟨by have := mapM_some_length h; simpa using this, fun i hi => mapM_some_get h i i (by simp [hi])⟩
  · cases h
theorem add_add (a : Addr) (i j : Nat) (hs : a.spot = none) : (a.add i).add j = ⟨a.block, a.off + (i + j), none⟩ := by
  obtain ⟨b, o, s⟩ := a
  simp only at hs
  subst hs
  rw [add_off, add_off, Nat.add_assoc]
theorem fields_read {d : Nat} (ih : ∀ {fuel : Nat} {t : TypeId} {cs : List Value} {y : DataW H × List MemPlace} {u : U}, uOf P d t = some u → DataW.trod enc P W base spare held fuel t cs = some y → IsTr (Cx.of W) u cs) {n : Nat} {cs : List Value} {xs : List (DataW H × List MemPlace)} :
    ∀ (fs : List Field) (off : Nat) (us : List U), fieldsU P (uOf P d) off fs = some us → (∀ (i : Nat) (f : Field), fs[i]? = some f → ∃ y, DataW.trod enc P W base spare held n f.type ((cs.drop f.offset).take (P.cellsOf f.type)) = some y) →
      off + U.sizeL us ≤ cs.length → ∃ ts : List Tr, Tr.cellsL ts = (cs.drop off).take (U.sizeL us) ∧ Tr.OkL (Cx.of W) us ts
  | [], off, us, h, _, _ => by
    simp only [fieldsU, Option.some.injEq] at h
    subst h
    exact ⟨[], by simp [Tr.cellsL, U.sizeL], by unfold Tr.OkL; trivial⟩
  | f :: fs, off, us, h, hf, hl => by
    unfold fieldsU at h
    split at h
    · cases h
    rename_i hoff
    have hoff := Nat.eq_of_beq_eq_true hoff
    split at h
    · cases h
    rename_i u hu
    split at h
    · cases h
    rename_i hc
    have hc := Nat.eq_of_beq_eq_true hc
    split at h
    · cases h
    rename_i us' hus
    cases h
    simp only [U.sizeL] at hl ⊢
    obtain ⟨y, hy⟩ := hf 0 f rfl
    obtain ⟨x, hx, hxo⟩ := ih hu hy
    obtain ⟨ts, hts, htso⟩ := fields_read ih (n := n) (xs := xs) fs (off + u.size) us' hus (fun i g hg => hf (i + 1) g (by simpa using hg)) (by omega)
    refine ⟨x :: ts, ?_, by unfold Tr.OkL; exact ⟨hxo, htso⟩⟩
    simp only [Tr.cellsL]
    rw [hx, hts, hoff, hc, List.take_add, List.drop_drop]
theorem reps_read {u : U} {n s : Nat} : ∀ {m : Nat} {cs : List Value}, cs.length = m * s → u.size = s → (∀ i, i < m → IsTr (Cx.of W) u ((cs.drop (i * s)).take s)) → ∃ ts : List Tr, Tr.cellsL ts = cs ∧ Tr.OkL (Cx.of W) (List.replicate m u) ts
  | 0, cs, hl, _, _ => by
    have : cs = [] := List.length_eq_zero_iff.1 (by simpa using hl)
    subst this
    exact ⟨[], rfl, by unfold Tr.OkL; trivial⟩
  | m + 1, cs, hl, hs, h => by
    obtain ⟨x, hx, hxo⟩ := h 0 (by omega)
    obtain ⟨ts, hts, htso⟩ := reps_read (n := n) (m := m) (cs := cs.drop s) (by rw [List.length_drop, hl, Nat.add_mul]; omega) hs (fun i hi => by
      have := h (i + 1) (by omega)
      rw [Nat.add_mul, Nat.one_mul, Nat.add_comm, ← List.drop_drop] at this
      exact this)
    refine ⟨x :: ts, ?_, by rw [List.replicate_succ]; unfold Tr.OkL; exact ⟨hxo, htso⟩⟩
    simp only [Tr.cellsL]
    rw [hx, hts]
    simp
theorem choose_list {α β : Type} {p : Nat → α → Prop} : ∀ {n : Nat}, (∀ i, i < n → ∃ x : α, p i x) → ∃ xs : List α, xs.length = n ∧ ∀ i (hi : i < xs.length), p i xs[i]
  | 0, _ => ⟨[], rfl, fun i hi => by simp at hi⟩
  | n + 1, h => by
    obtain ⟨xs, hl, hp⟩ := choose_list (β := β) (n := n) fun i hi => h i (by omega)
    obtain ⟨x, hx⟩ := h n (by omega)
    refine ⟨xs ++ [x], by simp [hl], fun i hi => ?_⟩
    by_cases h2 : i < xs.length
    · rw [List.getElem_append_left h2]; exact hp i h2
    · have : i = n := by simp at hi; omega
      subst this
      rw [List.getElem_append_right (by omega)]
      simpa using hx
theorem trod_f64 {fuel : Nat} {t : TypeId} {cs : List Value} {x : DataW H × List MemPlace} (ht : P.underlying t = some (.float .f64)) (h : DataW.trod enc P W base spare held fuel t cs = some x) : ∃ n, cs = [.float .f64 n] ∧ (Lit.float .f64 n).wf = true := by
  cases fuel with
  | zero => simp [DataW.trod] at h
  | succ n =>
    unfold DataW.trod at h
    rw [ht] at h
    split at h <;> simp_all
theorem tr_read : ∀ {d fuel : Nat} {t : TypeId} {cs : List Value} {y : DataW H × List MemPlace} {u : U}, uOf P d t = some u → DataW.trod enc P W base spare held fuel t cs = some y → IsTr (Cx.of W) u cs
  | 0, _, _, _, _, _, h, _ => by cases h
  | d + 1, fuel, t, cs, y, u, h, hy => by
    unfold uOf at h
    split at h
    · rename_i k ht
      cases h
      obtain ⟨n, rfl, _, hw⟩ := DataW.trod_int ht hy
      exact ⟨.int k n, rfl, rfl, hw⟩
    · rename_i ht
      cases h
      obtain ⟨b, rfl, _⟩ := DataW.trod_bool ht hy
      exact ⟨.bool b, rfl, by unfold Tr.Ok; trivial⟩
    · rename_i ht
      cases h
      obtain ⟨n, rfl, hn⟩ := trod_f64 ht hy
      exact ⟨.flt n, rfl, by unfold Tr.Ok; exact hn⟩
    · rename_i ht
      cases h
      obtain ⟨s, rfl, _, hs⟩ := DataW.trod_string ht hy
      exact ⟨.str s, rfl, hs⟩
    · rename_i e ht
      split at h
      case h_2 => cases h
      rename_i ue hue
      split at h
      case h_2 => cases h
      rename_i hc
      simp only [Bool.and_eq_true] at hc
      have hpos : 0 < ue.size := Nat.blt_eq.mp hc.2
      have hc := Nat.eq_of_beq_eq_true hc.1
      cases h
      rcases DataW.trod_slice ht hy with ⟨rfl, _⟩ | ⟨a, len, cap, elems, rest, n, _, rfl, _, _, hlc, hcm, hel, helem, _, _⟩
      · refine ⟨.sl ⟨none, 0, 0⟩ [], rfl, ?_⟩
        unfold Tr.Ok
        exact ⟨⟨⟨Wid.nil, rfl, fun h => absurd rfl h⟩, Nat.le_refl _⟩, Nat.zero_le _, by unfold Tr.OkA; trivial⟩
      · obtain ⟨xs, hxl, hxs⟩ := choose_list (β := Unit) (p := fun i (x : Tr) => W.cells? base (a.add (i * P.cellsOf e)) (P.cellsOf e) = some x.cells ∧ x.Ok (Cx.of W) ue) (n := len) fun i hi => by
          have h1 := helem i hi
          rw [List.getElem?_eq_getElem (by omega)] at h1
          obtain ⟨ce, hce, hte⟩ := Option.bind_eq_some_iff.1 h1
          obtain ⟨x, rfl, hx⟩ := tr_read hue hte
          exact ⟨x, hce, hx⟩
        refine ⟨.sl ⟨some a, len, cap⟩ xs, rfl, ?_⟩
        unfold Tr.Ok
        have hwid : Wid ue.size (xs.map Tr.cells) := fun r hr => by
          obtain ⟨x, hx, rfl⟩ := List.mem_map.1 hr
          obtain ⟨i, hi, rfl⟩ := List.getElem_of_mem hx
          have := (cells?_cell (hxs i hi).1).1
          rw [this, hc]
        refine ⟨⟨⟨hwid, by simp [hxl], fun hne => ?_⟩, hlc⟩, by omega, Tr.okA_mk fun x hx => by obtain ⟨i, hi, rfl⟩ := List.getElem_of_mem hx; exact (hxs i hi).2⟩
        -- the block
        have h0 : 0 < xs.length := by
          have : 0 < (xs.map Tr.cells).length := List.length_pos_iff.2 hne
          simpa using this
        have hcell : ∀ i (hi : i < xs.length) j, j < ue.size → W.cell? ((a.add (i * ue.size)).add j) = (xs[i].cells)[j]? := fun i hi j hj => by
          have := (cells?_cell (hxs i hi).1).2 j (by rw [hc]; exact hj)
          rw [hc] at this; exact this
        have hxl0 : ∀ i (hi : i < xs.length), (xs[i].cells).length = ue.size := fun i hi => by rw [(cells?_cell (hxs i hi).1).1, hc]
        have hc0 := hcell 0 h0 0 (by omega)
        rw [List.getElem?_eq_getElem (by rw [hxl0 0 h0]; omega)] at hc0
        have hz0 : (a.add (0 * ue.size)).add 0 = a := by rw [Nat.zero_mul]; simp [Addr.add]
        rw [hz0] at hc0
        obtain ⟨hs, l, T, fr, hl, _⟩ := block_of_cell hc0
        refine ⟨a.block, a.off, l, T, fr, by cases a; simp_all, hl, fun i v hv => ?_⟩
        -- which row, which place
        have hlen := hwid.len
        rw [List.length_map] at hlen
        have hi : i < (xs.map Tr.cells).flatten.length := (List.getElem?_eq_some_iff.1 hv).1
        have hq : i / ue.size < xs.length := by
          rw [hlen] at hi; exact Nat.div_lt_of_lt_mul (by rwa [Nat.mul_comm])
        have hm : i % ue.size < ue.size := Nat.mod_lt _ (by omega)
        have hcc := hcell (i / ue.size) hq (i % ue.size) hm
        rw [add_add a _ _ hs, show i / ue.size * ue.size + i % ue.size = i by rw [Nat.mul_comm]; exact Nat.div_add_mod _ _] at hcc
        have e1 : (xs.map Tr.cells).flatten[i]? = (xs[i / ue.size].cells)[i % ue.size]? := by
          have h1 : i = i / ue.size * ue.size + i % ue.size := by rw [Nat.mul_comm]; exact (Nat.div_add_mod _ _).symm
          conv => lhs; rw [h1]
          rw [← List.getElem?_drop, hwid.drop_flat, List.drop_eq_getElem_cons (by simpa using hq), List.flatten_cons, List.getElem?_append_left (by rw [List.getElem_map, hxl0 _ hq]; exact hm), List.getElem_map]
        rw [← e1, hv] at hcc
        simp only [World.cell?, hl, Option.isSome_none, Bool.false_eq_true, if_false] at hcc
        exact hcc
    · rename_i fs ht
      split at h
      case h_2 => cases h
      rename_i us hus
      split at h
      case h_2 => cases h
      rename_i hc
      have hc := Nat.eq_of_beq_eq_true hc
      cases h
      obtain ⟨xs, n, _, _, hl, hxl, hf⟩ := DataW.trod_struct ht hy
      obtain ⟨ts, hts, hto⟩ := fields_read (d := d) (fun h h2 => tr_read h h2) (n := n) (cs := cs) (xs := xs) fs.toList 0 us hus (fun i f hfi => by
        have hfi2 : fs[i]? = some f := by simpa using hfi
        have hlt : i < xs.length := by rw [hxl]; exact (Array.getElem?_eq_some_iff.1 hfi2).1
        exact ⟨xs[i], by rw [hf i f hfi2]; exact List.getElem?_eq_getElem hlt⟩) (by omega)
      refine ⟨.st ts, ?_, by unfold Tr.Ok; exact hto⟩
      unfold Tr.cells
      rw [hts, List.drop_zero, List.take_of_length_le (by omega)]
    · rename_i m e ht
      split at h
      case h_2 => cases h
      rename_i ue hue
      split at h
      case h_2 => cases h
      rename_i hc
      simp only [Bool.and_eq_true] at hc
      have hc1 := Nat.eq_of_beq_eq_true hc.1
      have hc2 := Nat.eq_of_beq_eq_true hc.2
      cases h
      obtain ⟨xs, n, _, _, hl, hxl, hf⟩ := DataW.trod_array ht hy
      obtain ⟨ts, hts, hto⟩ := reps_read (n := n) (u := ue) (s := ue.size) (m := m) (cs := cs) (by rw [hl, hc2]) rfl (fun i hi => by
        have := hf i hi
        rw [hc1, List.getElem?_eq_getElem (by omega)] at this
        exact tr_read hue this)
      exact ⟨.st ts, by unfold Tr.cells; exact hts, by unfold Tr.Ok; exact hto⟩
    · cases h
theorem tr_arg {d : Nat} {t : TypeId} {v : Value} {dt : DataW H} {p : List MemPlace} {u : U} (hu : uOf P d t = some u) (h : DataW.Trod enc P W base spare held t v dt p) : IsTr (Cx.of W) u v.cells.toList := by
  obtain ⟨fuel, hf⟩ := h
  exact tr_read hu hf
theorem sl_form {α : Type} {R : Cx} {u : U} {s : Sl} {xs : List Tr} (g : α → List Value) (Q : α → Prop) (ho : Tr.Ok R (.sl u) (.sl s xs)) (h : ∀ x : Tr, x.Ok R u → ∃ e : α, x.cells = g e ∧ Q e) :
    ∃ es : List α, RoN u.size R s (es.map g) ∧ es.length ≤ maxLen ∧ ∀ e ∈ es, Q e := by
  unfold Tr.Ok at ho
  obtain ⟨⟨h1, _⟩, h2, h3⟩ := ho
  have key : ∀ l : List Tr, (∀ x ∈ l, x.Ok R u) → ∃ es : List α, l.map Tr.cells = es.map g ∧ es.length = l.length ∧ ∀ e ∈ es, Q e := fun l => by
    induction l with
    | nil => exact fun _ => ⟨[], rfl, rfl, fun _ h => by cases h⟩
    | cons x l ih =>
      intro hl
      obtain ⟨es, h1, h2, h3⟩ := ih fun y hy => hl y (List.mem_cons_of_mem _ hy)
      obtain ⟨e, he, hq⟩ := h x (hl x List.mem_cons_self)
      exact ⟨e :: es, by rw [List.map_cons, List.map_cons, he, h1], by simp [h2], fun y hy => by
        rcases List.mem_cons.1 hy with rfl | hy
        · exact hq
        · exact h3 y hy⟩
  obtain ⟨es, e1, e2, e3⟩ := key xs (Tr.okA h3)
  rw [e1] at h1
  exact ⟨es, h1, by omega, e3⟩
theorem sl_cap {R : Cx} {u : U} {s : Sl} {xs : List Tr} (ho : Tr.Ok R (.sl u) (.sl s xs)) : s.len ≤ s.cap := by
  unfold Tr.Ok at ho
  exact ho.1.2
theorem RoN.one {R : Cx} {s : Sl} {vs : List Value} (h : RoN 1 R s (vs.map fun v => [v])) (hb : vs.length ≤ maxLen) : Ro R s vs := by
  refine ⟨by have := h.len; simpa using this, by unfold maxLen at hb; omega, fun hne => ?_⟩
  obtain ⟨b, off, l, T, fr, h1, h2, h3⟩ := h.mem (by simpa using hne)
  refine ⟨b, off, l, T, fr, h1, h2, fun i v hv => h3 i v ?_⟩
  have : (vs.map fun v => [v]).flatten = vs := by
    clear h3 h hb hne hv
    induction vs with
    | nil => rfl
    | cons v vs ih => simp [ih]
  rw [this]; exact hv
theorem ints_form {R : Cx} {k : IntKind} {s : Sl} {xs : List Tr} (ho : Tr.Ok R (.sl (.int k)) (.sl s xs)) : ∃ zs : List Int, Ro R s (zs.map (Value.int k)) ∧ zs.length ≤ maxLen ∧ ∀ z ∈ zs, (Lit.int k z).wf = true := by
  obtain ⟨zs, h1, h2, h3⟩ := sl_form (fun z : Int => [Value.int k z]) (fun z => (Lit.int k z).wf = true) ho fun x hx => by
    cases x <;> simp only [Tr.Ok] at hx
    rename_i k' z
    obtain ⟨rfl, hw⟩ := hx
    exact ⟨z, rfl, hw⟩
  refine ⟨zs, RoN.one ?_ (by simpa using h2), h2, h3⟩
  rw [List.map_map]
  exact h1
theorem flts_form2 {R : Cx} {s : Sl} {xs : List Tr} (ho : Tr.Ok R (.sl .flt) (.sl s xs)) : ∃ zs : List Nat, Ro R s (zs.map (Value.float .f64)) ∧ zs.length ≤ maxLen ∧ s.len ≤ s.cap ∧ ∀ z ∈ zs, z < 18446744073709551616 := by
  obtain ⟨zs, h1, h2, h3⟩ := sl_form (fun z : Nat => [Value.float .f64 z]) (fun z => z < 18446744073709551616) ho fun x hx => by
    cases x <;> simp only [Tr.Ok] at hx
    rename_i z
    exact ⟨z, rfl, of_decide_eq_true hx⟩
  refine ⟨zs, RoN.one ?_ (by simpa using h2), h2, sl_cap ho, h3⟩
  rw [List.map_map]
  exact h1
end
end Go.VC
/- The arguments of chapter 18's laws. No condition. -/
namespace Go.Proofs.YtfgbbckfikiomaaGreatDoor
set_option linter.unusedVariables false
open Go Go.VC Go.ChangeShapes Go.WideShapes Go.ChangeAt Go.RowKit
variable {H : Type} {enc : TypeId × Value → H} {W : World} {r : Reach} {b0 : Nat} {v : Value} {d : DataW H} {p : List MemPlace}
abbrev cmdU : U := .st [.int .i64, .str, .int .i64, .int .i64, .int .i64, .int .i64, .flt, .str, .st [.int .i64, .sl (.int .i64)], .sl .flt]
theorem cmd_form {R : Cx} {x : Tr} (ho : x.Ok R cmdU) : ∃ (c : Cm) (sg sp : Sl), x.cells = cmV c sg sp ∧ FltC c ∧ RoI R sg c.grps ∧ SlR R.m sp (flts c.parts) := by
  cases x <;> simp only [Tr.Ok] at ho
  rename_i xs
  match xs, ho with
  | [x0, x1, x2, x3, x4, x5, x6, x7, x8, x9], ho =>
    simp only [Tr.OkL, and_true] at ho
    obtain ⟨h0, h1, h2, h3, h4, h5, h6, h7, h8, h9⟩ := ho
    cases x0 <;> simp only [Tr.Ok] at h0
    rename_i k0 n0
    obtain ⟨rfl, _⟩ := h0
    cases x1 <;> simp only [Tr.Ok] at h1
    rename_i n1
    cases x2 <;> simp only [Tr.Ok] at h2
    rename_i k2 n2
    obtain ⟨rfl, _⟩ := h2
    cases x3 <;> simp only [Tr.Ok] at h3
    rename_i k3 n3
    obtain ⟨rfl, _⟩ := h3
    cases x4 <;> simp only [Tr.Ok] at h4
    rename_i k4 n4
    obtain ⟨rfl, _⟩ := h4
    cases x5 <;> simp only [Tr.Ok] at h5
    rename_i k5 n5
    obtain ⟨rfl, _⟩ := h5
    cases x6 <;> simp only [Tr.Ok] at h6
    rename_i n6
    cases x7 <;> simp only [Tr.Ok] at h7
    rename_i n7
    cases x9 <;> simp only [Tr.Ok] at h9
    rename_i sp px
    have h9 : Tr.Ok R (.sl .flt) (.sl sp px) := by unfold Tr.Ok; exact h9
    cases x8 <;> simp only [Tr.Ok] at h8
    rename_i ys
    match ys, h8 with
    | [y0, y1], h8 =>
      simp only [Tr.OkL, and_true] at h8
      obtain ⟨g0, g1⟩ := h8
      cases y0 <;> simp only [Tr.Ok] at g0
      rename_i k8 rows
      obtain ⟨rfl, _⟩ := g0
      cases y1 <;> simp only [Tr.Ok] at g1
      rename_i sg gx
      have g1 : Tr.Ok R (.sl (.int .i64)) (.sl sg gx) := by unfold Tr.Ok; exact g1
      obtain ⟨grps, a1, _, _⟩ := ints_form g1
      obtain ⟨parts, b1, _, b3, b4⟩ := flts_form2 h9
      exact ⟨⟨n0, n1, n2, n3, n4, n5, n6, n7, rows, grps, parts⟩, sg, sp, rfl, ⟨of_decide_eq_true h6, b4⟩, a1, ⟨b1.len, b3, b1.mem⟩⟩
end Go.Proofs.YtfgbbckfikiomaaGreatDoor
/- SL, part 18: a range over a map of one's own, in whatever order. No condition. -/
namespace Go.VC
set_option linter.unusedVariables false
section
variable {α : Type} [BEq α] [KeyK α] {P : Program} {R : Cx} {Hs : List HP} {w : World}
def ItAt (r m : Nat) (es left : List (α × Value)) : HP := exs fun l : List (En α) => exs fun c : Nat => exs fun seen : Array Nat =>
  Star [pur (strip l = es ∧ StampsOk l c ∧ strip (l.filter fun e => !seen.contains e.2.2) = left), pts r (.mapIter (some m) c seen c), pts m (.map (l.map mkE).toArray c)]
theorem ItAt.iff {r m : Nat} {es left : List (α × Value)} : Sat R (ItAt r m es left :: Hs) w ↔ ∃ (l : List (En α)) (c : Nat) (seen : Array Nat), (strip l = es ∧ StampsOk l c ∧ strip (l.filter fun e => !seen.contains e.2.2) = left) ∧
    Sat R (pts r (.mapIter (some m) c seen c) :: pts m (.map (l.map (mkE (α := α))).toArray c) :: Hs) w := by
  unfold ItAt
  simp only [Sat.exs]
  constructor
  · rintro ⟨l, c, seen, h⟩
    obtain ⟨h1, h2⟩ := Sat.pur.1 (Sat.star.1 h)
    exact ⟨l, c, seen, h1, h2⟩
  · rintro ⟨l, c, seen, h1, h2⟩
    exact ⟨l, c, seen, Sat.star.2 (Sat.pur.2 ⟨h1, h2⟩)⟩
theorem ItAt.map {r m : Nat} {es left : List (α × Value)} (hw : Sat R (ItAt r m es left :: Hs) w) : Sat R (MapAt m es :: Hs) w := by
  obtain ⟨l, c, seen, ⟨h1, h2, _⟩, hw⟩ := ItAt.iff.1 hw
  exact MapAt.iff.2 ⟨l, c, h1, h2, hw.drop⟩
end
end Go.VC
/- SL, part 19: rows of n cells: copy, append of zeros where there is no room, taking a part out. Condition: bounds on lengths. -/
namespace Go.VC
set_option linter.unusedVariables false
open Go Go.RowKit
theorem run_copy_n {P : Program} {n : Nat} (w : World) (dT sT ty elem : TypeId) (b o dLen dCap : Nat) (a : Addr) (sLen sCap : Nat) (cs : List Value)
    (hu : P.underlying dT = some (.slice elem)) (hs : (P.info? elem).map (·.size) = some n) (hn : cs.length = Nat.min sLen dLen * n)
    (hsrc : ∀ j v, cs[j]? = some v → w.cell? (a.add j) = some v) (hc : ∀ j, j < cs.length → (w.cell? ⟨b, o + j, none⟩).isSome = true) (hf : ∀ j, j < cs.length → w.frozen? ⟨b, o + j, none⟩ = false) (h1 : ∀ v ∈ cs, v.oneCell' = true) :
    (Builtin.copy_ #[dT, sT] ty #[.slice (some ⟨b, o, none⟩) dLen dCap, .slice (some a) sLen sCap]).run P w = .ok (goInt (Nat.min sLen dLen)) (w.setCells b o cs) := by
  have hl := run_loadCells_list (P := P) w a cs hsrc
  have hst := run_storeCells_cells (P := P) b o cs 0 w (by simpa using hc) (by simpa using hf) h1
  cases hq : P.info? elem with
  | none => simp [hq] at hs
  | some i =>
    have hi : i.size = n := by simpa [hq] using hs
    simp [Builtin.copy_, run_underlying hu, Builtin.lenOf, Builtin.firstCells, sizeOf, typeInfo, hq, hi, ← hn, hl, hst]
theorem run_clear_n {P : Program} {n m : Nat} (w : World) (t e ty : TypeId) (z : Value) (ht : P.underlying t = some (.slice e)) (hv : ∀ w, (zeroValue e).run P w = .ok z w) (hz : z.cells.size = n) (h1 : ∀ v ∈ (Builtin.zeroCells z.cells m).toList, v.oneCell' = true) (b o c : Nat) (hm : 0 < m)
    (hc : ∀ j, j < m * n → (w.cell? ⟨b, o + j, none⟩).isSome = true) (hf : ∀ j, j < m * n → w.frozen? ⟨b, o + j, none⟩ = false) :
    (Builtin.clear_ #[t] ty #[.slice (some ⟨b, o, none⟩) m c]).run P w = .ok (.tuple #[]) (w.setCells b o (Builtin.zeroCells z.cells m).toList) := by
  have hl : (Builtin.zeroCells z.cells m).toList.length = m * n := by simp [Builtin.zeroCells, hz]
  have hst := run_storeCells_cells (P := P) b o (Builtin.zeroCells z.cells m).toList 0 w (by rw [hl]; simpa using hc) (by rw [hl]; simpa using hf) h1
  simp only [Nat.add_zero] at hst
  obtain ⟨k, rfl⟩ : ∃ k, m = k + 1 := ⟨m - 1, by omega⟩
  simp [Builtin.clear_, run_underlying ht, hv, hst]
theorem rows_of {n : Nat} : ∀ (m : Nat) (l : List Value), l.length = m * n → ∃ ys : List (List Value), ys.length = m ∧ Wid n ys ∧ ys.flatten = l
  | 0, l, h => ⟨[], rfl, Wid.nil, by have : l = [] := List.length_eq_zero_iff.1 (by omega); rw [this]; rfl⟩
  | m + 1, l, h => by
    rw [Nat.add_mul, Nat.one_mul] at h
    obtain ⟨ys, h1, h2, h3⟩ := rows_of (n := n) m (l.drop n) (by rw [List.length_drop]; omega)
    refine ⟨l.take n :: ys, by simp [h1], fun x hx => ?_, by simp [h3]⟩
    rcases List.mem_cons.1 hx with rfl | hx
    · rw [List.length_take]; omega
    · exact h2 x hx
theorem putL_midN {A B C V : List Value} {p : Nat} (hp : A.length = p) (hB : B.length = V.length) : putL (A ++ B ++ C) p V = A ++ V ++ C := by
  rw [putL_eq _ _ _ (by simp only [List.length_append]; omega)]
  have e1 : (A ++ B ++ C).take p = A := by rw [List.append_assoc, List.take_left' hp]
  have e2 : (A ++ B ++ C).drop (p + V.length) = C := by rw [List.drop_left' (by rw [List.length_append]; omega)]
  rw [e1, e2]
theorem putN {A Y D X rest : List Value} {p : Nat} (hA : A.length = p) (hy : Y.length = X.length + D.length) : putL (putL ((A ++ Y) ++ rest) p X) (p + X.length) D = (A ++ X ++ D) ++ rest := by
  have h1 : putL ((A ++ Y) ++ rest) p X = A ++ X ++ (Y.drop X.length ++ rest) := by
    have := putL_midN (A := A) (B := Y.take X.length) (C := Y.drop X.length ++ rest) (V := X) hA (by rw [List.length_take]; omega)
    rw [← this]
    congr 1
    rw [List.append_assoc, List.append_assoc, ← List.append_assoc (Y.take _), List.take_append_drop]
  have h2 := putL_midN (A := A ++ X) (B := Y.drop X.length) (C := rest) (V := D) (p := p + X.length) (by simp [hA]) (by rw [List.length_drop]; omega)
  rw [h1, ← List.append_assoc, h2]
theorem putN' {A D X rest : List Value} {p : Nat} (hA : A.length = p) (hr : X.length ≤ rest.length) : putL (putL ((A ++ D) ++ rest) (p + X.length) D) p X = (A ++ X ++ D) ++ rest.drop X.length := by
  have e : (A ++ D) ++ rest = (A ++ (D ++ rest).take X.length) ++ ((D ++ rest).drop X.length).take D.length ++ rest.drop X.length := by
    have h1 : rest.drop X.length = (D ++ rest).drop (X.length + D.length) := by
      rw [Nat.add_comm, ← List.drop_drop, List.drop_left]
    rw [h1, ← List.drop_drop, List.append_assoc, List.append_assoc, List.append_assoc, List.take_append_drop, List.take_append_drop]
  have hl : ((D ++ rest).take X.length).length = X.length := by rw [List.length_take, List.length_append]; omega
  rw [e, putL_midN (p := p + X.length) (by rw [List.length_append, hl, hA]) (by rw [List.length_take, List.length_drop, List.length_append]; omega)]
  have := putL_midN (A := A) (B := (D ++ rest).take X.length) (C := D ++ rest.drop X.length) (V := X) hA (by rw [hl])
  rw [show (A ++ (D ++ rest).take X.length) ++ D ++ rest.drop X.length = A ++ (D ++ rest).take X.length ++ (D ++ rest.drop X.length) by simp, this]; simp
section
variable {P : Program} {R : Cx} {Hs Rest : List HP} {w : World} {s : Sl} {T : TypeId} {n : Nat}
theorem copyN_rule {dT sT ty elem : TypeId} {b o dLen dCap sLen sCap : Nat} {a : Addr} {cs l : List Value} {fr : Nat × Nat} {K : Int → World → Prop} (hu : P.underlying dT = some (.slice elem)) (hs : (P.info? elem).map (·.size) = some n)
    (hw : Sat R (pts b (.cells l.toArray T fr) :: Hs) w) (hfr : okFr l.length fr) (hn : cs.length = Nat.min sLen dLen * n) (hfit : o + cs.length ≤ l.length) (hsrc : ∀ j v, cs[j]? = some v → w.cell? (a.add j) = some v) (h1 : oneAll cs = true)
    (k : ∀ t w', Sat R (pts b (.cells (putL l o cs).toArray T fr) :: Hs) w' → K t w') :
    ∃ w', ∃ t : Int, (Builtin.copy_ #[dT, sT] ty #[.slice (some ⟨b, o, none⟩) dLen dCap, .slice (some a) sLen sCap]).run P w = .ok (.int .i64 t) w' ∧ K t w' := by
  have hat := hw.at
  have hr := run_copy_n (P := P) w dT sT ty elem b o dLen dCap a sLen sCap cs hu hs hn hsrc (fun j hj => by rw [cell_of hat]; simp; omega) (fun j hj => frozen_no hat hfr (by omega)) (fun v hv => List.all_eq_true.1 h1 v hv)
  exact ⟨_, _, hr, k _ _ (setCells_sat cs l o w hw)⟩
theorem zerosGrowN_rule {t1 t2 ty : TypeId} {bytes k m : Nat} {kd kn : IntKind} {rows : List (List Value)} {K : Sl → World → Prop} (ht : P.underlying t1 = some (.slice T)) (htn : P.underlying t2 = some (.int kn)) (hi : elBN P T n bytes = true) (hn1 : 0 < n)
    (h0 : 0 < m) (hk : k < rows.length) (hc : s.cap < k + m) (hb : 2 * (k + m) * bytes ≤ 281474976710656) (hb' : k + m ≤ 9223372036854775807) (hw : Sat R (OwnN n s T rows :: Hs) w)
    (h : ∀ t w' ys, ys.length = m → Sat R (OwnN n t T (rows.take k ++ ys) :: OwnN n s T rows :: Hs) w' → K t w') :
    ∃ w', ∃ t : Sl, (Builtin.append_ #[t1, t2] ty #[.slice s.a k s.cap, .int kd m]).run P w = .ok (.slice t.a t.len t.cap) w' ∧ K t w' := by
  obtain ⟨i, z, hi, hz, hsize, hbytes, hzc⟩ := elBN_out hi
  obtain ⟨hwid, ⟨_, rfl, _⟩ | ⟨b, rest, fr, cap, rfl, hl, hfr, hp⟩⟩ := OwnN.cases hw
  · simp at hk
  have hat := hp.at
  dsimp only at hc ⊢
  have hcap : Builtin.nextslicecap (k + m) cap * i.bytes ≤ 281474976710656 := by
    have h2 : Builtin.nextslicecap (k + m) cap ≤ 2 * (k + m) := by
      unfold Builtin.nextslicecap
      split
      · omega
      · split
        · omega
        · have := nextslicecap_le_wide hc
          unfold Builtin.nextslicecap at this
          rw [if_neg (by assumption), if_neg (by assumption)] at this
          omega
    rw [hbytes]
    exact Nat.le_trans (Nat.mul_le_mul_right _ h2) hb
  have hkl : (rows.take k).flatten.length = k * n := by rw [hwid.take.len, List.length_take, Nat.min_eq_left (by omega)]
  have hold : (Builtin.firstCells i.size k (.slice (some ⟨b, 0, none⟩) k cap)).run P w.drew = .ok (rows.take k).flatten.toArray w.drew := by
    refine run_firstCells_some w.drew i.size k ⟨b, 0, none⟩ k _ (rows.take k).flatten (by rw [hsize, hkl]) ?_
    intro j u hj
    rw [World.cell?_drew, add_off, cell_of hat, Nat.zero_add]
    obtain ⟨hlt, rfl⟩ := List.getElem?_eq_some_iff.1 hj
    rw [hkl] at hlt
    rw [← hj, ← hwid.take_flat, List.getElem?_take, if_pos hlt]
    have : k * n ≤ rows.length * n := Nat.mul_le_mul_right _ (by omega)
    rw [List.getElem?_append_left (by rw [hwid.len]; omega)]
  have hwr : IntKind.i64.wrap (m : Int) = m := by rw [IntKind.wrap_i64]; omega
  have hn : ¬ (k + m ≤ cap) := by omega
  have h63' : ¬ (9223372036854775807 < ((k : Int) + (m : Int))) := by omega
  have h48' : ¬ (281474976710656 < Builtin.nextslicecap (k + m) cap * i.bytes) := by omega
  have h48i : ¬ (281474976710656 < (m : Int) * (i.bytes : Int)) := by
    rw [← Int.natCast_mul, hbytes]
    have : m * bytes ≤ 2 * (k + m) * bytes := Nat.mul_le_mul_right _ (by omega)
    omega
  have hneg : ¬ ((m : Int) < 0) := by omega
  have hn0 : m ≠ 0 := by omega
  have hns : ¬ (m * i.size = 0) := by
    rw [hsize]
    have := Nat.mul_pos h0 hn1
    omega
  have hg := grownCap_ge w (k + m) cap T
  have hr : (Builtin.append_ #[t1, t2] ty #[.slice (some ⟨b, 0, none⟩) k cap, .int kd m]).run P w =
      .ok (.slice (some ⟨w.heap.size, 0, none⟩) (k + m) (grownCap w (k + m) cap T)) (w.drew.alloc (.cells ((rows.take k).flatten.toArray ++ Builtin.zeroCells z.cells m ++ Builtin.zeroCells z.cells (grownCap w (k + m) cap T - (k + m))) T)) := by
    simp [Builtin.append_, run_underlying ht, run_underlying htn, sizeOf, typeInfo, zeroValue, hi, hz, asInt, asIntOf, hwr, hn, hneg, hns, h63', h48', h48i, Question.forced, hold, newRow, grownCap]
  have hzs : ∀ m, (Builtin.zeroCells z.cells m).size = m * n := fun m => by simp [Builtin.zeroCells, hzc]
  obtain ⟨ys, hy1, hy2, hy3⟩ := rows_of m (Builtin.zeroCells z.cells m).toList (by rw [Array.length_toList, hzs])
  refine ⟨_, ⟨some ⟨w.heap.size, 0, none⟩, k + m, grownCap w (k + m) cap T⟩, hr, h _ _ ys hy1 ?_⟩
  have h3 := Sat.alloc (Obj.cells ((rows.take k).flatten.toArray ++ Builtin.zeroCells z.cells m ++ Builtin.zeroCells z.cells (grownCap w (k + m) cap T - (k + m))) T) (Sat.drew hp)
  have e : Obj.cells ((rows.take k).flatten.toArray ++ Builtin.zeroCells z.cells m ++ Builtin.zeroCells z.cells (grownCap w (k + m) cap T - (k + m))) T = .cells ((rows.take k ++ ys).flatten ++ (Builtin.zeroCells z.cells (grownCap w (k + m) cap T - (k + m))).toList).toArray T (0, 0) := by
    congr 1
    apply Array.ext'
    rw [List.flatten_append, hy3]
    simp
  rw [e] at h3 ⊢
  have h4 := OwnN.of_pts hwid hl (Sat.swap h3) hfr
  have hwid2 : Wid n (rows.take k ++ ys) := hwid.take.app hy2
  have hlk : (rows.take k ++ ys).length = k + m := by rw [List.length_append, List.length_take, hy1, Nat.min_eq_left (by omega)]
  have h5 := OwnN.of_pts (cap := grownCap w (k + m) cap T) hwid2 (by rw [List.length_append, hwid2.len, hlk, Array.length_toList, hzs, ← Nat.add_mul]; congr 1; omega) (Sat.swap h4)
  have e2 : (⟨some ⟨w.drew.heap.size, 0, none⟩, (rows.take k ++ ys).length, grownCap w (k + m) cap T⟩ : Sl) = ⟨some ⟨w.heap.size, 0, none⟩, k + m, grownCap w (k + m) cap T⟩ := by
    rw [hlk, World.size_drew]
  rw [e2] at h5
  exact h5
theorem delN_rule {t1 ty ty' : TypeId} {bytes i j : Nat} {z : Value} {rows : List (List Value)} {K : Sl → World → Prop} (ht : P.underlying t1 = some (.slice T)) (hi : elBN P T n bytes = true) (hv : ∀ w, (zeroValue T).run P w = .ok z w) (hzc : z.cells.size = n)
    (hz1 : ∀ m, ∀ v ∈ (Builtin.zeroCells z.cells m).toList, v.oneCell' = true) (ho : oneAll rows.flatten = true)
    (hn1 : 0 < n) (hij : i < j) (hj : j ≤ rows.length) (hw : Sat R (OwnN n s T rows :: Hs) w) (k : ∀ t w', Sat R (OwnN n t T (rows.take i ++ rows.drop j) :: Hs) w' → K t w') :
    ∃ w', ∃ t : Sl, (Builtin.append_ #[t1, t1] ty #[.slice s.a i s.cap, .slice (cutA s.a j s.cap n) (s.len - j) (s.cap - j)]).run P w = .ok (.slice t.a t.len t.cap) w' ∧
      (0 : Int) ≤ (s.len : Int) ∧ (s.len : Int) ≤ (t.cap : Int) ∧ (0 : Int) ≤ (t.len : Int) ∧ (t.len : Int) ≤ (((s.len : Int).toNat : Nat) : Int) ∧
      ∃ w'', (Builtin.clear_ #[t1] ty' #[.slice (cutA t.a (t.len : Int).toNat t.cap n) ((s.len : Int).toNat - (t.len : Int).toNat) (t.cap - (t.len : Int).toNat)]).run P w' = .ok (.tuple #[]) w'' ∧ K t w'' := by
  obtain ⟨ti, z', hi, hz', hsize, hbytes, hzc'⟩ := elBN_out hi
  obtain ⟨hwid, ⟨_, rfl, _⟩ | ⟨b, rest, fr, cap, rfl, hl, hfr, hp⟩⟩ := OwnN.cases hw
  · simp at hj; omega
  have hat := hp.at
  have hl0 := hl
  rw [List.length_append, hwid.len] at hl
  have hcap : rows.length ≤ cap := Nat.le_of_mul_le_mul_right (by omega : rows.length * n ≤ cap * n) hn1
  have hjn : j * n ≤ rows.length * n := Nat.mul_le_mul_right _ hj
  have hin : i * n + (rows.length - j) * n + (j - i) * n = rows.length * n := by
    rw [← Nat.add_mul, ← Nat.add_mul]
    congr 1; omega
  have hdl : (rows.drop j).flatten.length = (rows.length - j) * n := by rw [hwid.drop.len, List.length_drop]
  have hdo : ∀ v ∈ (rows.drop j).flatten, v.oneCell' = true := fun v hv => List.all_eq_true.1 ho v (by
    obtain ⟨l, h1, h2⟩ := List.mem_flatten.1 hv
    exact List.mem_flatten.2 ⟨l, List.mem_of_mem_drop h1, h2⟩)
  have hsrc : Src P ti.size t1 (.slice (cutA (some ⟨b, 0, none⟩) j cap n) (rows.length - j) (cap - j)) (rows.length - j) (rows.drop j).flatten w := by
    rw [hsize]
    by_cases hjc : cap = j
    · have hr : rows.length - j = 0 := by omega
      have hd : rows.drop j = [] := List.drop_eq_nil_of_le (by omega)
      rw [hr, hd]
      unfold cutA
      rw [if_pos hjc]
      exact Go.Src.ofSlice w ht _ 0 _ [] (by simp) (fun j u hj => by simp at hj) (fun u hu => by cases hu)
    · unfold cutA
      rw [if_neg hjc]
      refine Go.Src.ofSlice w ht _ _ _ _ (by rw [hdl]) (fun x u hx => ?_) hdo
      show w.cell? (Addr.add (Addr.add ⟨b, 0, none⟩ (j * n)) x) = some u
      rw [add_off, add_off, Nat.zero_add, cell_of hat]
      rw [← hwid.drop_flat, List.getElem?_drop] at hx
      have hlt := (List.getElem?_eq_some_iff.1 hx).1
      rw [List.getElem?_append_left (by omega)]
      exact hx
  have hroom : i + (rows.length - j) ≤ cap := by omega
  have hr := run_append_room_src w t1 t1 ty T ti ht hi b 0 i cap _ (rows.length - j) (rows.drop j).flatten hsrc hroom
    (fun x hx => by
      rw [cell_of hat, hsize, List.getElem?_eq_getElem (by rw [hl0]; omega)]; rfl) (fun x hx => frozen_no hat hfr (by rw [hsize]; omega))
  have h2 := setCells_sat (rows.drop j).flatten (rows.flatten ++ rest) (i * n) w hp
  rw [hsize, Nat.zero_add] at hr
  have e1 : putL (rows.flatten ++ rest) (i * n) (rows.drop j).flatten = (rows.take i ++ rows.drop j).flatten ++ (rows.flatten ++ rest).drop (i * n + (rows.length - j) * n) := by
    rw [putL_eq _ _ _ (by rw [hdl, hl0]; omega), hdl, List.take_append_of_le_length (by rw [hwid.len]; omega), hwid.take_flat, List.flatten_append]
  rw [e1] at h2
  have hwid2 : Wid n (rows.take i ++ rows.drop j) := hwid.take.app hwid.drop
  have hll : (rows.take i ++ rows.drop j).length = i + (rows.length - j) := by rw [List.length_append, List.length_take, List.length_drop, Nat.min_eq_left (by omega)]
  refine ⟨_, ⟨some ⟨b, 0, none⟩, i + (rows.length - j), cap⟩, hr, by dsimp only; omega, by dsimp only; omega, by dsimp only; omega, by dsimp only; omega, ?_⟩
  dsimp only
  rw [Int.toNat_natCast, Int.toNat_natCast]
  have hca : cutA (some ⟨b, 0, none⟩) (i + (rows.length - j)) cap n = some ⟨b, (i + (rows.length - j)) * n, none⟩ := by
    unfold cutA
    rw [if_neg (by omega)]
    simp [add_off]
  rw [hca]
  have hat2 := h2.at
  have hml : (rows.length - (i + (rows.length - j))) * n = (j - i) * n := by congr 1; omega
  have hpos : (i + (rows.length - j)) * n = i * n + (rows.length - j) * n := Nat.add_mul _ _ _
  have hlen2 : ((rows.take i ++ rows.drop j).flatten ++ (rows.flatten ++ rest).drop (i * n + (rows.length - j) * n)).length = cap * n := by
    rw [List.length_append, hwid2.len, hll, List.length_drop, hl0, hpos]; omega
  refine ⟨_, run_clear_n _ t1 T ty' z ht hv hzc (hz1 _) b ((i + (rows.length - j)) * n) _ (by omega) (fun x hx => ?_) (fun x hx => ?_), k _ _ ?_⟩
  · rw [cell_of hat2, List.getElem?_eq_getElem (by rw [hlen2]; omega)]; rfl
  · exact frozen_no hat2 hfr (by omega)
  · have h3 := setCells_sat (Builtin.zeroCells z.cells (rows.length - (i + (rows.length - j)))).toList _ ((i + (rows.length - j)) * n) _ h2
    have hzl : (Builtin.zeroCells z.cells (rows.length - (i + (rows.length - j)))).toList.length = (j - i) * n := by simp [Builtin.zeroCells, hzc, hml]
    rw [putL_eq _ _ _ (by rw [hzl, hlen2, hpos]; omega), List.take_left' (by rw [hwid2.len, hll]), List.append_assoc] at h3
    have h4 := OwnN.of_pts (cap := cap) hwid2 (by
      rw [List.length_append, List.length_append, hwid2.len, hll, hzl, List.length_drop, hlen2]
      omega) h3 hfr
    rw [hll] at h4
    exact h4
end
end Go.VC
/- Package queue: who may wait; who stands ahead; where one stands. Condition: a bound on the length. -/
namespace Go.Proofs.YtfgbbckfikiomaaGreatDoor
set_option linter.unusedVariables false
open Go Go.VC
open scoped Classical
variable {R : Cx} {Hs Rest : List HP} {w : World}
abbrev wtA (x : Wt) : Value := .agg #[.int .i64 x.id, .int .i64 x.cls, .int .i64 x.many, .int .i64 x.time, .float .f64 x.sc]
abbrev wtC (b : Nat) (x : Wt) : HP := pts b (.cells (wtV x).toArray 181 (0, 0))
abbrev wtD (b : Nat) (x : Wt) : HP := pts b (.cells (wtV x).toArray 65 (0, 0))
theorem qwithin_spec {n lo hi : Int} (hw : Sat R Hs w) : Gets Tryz.prog 229 #[.int .i64 n, .int .i64 lo, .int .i64 hi] w fun v w' => v = .bool (decide (lo ≤ n ∧ n ≤ hi)) ∧ Sat R Hs w' := by
  apply call229
  refine Br.d (fun h => ⟨?_, hw⟩) (fun h => ⟨?_, hw⟩)
  · congr 1
    rw [decide_eq_decide]; omega
  · rw [decide_eq_false (by omega)]
theorem qright_spec {x : Wt} (hw : Sat R Hs w) : Gets Tryz.prog 179 #[wtA x] w fun v w' => v = .bool (decide x.Ok) ∧ Sat R Hs w' := by
  apply call179
  refine new_rule hw fun b w hw => ?_
  have hw : Sat R (wtC b x :: Hs) w := hw
  have no : ∀ {w}, ¬ x.Ok → Sat R (wtC b x :: Hs) w → (Value.bool false = .bool (decide x.Ok)) ∧ Sat R Hs w := fun h hw => ⟨by rw [decide_eq_false h], hw.drop⟩
  refine ⟨x.id, At.own (eqS hw) (by exact ⟨rfl, trivial⟩), ?_⟩
  refine (qwithin_spec hw).use ?_
  clear hw
  rintro _ w ⟨rfl, hw⟩
  refine ⟨_, rfl, Br.d (fun h1 => ?_) (fun h1 => no (fun h => h1 h.1) hw)⟩
  refine ⟨x.cls, At.own (eqS hw) (by exact ⟨rfl, trivial⟩), ?_⟩
  refine (qwithin_spec hw).use ?_
  clear hw
  rintro _ w ⟨rfl, hw⟩
  refine ⟨_, rfl, Br.d (fun h2 => ?_) (fun h2 => no (fun h => h2 h.2.1) hw)⟩
  refine ⟨x.many, At.own (eqS hw) (by exact ⟨rfl, trivial⟩), ?_⟩
  refine (qwithin_spec hw).use ?_
  clear hw
  rintro _ w ⟨rfl, hw⟩
  refine ⟨_, rfl, Br.d (fun h3 => ?_) (fun h3 => no (fun h => h3 h.2.2.1) hw)⟩
  refine ⟨x.time, At.own (eqS hw) (by exact ⟨rfl, trivial⟩), ?_⟩
  refine (qwithin_spec hw).use ?_
  clear hw
  rintro _ w ⟨rfl, hw⟩
  refine ⟨_, rfl, ?_, hw.drop⟩
  congr 1
  rw [decide_eq_decide]
  exact ⟨fun h => ⟨h1, h2, h3, h⟩, fun h => h.2.2.2⟩
def orL (l : List Int) : Int := (l.find? fun x => decide (x ≠ 0)).getD 0
theorem or_spec {s : Sl} {l : List Int} (hl : l.length ≤ 1000000000) (hw : Sat R (Own s 3 (intsI l) :: Hs) w) : Gets Tryz.prog 220 #[.slice s.a s.len s.cap] w fun v w' => v = .int .i64 (orL l) ∧ Sat R (Own s 3 (intsI l) :: Hs) w' := by
  have hlen := Own.len hw
  rw [List.length_map] at hlen
  apply call220
  refine ⟨fun i w => ∃ j : Nat, i = j ∧ j ≤ l.length ∧ (∀ x ∈ l.take j, x = 0) ∧ Sat R (Own s 3 (intsI l) :: Hs) w, fun i _ => l.length - i.toNat, ⟨0, rfl, by omega, by simp, hw⟩, ?_⟩
  clear hw
  rintro _ _ w ⟨j, rfl, hj, hz, hw⟩
  refine Br.d (fun h => ?_) (fun h => ?_)
  · have hj2 : j < l.length := by omega
    refine Own.ix hw (eqS hw) j rfl hj2 ?_
    refine Br.ne (fun h2 => ⟨?_, hw⟩) (fun h2 => ?_)
    · congr 1
      have e : l.find? (fun x => decide (x ≠ 0)) = some l[j] := by
        have h3 : l = l.take j ++ l[j] :: l.drop (j + 1) := by rw [← List.drop_eq_getElem_cons hj2, List.take_append_drop]
        rw [List.find?_eq_some_iff_append]
        exact ⟨by simpa using h2, l.take j, l.drop (j + 1), h3, fun x hx => by simpa using hz x hx⟩
      unfold orL
      rw [e]
      rfl
    · rw [wrap64 (by omega) (by omega)]
      refine ⟨⟨j + 1, by omega, by omega, fun x hx => ?_, hw⟩, by dsimp only; omega⟩
      rw [List.take_add_one, List.getElem?_eq_getElem hj2] at hx
      rcases List.mem_append.1 hx with hx | hx
      · exact hz x hx
      · simp at hx
        rw [hx]; exact h2
  · rw [List.take_of_length_le (by omega)] at hz
    refine ⟨?_, hw⟩
    congr 1
    unfold orL
    rw [List.find?_eq_none.2 (fun x hx => by simpa using hz x hx)]
    rfl
theorem ord_orL {a b : Wt} : orL [rankF b.sc a.sc, cmpI a.time b.time, cmpI a.id b.id] = a.ord b := by
  unfold orL Wt.ord cmpI
  by_cases h : rankF b.sc a.sc = 0
  · simp only [List.find?_cons, h, ne_eq, not_true_eq_false, decide_false]
    by_cases h1 : a.time < b.time
    · simp [h1]
    · by_cases h2 : b.time < a.time
      · simp [h1, h2]
      · by_cases h3 : a.id < b.id
        · simp [h1, h2, h3]
        · by_cases h4 : b.id < a.id
          · simp [h1, h2, h3, h4]
          · simp [h1, h2, h3, h4]
  · simp [h]
theorem order_spec {a b : Wt} (hw : Sat R Hs w) : Gets Tryz.prog 170 #[wtA a, wtA b] w fun v w' => v = .int .i64 (a.ord b) ∧ Sat R Hs w' := by
  apply call170
  refine new_rule hw fun p w hw => new_rule hw fun q w hw => ?_
  have hw : Sat R (wtC q b :: wtC p a :: Hs) w := hw
  refine drw_ruleT hw fun w hw => ?_
  refine ⟨b.sc, At.own (fun _ h => h) (by exact ⟨rfl, trivial⟩), a.sc, At.own (fun _ h => h) (by exact ⟨rfl, trivial⟩), a.time, At.own (fun _ h => h) (by exact ⟨rfl, trivial⟩), b.time, At.own (fun _ h => h) (by exact ⟨rfl, trivial⟩), a.id, At.own (fun _ h => h) (by exact ⟨rfl, trivial⟩), b.id, At.own (fun _ h => h) (by exact ⟨rfl, trivial⟩), ?_⟩
  refine (rank_spec hw).use ?_
  clear hw
  rintro _ w ⟨rfl, hw⟩
  refine ⟨_, rfl, hw, ?_⟩
  refine (compareI_spec hw).use ?_
  clear hw
  rintro _ w ⟨rfl, hw⟩
  refine ⟨_, rfl, hw, ?_⟩
  refine (compareI_spec hw).use ?_
  clear hw
  rintro _ w ⟨rfl, hw⟩
  refine ⟨_, rfl, hw, ?_⟩
  refine new_rule hw fun r w hw => ⟨hw.absorb, ?_⟩
  have hw : Sat R (pts r (.cells (intsI [rankF b.sc a.sc, cmpI a.time b.time, cmpI a.id b.id]).toArray 3 (0, 0)) :: VC.tru :: wtC q b :: wtC p a :: Hs) w := hw
  refine (or_spec (l := [rankF b.sc a.sc, cmpI a.time b.time, cmpI a.id b.id]) (by simp) (own_lit (n := 3) hw)).use ?_
  clear hw
  rintro _ w ⟨rfl, hw⟩
  rw [ord_orL]
  exact ⟨_, rfl, hw.absorb, rfl, hw.drop.drop.drop.drop⟩
abbrev wtT : TypeId := 181
theorem qidx_spec {s : Sl} {l : List Wt} {f : Value} {p : Wt → Bool} (hl : l.length ≤ 1000000000)
    (hf : ∀ x w, Sat R (OwnN 5 s wtT (l.map wtV) :: Hs) w → CalW Tryz.prog cl f [wtA x] w fun e w' => e = .returned (.bool (p x)) ∧ Sat R (OwnN 5 s wtT (l.map wtV) :: Hs) w')
    (hw : Sat R (OwnN 5 s wtT (l.map wtV) :: Hs) w) :
    Gets Tryz.prog 230 #[.slice s.a s.len s.cap, f] w fun v w' => (∃ i : Int, v = .int .i64 i ∧ ((i = -1 ∧ l.any p = false) ∨ ∃ k : Nat, i = k ∧ ∃ (hk : k < l.length), p l[k] = true ∧ (l.take k).any p = false)) ∧ Sat R (OwnN 5 s wtT (l.map wtV) :: Hs) w' := by
  have hlen := OwnN.len hw
  rw [List.length_map] at hlen
  apply call230
  refine ⟨fun i w => ∃ j : Nat, i = j ∧ j ≤ l.length ∧ (l.take j).any p = false ∧ Sat R (OwnN 5 s wtT (l.map wtV) :: Hs) w, fun i _ => l.length - i.toNat, ⟨0, rfl, by omega, by simp, hw⟩, ?_⟩
  clear hw
  rintro _ _ w ⟨j, rfl, hj, hn, hw⟩
  refine Br.d (fun h => ?_) (fun h => ?_)
  · have hj2 : j < l.length := by omega
    refine (OwnN.reads hw (eqS hw)).rngM (E := l) (g := wtV) hj2 fun a _ he => ?_
    refine ⟨_, _, _, _, _, he.z (by exact ⟨rfl, rfl, rfl, rfl, rfl, trivial⟩), ?_⟩
    refine (hf l[j] _ hw).mono ?_
    rintro _ w ⟨rfl, hw⟩
    refine ⟨_, rfl, Br.mk (fun h => ⟨⟨j, rfl, .inr ⟨j, rfl, hj2, h, hn⟩⟩, hw⟩) (fun h => ?_)⟩
    rw [wrap64 (by omega) (by omega)]
    refine ⟨⟨j + 1, by omega, by omega, ?_, hw⟩, by dsimp only; omega⟩
    rw [List.take_add_one, List.getElem?_eq_getElem hj2, List.any_append, hn]
    simp [h]
  · rw [List.take_of_length_le (by omega)] at hn
    exact ⟨⟨-1, rfl, .inl ⟨rfl, hn⟩⟩, hw⟩
theorem isId_spec {b : Nat} {id : Int} {x : Wt} (hw : Sat R (pts b (.cells [.int .i64 id].toArray 3 (0, 0)) :: Hs) w) : Gets Tryz.prog 231 #[wtA x, .pointer (some ⟨b, 0, none⟩)] w fun v w' => v = .bool (decide (x.id = id)) ∧ Sat R (pts b (.cells [.int .i64 id].toArray 3 (0, 0)) :: Hs) w' := by
  apply call231
  refine new_rule hw fun p w hw => ?_
  have hw : Sat R (wtC p x :: pts b (.cells [.int .i64 id].toArray 3 (0, 0)) :: Hs) w := hw
  refine ⟨x.id, At.own (eqS hw) (by exact ⟨rfl, trivial⟩), NilP.mk rfl ⟨id, At.own (eqS hw) (by exact ⟨rfl, trivial⟩), ?_, hw.drop⟩⟩
  congr 1
theorem qplace_spec {q : Nat} {l : List Wt} {id : Int} (hl : l.length ≤ 1000000000) (hw : Sat R (QuAt q l :: Hs) w) :
    Gets Tryz.prog 180 #[.pointer (some ⟨q, 0, none⟩), .int .i64 id] w fun v w' => (∃ i : Int, v = .int .i64 i ∧ ((i = -1 ∧ hasQ id l = false) ∨ ∃ k : Nat, i = k ∧ ∃ (hk : k < l.length), l[k].id = id ∧ hasQ id (l.take k) = false)) ∧ Sat R (QuAt q l :: Hs) w' := by
  obtain ⟨s, hw⟩ := Sat.qu.1 hw
  apply call180
  refine new_rule hw fun b w hw => ?_
  have hw : Sat R (pts q (quCell s) :: pts b (.cells [.int .i64 id].toArray 3 (0, 0)) :: OwnN 5 s wtT (l.map wtV) :: Hs) w := hw.swap
  refine NilP.mk rfl ⟨s, At.own (eqS hw) (by exact ⟨rfl, trivial⟩), ?_⟩
  have hw : Sat R (OwnN 5 s wtT (l.map wtV) :: pts b (.cells [.int .i64 id].toArray 3 (0, 0)) :: pts q (quCell s) :: Hs) w := hw.arr
  refine (qidx_spec (p := fun x => decide (x.id = id)) hl (fun x w hw => CalW.mk (by kernel_rfl) ((isId_spec hw.swap).use fun v w' h => ⟨by rw [h.1], h.2.swap⟩)) hw).use ?_
  clear hw
  rintro _ w ⟨⟨i, rfl, hi⟩, hw⟩
  refine ⟨i, rfl, ⟨i, rfl, ?_⟩, ?_⟩
  · rcases hi with hi | ⟨k, rfl, hk, h1, h2⟩
    · exact .inl hi
    · exact .inr ⟨k, rfl, hk, of_decide_eq_true h1, h2⟩
  · have hw : Sat R (pts b (.cells [.int .i64 id].toArray 3 (0, 0)) :: pts q (quCell s) :: OwnN 5 s wtT (l.map wtV) :: Hs) w := hw.arr
    exact Sat.qu.2 ⟨s, hw.drop⟩
end Go.Proofs.YtfgbbckfikiomaaGreatDoor
/- Package slices: Insert of one who waits; Delete. Condition: a bound on the length. -/
namespace Go.Proofs.YtfgbbckfikiomaaGreatDoor
set_option linter.unusedVariables false
open Go Go.VC
open scoped Classical
variable {R : Cx} {Hs Rest : List HP} {w : World}
theorem ovq_name : (Tryz.f232.name == "runtime.NumGoroutine") = false := by kernel_rfl
theorem ovq_body : Tryz.f232.body.isNone = true := by kernel_rfl
theorem ovq_next : Extern.findNext Tryz.f232 = none := by kernel_rfl
theorem ovq_find : ∃ tR, Extern.find Tryz.f232 = some (Extern.SlicesOverlaps.overlaps #[ 177 , 177 ] #[tR]) := ⟨4, by kernel_rfl⟩
theorem elW : ElN Tryz.prog 177 177 wtT 5 40 := ⟨Tryz.underlying177, ⟨_, Tryz.underlying177⟩, by kernel_rfl⟩
theorem szW1 : szOf Tryz.prog wtT = 5 := by kernel_rfl
theorem szW (w : World) : (sizeOf wtT).run Tryz.prog w = .ok 5 w := by
  obtain ⟨i, hi⟩ := szOf_pos (P := Tryz.prog) (t := wtT) (by rw [szW1]; decide)
  have := sizeOf_run hi w
  rw [szW1] at this
  exact this
theorem wtV_len (x : Wt) : (wtV x).length = 5 := rfl
theorem wtV_wid (l : List Wt) : Wid 5 (l.map wtV) := fun y hy => by
  obtain ⟨x, _, rfl⟩ := List.mem_map.1 hy
  rfl
theorem wtV_one (x : Wt) : oneAll (wtV x) = true := rfl
theorem wtV_all (l : List Wt) : oneAll (l.map wtV).flatten = true := by
  unfold oneAll
  rw [List.all_eq_true]
  intro v hv
  obtain ⟨r, h1, h2⟩ := List.mem_flatten.1 hv
  obtain ⟨x, _, rfl⟩ := List.mem_map.1 h1
  exact List.all_eq_true.1 (wtV_one x) v h2
theorem cut_5 {b k m : Nat} (h : m ≠ k) : cutA (some ⟨b, 0, none⟩) k m 5 = some ⟨b, k * 5, none⟩ := by
  simp only [cutA, if_neg h, Option.map_some, add_off]; simp
theorem overlapsQ_spec {b1 b2 o : Nat} {x : Wt} {T2 : TypeId} {l : List Value} {fr : Nat × Nat} {la lc : Nat} {Q : Ending → World → Prop} (hl : l ≠ [])
    (hw : Sat R (pts b2 (.cells l.toArray T2 fr) :: wtC b1 x :: Hs) w) (k : Q (.returned (.bool false)) w) :
    Ext Tryz.prog 232 #[.slice (some ⟨b1, 0, none⟩) 1 1, .slice (some ⟨b2, o, none⟩) la lc] w Q := by
  have h2 := hw.at
  have h1 := hw.swap.at
  have hne : b1 ≠ b2 := by
    rintro rfl
    obtain ⟨h, hA, hd, h', hB, hd', _⟩ := hw
    rw [show h = _ from hA] at hd hd'
    rw [show h' = _ from hB] at hd'
    have := hd' b1 (by simp [Heap.one])
    simp only [Cx.add, Heap.add, Heap.one] at this
    split at this <;> simp_all
  obtain ⟨tR, hf⟩ := ovq_find
  refine ⟨.bool false, w, ?_, k⟩
  rw [run_callFunc_extern Tryz.func232 ovq_name ovq_body ovq_next hf]
  rw [Lib.run_overlaps_apart (P := Tryz.prog) w 177 tR wtT Tryz.underlying177 5 (fun w => szW w) ⟨b1, 0, none⟩ ⟨b2, o, none⟩ 1 1 la lc hne wtT T2 5 l.length ?_ ?_ ?_ ?_ ?_]
  · rfl
  · simp only [World.shape?, h1]; rfl
  · simp only [World.shape?, h2]; simp
  · cases l with
    | nil => exact absurd rfl hl
    | cons a l => simp
  · simp [World.frozen?, h1]
  · simp [World.frozen?, h1]
theorem src_wt {b : Nat} {x : Wt} (h : w.heap[b]? = some (.cells (wtV x).toArray wtT (0, 0))) : ∀ j v, (wtV x)[j]? = some v → w.cell? ((⟨b, 0, none⟩ : Addr).add j) = some v := by
  intro j v hj
  rw [add_off, cell_of h, Nat.zero_add]; exact hj
theorem src_partN {b o : Nat} {xs rest : List Value} {T : TypeId} {fr : Nat × Nat} (h : w.heap[b]? = some (.cells (xs ++ rest).toArray T fr)) : ∀ j v, (xs.drop o)[j]? = some v → w.cell? ((⟨b, o, none⟩ : Addr).add j) = some v := by
  intro j v hj
  rw [add_off, cell_of h]
  rw [List.getElem?_drop] at hj
  have hlt := (List.getElem?_eq_some_iff.1 hj).1
  rw [List.getElem?_append_left (by omega)]; exact hj
theorem qinsert_spec {s : Sl} {l : List Wt} {x : Wt} {p b : Nat} (hl : l.length ≤ 1000000000) (hp : p ≤ l.length) (hw : Sat R (OwnN 5 s wtT (l.map wtV) :: wtC b x :: Hs) w) :
    Gets Tryz.prog 182 #[.slice s.a s.len s.cap, .int .i64 p, .slice (some ⟨b, 0, none⟩) 1 1] w fun v w' => ∃ t : Sl, v = .slice t.a t.len t.cap ∧ Sat R (OwnN 5 t wtT ((l.take p ++ x :: l.drop p).map wtV) :: wtC b x :: Hs) w' := by
  have hlen := OwnN.len hw
  have hcap := OwnN.cap (by omega) hw
  rw [List.length_map] at hlen
  have hrl : (l.map wtV).length = l.length := List.length_map _
  refine call182 s p ⟨some ⟨b, 0, none⟩, 1, 1⟩ _ _ ?_
  unfold B182
  dsimp only
  have w1 : IntKind.i64.wrap ((s.len : Int) + ((1 : Nat) : Int)) = ((l.length + 1 : Nat) : Int) := by rw [wrap64 (by omega) (by omega)]; omega
  have w2 : IntKind.i64.wrap (((l.length + 1 : Nat) : Int) - p) = ((l.length + 1 - p : Nat) : Int) := by rw [wrap64 (by omega) (by omega)]; omega
  have w3 : IntKind.i64.wrap ((p : Int) + ((1 : Nat) : Int)) = ((p + 1 : Nat) : Int) := by rw [wrap64 (by omega) (by omega)]; omega
  rw [w1, w2, w3]
  simp only [Int.toNat_natCast]
  have hA : ((l.map wtV).take p).flatten.length = p * 5 := by rw [(wtV_wid l).take.len, List.length_take, hrl, Nat.min_eq_left hp]
  have hD : ((l.map wtV).drop p).flatten.length = (l.length - p) * 5 := by rw [(wtV_wid l).drop.len, List.length_drop, hrl]
  have hDo : oneAll ((l.map wtV).drop p).flatten = true := by rw [← List.map_drop]; exact wtV_all _
  have hrows : (l.map wtV).flatten = ((l.map wtV).take p).flatten ++ ((l.map wtV).drop p).flatten := by rw [← List.flatten_append, List.take_append_drop]
  have hin : ((l.map wtV).take p).flatten ++ wtV x ++ ((l.map wtV).drop p).flatten = ((l.take p ++ x :: l.drop p).map wtV).flatten := by simp [List.map_take, List.map_drop]
  have hinl : (l.take p ++ x :: l.drop p).length = l.length + 1 := by simp; omega
  refine ⟨by omega, by omega, Br.f rfl (Br.e (fun h => ?_) (fun h => Br.d (fun h2 => ?_) (fun h2 => ?_)))⟩
  · -- behind all
    refine appendN_rule elW hw (SrcN_one elW.hk 1 hw rfl rfl) (Wid.one rfl) (by simp; omega) (by simp; omega) fun t w hw => ⟨t, rfl, ?_⟩
    have e : l.map wtV ++ [wtV x] = (l.take p ++ x :: l.drop p).map wtV := by
      rw [List.take_of_length_le (by omega), List.drop_eq_nil_of_le (by omega)]; simp
    rw [e] at hw; exact hw
  · -- no room
    refine ⟨by omega, by omega, ?_⟩
    refine zerosGrowN_rule Tryz.underlying177 Tryz.underlying3 elW.hi (by omega) (by omega) (by rw [hrl]; omega) (by omega) (by omega) (by omega) hw fun t w ys hys hw => ?_
    have hyw : Wid 5 ys := fun y hy => OwnN.wid hw y (List.mem_append_right _ hy)
    have htl := OwnN.len hw
    have hxs : ((l.map wtV).take p ++ ys).length = l.length + 1 := by rw [List.length_append, List.length_take, hrl, hys, Nat.min_eq_left hp]; omega
    rw [hxs] at htl
    refine ⟨by omega, by omega, ?_⟩
    obtain ⟨hwid, ⟨_, h0, _⟩ | ⟨b', rest, fr, cap, rfl, hcl, hfr, hw⟩⟩ := OwnN.cases hw
    · have := congrArg List.length h0
      rw [hxs] at this; cases this
    dsimp only at htl ⊢
    rw [List.flatten_append] at hw hcl
    have hY : ys.flatten.length = (l.length + 1 - p) * 5 := by rw [hyw.len, hys]
    have hcl2 := hcl
    rw [List.length_append, List.length_append, hA, hY] at hcl2
    have hb1 := (hw.takeP (b := b) inferInstance).at
    rw [hxs, cut_5 (by omega)]
    refine copyN_rule Tryz.underlying177 (by kernel_rfl) hw (by rw [hcl]; exact hfr) (cs := wtV x) (by show 5 = Nat.min 1 _ * 5; rw [show Nat.min 1 (l.length + 1 - p) = 1 from Nat.min_eq_left (by omega)]) (by rw [hcl]; show p * 5 + 5 ≤ _; omega) (src_wt hb1) rfl fun _ w hw => ?_
    refine drw_rule hw fun w hw => ⟨by omega, by omega, by omega, by omega, ?_⟩
    obtain ⟨_, ⟨_, h0, _⟩ | ⟨bs, rest2, fr2, cap2, rfl, hcl3, hfr2, hws⟩⟩ := OwnN.cases hw.swap
    · have h3 : l.length = 0 := by
        have := congrArg List.length h0
        rw [hrl] at this; exact this
      omega
    clear w1 w2 w3
    dsimp only at hlen hcap h h2 ⊢
    rw [hrl] at h hcap
    have hsat := hws.at
    rw [cut_5 (by omega), cut_5 (by omega)]
    have hdrop : (l.map wtV).flatten.drop (p * 5) = ((l.map wtV).drop p).flatten := (wtV_wid l).drop_flat p
    refine copyN_rule Tryz.underlying177 (by kernel_rfl) hws.swap (by rw [putL_len, hcl]; exact hfr) (cs := ((l.map wtV).drop p).flatten) (by rw [hD, hrl, show Nat.min (l.length - p) (l.length + 1 - (p + 1)) = l.length - p from Nat.min_eq_left (by omega)])
      (by rw [putL_len, hcl, hD]; omega) (by rw [← hdrop]; exact src_partN hsat) hDo fun _ w hw => ?_
    rw [show (p + 1) * 5 = p * 5 + (wtV x).length by rw [wtV_len]; omega, putN hA (by rw [hY, hD, wtV_len]; omega), hin] at hw
    have hfin := OwnN.of_pts (cap := cap) (wtV_wid _) (by rw [List.length_append, (wtV_wid _).len, List.length_map, hinl]; omega) hw hfr
    rw [List.length_map, hinl] at hfin
    refine ⟨⟨some ⟨b', 0, none⟩, l.length + 1, cap⟩, rfl, ?_⟩
    exact Sat.cons (fun R' h => h.drop) hfin
  · -- room
    obtain ⟨_, ⟨_, h0, _⟩ | ⟨bs, rest, fr, cap, rfl, hcl, hfr, hws⟩⟩ := OwnN.cases hw
    · have h3 : l.length = 0 := by
        have := congrArg List.length h0
        rw [hrl] at this; exact this
      omega
    clear w1 w2 w3
    dsimp only at hlen hcap h h2 ⊢
    rw [hrl] at h hcap
    have hcl2 := hcl
    rw [List.length_append, (wtV_wid l).len, hrl] at hcl2
    have hroom : 5 ≤ rest.length := by omega
    refine ⟨by omega, by omega, by omega, by omega, ?_⟩
    rw [cut_5 (by omega)]
    refine overlapsQ_spec (by intro h0; have h5 := congrArg List.length h0; rw [hcl, List.length_nil] at h5; omega) hws ?_
    refine ⟨_, rfl, Br.t rfl ?_⟩
    refine drw_rule hws fun w hws => ⟨by omega, by omega, by omega, by omega, ?_⟩
    rw [cut_5 (by omega)]
    have hsat := hws.at
    have hdrop : (l.map wtV).flatten.drop (p * 5) = ((l.map wtV).drop p).flatten := (wtV_wid l).drop_flat p
    refine copyN_rule Tryz.underlying177 (by kernel_rfl) hws (by rw [hcl]; exact hfr) (cs := ((l.map wtV).drop p).flatten) (by rw [hD, show Nat.min (l.length + 1 - p) (l.length + 1 - (p + 1)) = l.length - p from (Nat.min_eq_right (by omega)).trans (by omega)])
      (by rw [hcl, hD]; omega) (by rw [← hdrop]; exact src_partN hsat) hDo fun _ w hw => ?_
    refine ⟨by omega, by omega, ?_⟩
    have hb1 := hw.swap.at
    refine copyN_rule Tryz.underlying177 (by kernel_rfl) hw (by rw [putL_len, hcl]; exact hfr) (cs := wtV x) (by show 5 = Nat.min 1 _ * 5; rw [show Nat.min 1 (l.length + 1 - p) = 1 from Nat.min_eq_left (by omega)]) (by rw [putL_len, hcl]; show p * 5 + 5 ≤ _; omega) (src_wt hb1) rfl fun _ w hw => ?_
    rw [hrows, show (p + 1) * 5 = p * 5 + (wtV x).length by rw [wtV_len]; omega, putN' hA (by rw [wtV_len]; exact hroom), hin] at hw
    have hfin := OwnN.of_pts (cap := cap) (wtV_wid _) (by rw [List.length_append, (wtV_wid _).len, List.length_map, hinl, List.length_drop, wtV_len]; omega) hw hfr
    rw [List.length_map, hinl] at hfin
    exact ⟨_, rfl, hfin⟩
theorem zvW (w : World) : (zeroValue wtT).run Tryz.prog w = .ok (.agg #[.int .i64 0, .int .i64 0, .int .i64 0, .int .i64 0, .float .f64 0]) w := by
  rw [Tryz.zeroValue181 ]
theorem qdelete_spec {s : Sl} {l : List Wt} {k : Nat} (hl : l.length ≤ 1000000000) (hk : k < l.length) (hw : Sat R (OwnN 5 s wtT (l.map wtV) :: Hs) w) :
    Gets Tryz.prog 185 #[.slice s.a s.len s.cap, .int .i64 k, .int .i64 ((k + 1 : Nat) : Int)] w fun v w' => ∃ t : Sl, v = .slice t.a t.len t.cap ∧ Sat R (OwnN 5 t wtT ((l.take k ++ l.drop (k + 1)).map wtV) :: Hs) w' := by
  have hlen := OwnN.len hw
  have hcap := OwnN.cap (by omega) hw
  rw [List.length_map] at hlen
  apply call185
  unfold B185
  simp only [Int.toNat_natCast]
  refine ⟨by omega, by omega, by omega, by omega, by omega, by omega, Br.e (fun h => by omega) (fun _ => ?_)⟩
  refine drw_rule hw fun w hw => ⟨by omega, by omega, by omega, by omega, ?_⟩
  refine delN_rule (z := .agg #[.int .i64 0, .int .i64 0, .int .i64 0, .int .i64 0, .float .f64 0]) (i := k) (j := k + 1) (rows := l.map wtV) elW.ht elW.hi zvW rfl (fun m v hv => ?_) (wtV_all l) (by omega) (by omega) (by rw [List.length_map]; omega) hw fun t w hw => ⟨t, rfl, ?_⟩
  · unfold Builtin.zeroCells at hv
    rw [Array.mem_toList_iff, Array.mem_map] at hv
    obtain ⟨i, _, rfl⟩ := hv
    have h5 : i % 5 < 5 := Nat.mod_lt _ (by omega)
    show ((#[Value.int .i64 0, .int .i64 0, .int .i64 0, .int .i64 0, .float .f64 0] : Array Value)[i % 5]!).oneCell' = true
    generalize i % 5 = j at h5
    match j, h5 with
    | 0, _ => rfl
    | 1, _ => rfl
    | 2, _ => rfl
    | 3, _ => rfl
    | 4, _ => rfl
  · rw [List.map_append, List.map_take, List.map_drop]
    exact hw
end Go.Proofs.YtfgbbckfikiomaaGreatDoor
