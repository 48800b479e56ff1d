/- The formulas of functions of this seat's translation, printed by a program of mine off the translation; each is proved equal to 'fnF' of the function's body, so it is enough for the call. No condition. -/
import Derived.Test.YtadnmnkbgjippaaGreatDoorB2
import Derived.Test.YtadnmnkbgjippaaGreatDoorB1
import Derived.ProofKit
import Derived.OpenShut
import Derived.ShutString
import Derived.ChangeOld
import Derived.Below
import Derived.Lib.SmallJoins
namespace Go.Proofs.YtadnmnkbgjippaaGreatDoor
open Go Go.VC
set_option linter.unusedVariables false
set_option maxRecDepth 10000
def B33  (K : Value → World → Prop) (w : World) : Prop :=
  New (.map #[] 0) (fun b_t1 w_1 =>
  New (.map #[] 0) (fun b_t2 w_2 =>
  New (.cells #[.int .i64 0, .int .i64 1, .map ((some b_t1)), .map ((some b_t2))] 91 (0, 0)) (fun b_t4 w_3 =>
  K (.pointer ((some ⟨b_t4, 0, none⟩))) w_3) w_2) w_1) w
def sk33 : Sk := .leaf
theorem ok33 : fnOk Tryz.prog Tryz.f33.ntmps Tryz.f33 sk33 = true := by kernel_rfl
theorem eq33  (K : Value → World → Prop) (w : World) : fnF Tryz.prog cl Tryz.f33 sk33 [] K w = B33  K w := by kernel_rfl
theorem call33  (K : Value → World → Prop) (w : World) (h : B33  K w) : Gets Tryz.prog 33 #[] w K :=
  calls_of (sk := sk33) cl_ok mixed Tryz.func33 ok33 (args := []) (Nat.le_of_ble_eq_true (by kernel_rfl)) (by rw [eq33]; exact h)
def B20 (a0_0 : Int) (a0_1 : Int) (a0_2 : Int) (a0_3 : Int) (a0_4 : Sl) (K : Value → World → Prop) (w : World) : Prop :=
  New (.cells #[.int .i64 a0_0, .int .i64 a0_1, .int .i64 a0_2, .int .i64 a0_3, .slice a0_4.a a0_4.len a0_4.cap] 24 (0, 0)) (fun b_a1 w_1 =>
  ∃ (J : World → Prop), (∃ t6 : Int, (At (fun w' => w' = w_1) ⟨b_a1, 0 + 1, none⟩ [.int .i64 t6]) ∧
    ∃ t8 : Int, (At (fun w' => w' = w_1) ⟨b_a1, 0 + 2, none⟩ [.int .i64 t8]) ∧
    ∃ t10 : Int, (At (fun w' => w' = w_1) ⟨b_a1, 0 + 3, none⟩ [.int .i64 t10]) ∧
    New (.cells #[.int .i64 t6, .int .i64 t8, .int .i64 t10] 3 (0, 0)) (fun b_t11 w_2 =>
    Calls Tryz.prog 40 #[.slice ((some ⟨b_t11, 0, none⟩)) 3 3, .func (.func 39) #[] #[]] w_2 fun e w_3 =>
    ∃ t13 : Bool, (e = .returned (.bool t13)) ∧
    Br t13
     (K (.bool false) w_3)
     (∃ t16 : Sl, (At (fun w' => w' = w_3) ⟨b_a1, 0 + 4, none⟩ [.slice t16.a t16.len t16.cap]) ∧
      Br (decide ((↑t16.len : Int) > 4000))
       (K (.bool false) w_3)
       (J  w_3))) w_1) ∧
  ∀ (z : Env)  (w_4 : World), J  w_4 →
  ∃ (J_1 : Bool → World → Prop), (∃ t21 : Int, (At (fun w' => w' = w_4) ⟨b_a1, 0 + 2, none⟩ [.int .i64 t21]) ∧
    Br (t21 == 0)
     (∃ t25 : Sl, (At (fun w' => w' = w_4) ⟨b_a1, 0 + 4, none⟩ [.slice t25.a t25.len t25.cap]) ∧
      J_1 ((↑t25.len : Int) == 0) w_4)
     (J_1 false w_4)) ∧
  ∀ (z_1 : Env) (bare4 : Bool) (w_5 : World), J_1 bare4 w_5 →
  ∃ t30 : Int, (At (fun w' => w' = w_5) ⟨b_a1, 0, none⟩ [.int .i64 t30]) ∧
  Br (t30 == 1)
   (∃ t34 : Int, (At (fun w' => w' = w_5) ⟨b_a1, 0 + 1, none⟩ [.int .i64 t34]) ∧
    Br (t34 == 0)
     (K (.bool bare4) w_5)
     (K (.bool false) w_5))
   (Br (t30 == 2)
     (∃ t42 : Int, (At (fun w' => w' = w_5) ⟨b_a1, 0 + 3, none⟩ [.int .i64 t42]) ∧
      K (.bool (t42 == 0)) w_5)
     (Br (t30 == 3)
       (∃ t47 : Int, (At (fun w' => w' = w_5) ⟨b_a1, 0 + 3, none⟩ [.int .i64 t47]) ∧
        Br (t47 == 0)
         (K (.bool bare4) w_5)
         (K (.bool false) w_5))
       (Br (t30 == 4)
         (∃ t55 : Int, (At (fun w' => w' = w_5) ⟨b_a1, 0 + 1, none⟩ [.int .i64 t55]) ∧
          Br (t55 == 0)
           (∃ t59 : Int, (At (fun w' => w' = w_5) ⟨b_a1, 0 + 2, none⟩ [.int .i64 t59]) ∧
            Br (t59 == 0)
             (∃ t64 : Int, (At (fun w' => w' = w_5) ⟨b_a1, 0 + 3, none⟩ [.int .i64 t64]) ∧
              K (.bool (t64 == 0)) w_5)
             (K (.bool false) w_5))
           (K (.bool false) w_5))
         (K (.bool false) w_5))))) w
def sk20 : Sk := (.seq .leaf (.seq .leaf (.cut [] [] [2, 5, 6, 7, 8, 9, 10, 11, 12, 13, 14, 15, 16, 17, 18, 19] .leaf (.cut [4] [.bool] [4, 20, 21, 22, 23, 24, 25, 26, 27, 28] .leaf .leaf))))
theorem ok20 : fnOk Tryz.prog Tryz.f20.ntmps Tryz.f20 sk20 = true := by kernel_rfl
theorem eq20 (a0_0 : Int) (a0_1 : Int) (a0_2 : Int) (a0_3 : Int) (a0_4 : Sl) (K : Value → World → Prop) (w : World) : fnF Tryz.prog cl Tryz.f20 sk20 [.agg #[.int .i64 a0_0, .int .i64 a0_1, .int .i64 a0_2, .int .i64 a0_3, .slice a0_4.a a0_4.len a0_4.cap]] K w = B20 a0_0 a0_1 a0_2 a0_3 a0_4 K w := by kernel_rfl
theorem call20 (a0_0 : Int) (a0_1 : Int) (a0_2 : Int) (a0_3 : Int) (a0_4 : Sl) (K : Value → World → Prop) (w : World) (h : B20 a0_0 a0_1 a0_2 a0_3 a0_4 K w) : Gets Tryz.prog 20 #[.agg #[.int .i64 a0_0, .int .i64 a0_1, .int .i64 a0_2, .int .i64 a0_3, .slice a0_4.a a0_4.len a0_4.cap]] w K :=
  calls_of (sk := sk20) cl_ok mixed Tryz.func20 ok20 (args := [.agg #[.int .i64 a0_0, .int .i64 a0_1, .int .i64 a0_2, .int .i64 a0_3, .slice a0_4.a a0_4.len a0_4.cap]]) (Nat.le_of_ble_eq_true (by kernel_rfl)) (by rw [eq20]; exact h)
def B39 (n0 : Int) (K : Value → World → Prop) (w : World) : Prop :=
  Br (decide (n0 < 0))
   (K (.bool true) w)
   (K (.bool (decide (n0 > 1099511627776))) w)
def sk39 : Sk := .leaf
theorem ok39 : fnOk Tryz.prog Tryz.f39.ntmps Tryz.f39 sk39 = true := by kernel_rfl
theorem eq39 (n0 : Int) (K : Value → World → Prop) (w : World) : fnF Tryz.prog cl Tryz.f39 sk39 [.int .i64 n0] K w = B39 n0 K w := by kernel_rfl
theorem call39 (n0 : Int) (K : Value → World → Prop) (w : World) (h : B39 n0 K w) : Gets Tryz.prog 39 #[.int .i64 n0] w K :=
  calls_of (sk := sk39) cl_ok mixed Tryz.func39 ok39 (args := [.int .i64 n0]) (Nat.le_of_ble_eq_true (by kernel_rfl)) (by rw [eq39]; exact h)
def B21 (l0 : Sl) (K : Value → World → Prop) (w : World) : Prop :=
  ∃ (I : Sl → Int → World → Prop) (μ : Sl → Int → World → Nat), (I ⟨none, 0, 0⟩ 0 w) ∧ ∀ (z : Env) (out3 : Sl) (t8 : Int) (w_1 : World), I out3 t8 w_1 →
  Br (decide (t8 < (↑l0.len : Int)))
   (Rng t8 l0.len (NilP l0.a fun a_t10 =>
    ∃ t11 : Int, (At (fun w' => w' = w_1) (Addr.add a_t10 t8.toNat) [.int .i64 t11]) ∧
    Calls Tryz.prog 41 #[.int .u64 (IntKind.u64.wrap (if 0 > t11 then 0 else t11))] w_1 fun e w_2 =>
    ∃ t16 : Sl, (e = .returned (.slice t16.a t16.len t16.cap)) ∧
    ∃ w_3 : World, ∃ t17 : Sl, ((Builtin.append_ #[22, 22] 22 #[.slice out3.a out3.len out3.cap, .slice t16.a t16.len t16.cap]).run Tryz.prog w_2 = .ok (.slice t17.a t17.len t17.cap) w_3) ∧
    (I t17 (IntKind.i64.wrap (t8 + 1)) w_3) ∧ μ t17 (IntKind.i64.wrap (t8 + 1)) w_3 < μ out3 t8 w_1))
   (K (.slice out3.a out3.len out3.cap) w_1)
def sk21 : Sk := (.seq .leaf (.seq .leaf (.seq (.seq .leaf (.block (.loop [3, 8] [.sl, (.int .i64)] [3, 5, 8, 9, 10, 11, 12, 13, 14, 15, 16, 17, 18] .leaf))) .leaf)))
theorem ok21 : fnOk Tryz.prog Tryz.f21.ntmps Tryz.f21 sk21 = true := by kernel_rfl
theorem eq21 (l0 : Sl) (K : Value → World → Prop) (w : World) : fnF Tryz.prog cl Tryz.f21 sk21 [.slice l0.a l0.len l0.cap] K w = B21 l0 K w := by kernel_rfl
theorem call21 (l0 : Sl) (K : Value → World → Prop) (w : World) (h : B21 l0 K w) : Gets Tryz.prog 21 #[.slice l0.a l0.len l0.cap] w K :=
  calls_of (sk := sk21) cl_ok mixed Tryz.func21 ok21 (args := [.slice l0.a l0.len l0.cap]) (Nat.le_of_ble_eq_true (by kernel_rfl)) (by rw [eq21]; exact h)
def B7 (a0_0 : Int) (a0_1 : Int) (a0_2 : Int) (a0_3 : Int) (a0_4 : Sl) (K : Value → World → Prop) (w : World) : Prop :=
  New (.cells #[.int .i64 a0_0, .int .i64 a0_1, .int .i64 a0_2, .int .i64 a0_3, .slice a0_4.a a0_4.len a0_4.cap] 24 (0, 0)) (fun b_a1 w_1 =>
  ∃ t4 : Int, ∃ t4_1 : Int, ∃ t4_2 : Int, ∃ t4_3 : Int, ∃ t4_4 : Sl, (At (fun w' => w' = w_1) ⟨b_a1, 0, none⟩ [.int .i64 t4, .int .i64 t4_1, .int .i64 t4_2, .int .i64 t4_3, .slice t4_4.a t4_4.len t4_4.cap]) ∧
  Calls Tryz.prog 20 #[.agg #[.int .i64 t4, .int .i64 t4_1, .int .i64 t4_2, .int .i64 t4_3, .slice t4_4.a t4_4.len t4_4.cap]] w_1 fun e w_2 =>
  ∃ t5 : Bool, (e = .returned (.bool t5)) ∧
  Br (!t5)
   (K (.tuple #[.slice none 0 0, .int .i64 1]) w_2)
   (Drw w_2 fun S w_3 =>
    ∃ t8 : Int, (At S ⟨b_a1, 0, none⟩ [.int .i64 t8]) ∧
    ∃ t10 : Int, (At S ⟨b_a1, 0 + 1, none⟩ [.int .i64 t10]) ∧
    ∃ t12 : Int, (At S ⟨b_a1, 0 + 2, none⟩ [.int .i64 t12]) ∧
    ∃ t14 : Int, (At S ⟨b_a1, 0 + 3, none⟩ [.int .i64 t14]) ∧
    ∃ t18 : Sl, (At S ⟨b_a1, 0 + 4, none⟩ [.slice t18.a t18.len t18.cap]) ∧
    New (.cells #[.int .i64 t8, .int .i64 t10, .int .i64 t12, .int .i64 t14] 3 (0, 0)) (fun b_t15 w_4 =>
    (S w_4) ∧
    Calls Tryz.prog 21 #[.slice ((some ⟨b_t15, 0, none⟩)) 4 4] w_4 fun e_1 w_5 =>
    ∃ t16 : Sl, (e_1 = .returned (.slice t16.a t16.len t16.cap)) ∧
    (S w_5) ∧
    Calls Tryz.prog 22 #[.slice t18.a t18.len t18.cap] w_5 fun e_2 w_6 =>
    ∃ t19 : Sl, (e_2 = .returned (.slice t19.a t19.len t19.cap)) ∧
    (S w_6) ∧
    ∃ w_7 : World, ∃ t20 : Sl, ((Builtin.append_ #[22, 22] 22 #[.slice t16.a t16.len t16.cap, .slice t19.a t19.len t19.cap]).run Tryz.prog w_6 = .ok (.slice t20.a t20.len t20.cap) w_7) ∧
    (S w_7) ∧
    K (.tuple #[.slice t20.a t20.len t20.cap, .int .i64 0]) w_7) w_3)) w
def sk7 : Sk := .leaf
theorem ok7 : fnOk Tryz.prog Tryz.f7.ntmps Tryz.f7 sk7 = true := by kernel_rfl
theorem eq7 (a0_0 : Int) (a0_1 : Int) (a0_2 : Int) (a0_3 : Int) (a0_4 : Sl) (K : Value → World → Prop) (w : World) : fnF Tryz.prog cl Tryz.f7 sk7 [.agg #[.int .i64 a0_0, .int .i64 a0_1, .int .i64 a0_2, .int .i64 a0_3, .slice a0_4.a a0_4.len a0_4.cap]] K w = B7 a0_0 a0_1 a0_2 a0_3 a0_4 K w := by kernel_rfl
theorem call7 (a0_0 : Int) (a0_1 : Int) (a0_2 : Int) (a0_3 : Int) (a0_4 : Sl) (K : Value → World → Prop) (w : World) (h : B7 a0_0 a0_1 a0_2 a0_3 a0_4 K w) : Gets Tryz.prog 7 #[.agg #[.int .i64 a0_0, .int .i64 a0_1, .int .i64 a0_2, .int .i64 a0_3, .slice a0_4.a a0_4.len a0_4.cap]] w K :=
  calls_of (sk := sk7) cl_ok mixed Tryz.func7 ok7 (args := [.agg #[.int .i64 a0_0, .int .i64 a0_1, .int .i64 a0_2, .int .i64 a0_3, .slice a0_4.a a0_4.len a0_4.cap]]) (Nat.le_of_ble_eq_true (by kernel_rfl)) (by rw [eq7]; exact h)
def B27 (r0 : Option Addr) (K : Value → World → Prop) (w : World) : Prop :=
  Calls Tryz.prog 43 #[.pointer r0, .int .u64 1099511627776] w fun e w_1 =>
  ∃ t4 : Int, (e = .returned (.int .u64 t4)) ∧
  K (.int .i64 (IntKind.i64.wrap t4)) w_1
def sk27 : Sk := .leaf
theorem ok27 : fnOk Tryz.prog Tryz.f27.ntmps Tryz.f27 sk27 = true := by kernel_rfl
theorem eq27 (r0 : Option Addr) (K : Value → World → Prop) (w : World) : fnF Tryz.prog cl Tryz.f27 sk27 [.pointer r0] K w = B27 r0 K w := by kernel_rfl
theorem call27 (r0 : Option Addr) (K : Value → World → Prop) (w : World) (h : B27 r0 K w) : Gets Tryz.prog 27 #[.pointer r0] w K :=
  calls_of (sk := sk27) cl_ok mixed Tryz.func27 ok27 (args := [.pointer r0]) (Nat.le_of_ble_eq_true (by kernel_rfl)) (by rw [eq27]; exact h)
def B9 (b0 : Sl) (K : Value → World → Prop) (w : World) : Prop :=
  New (.cells #[.int .i64 0, .int .i64 0, .int .i64 0, .int .i64 0, .slice none 0 0] 24 (0, 0)) (fun b_t2 w_1 =>
  Calls Tryz.prog 26 #[.slice b0.a b0.len b0.cap] w_1 fun e w_2 =>
  ∃ t7 : Option Addr, (e = .returned (.pointer t7)) ∧
  Calls Tryz.prog 27 #[.pointer t7] w_2 fun e_1 w_3 =>
  ∃ t9 : Int, (e_1 = .returned (.int .i64 t9)) ∧
  Calls Tryz.prog 27 #[.pointer t7] w_3 fun e_2 w_4 =>
  ∃ t11 : Int, (e_2 = .returned (.int .i64 t11)) ∧
  Calls Tryz.prog 27 #[.pointer t7] w_4 fun e_3 w_5 =>
  ∃ t13 : Int, (e_3 = .returned (.int .i64 t13)) ∧
  Calls Tryz.prog 27 #[.pointer t7] w_5 fun e_4 w_6 =>
  ∃ t15 : Int, (e_4 = .returned (.int .i64 t15)) ∧
  New (.cells #[.int .i64 0, .int .i64 0, .int .i64 0, .int .i64 0, .slice none 0 0] 24 (0, 0)) (fun b_a5 w_7 =>
  ∃ w_8 : World, ((Instr.storeAt 24 (.pointer ((some ⟨b_a5, 0, none⟩))) (.agg #[.int .i64 t9, .int .i64 t11, .int .i64 t13, .int .i64 t15, .slice none 0 0])).run Tryz.prog w_7 = .ok () w_8) ∧
  Calls Tryz.prog 28 #[.pointer t7, .int .i64 4000] w_8 fun e_5 w_9 =>
  ∃ t18 : Sl, (e_5 = .returned (.slice t18.a t18.len t18.cap)) ∧
  ∃ w_10 : World, ((Instr.storeAt 22 (.pointer ((some ⟨b_a5, 0 + 4, none⟩))) (.slice t18.a t18.len t18.cap)).run Tryz.prog w_9 = .ok () w_10) ∧
  Calls Tryz.prog 29 #[.pointer t7] w_10 fun e_6 w_11 =>
  ∃ t21 : Bool, (e_6 = .returned (.bool t21)) ∧
  Br (!t21)
   (∃ w_12 : World, ((Instr.storeAt 24 (.pointer ((some ⟨b_t2, 0, none⟩))) (.agg #[.int .i64 0, .int .i64 0, .int .i64 0, .int .i64 0, .slice none 0 0])).run Tryz.prog w_11 = .ok () w_12) ∧
    ∃ t3 : Int, ∃ t3_1 : Int, ∃ t3_2 : Int, ∃ t3_3 : Int, ∃ t3_4 : Sl, (At (fun w' => w' = w_12) ⟨b_t2, 0, none⟩ [.int .i64 t3, .int .i64 t3_1, .int .i64 t3_2, .int .i64 t3_3, .slice t3_4.a t3_4.len t3_4.cap]) ∧
    K (.tuple #[.agg #[.int .i64 t3, .int .i64 t3_1, .int .i64 t3_2, .int .i64 t3_3, .slice t3_4.a t3_4.len t3_4.cap], .int .i64 6]) w_12)
   (∃ t24 : Int, ∃ t24_1 : Int, ∃ t24_2 : Int, ∃ t24_3 : Int, ∃ t24_4 : Sl, (At (fun w' => w' = w_11) ⟨b_a5, 0, none⟩ [.int .i64 t24, .int .i64 t24_1, .int .i64 t24_2, .int .i64 t24_3, .slice t24_4.a t24_4.len t24_4.cap]) ∧
    Calls Tryz.prog 20 #[.agg #[.int .i64 t24, .int .i64 t24_1, .int .i64 t24_2, .int .i64 t24_3, .slice t24_4.a t24_4.len t24_4.cap]] w_11 fun e_7 w_13 =>
    ∃ t25 : Bool, (e_7 = .returned (.bool t25)) ∧
    Br (!t25)
     (∃ w_14 : World, ((Instr.storeAt 24 (.pointer ((some ⟨b_t2, 0, none⟩))) (.agg #[.int .i64 0, .int .i64 0, .int .i64 0, .int .i64 0, .slice none 0 0])).run Tryz.prog w_13 = .ok () w_14) ∧
      ∃ t3_5 : Int, ∃ t3_6 : Int, ∃ t3_7 : Int, ∃ t3_8 : Int, ∃ t3_9 : Sl, (At (fun w' => w' = w_14) ⟨b_t2, 0, none⟩ [.int .i64 t3_5, .int .i64 t3_6, .int .i64 t3_7, .int .i64 t3_8, .slice t3_9.a t3_9.len t3_9.cap]) ∧
      K (.tuple #[.agg #[.int .i64 t3_5, .int .i64 t3_6, .int .i64 t3_7, .int .i64 t3_8, .slice t3_9.a t3_9.len t3_9.cap], .int .i64 6]) w_14)
     (∃ t29 : Int, ∃ t29_1 : Int, ∃ t29_2 : Int, ∃ t29_3 : Int, ∃ t29_4 : Sl, (At (fun w' => w' = w_13) ⟨b_a5, 0, none⟩ [.int .i64 t29, .int .i64 t29_1, .int .i64 t29_2, .int .i64 t29_3, .slice t29_4.a t29_4.len t29_4.cap]) ∧
      ∃ w_15 : World, ((Instr.storeAt 24 (.pointer ((some ⟨b_t2, 0, none⟩))) (.agg #[.int .i64 t29, .int .i64 t29_1, .int .i64 t29_2, .int .i64 t29_3, .slice t29_4.a t29_4.len t29_4.cap])).run Tryz.prog w_13 = .ok () w_15) ∧
      ∃ t3_10 : Int, ∃ t3_11 : Int, ∃ t3_12 : Int, ∃ t3_13 : Int, ∃ t3_14 : Sl, (At (fun w' => w' = w_15) ⟨b_t2, 0, none⟩ [.int .i64 t3_10, .int .i64 t3_11, .int .i64 t3_12, .int .i64 t3_13, .slice t3_14.a t3_14.len t3_14.cap]) ∧
      K (.tuple #[.agg #[.int .i64 t3_10, .int .i64 t3_11, .int .i64 t3_12, .int .i64 t3_13, .slice t3_14.a t3_14.len t3_14.cap], .int .i64 0]) w_15))) w_6) w
def sk9 : Sk := .leaf
theorem ok9 : fnOk Tryz.prog Tryz.f9.ntmps Tryz.f9 sk9 = true := by kernel_rfl
theorem eq9 (b0 : Sl) (K : Value → World → Prop) (w : World) : fnF Tryz.prog cl Tryz.f9 sk9 [.slice b0.a b0.len b0.cap] K w = B9 b0 K w := by kernel_rfl
theorem call9 (b0 : Sl) (K : Value → World → Prop) (w : World) (h : B9 b0 K w) : Gets Tryz.prog 9 #[.slice b0.a b0.len b0.cap] w K :=
  calls_of (sk := sk9) cl_ok mixed Tryz.func9 ok9 (args := [.slice b0.a b0.len b0.cap]) (Nat.le_of_ble_eq_true (by kernel_rfl)) (by rw [eq9]; exact h)
def B15 (t0_0 : Int) (t0_1 : Int) (t0_2 : Int) (t0_3 : Sl) (K : Value → World → Prop) (w : World) : Prop :=
  New (.cells #[.int .i64 t0_0, .int .i64 t0_1, .int .i64 t0_2, .slice t0_3.a t0_3.len t0_3.cap] 39 (0, 0)) (fun b_t1 w_1 =>
  Drw w_1 fun S w_2 =>
  ∃ t4 : Int, (At S ⟨b_t1, 0, none⟩ [.int .i64 t4]) ∧
  ∃ t6 : Int, (At S ⟨b_t1, 0 + 1, none⟩ [.int .i64 t6]) ∧
  ∃ t8 : Int, (At S ⟨b_t1, 0 + 2, none⟩ [.int .i64 t8]) ∧
  ∃ t12 : Sl, (At S ⟨b_t1, 0 + 3, none⟩ [.slice t12.a t12.len t12.cap]) ∧
  New (.cells #[.int .i64 t4, .int .i64 t6, .int .i64 t8] 3 (0, 0)) (fun b_t9 w_3 =>
  (S w_3) ∧
  Calls Tryz.prog 21 #[.slice ((some ⟨b_t9, 0, none⟩)) 3 3] w_3 fun e w_4 =>
  ∃ t10 : Sl, (e = .returned (.slice t10.a t10.len t10.cap)) ∧
  (S w_4) ∧
  Calls Tryz.prog 22 #[.slice t12.a t12.len t12.cap] w_4 fun e_1 w_5 =>
  ∃ t13 : Sl, (e_1 = .returned (.slice t13.a t13.len t13.cap)) ∧
  (S w_5) ∧
  ∃ w_6 : World, ∃ t14 : Sl, ((Builtin.append_ #[22, 22] 22 #[.slice t10.a t10.len t10.cap, .slice t13.a t13.len t13.cap]).run Tryz.prog w_5 = .ok (.slice t14.a t14.len t14.cap) w_6) ∧
  (S w_6) ∧
  K (.slice t14.a t14.len t14.cap) w_6) w_2) w
def sk15 : Sk := .leaf
theorem ok15 : fnOk Tryz.prog Tryz.f15.ntmps Tryz.f15 sk15 = true := by kernel_rfl
theorem eq15 (t0_0 : Int) (t0_1 : Int) (t0_2 : Int) (t0_3 : Sl) (K : Value → World → Prop) (w : World) : fnF Tryz.prog cl Tryz.f15 sk15 [.agg #[.int .i64 t0_0, .int .i64 t0_1, .int .i64 t0_2, .slice t0_3.a t0_3.len t0_3.cap]] K w = B15 t0_0 t0_1 t0_2 t0_3 K w := by kernel_rfl
theorem call15 (t0_0 : Int) (t0_1 : Int) (t0_2 : Int) (t0_3 : Sl) (K : Value → World → Prop) (w : World) (h : B15 t0_0 t0_1 t0_2 t0_3 K w) : Gets Tryz.prog 15 #[.agg #[.int .i64 t0_0, .int .i64 t0_1, .int .i64 t0_2, .slice t0_3.a t0_3.len t0_3.cap]] w K :=
  calls_of (sk := sk15) cl_ok mixed Tryz.func15 ok15 (args := [.agg #[.int .i64 t0_0, .int .i64 t0_1, .int .i64 t0_2, .slice t0_3.a t0_3.len t0_3.cap]]) (Nat.le_of_ble_eq_true (by kernel_rfl)) (by rw [eq15]; exact h)
def B16 (b0 : Sl) (K : Value → World → Prop) (w : World) : Prop :=
  New (.cells #[.int .i64 0, .int .i64 0, .int .i64 0, .slice none 0 0] 39 (0, 0)) (fun b_t2 w_1 =>
  Calls Tryz.prog 26 #[.slice b0.a b0.len b0.cap] w_1 fun e w_2 =>
  ∃ t7 : Option Addr, (e = .returned (.pointer t7)) ∧
  Calls Tryz.prog 27 #[.pointer t7] w_2 fun e_1 w_3 =>
  ∃ t9 : Int, (e_1 = .returned (.int .i64 t9)) ∧
  Calls Tryz.prog 27 #[.pointer t7] w_3 fun e_2 w_4 =>
  ∃ t11 : Int, (e_2 = .returned (.int .i64 t11)) ∧
  Calls Tryz.prog 27 #[.pointer t7] w_4 fun e_3 w_5 =>
  ∃ t13 : Int, (e_3 = .returned (.int .i64 t13)) ∧
  New (.cells #[.int .i64 0, .int .i64 0, .int .i64 0, .slice none 0 0] 39 (0, 0)) (fun b_t5 w_6 =>
  ∃ w_7 : World, ((Instr.storeAt 39 (.pointer ((some ⟨b_t5, 0, none⟩))) (.agg #[.int .i64 t9, .int .i64 t11, .int .i64 t13, .slice none 0 0])).run Tryz.prog w_6 = .ok () w_7) ∧
  Calls Tryz.prog 28 #[.pointer t7, .int .i64 65536] w_7 fun e_4 w_8 =>
  ∃ t16 : Sl, (e_4 = .returned (.slice t16.a t16.len t16.cap)) ∧
  ∃ w_9 : World, ((Instr.storeAt 22 (.pointer ((some ⟨b_t5, 0 + 3, none⟩))) (.slice t16.a t16.len t16.cap)).run Tryz.prog w_8 = .ok () w_9) ∧
  Calls Tryz.prog 29 #[.pointer t7] w_9 fun e_5 w_10 =>
  ∃ t19 : Bool, (e_5 = .returned (.bool t19)) ∧
  Br (!t19)
   (∃ w_11 : World, ((Instr.storeAt 39 (.pointer ((some ⟨b_t2, 0, none⟩))) (.agg #[.int .i64 0, .int .i64 0, .int .i64 0, .slice none 0 0])).run Tryz.prog w_10 = .ok () w_11) ∧
    ∃ t3 : Int, ∃ t3_1 : Int, ∃ t3_2 : Int, ∃ t3_3 : Sl, (At (fun w' => w' = w_11) ⟨b_t2, 0, none⟩ [.int .i64 t3, .int .i64 t3_1, .int .i64 t3_2, .slice t3_3.a t3_3.len t3_3.cap]) ∧
    K (.tuple #[.agg #[.int .i64 t3, .int .i64 t3_1, .int .i64 t3_2, .slice t3_3.a t3_3.len t3_3.cap], .int .i64 6]) w_11)
   (∃ t22 : Int, ∃ t22_1 : Int, ∃ t22_2 : Int, ∃ t22_3 : Sl, (At (fun w' => w' = w_10) ⟨b_t5, 0, none⟩ [.int .i64 t22, .int .i64 t22_1, .int .i64 t22_2, .slice t22_3.a t22_3.len t22_3.cap]) ∧
    ∃ w_12 : World, ((Instr.storeAt 39 (.pointer ((some ⟨b_t2, 0, none⟩))) (.agg #[.int .i64 t22, .int .i64 t22_1, .int .i64 t22_2, .slice t22_3.a t22_3.len t22_3.cap])).run Tryz.prog w_10 = .ok () w_12) ∧
    ∃ t3_4 : Int, ∃ t3_5 : Int, ∃ t3_6 : Int, ∃ t3_7 : Sl, (At (fun w' => w' = w_12) ⟨b_t2, 0, none⟩ [.int .i64 t3_4, .int .i64 t3_5, .int .i64 t3_6, .slice t3_7.a t3_7.len t3_7.cap]) ∧
    K (.tuple #[.agg #[.int .i64 t3_4, .int .i64 t3_5, .int .i64 t3_6, .slice t3_7.a t3_7.len t3_7.cap], .int .i64 0]) w_12)) w_5) w
def sk16 : Sk := .leaf
theorem ok16 : fnOk Tryz.prog Tryz.f16.ntmps Tryz.f16 sk16 = true := by kernel_rfl
theorem eq16 (b0 : Sl) (K : Value → World → Prop) (w : World) : fnF Tryz.prog cl Tryz.f16 sk16 [.slice b0.a b0.len b0.cap] K w = B16 b0 K w := by kernel_rfl
theorem call16 (b0 : Sl) (K : Value → World → Prop) (w : World) (h : B16 b0 K w) : Gets Tryz.prog 16 #[.slice b0.a b0.len b0.cap] w K :=
  calls_of (sk := sk16) cl_ok mixed Tryz.func16 ok16 (args := [.slice b0.a b0.len b0.cap]) (Nat.le_of_ble_eq_true (by kernel_rfl)) (by rw [eq16]; exact h)
def B12  (K : Value → World → Prop) (w : World) : Prop :=
  Calls Tryz.prog 33 #[] w fun e w_1 =>
  ∃ t1 : Option Addr, (e = .returned (.pointer t1)) ∧
  New (.map #[] 0) (fun b_t2 w_2 =>
  New (.cells #[.pointer t1, .int .i64 1, .map ((some b_t2))] 65 (0, 0)) (fun b_t4 w_3 =>
  K (.pointer ((some ⟨b_t4, 0, none⟩))) w_3) w_2) w_1
def sk12 : Sk := .leaf
theorem ok12 : fnOk Tryz.prog Tryz.f12.ntmps Tryz.f12 sk12 = true := by kernel_rfl
theorem eq12  (K : Value → World → Prop) (w : World) : fnF Tryz.prog cl Tryz.f12 sk12 [] K w = B12  K w := by kernel_rfl
theorem call12  (K : Value → World → Prop) (w : World) (h : B12  K w) : Gets Tryz.prog 12 #[] w K :=
  calls_of (sk := sk12) cl_ok mixed Tryz.func12 ok12 (args := []) (Nat.le_of_ble_eq_true (by kernel_rfl)) (by rw [eq12]; exact h)
def B13 (t0 : Option Addr) (b1 : Sl) (K : Value → World → Prop) (w : World) : Prop :=
  New (.cells #[.int .i64 0, .int .i64 0, .int .i64 0, .slice none 0 0] 39 (0, 0)) (fun b_t4 w_1 =>
  Calls Tryz.prog 9 #[.slice b1.a b1.len b1.cap] w_1 fun e w_2 =>
  ∃ t11 : Int, ∃ t11_1 : Int, ∃ t11_2 : Int, ∃ t11_3 : Int, ∃ t11_4 : Sl, ∃ t11_5 : Int, (e = .returned (.tuple #[.agg #[.int .i64 t11, .int .i64 t11_1, .int .i64 t11_2, .int .i64 t11_3, .slice t11_4.a t11_4.len t11_4.cap], .int .i64 t11_5])) ∧
  New (.cells #[.int .i64 0, .int .i64 0, .int .i64 0, .int .i64 0, .slice none 0 0] 24 (0, 0)) (fun b_a5 w_3 =>
  ∃ w_4 : World, ((Instr.storeAt 24 (.pointer ((some ⟨b_a5, 0, none⟩))) (.agg #[.int .i64 t11, .int .i64 t11_1, .int .i64 t11_2, .int .i64 t11_3, .slice t11_4.a t11_4.len t11_4.cap])).run Tryz.prog w_3 = .ok () w_4) ∧
  Br (t11_5 != 0)
   (Calls Tryz.prog 34 #[.int .i64 t11_5] w_4 fun e_1 w_5 =>
    ∃ t18 : Int, ∃ t18_1 : Int, ∃ t18_2 : Int, ∃ t18_3 : Sl, (e_1 = .returned (.agg #[.int .i64 t18, .int .i64 t18_1, .int .i64 t18_2, .slice t18_3.a t18_3.len t18_3.cap])) ∧
    ∃ w_6 : World, ((Instr.storeAt 39 (.pointer ((some ⟨b_t4, 0, none⟩))) (.agg #[.int .i64 t18, .int .i64 t18_1, .int .i64 t18_2, .slice t18_3.a t18_3.len t18_3.cap])).run Tryz.prog w_5 = .ok () w_6) ∧
    ∃ u : Int, ∃ u_1 : Int, ∃ u_2 : Int, ∃ u_3 : Sl, (At (fun w' => w' = w_6) ⟨b_t4, 0, none⟩ [.int .i64 u, .int .i64 u_1, .int .i64 u_2, .slice u_3.a u_3.len u_3.cap]) ∧
    K (.agg #[.int .i64 u, .int .i64 u_1, .int .i64 u_2, .slice u_3.a u_3.len u_3.cap]) w_6)
   (∃ t21 : Int, (At (fun w' => w' = w_4) ⟨b_a5, 0, none⟩ [.int .i64 t21]) ∧
    Br (t21 == 4)
     (Calls Tryz.prog 34 #[.int .i64 1] w_4 fun e_2 w_7 =>
      ∃ t23 : Int, ∃ t23_1 : Int, ∃ t23_2 : Int, ∃ t23_3 : Sl, (e_2 = .returned (.agg #[.int .i64 t23, .int .i64 t23_1, .int .i64 t23_2, .slice t23_3.a t23_3.len t23_3.cap])) ∧
      ∃ w_8 : World, ((Instr.storeAt 39 (.pointer ((some ⟨b_t4, 0, none⟩))) (.agg #[.int .i64 t23, .int .i64 t23_1, .int .i64 t23_2, .slice t23_3.a t23_3.len t23_3.cap])).run Tryz.prog w_7 = .ok () w_8) ∧
      ∃ u_4 : Int, ∃ u_5 : Int, ∃ u_6 : Int, ∃ u_7 : Sl, (At (fun w' => w' = w_8) ⟨b_t4, 0, none⟩ [.int .i64 u_4, .int .i64 u_5, .int .i64 u_6, .slice u_7.a u_7.len u_7.cap]) ∧
      K (.agg #[.int .i64 u_4, .int .i64 u_5, .int .i64 u_6, .slice u_7.a u_7.len u_7.cap]) w_8)
     (∃ t26 : Int, (At (fun w' => w' = w_4) ⟨b_a5, 0, none⟩ [.int .i64 t26]) ∧
      Br (t26 == 1)
       (∃ t30 : Int, (At (fun w' => w' = w_4) ⟨b_a5, 0 + 3, none⟩ [.int .i64 t30]) ∧
        Calls Tryz.prog 35 #[.pointer t0, .int .i64 t30] w_4 fun e_3 w_9 =>
        ∃ t31 : Int, ∃ t31_1 : Int, ∃ t31_2 : Int, ∃ t31_3 : Sl, (e_3 = .returned (.agg #[.int .i64 t31, .int .i64 t31_1, .int .i64 t31_2, .slice t31_3.a t31_3.len t31_3.cap])) ∧
        ∃ w_10 : World, ((Instr.storeAt 39 (.pointer ((some ⟨b_t4, 0, none⟩))) (.agg #[.int .i64 t31, .int .i64 t31_1, .int .i64 t31_2, .slice t31_3.a t31_3.len t31_3.cap])).run Tryz.prog w_9 = .ok () w_10) ∧
        ∃ u_8 : Int, ∃ u_9 : Int, ∃ u_10 : Int, ∃ u_11 : Sl, (At (fun w' => w' = w_10) ⟨b_t4, 0, none⟩ [.int .i64 u_8, .int .i64 u_9, .int .i64 u_10, .slice u_11.a u_11.len u_11.cap]) ∧
        K (.agg #[.int .i64 u_8, .int .i64 u_9, .int .i64 u_10, .slice u_11.a u_11.len u_11.cap]) w_10)
       (Drw w_4 fun S w_11 =>
        NilP t0 fun a_t34 =>
        ∃ t36 : Option Nat, (At S ⟨a_t34.block, a_t34.off + 2, none⟩ [.map t36]) ∧
        ∃ t38 : Int, (At S ⟨b_a5, 0 + 1, none⟩ [.int .i64 t38]) ∧
        ∃ t39 : Option Addr, ∃ t39_1 : Bool, (∀ w', S w' → ((Instr.lookup 63 (.map t36) (.int .i64 t38) true)).run Tryz.prog w' = .ok (.tuple #[.pointer t39, .bool t39_1]) w') ∧
        ∃ (J : Bool → World → Prop), (Drw w_11 fun S_1 w_12 =>
          Br (!t39_1)
           (∃ t47 : Int, (At S_1 ⟨b_a5, 0 + 1, none⟩ [.int .i64 t47]) ∧
            Br (decide (t47 ≥ 1))
             (∃ t52 : Int, (At S_1 ⟨b_a5, 0 + 1, none⟩ [.int .i64 t52]) ∧
              NilP t0 fun a_t54 =>
              ∃ t56 : Int, (At S_1 ⟨a_t54.block, a_t54.off + 1, none⟩ [.int .i64 t56]) ∧
              J (decide (t52 < t56)) w_12)
             (J false w_12))
           (J false w_12)) ∧
        ∀ (z : Env) (t42 : Bool) (w_13 : World), J t42 w_13 →
        Br t42
         (Calls Tryz.prog 34 #[.int .i64 10] w_13 fun e_4 w_14 =>
          ∃ t59 : Int, ∃ t59_1 : Int, ∃ t59_2 : Int, ∃ t59_3 : Sl, (e_4 = .returned (.agg #[.int .i64 t59, .int .i64 t59_1, .int .i64 t59_2, .slice t59_3.a t59_3.len t59_3.cap])) ∧
          ∃ w_15 : World, ((Instr.storeAt 39 (.pointer ((some ⟨b_t4, 0, none⟩))) (.agg #[.int .i64 t59, .int .i64 t59_1, .int .i64 t59_2, .slice t59_3.a t59_3.len t59_3.cap])).run Tryz.prog w_14 = .ok () w_15) ∧
          ∃ u_12 : Int, ∃ u_13 : Int, ∃ u_14 : Int, ∃ u_15 : Sl, (At (fun w' => w' = w_15) ⟨b_t4, 0, none⟩ [.int .i64 u_12, .int .i64 u_13, .int .i64 u_14, .slice u_15.a u_15.len u_15.cap]) ∧
          K (.agg #[.int .i64 u_12, .int .i64 u_13, .int .i64 u_14, .slice u_15.a u_15.len u_15.cap]) w_15)
         (Br (!t39_1)
           (Calls Tryz.prog 34 #[.int .i64 2] w_13 fun e_5 w_16 =>
            ∃ t63 : Int, ∃ t63_1 : Int, ∃ t63_2 : Int, ∃ t63_3 : Sl, (e_5 = .returned (.agg #[.int .i64 t63, .int .i64 t63_1, .int .i64 t63_2, .slice t63_3.a t63_3.len t63_3.cap])) ∧
            ∃ w_17 : World, ((Instr.storeAt 39 (.pointer ((some ⟨b_t4, 0, none⟩))) (.agg #[.int .i64 t63, .int .i64 t63_1, .int .i64 t63_2, .slice t63_3.a t63_3.len t63_3.cap])).run Tryz.prog w_16 = .ok () w_17) ∧
            ∃ u_16 : Int, ∃ u_17 : Int, ∃ u_18 : Int, ∃ u_19 : Sl, (At (fun w' => w' = w_17) ⟨b_t4, 0, none⟩ [.int .i64 u_16, .int .i64 u_17, .int .i64 u_18, .slice u_19.a u_19.len u_19.cap]) ∧
            K (.agg #[.int .i64 u_16, .int .i64 u_17, .int .i64 u_18, .slice u_19.a u_19.len u_19.cap]) w_17)
           (∃ t66 : Int, (At (fun w' => w' = w_13) ⟨b_a5, 0, none⟩ [.int .i64 t66]) ∧
            Br (t66 == 3)
             (Drw w_13 fun S_2 w_18 =>
              NilP t0 fun a_t69 =>
              ∃ t71 : Option Nat, (At S_2 ⟨a_t69.block, a_t69.off + 2, none⟩ [.map t71]) ∧
              ∃ t73 : Int, (At S_2 ⟨b_a5, 0 + 1, none⟩ [.int .i64 t73]) ∧
              ∃ w_19 : World, ((Builtin.delete_ #[63, 3] 0 #[.map t71, .int .i64 t73]).run Tryz.prog w_18 = .ok (.tuple #[]) w_19) ∧
              ∃ t75 : Int, (At (fun w' => w' = w_19) ⟨b_a5, 0 + 1, none⟩ [.int .i64 t75]) ∧
              ∃ w_20 : World, ((Instr.storeAt 39 (.pointer ((some ⟨b_t4, 0, none⟩))) (.agg #[.int .i64 0, .int .i64 t75, .int .i64 0, .slice none 0 0])).run Tryz.prog w_19 = .ok () w_20) ∧
              ∃ u_20 : Int, ∃ u_21 : Int, ∃ u_22 : Int, ∃ u_23 : Sl, (At (fun w' => w' = w_20) ⟨b_t4, 0, none⟩ [.int .i64 u_20, .int .i64 u_21, .int .i64 u_22, .slice u_23.a u_23.len u_23.cap]) ∧
              K (.agg #[.int .i64 u_20, .int .i64 u_21, .int .i64 u_22, .slice u_23.a u_23.len u_23.cap]) w_20)
             (Drw w_13 fun S_3 w_21 =>
              ∃ t79 : Int, (At S_3 ⟨b_a5, 0 + 2, none⟩ [.int .i64 t79]) ∧
              NilP t39 fun a_t81 =>
              ∃ t83 : Int, (At S_3 ⟨a_t81.block, a_t81.off + 1, none⟩ [.int .i64 t83]) ∧
              Br (decide (t79 > IntKind.i64.wrap (t83 + 1)))
               (Calls Tryz.prog 34 #[.int .i64 7] w_21 fun e_6 w_22 =>
                ∃ t86 : Int, ∃ t86_1 : Int, ∃ t86_2 : Int, ∃ t86_3 : Sl, (e_6 = .returned (.agg #[.int .i64 t86, .int .i64 t86_1, .int .i64 t86_2, .slice t86_3.a t86_3.len t86_3.cap])) ∧
                ∃ w_23 : World, ((Instr.storeAt 39 (.pointer ((some ⟨b_t4, 0, none⟩))) (.agg #[.int .i64 t86, .int .i64 t86_1, .int .i64 t86_2, .slice t86_3.a t86_3.len t86_3.cap])).run Tryz.prog w_22 = .ok () w_23) ∧
                ∃ u_24 : Int, ∃ u_25 : Int, ∃ u_26 : Int, ∃ u_27 : Sl, (At (fun w' => w' = w_23) ⟨b_t4, 0, none⟩ [.int .i64 u_24, .int .i64 u_25, .int .i64 u_26, .slice u_27.a u_27.len u_27.cap]) ∧
                K (.agg #[.int .i64 u_24, .int .i64 u_25, .int .i64 u_26, .slice u_27.a u_27.len u_27.cap]) w_23)
               (∃ (J_1 : Bool → World → Prop), (Drw w_21 fun S_4 w_24 =>
                  ∃ t89 : Int, (At S_4 ⟨b_a5, 0 + 2, none⟩ [.int .i64 t89]) ∧
                  NilP t39 fun a_t91 =>
                  ∃ t93 : Int, (At S_4 ⟨a_t91.block, a_t91.off + 1, none⟩ [.int .i64 t93]) ∧
                  Br (decide (t89 < t93))
                   (J_1 true w_24)
                   (∃ t97 : Int, (At S_4 ⟨b_a5, 0 + 2, none⟩ [.int .i64 t97]) ∧
                    J_1 (t97 == 0) w_24)) ∧
                ∀ (z_1 : Env) (t87 : Bool) (w_25 : World), J_1 t87 w_25 →
                Br t87
                 (Calls Tryz.prog 34 #[.int .i64 11] w_25 fun e_7 w_26 =>
                  ∃ t100 : Int, ∃ t100_1 : Int, ∃ t100_2 : Int, ∃ t100_3 : Sl, (e_7 = .returned (.agg #[.int .i64 t100, .int .i64 t100_1, .int .i64 t100_2, .slice t100_3.a t100_3.len t100_3.cap])) ∧
                  ∃ w_27 : World, ((Instr.storeAt 39 (.pointer ((some ⟨b_t4, 0, none⟩))) (.agg #[.int .i64 t100, .int .i64 t100_1, .int .i64 t100_2, .slice t100_3.a t100_3.len t100_3.cap])).run Tryz.prog w_26 = .ok () w_27) ∧
                  ∃ u_28 : Int, ∃ u_29 : Int, ∃ u_30 : Int, ∃ u_31 : Sl, (At (fun w' => w' = w_27) ⟨b_t4, 0, none⟩ [.int .i64 u_28, .int .i64 u_29, .int .i64 u_30, .slice u_31.a u_31.len u_31.cap]) ∧
                  K (.agg #[.int .i64 u_28, .int .i64 u_29, .int .i64 u_30, .slice u_31.a u_31.len u_31.cap]) w_27)
                 (Drw w_25 fun S_5 w_28 =>
                  ∃ t103 : Int, (At S_5 ⟨b_a5, 0 + 2, none⟩ [.int .i64 t103]) ∧
                  NilP t39 fun a_t105 =>
                  ∃ t107 : Int, (At S_5 ⟨a_t105.block, a_t105.off + 1, none⟩ [.int .i64 t107]) ∧
                  Br (decide (t103 > t107))
                   (Drw w_28 fun S_6 w_29 =>
                    ∃ t112 : Int, (At S_6 ⟨b_a5, 0 + 2, none⟩ [.int .i64 t112]) ∧
                    ∃ t114 : Sl, (At S_6 ⟨b_a5, 0 + 4, none⟩ [.slice t114.a t114.len t114.cap]) ∧
                    NilP t0 fun a_t116 =>
                    ∃ t118 : Option Addr, (At S_6 (Addr.add a_t116 0) [.pointer t118]) ∧
                    Calls Tryz.prog 36 #[.slice t114.a t114.len t114.cap, .func (.func 37) #[.pointer t118] #[]] w_29 fun e_8 w_30 =>
                    ∃ t120 : Sl, (e_8 = .returned (.slice t120.a t120.len t120.cap)) ∧
                    (S_6 w_30) ∧
                    NilP t39 fun a_t121 =>
                    ∃ w_31 : World, ((Instr.storeAt 3 (.pointer ((some ⟨a_t121.block, a_t121.off + 1, none⟩))) (.int .i64 t112)).run Tryz.prog w_30 = .ok () w_31) ∧
                    (S_6 w_31) ∧
                    NilP t39 fun a_t123 =>
                    ∃ w_32 : World, ((Instr.storeAt 22 (.pointer ((some ⟨a_t123.block, a_t123.off + 2, none⟩))) (.slice t120.a t120.len t120.cap)).run Tryz.prog w_31 = .ok () w_32) ∧
                    Drw w_32 fun S_7 w_33 =>
                    ∃ t126 : Int, (At S_7 ⟨b_a5, 0 + 1, none⟩ [.int .i64 t126]) ∧
                    ∃ t128 : Int, (At S_7 ⟨b_a5, 0 + 2, none⟩ [.int .i64 t128]) ∧
                    NilP t39 fun a_t130 =>
                    ∃ t132 : Sl, (At S_7 ⟨a_t130.block, a_t130.off + 2, none⟩ [.slice t132.a t132.len t132.cap]) ∧
                    Calls Tryz.prog 38 #[.slice t132.a t132.len t132.cap] w_33 fun e_9 w_34 =>
                    ∃ t133 : Sl, (e_9 = .returned (.slice t133.a t133.len t133.cap)) ∧
                    (S_7 w_34) ∧
                    ∃ w_35 : World, ((Instr.storeAt 39 (.pointer ((some ⟨b_t4, 0, none⟩))) (.agg #[.int .i64 0, .int .i64 t126, .int .i64 t128, .slice t133.a t133.len t133.cap])).run Tryz.prog w_34 = .ok () w_35) ∧
                    ∃ u_32 : Int, ∃ u_33 : Int, ∃ u_34 : Int, ∃ u_35 : Sl, (At (fun w' => w' = w_35) ⟨b_t4, 0, none⟩ [.int .i64 u_32, .int .i64 u_33, .int .i64 u_34, .slice u_35.a u_35.len u_35.cap]) ∧
                    K (.agg #[.int .i64 u_32, .int .i64 u_33, .int .i64 u_34, .slice u_35.a u_35.len u_35.cap]) w_35)
                   (Drw w_28 fun S_8 w_36 =>
                    ∃ t126_1 : Int, (At S_8 ⟨b_a5, 0 + 1, none⟩ [.int .i64 t126_1]) ∧
                    ∃ t128_1 : Int, (At S_8 ⟨b_a5, 0 + 2, none⟩ [.int .i64 t128_1]) ∧
                    NilP t39 fun a_t130_1 =>
                    ∃ t132_1 : Sl, (At S_8 ⟨a_t130_1.block, a_t130_1.off + 2, none⟩ [.slice t132_1.a t132_1.len t132_1.cap]) ∧
                    Calls Tryz.prog 38 #[.slice t132_1.a t132_1.len t132_1.cap] w_36 fun e_10 w_37 =>
                    ∃ t133_1 : Sl, (e_10 = .returned (.slice t133_1.a t133_1.len t133_1.cap)) ∧
                    (S_8 w_37) ∧
                    ∃ w_38 : World, ((Instr.storeAt 39 (.pointer ((some ⟨b_t4, 0, none⟩))) (.agg #[.int .i64 0, .int .i64 t126_1, .int .i64 t128_1, .slice t133_1.a t133_1.len t133_1.cap])).run Tryz.prog w_37 = .ok () w_38) ∧
                    ∃ u_36 : Int, ∃ u_37 : Int, ∃ u_38 : Int, ∃ u_39 : Sl, (At (fun w' => w' = w_38) ⟨b_t4, 0, none⟩ [.int .i64 u_36, .int .i64 u_37, .int .i64 u_38, .slice u_39.a u_39.len u_39.cap]) ∧
                    K (.agg #[.int .i64 u_36, .int .i64 u_37, .int .i64 u_38, .slice u_39.a u_39.len u_39.cap]) w_38)))))))))) w_2) w
def sk13 : Sk := (.seq .leaf (.seq .leaf (.seq .leaf (.seq .leaf (.seq (.block (.cut [42] [.bool] [42, 43, 44, 45, 46, 47, 48, 49, 50, 51, 52, 53, 54, 55, 56, 57, 58] .leaf (.cond .leaf (.seq .leaf (.cond .leaf (.seq .leaf (.cond .leaf (.seq .leaf (.cond .leaf (.cut [87] [.bool] [87, 88, 89, 90, 91, 92, 93, 94, 95, 96, 97, 98, 99] .leaf .leaf)))))))))) .leaf)))))
theorem ok13 : fnOk Tryz.prog Tryz.f13.ntmps Tryz.f13 sk13 = true := by kernel_rfl
theorem eq13 (t0 : Option Addr) (b1 : Sl) (K : Value → World → Prop) (w : World) : fnF Tryz.prog cl Tryz.f13 sk13 [.pointer t0, .slice b1.a b1.len b1.cap] K w = B13 t0 b1 K w := by kernel_rfl
theorem call13 (t0 : Option Addr) (b1 : Sl) (K : Value → World → Prop) (w : World) (h : B13 t0 b1 K w) : Gets Tryz.prog 13 #[.pointer t0, .slice b1.a b1.len b1.cap] w K :=
  calls_of (sk := sk13) cl_ok mixed Tryz.func13 ok13 (args := [.pointer t0, .slice b1.a b1.len b1.cap]) (Nat.le_of_ble_eq_true (by kernel_rfl)) (by rw [eq13]; exact h)
def B35 (t0 : Option Addr) (token1 : Int) (K : Value → World → Prop) (w : World) : Prop :=
  New (.cells #[.int .i64 0, .int .i64 0, .int .i64 0, .slice none 0 0] 39 (0, 0)) (fun b_t4 w_1 =>
  NilP t0 fun a_t8 =>
  ∃ t10 : Option Nat, (At (fun w' => w' = w_1) ⟨a_t8.block, a_t8.off + 2, none⟩ [.map t10]) ∧
  ∃ w_2 : World, ∃ t11 : Option Addr, ((Instr.range 63 (.map t10)).run Tryz.prog w_1 = .ok (.pointer t11) w_2) ∧
  ∃ (I : World → Prop) (μ : World → Nat), (I  w_2) ∧ ∀ (z : Env)  (w_3 : World), I  w_3 →
  ∃ w_4 : World, (((Instr.next (.pointer t11) false 0).run Tryz.prog w_3 = .ok (.tuple #[.bool false]) w_4) ∧
   NilP t0 fun a_t26 =>
   ∃ t28 : Option Nat, (At (fun w' => w' = w_4) ⟨a_t26.block, a_t26.off + 2, none⟩ [.map t28]) ∧
   ∃ t29 : Int, (∀ w', (fun w' => w' = w_4) w' → ((Builtin.len_ #[63] 3 #[.map t28])).run Tryz.prog w' = .ok (.int .i64 t29) w') ∧
   Br (decide (t29 ≥ 64))
    (Calls Tryz.prog 34 #[.int .i64 3] w_4 fun e w_5 =>
     ∃ t31 : Int, ∃ t31_1 : Int, ∃ t31_2 : Int, ∃ t31_3 : Sl, (e = .returned (.agg #[.int .i64 t31, .int .i64 t31_1, .int .i64 t31_2, .slice t31_3.a t31_3.len t31_3.cap])) ∧
     ∃ w_6 : World, ((Instr.storeAt 39 (.pointer ((some ⟨b_t4, 0, none⟩))) (.agg #[.int .i64 t31, .int .i64 t31_1, .int .i64 t31_2, .slice t31_3.a t31_3.len t31_3.cap])).run Tryz.prog w_5 = .ok () w_6) ∧
     ∃ u : Int, ∃ u_1 : Int, ∃ u_2 : Int, ∃ u_3 : Sl, (At (fun w' => w' = w_6) ⟨b_t4, 0, none⟩ [.int .i64 u, .int .i64 u_1, .int .i64 u_2, .slice u_3.a u_3.len u_3.cap]) ∧
     K (.agg #[.int .i64 u, .int .i64 u_1, .int .i64 u_2, .slice u_3.a u_3.len u_3.cap]) w_6)
    (Drw w_4 fun S w_7 =>
     NilP t0 fun a_t33 =>
     ∃ t35 : Option Nat, (At S ⟨a_t33.block, a_t33.off + 2, none⟩ [.map t35]) ∧
     NilP t0 fun a_t37 =>
     ∃ t39 : Int, (At S ⟨a_t37.block, a_t37.off + 1, none⟩ [.int .i64 t39]) ∧
     New (.cells #[.int .i64 token1, .int .i64 0, .slice none 0 0] 71 (0, 0)) (fun b_t42 w_8 =>
     (S w_8) ∧
     ∃ w_9 : World, ((Instr.mapUpdate 63 (.map t35) (.int .i64 t39) (.pointer ((some ⟨b_t42, 0, none⟩)))).run Tryz.prog w_8 = .ok () w_9) ∧
     NilP t0 fun a_t44 =>
     ∃ t46 : Int, (At (fun w' => w' = w_9) ⟨a_t44.block, a_t44.off + 1, none⟩ [.int .i64 t46]) ∧
     NilP t0 fun a_t48 =>
     ∃ w_10 : World, ((Instr.storeAt 3 (.pointer ((some ⟨a_t48.block, a_t48.off + 1, none⟩))) (.int .i64 (IntKind.i64.wrap (t46 + 1)))).run Tryz.prog w_9 = .ok () w_10) ∧
     NilP t0 fun a_t51 =>
     ∃ t53 : Int, (At (fun w' => w' = w_10) ⟨a_t51.block, a_t51.off + 1, none⟩ [.int .i64 t53]) ∧
     ∃ w_11 : World, ((Instr.storeAt 39 (.pointer ((some ⟨b_t4, 0, none⟩))) (.agg #[.int .i64 0, .int .i64 (IntKind.i64.wrap (t53 - 1)), .int .i64 0, .slice none 0 0])).run Tryz.prog w_10 = .ok () w_11) ∧
     ∃ u_4 : Int, ∃ u_5 : Int, ∃ u_6 : Int, ∃ u_7 : Sl, (At (fun w' => w' = w_11) ⟨b_t4, 0, none⟩ [.int .i64 u_4, .int .i64 u_5, .int .i64 u_6, .slice u_7.a u_7.len u_7.cap]) ∧
     K (.agg #[.int .i64 u_4, .int .i64 u_5, .int .i64 u_6, .slice u_7.a u_7.len u_7.cap]) w_11) w_7)) ∨
  (∃ u_8 : Value, ∃ u_9 : Value, ((Instr.next (.pointer t11) false 0).run Tryz.prog w_3 = .ok (.tuple #[.bool true, u_8, u_9]) w_4) ∧
   ∃ t13 : Int, ∃ t13_1 : Option Addr, (∀ w', (fun w' => w' = w_4) w' → ((Instr.entry (.pointer t11))).run Tryz.prog w' = .ok (.tuple #[.int .i64 t13, .pointer t13_1]) w') ∧
   NilP t13_1 fun a_t18 =>
   ∃ t20 : Int, (At (fun w' => w' = w_4) (Addr.add a_t18 0) [.int .i64 t20]) ∧
   Br (t20 == token1)
    (∃ w_12 : World, ((Instr.storeAt 39 (.pointer ((some ⟨b_t4, 0, none⟩))) (.agg #[.int .i64 0, .int .i64 t13, .int .i64 0, .slice none 0 0])).run Tryz.prog w_4 = .ok () w_12) ∧
     ∃ u_10 : Int, ∃ u_11 : Int, ∃ u_12 : Int, ∃ u_13 : Sl, (At (fun w' => w' = w_12) ⟨b_t4, 0, none⟩ [.int .i64 u_10, .int .i64 u_11, .int .i64 u_12, .slice u_13.a u_13.len u_13.cap]) ∧
     K (.agg #[.int .i64 u_10, .int .i64 u_11, .int .i64 u_12, .slice u_13.a u_13.len u_13.cap]) w_12)
    ((I  w_4) ∧ μ  w_4 < μ  w_3))) w
def sk35 : Sk := (.seq .leaf (.seq (.seq .leaf (.block (.loop [] [] [5, 6, 12, 13, 14, 15, 16, 17, 18, 19, 20, 21, 22, 23, 24] .leaf))) .leaf))
theorem ok35 : fnOk Tryz.prog Tryz.f35.ntmps Tryz.f35 sk35 = true := by kernel_rfl
theorem eq35 (t0 : Option Addr) (token1 : Int) (K : Value → World → Prop) (w : World) : fnF Tryz.prog cl Tryz.f35 sk35 [.pointer t0, .int .i64 token1] K w = B35 t0 token1 K w := by kernel_rfl
theorem call35 (t0 : Option Addr) (token1 : Int) (K : Value → World → Prop) (w : World) (h : B35 t0 token1 K w) : Gets Tryz.prog 35 #[.pointer t0, .int .i64 token1] w K :=
  calls_of (sk := sk35) cl_ok mixed Tryz.func35 ok35 (args := [.pointer t0, .int .i64 token1]) (Nat.le_of_ble_eq_true (by kernel_rfl)) (by rw [eq35]; exact h)
def B24 (l0 : Sl) (K : Value → World → Prop) (w : World) : Prop :=
  ∃ (I : Sl → Int → World → Prop) (μ : Sl → Int → World → Nat), (I ⟨none, 0, 0⟩ 0 w) ∧ ∀ (z : Env) (out3 : Sl) (i4 : Int) (w_1 : World), I out3 i4 w_1 →
  Br (decide (i4 < (↑l0.len : Int)))
   (Rng i4 l0.len (NilP l0.a fun a_t14 =>
    ∃ t15 : Int, (At (fun w' => w' = w_1) (Addr.add a_t14 i4.toNat) [.int .i64 t15]) ∧
    Calls Tryz.prog 42 #[.int .u64 (IntKind.u64.wrap (if 0 > t15 then 0 else t15))] w_1 fun e w_2 =>
    ∃ t18 : Sl, (e = .returned (.slice t18.a t18.len t18.cap)) ∧
    ∃ w_3 : World, ∃ t19 : Sl, ((Builtin.append_ #[22, 22] 22 #[.slice out3.a out3.len out3.cap, .slice t18.a t18.len t18.cap]).run Tryz.prog w_2 = .ok (.slice t19.a t19.len t19.cap) w_3) ∧
    (I t19 (IntKind.i64.wrap (i4 + 1)) w_3) ∧ μ t19 (IntKind.i64.wrap (i4 + 1)) w_3 < μ out3 i4 w_1))
   (K (.slice out3.a out3.len out3.cap) w_1)
def sk24 : Sk := (.seq .leaf (.seq .leaf (.seq (.seq .leaf (.block (.loop [3, 4] [.sl, (.int .i64)] [3, 4, 5, 6, 7, 8, 9, 10, 11, 12, 13, 14, 15, 16, 17, 18, 19] .leaf))) .leaf)))
theorem ok24 : fnOk Tryz.prog Tryz.f24.ntmps Tryz.f24 sk24 = true := by kernel_rfl
theorem eq24 (l0 : Sl) (K : Value → World → Prop) (w : World) : fnF Tryz.prog cl Tryz.f24 sk24 [.slice l0.a l0.len l0.cap] K w = B24 l0 K w := by kernel_rfl
theorem call24 (l0 : Sl) (K : Value → World → Prop) (w : World) (h : B24 l0 K w) : Gets Tryz.prog 24 #[.slice l0.a l0.len l0.cap] w K :=
  calls_of (sk := sk24) cl_ok mixed Tryz.func24 ok24 (args := [.slice l0.a l0.len l0.cap]) (Nat.le_of_ble_eq_true (by kernel_rfl)) (by rw [eq24]; exact h)
def B19 (t0_0 : Int) (t0_1 : Int) (t0_2 : Int) (t0_3 : Sl) (K : Value → World → Prop) (w : World) : Prop :=
  New (.cells #[.int .i64 t0_0, .int .i64 t0_1, .int .i64 t0_2, .slice t0_3.a t0_3.len t0_3.cap] 39 (0, 0)) (fun b_t1 w_1 =>
  Drw w_1 fun S w_2 =>
  ∃ t4 : Int, (At S ⟨b_t1, 0, none⟩ [.int .i64 t4]) ∧
  ∃ t6 : Int, (At S ⟨b_t1, 0 + 1, none⟩ [.int .i64 t6]) ∧
  ∃ t8 : Int, (At S ⟨b_t1, 0 + 2, none⟩ [.int .i64 t8]) ∧
  ∃ t12 : Sl, (At S ⟨b_t1, 0 + 3, none⟩ [.slice t12.a t12.len t12.cap]) ∧
  New (.cells #[.int .i64 t4, .int .i64 t6, .int .i64 t8] 3 (0, 0)) (fun b_t9 w_3 =>
  (S w_3) ∧
  Calls Tryz.prog 24 #[.slice ((some ⟨b_t9, 0, none⟩)) 3 3] w_3 fun e w_4 =>
  ∃ t10 : Sl, (e = .returned (.slice t10.a t10.len t10.cap)) ∧
  (S w_4) ∧
  Calls Tryz.prog 25 #[.slice t12.a t12.len t12.cap] w_4 fun e_1 w_5 =>
  ∃ t13 : Sl, (e_1 = .returned (.slice t13.a t13.len t13.cap)) ∧
  (S w_5) ∧
  ∃ w_6 : World, ∃ t14 : Sl, ((Builtin.append_ #[22, 22] 22 #[.slice t10.a t10.len t10.cap, .slice t13.a t13.len t13.cap]).run Tryz.prog w_5 = .ok (.slice t14.a t14.len t14.cap) w_6) ∧
  (S w_6) ∧
  K (.slice t14.a t14.len t14.cap) w_6) w_2) w
def sk19 : Sk := .leaf
theorem ok19 : fnOk Tryz.prog Tryz.f19.ntmps Tryz.f19 sk19 = true := by kernel_rfl
theorem eq19 (t0_0 : Int) (t0_1 : Int) (t0_2 : Int) (t0_3 : Sl) (K : Value → World → Prop) (w : World) : fnF Tryz.prog cl Tryz.f19 sk19 [.agg #[.int .i64 t0_0, .int .i64 t0_1, .int .i64 t0_2, .slice t0_3.a t0_3.len t0_3.cap]] K w = B19 t0_0 t0_1 t0_2 t0_3 K w := by kernel_rfl
theorem call19 (t0_0 : Int) (t0_1 : Int) (t0_2 : Int) (t0_3 : Sl) (K : Value → World → Prop) (w : World) (h : B19 t0_0 t0_1 t0_2 t0_3 K w) : Gets Tryz.prog 19 #[.agg #[.int .i64 t0_0, .int .i64 t0_1, .int .i64 t0_2, .slice t0_3.a t0_3.len t0_3.cap]] w K :=
  calls_of (sk := sk19) cl_ok mixed Tryz.func19 ok19 (args := [.agg #[.int .i64 t0_0, .int .i64 t0_1, .int .i64 t0_2, .slice t0_3.a t0_3.len t0_3.cap]]) (Nat.le_of_ble_eq_true (by kernel_rfl)) (by rw [eq19]; exact h)
def B17 (b0 : Sl) (K : Value → World → Prop) (w : World) : Prop :=
  New (.cells #[.int .i64 0, .int .i64 0, .int .i64 0, .slice none 0 0] 39 (0, 0)) (fun b_t2 w_1 =>
  New (.cells #[.slice b0.a b0.len b0.cap, .int .i64 0, .bool false] 58 (0, 0)) (fun b_t9 w_2 =>
  Calls Tryz.prog 30 #[.pointer ((some ⟨b_t9, 0, none⟩)), .int .u64 1099511627776] w_2 fun e w_3 =>
  ∃ t11 : Int, (e = .returned (.int .u64 t11)) ∧
  Calls Tryz.prog 30 #[.pointer ((some ⟨b_t9, 0, none⟩)), .int .u64 1099511627776] w_3 fun e_1 w_4 =>
  ∃ t14 : Int, (e_1 = .returned (.int .u64 t14)) ∧
  Calls Tryz.prog 30 #[.pointer ((some ⟨b_t9, 0, none⟩)), .int .u64 1099511627776] w_4 fun e_2 w_5 =>
  ∃ t17 : Int, (e_2 = .returned (.int .u64 t17)) ∧
  New (.cells #[.int .i64 0, .int .i64 0, .int .i64 0, .slice none 0 0] 39 (0, 0)) (fun b_t5 w_6 =>
  ∃ w_7 : World, ((Instr.storeAt 39 (.pointer ((some ⟨b_t5, 0, none⟩))) (.agg #[.int .i64 (IntKind.i64.wrap t11), .int .i64 (IntKind.i64.wrap t14), .int .i64 (IntKind.i64.wrap t17), .slice none 0 0])).run Tryz.prog w_6 = .ok () w_7) ∧
  Calls Tryz.prog 31 #[.pointer ((some ⟨b_t9, 0, none⟩)), .int .i64 65536] w_7 fun e_3 w_8 =>
  ∃ t21 : Sl, (e_3 = .returned (.slice t21.a t21.len t21.cap)) ∧
  ∃ w_9 : World, ((Instr.storeAt 22 (.pointer ((some ⟨b_t5, 0 + 3, none⟩))) (.slice t21.a t21.len t21.cap)).run Tryz.prog w_8 = .ok () w_9) ∧
  Calls Tryz.prog 32 #[.pointer ((some ⟨b_t9, 0, none⟩))] w_9 fun e_4 w_10 =>
  ∃ t24 : Bool, (e_4 = .returned (.bool t24)) ∧
  Br (!t24)
   (∃ w_11 : World, ((Instr.storeAt 39 (.pointer ((some ⟨b_t2, 0, none⟩))) (.agg #[.int .i64 0, .int .i64 0, .int .i64 0, .slice none 0 0])).run Tryz.prog w_10 = .ok () w_11) ∧
    ∃ t3 : Int, ∃ t3_1 : Int, ∃ t3_2 : Int, ∃ t3_3 : Sl, (At (fun w' => w' = w_11) ⟨b_t2, 0, none⟩ [.int .i64 t3, .int .i64 t3_1, .int .i64 t3_2, .slice t3_3.a t3_3.len t3_3.cap]) ∧
    K (.tuple #[.agg #[.int .i64 t3, .int .i64 t3_1, .int .i64 t3_2, .slice t3_3.a t3_3.len t3_3.cap], .int .i64 6]) w_11)
   (∃ t28 : Int, ∃ t28_1 : Int, ∃ t28_2 : Int, ∃ t28_3 : Sl, (At (fun w' => w' = w_10) ⟨b_t5, 0, none⟩ [.int .i64 t28, .int .i64 t28_1, .int .i64 t28_2, .slice t28_3.a t28_3.len t28_3.cap]) ∧
    ∃ w_12 : World, ((Instr.storeAt 39 (.pointer ((some ⟨b_t2, 0, none⟩))) (.agg #[.int .i64 t28, .int .i64 t28_1, .int .i64 t28_2, .slice t28_3.a t28_3.len t28_3.cap])).run Tryz.prog w_10 = .ok () w_12) ∧
    ∃ t3_4 : Int, ∃ t3_5 : Int, ∃ t3_6 : Int, ∃ t3_7 : Sl, (At (fun w' => w' = w_12) ⟨b_t2, 0, none⟩ [.int .i64 t3_4, .int .i64 t3_5, .int .i64 t3_6, .slice t3_7.a t3_7.len t3_7.cap]) ∧
    K (.tuple #[.agg #[.int .i64 t3_4, .int .i64 t3_5, .int .i64 t3_6, .slice t3_7.a t3_7.len t3_7.cap], .int .i64 0]) w_12)) w_5) w_1) w
def sk17 : Sk := .leaf
theorem ok17 : fnOk Tryz.prog Tryz.f17.ntmps Tryz.f17 sk17 = true := by kernel_rfl
theorem eq17 (b0 : Sl) (K : Value → World → Prop) (w : World) : fnF Tryz.prog cl Tryz.f17 sk17 [.slice b0.a b0.len b0.cap] K w = B17 b0 K w := by kernel_rfl
theorem call17 (b0 : Sl) (K : Value → World → Prop) (w : World) (h : B17 b0 K w) : Gets Tryz.prog 17 #[.slice b0.a b0.len b0.cap] w K :=
  calls_of (sk := sk17) cl_ok mixed Tryz.func17 ok17 (args := [.slice b0.a b0.len b0.cap]) (Nat.le_of_ble_eq_true (by kernel_rfl)) (by rw [eq17]; exact h)
def B18 (a0_0 : Int) (a0_1 : Int) (a0_2 : Int) (a0_3 : Sl) (b1_0 : Int) (b1_1 : Int) (b1_2 : Int) (b1_3 : Sl) (K : Value → World → Prop) (w : World) : Prop :=
  New (.cells #[.int .i64 a0_0, .int .i64 a0_1, .int .i64 a0_2, .slice a0_3.a a0_3.len a0_3.cap] 39 (0, 0)) (fun b_a2 w_1 =>
  New (.cells #[.int .i64 b1_0, .int .i64 b1_1, .int .i64 b1_2, .slice b1_3.a b1_3.len b1_3.cap] 39 (0, 0)) (fun b_b3 w_2 =>
  ∃ t6 : Int, (At (fun w' => w' = w_2) ⟨b_a2, 0, none⟩ [.int .i64 t6]) ∧
  ∃ t8 : Int, (At (fun w' => w' = w_2) ⟨b_b3, 0, none⟩ [.int .i64 t8]) ∧
  Br (t6 == t8)
   (∃ t12 : Int, (At (fun w' => w' = w_2) ⟨b_a2, 0 + 1, none⟩ [.int .i64 t12]) ∧
    ∃ t14 : Int, (At (fun w' => w' = w_2) ⟨b_b3, 0 + 1, none⟩ [.int .i64 t14]) ∧
    Br (t12 == t14)
     (∃ t19 : Int, (At (fun w' => w' = w_2) ⟨b_a2, 0 + 2, none⟩ [.int .i64 t19]) ∧
      ∃ t21 : Int, (At (fun w' => w' = w_2) ⟨b_b3, 0 + 2, none⟩ [.int .i64 t21]) ∧
      Br (t19 == t21)
       (∃ t26 : Sl, (At (fun w' => w' = w_2) ⟨b_a2, 0 + 3, none⟩ [.slice t26.a t26.len t26.cap]) ∧
        ∃ t27 : ByteArray, (∀ w', (fun w' => w' = w_2) w' → ((convert 22 9 (.slice t26.a t26.len t26.cap))).run Tryz.prog w' = .ok (.string t27) w') ∧
        ∃ t29 : Sl, (At (fun w' => w' = w_2) ⟨b_b3, 0 + 3, none⟩ [.slice t29.a t29.len t29.cap]) ∧
        ∃ t30 : ByteArray, (∀ w', (fun w' => w' = w_2) w' → ((convert 22 9 (.slice t29.a t29.len t29.cap))).run Tryz.prog w' = .ok (.string t30) w') ∧
        K (.bool (t27.toList == t30.toList)) w_2)
       (K (.bool false) w_2))
     (K (.bool false) w_2))
   (K (.bool false) w_2)) w_1) w
def sk18 : Sk := .leaf
theorem ok18 : fnOk Tryz.prog Tryz.f18.ntmps Tryz.f18 sk18 = true := by kernel_rfl
theorem eq18 (a0_0 : Int) (a0_1 : Int) (a0_2 : Int) (a0_3 : Sl) (b1_0 : Int) (b1_1 : Int) (b1_2 : Int) (b1_3 : Sl) (K : Value → World → Prop) (w : World) : fnF Tryz.prog cl Tryz.f18 sk18 [.agg #[.int .i64 a0_0, .int .i64 a0_1, .int .i64 a0_2, .slice a0_3.a a0_3.len a0_3.cap], .agg #[.int .i64 b1_0, .int .i64 b1_1, .int .i64 b1_2, .slice b1_3.a b1_3.len b1_3.cap]] K w = B18 a0_0 a0_1 a0_2 a0_3 b1_0 b1_1 b1_2 b1_3 K w := by kernel_rfl
theorem call18 (a0_0 : Int) (a0_1 : Int) (a0_2 : Int) (a0_3 : Sl) (b1_0 : Int) (b1_1 : Int) (b1_2 : Int) (b1_3 : Sl) (K : Value → World → Prop) (w : World) (h : B18 a0_0 a0_1 a0_2 a0_3 b1_0 b1_1 b1_2 b1_3 K w) : Gets Tryz.prog 18 #[.agg #[.int .i64 a0_0, .int .i64 a0_1, .int .i64 a0_2, .slice a0_3.a a0_3.len a0_3.cap], .agg #[.int .i64 b1_0, .int .i64 b1_1, .int .i64 b1_2, .slice b1_3.a b1_3.len b1_3.cap]] w K :=
  calls_of (sk := sk18) cl_ok mixed Tryz.func18 ok18 (args := [.agg #[.int .i64 a0_0, .int .i64 a0_1, .int .i64 a0_2, .slice a0_3.a a0_3.len a0_3.cap], .agg #[.int .i64 b1_0, .int .i64 b1_1, .int .i64 b1_2, .slice b1_3.a b1_3.len b1_3.cap]]) (Nat.le_of_ble_eq_true (by kernel_rfl)) (by rw [eq18]; exact h)
end Go.Proofs.YtadnmnkbgjippaaGreatDoor
/- Package session: requests and answers as bytes. Condition: bounds on lengths. -/
namespace Go.Proofs.YtadnmnkbgjippaaGreatDoor
set_option linter.unusedVariables false
open Go Go.VC
open Classical
variable {R : Cx} {Hs Rest : List HP} {w : World}
abbrev rqV (q : Rq) (s : Sl) : List Value := [.int .i64 q.kind, .int .i64 q.client, .int .i64 q.seq, .int .i64 q.token, .slice s.a s.len s.cap]
abbrev rqC (b : Nat) (q : Rq) (s : Sl) : HP := pts b (.cells (rqV q s).toArray 24 (0, 0))
abbrev tdV (t : Told) (s : Sl) : List Value := [.int .i64 t.code, .int .i64 t.client, .int .i64 t.seq, .slice s.a s.len s.cap]
abbrev tdC (b : Nat) (t : Told) (s : Sl) : HP := pts b (.cells (tdV t s).toArray 39 (0, 0))
abbrev nilS : Sl := ⟨none, 0, 0⟩
theorem snums_spec {s : Sl} {xs : List Int} (hxs : ∀ x ∈ xs, x < 9223372036854775808) (hl : 9 * xs.length ≤ 1099511627776) (hs : RoI R s xs) (hw : Sat R Hs w) :
    Gets Tryz.prog 21 #[.slice s.a s.len s.cap] w fun v w' => ∃ t : Sl, v = .slice t.a t.len t.cap ∧ Sat R (Own t 5 (b8 (numsB (xs.map nn))) :: Hs) w' := by
  have hlen := hs.len
  apply call21
  refine ⟨fun out i w => ∃ k : Nat, i = k ∧ k ≤ xs.length ∧ Sat R (Own out 5 (b8 (numsB ((xs.take k).map nn))) :: Hs) w, fun _ i _ => xs.length - i.toNat, ⟨0, rfl, by omega, Own.nil hw⟩, ?_⟩
  clear hw
  rintro _ out _ w ⟨k, rfl, hk, hw⟩
  refine Br.d (fun h => ?_) (fun h => ?_)
  · have hkx : k < xs.length := by omega
    have hx := nn_bd (hxs xs[k] (List.getElem_mem _))
    have hxt : ∀ x ∈ (xs.take k).map nn, 0 ≤ x ∧ x < 18446744073709551616 := fun x hx => by
      obtain ⟨y, hy, rfl⟩ := List.mem_map.1 hx
      have := nn_bd (hxs y (List.mem_of_mem_take hy)); omega
    have hnl := numsB_len hxt
    rw [List.length_map, List.length_take] at hnl
    refine Ro.ix hs (eqS hw) k rfl hkx ?_
    rw [nn_if]
    obtain ⟨n, hn⟩ := Int.eq_ofNat_of_zero_le hx.1
    rw [hn, wrapU64 (by omega) (by omega)]
    refine (number_spec (by omega) hw).use ?_
    rintro _ w ⟨t, rfl, hw⟩
    refine ⟨t, rfl, ?_⟩
    have hnb := numB_len (n := n) (by omega)
    refine app8 (by omega) hw fun s2 w hw => ?_
    rw [wrap64 (by omega) (by omega)]
    refine ⟨⟨k + 1, by omega, by omega, ?_⟩, by dsimp only; omega⟩
    have e : (xs.take (k + 1)).map nn = (xs.take k).map nn ++ [nn xs[k]] := by rw [List.take_add_one, List.getElem?_eq_getElem hkx, List.map_append]; rfl
    rw [e, numsB_app, show numsB [nn xs[k]] = numB (nn xs[k]).toNat by simp [numsB], hn, Int.toNat_natCast]
    exact hw
  · rw [List.take_of_length_le (l := xs) (by omega)] at hw
    exact ⟨out, rfl, hw⟩
theorem slit_spec {b n : Nat} {xs : List Int} (hn : n = xs.length) (hxs : ∀ x ∈ xs, x < 9223372036854775808) (hl : 9 * xs.length ≤ 1099511627776) (hw : Sat R (pts b (.cells (intsI xs).toArray 3 (0, 0)) :: Hs) w) :
    Gets Tryz.prog 21 #[.slice (some ⟨b, 0, none⟩) n n] w fun v w' => ∃ t : Sl, v = .slice t.a t.len t.cap ∧ Sat R (Own t 5 (b8 (numsB (xs.map nn))) :: Hs) w' := by
  have hw : Sat R (Own ⟨some ⟨b, 0, none⟩, n, n⟩ 3 (intsI xs) :: Hs) w := own_lit hw (by rw [List.length_map]; exact hn)
  obtain ⟨R', hr, _, hw, back⟩ := Own.lendI hw (by omega)
  refine (snums_spec hxs hl hr hw).use ?_
  rintro _ w ⟨t, rfl, hw⟩
  exact ⟨_, rfl, t, rfl, (back hw).swap.cons fun _ h => h.drop⟩
theorem sodd_spec {n : Int} (hw : Sat R Hs w) : Gets Tryz.prog 39 #[.int .i64 n] w fun v w' => v = .bool (!decide (inI n)) ∧ Sat R Hs w' := by
  apply call39
  refine Br.d (fun h => ⟨?_, hw⟩) (fun h => ⟨?_, hw⟩)
  · rw [decide_eq_false (p := inI n) (fun h2 => by unfold inI at h2; omega)]; rfl
  · by_cases h2 : n > 1099511627776
    · rw [decide_eq_true h2, decide_eq_false (p := inI n) (fun h3 => by unfold inI at h3; omega)]; rfl
    · rw [decide_eq_false h2, decide_eq_true (p := inI n) ⟨by omega, by omega⟩]; rfl
theorem srightQ_spec {q : Rq} {s : Sl} (hs : s.len = q.cmd.length) (hw : Sat R Hs w) :
    Gets Tryz.prog 20 #[.agg #[.int .i64 q.kind, .int .i64 q.client, .int .i64 q.seq, .int .i64 q.token, .slice s.a s.len s.cap]] w fun v w' => v = .bool (decide (RightQ q)) ∧ Sat R Hs w' := by
  apply call20
  refine new_rule hw fun b w hw => ?_
  have hw : Sat R (rqC b q s :: Hs) w := hw
  have no : ¬ RightQ q → ∀ {w}, Sat R (rqC b q s :: Hs) w → (Value.bool false = .bool (decide (RightQ q)) ∧ Sat R Hs w) := fun h w hw => ⟨by rw [decide_eq_false h], hw.drop⟩
  refine ⟨fun w => ((inI q.client ∧ inI q.seq ∧ inI q.token) ∧ q.cmd.length ≤ 4000) ∧ Sat R (rqC b q s :: Hs) w, ?_, ?_⟩
  · refine ⟨q.client, At.own (eqS hw) (by exact ⟨rfl, trivial⟩), q.seq, At.own (eqS hw) (by exact ⟨rfl, trivial⟩), q.token, At.own (eqS hw) (by exact ⟨rfl, trivial⟩), ?_⟩
    refine new_rule hw fun b2 w hw => ?_
    have hw : Sat R (Own ⟨some ⟨b2, 0, none⟩, 3, 3⟩ 3 (intsI [q.client, q.seq, q.token]) :: rqC b q s :: Hs) w := own_lit hw
    obtain ⟨R', hr, _, hw, back⟩ := Own.lendI hw (by simp)
    refine (contF_spec (p := fun n => !decide (inI n)) (s := ⟨some ⟨b2, 0, none⟩, 3, 3⟩) hr (fun x w hw => CalW.mk (by kernel_rfl) ((sodd_spec hw).use fun v w h => ⟨by rw [h.1], h.2⟩)) hw).use ?_
    clear hw
    rintro _ w ⟨rfl, hw⟩
    have hw := (back hw).drop
    refine ⟨_, rfl, Br.mk (fun h => no (fun hq => ?_) hw) (fun h => ?_)⟩
    · have h1 := hq.client
      have h2 := hq.seq
      have h3 := hq.token
      simp [h1, h2, h3] at h
    · have hI : inI q.client ∧ inI q.seq ∧ inI q.token := by simpa using h
      refine ⟨s, At.own (eqS hw) (by exact ⟨rfl, trivial⟩), Br.d (fun h2 => no (fun hq => by have := hq.cmd; omega) hw) (fun h2 => ⟨⟨hI, by omega⟩, hw⟩)⟩
  clear hw
  rintro _ w ⟨⟨⟨h1, h2, h3⟩, h4⟩, hw⟩
  refine ⟨fun t w => t = decide (q.seq = 0 ∧ q.cmd.length = 0) ∧ Sat R (rqC b q s :: Hs) w, ?_, ?_⟩
  · refine ⟨q.seq, At.own (eqS hw) (by exact ⟨rfl, trivial⟩), Br.e (fun h5 => ?_) (fun h5 => ⟨by rw [decide_eq_false (by omega)], hw⟩)⟩
    refine ⟨s, At.own (eqS hw) (by exact ⟨rfl, trivial⟩), ?_, hw⟩
    show decide ((s.len : Int) = 0) = _
    exact decide_eq_decide.2 (by omega)
  clear hw
  rintro _ _ w ⟨rfl, hw⟩
  have fin : ∀ {p : Prop} {i : Decidable p}, (p ↔ RightQ q) → (Value.bool (@decide p i) = .bool (decide (RightQ q)) ∧ Sat R Hs w) := fun h => ⟨by congr 1; exact decide_eq_decide.2 h, hw.drop⟩
  have mk : ∀ (hk : (q.kind = 1 ∧ q.client = 0 ∧ q.seq = 0 ∧ q.cmd.length = 0) ∨ (q.kind = 2 ∧ q.token = 0) ∨ (q.kind = 3 ∧ q.token = 0 ∧ q.seq = 0 ∧ q.cmd.length = 0) ∨ (q.kind = 4 ∧ q.client = 0 ∧ q.seq = 0 ∧ q.token = 0)), RightQ q := fun hk => ⟨h1, h2, h3, h4, hk⟩
  refine ⟨q.kind, At.own (eqS hw) (by exact ⟨rfl, trivial⟩), Br.e (fun k => ?_) (fun k1 => ?_)⟩
  · refine ⟨q.client, At.own (eqS hw) (by exact ⟨rfl, trivial⟩), Br.e (fun h5 => fin ?_) (fun h5 => no (fun hq => by have := hq.kind; omega) hw)⟩
    exact ⟨fun h6 => mk (by omega), fun hq => by have := hq.kind; omega⟩
  refine Br.e (fun k => ?_) (fun k2 => ?_)
  · refine ⟨q.token, At.own (eqS hw) (by exact ⟨rfl, trivial⟩), fin (p := q.token = 0) ?_⟩
    exact ⟨fun h6 => mk (by omega), fun hq => by have := hq.kind; omega⟩
  refine Br.e (fun k => ?_) (fun k3 => ?_)
  · refine ⟨q.token, At.own (eqS hw) (by exact ⟨rfl, trivial⟩), Br.e (fun h5 => fin ?_) (fun h5 => no (fun hq => by have := hq.kind; omega) hw)⟩
    exact ⟨fun h6 => mk (by omega), fun hq => by have := hq.kind; omega⟩
  refine Br.e (fun k => ?_) (fun k4 => no (fun hq => by have := hq.kind; omega) hw)
  refine ⟨q.client, At.own (eqS hw) (by exact ⟨rfl, trivial⟩), Br.e (fun h5 => ?_) (fun h5 => no (fun hq => by have := hq.kind; omega) hw)⟩
  refine ⟨q.seq, At.own (eqS hw) (by exact ⟨rfl, trivial⟩), Br.e (fun h6 => ?_) (fun h6 => no (fun hq => by have := hq.kind; omega) hw)⟩
  refine ⟨q.token, At.own (eqS hw) (by exact ⟨rfl, trivial⟩), fin (p := q.token = 0) ?_⟩
  exact ⟨fun h7 => mk (by omega), fun hq => by have := hq.kind; omega⟩
theorem nnq {q : Rq} (h : RightQ q) : [q.kind, q.client, q.seq, q.token].map nn = [q.kind, q.client, q.seq, q.token] := by
  have h1 := h.k4
  obtain ⟨a1, a2⟩ := h.client
  obtain ⟨a3, a4⟩ := h.seq
  obtain ⟨a5, a6⟩ := h.token
  show [nn q.kind, nn q.client, nn q.seq, nn q.token] = _
  rw [nn_id (by omega), nn_id a1, nn_id a3, nn_id a5]
theorem senc_spec {q : Rq} {s : Sl} (hs : Ro R s (b8 q.cmd)) (hw : Sat R Hs w) :
    Gets Tryz.prog 7 #[.agg #[.int .i64 q.kind, .int .i64 q.client, .int .i64 q.seq, .int .i64 q.token, .slice s.a s.len s.cap]] w fun v w' =>
      ∃ t : Sl, v = .tuple #[.slice t.a t.len t.cap, .int .i64 (encQ q).2] ∧ Sat R (Own t 5 (b8 (encQ q).1) :: Hs) w' := by
  have hslen : s.len = q.cmd.length := by have := hs.len; simpa using this
  apply call7
  refine new_rule hw fun b w hw => ?_
  have hw : Sat R (rqC b q s :: Hs) w := hw
  refine ⟨q.kind, q.client, q.seq, q.token, s, At.own (eqS hw) (by exact ⟨rfl, rfl, rfl, rfl, rfl, trivial⟩), ?_⟩
  refine (srightQ_spec hslen hw).use ?_
  clear hw
  rintro _ w ⟨rfl, hw⟩
  refine ⟨_, rfl, Br.nd (fun h => ?_) (fun h => ?_)⟩
  · unfold encQ
    rw [if_neg h]
    exact ⟨nilS, rfl, Own.nil hw.drop⟩
  have h1 := h.k4
  obtain ⟨a1, a2⟩ := h.client
  obtain ⟨a3, a4⟩ := h.seq
  obtain ⟨a5, a6⟩ := h.token
  have h2 := h.cmd
  refine drw_rule' (Sat R [rqC b q s, VC.tru]) hw (fun w hw => hw.restTru2) fun w hw => ?_
  refine ⟨q.kind, At.own (fun _ h => h) (by exact ⟨rfl, trivial⟩), q.client, At.own (fun _ h => h) (by exact ⟨rfl, trivial⟩), q.seq, At.own (fun _ h => h) (by exact ⟨rfl, trivial⟩), q.token, At.own (fun _ h => h) (by exact ⟨rfl, trivial⟩), s, At.own (fun _ h => h) (by exact ⟨rfl, trivial⟩), ?_⟩
  refine new_rule hw fun b2 w hw => ⟨hw.swap.restTru2, ?_⟩
  refine (slit_spec (xs := [q.kind, q.client, q.seq, q.token]) rfl (fun x hx => by
    simp only [List.mem_cons, List.not_mem_nil, or_false] at hx
    omega) (by simp) hw).use ?_
  clear hw
  rintro _ w ⟨t1, rfl, hw⟩
  rw [nnq h] at hw
  refine ⟨t1, rfl, hw.swap.restTru2, ?_⟩
  refine (ftext_spec hs (by omega) hw).use ?_
  clear hw
  rintro _ w ⟨t2, rfl, hw⟩
  refine ⟨t2, rfl, (hw.arr (Hs' := rqC b q s :: Own t2 5 (b8 (textB q.cmd)) :: Own t1 5 (b8 (numsB [q.kind, q.client, q.seq, q.token])) :: Hs)).restTru2, ?_⟩
  have l1 := numsB_len (l := [q.kind, q.client, q.seq, q.token]) fun x hx => by
    simp only [List.mem_cons, List.not_mem_nil, or_false] at hx
    rcases hx with rfl | rfl | rfl | rfl <;> omega
  have l2 := textB_len (d := q.cmd) (by omega)
  simp only [List.length_cons, List.length_nil] at l1
  refine app8 (by omega) hw fun t w hw => ⟨hw.swap.restTru2, t, ?_, ?_⟩
  · unfold encQ; rw [if_pos h]
  · unfold encQ; rw [if_pos h]
    exact hw.cons fun _ h => h.drop
theorem sanswer_spec {t : Told} {s : Sl} (hc : ∀ x ∈ [t.code, t.client, t.seq], x < 9223372036854775808) (hl : t.reply.length ≤ 100000) (hs : Ro R s (b8 t.reply)) (hw : Sat R Hs w) :
    Gets Tryz.prog 15 #[.agg #[.int .i64 t.code, .int .i64 t.client, .int .i64 t.seq, .slice s.a s.len s.cap]] w fun v w' =>
      ∃ x : Sl, v = .slice x.a x.len x.cap ∧ Sat R (Own x 5 (b8 (tdB t)) :: Hs) w' := by
  apply call15
  refine new_rule hw fun b w hw => ?_
  have hw : Sat R (tdC b t s :: Hs) w := hw
  refine drw_rule' (Sat R [tdC b t s, VC.tru]) hw (fun w hw => hw.restTru2) fun w hw => ?_
  refine ⟨t.code, At.own (fun _ h => h) (by exact ⟨rfl, trivial⟩), t.client, At.own (fun _ h => h) (by exact ⟨rfl, trivial⟩), t.seq, At.own (fun _ h => h) (by exact ⟨rfl, trivial⟩), s, At.own (fun _ h => h) (by exact ⟨rfl, trivial⟩), ?_⟩
  refine new_rule hw fun b2 w hw => ⟨hw.swap.restTru2, ?_⟩
  refine (slit_spec (xs := [t.code, t.client, t.seq]) rfl hc (by simp) hw).use ?_
  clear hw
  rintro _ w ⟨t1, rfl, hw⟩
  refine ⟨t1, rfl, hw.swap.restTru2, ?_⟩
  refine (ftext_spec hs (by omega) hw).use ?_
  clear hw
  rintro _ w ⟨t2, rfl, hw⟩
  refine ⟨t2, rfl, (hw.arr (Hs' := tdC b t s :: Own t2 5 (b8 (textB t.reply)) :: Own t1 5 (b8 (numsB ([t.code, t.client, t.seq].map nn))) :: Hs)).restTru2, ?_⟩
  have l1 := numsB_len (l := [t.code, t.client, t.seq].map nn) fun y hy => by obtain ⟨x, hx, rfl⟩ := List.mem_map.1 hy; have := nn_bd (hc x hx); omega
  have l2 := textB_len (d := t.reply) (by omega)
  have e3 : ([t.code, t.client, t.seq].map nn).length = 3 := rfl
  have ht := hl
  refine app8 (a := numsB ([t.code, t.client, t.seq].map nn)) (b := textB t.reply) (by omega) hw fun x w hw => ⟨hw.swap.restTru2, x, rfl, ?_⟩
  exact hw.cons fun _ h => h.drop
end Go.Proofs.YtadnmnkbgjippaaGreatDoor
/- Package session: Decode, Read. Condition: bounds on lengths. -/
namespace Go.Proofs.YtadnmnkbgjippaaGreatDoor
set_option linter.unusedVariables false
open Go Go.VC
open Classical
variable {R : Cx} {Hs Rest : List HP} {w : World}
theorem snum_spec {r : Nat} {rd : Rd} (hb : Bytes rd.bs) (hw : Sat R (RdAt r rd :: Hs) w) :
    Gets Tryz.prog 27 #[.pointer (some ⟨r, 0, none⟩)] w fun v w' => v = .int .i64 (rdNum mI rd).1 ∧ Sat R (RdAt r (rdNum mI rd).2 :: Hs) w' := by
  have hv := rdNum_val (most := mI) hb (by decide)
  apply call27
  refine (rnum_spec (most := mI) hb hw).use ?_
  rintro _ w ⟨rfl, hw⟩
  refine ⟨_, rfl, ?_, hw⟩
  have : (rdNum mI rd).1 ≤ 1099511627776 := hv.2
  rw [wrap64 (by omega) (by omega)]
abbrev rqNew (b : Nat) : HP := rqC b zeroQ nilS
set_option maxHeartbeats 1000000 in
theorem sdec_spec {s : Sl} {bs : List Int} (hb : Bytes bs) (hl : bs.length ≤ 1099511627776) (hs : Ro R s (b8 bs)) (hw : Sat R Hs w) :
    Gets Tryz.prog 9 #[.slice s.a s.len s.cap] w fun v w' => ∃ t : Sl, v = .tuple #[.agg (rqV (rqDec mI bs).1 t).toArray, .int .i64 (rqDec mI bs).2] ∧ Sat R (Own t 5 (b8 (rqDec mI bs).1.cmd) :: Hs) w' := by
  apply call9
  have b0 : Bytes (⟨bs, false⟩ : Rd).bs := hb
  have l0 : (⟨bs, false⟩ : Rd).bs.length ≤ 1099511627776 := hl
  obtain ⟨rd0, e0⟩ : ∃ rd : Rd, rd = ⟨bs, false⟩ := ⟨_, rfl⟩
  rw [← e0] at b0 l0
  refine new_rule hw fun b2 w hw => ?_
  have hw : Sat R (rqNew b2 :: Hs) w := hw
  refine (fnew_spec hs hl hw).use ?_
  clear hw
  rintro _ w ⟨r, rfl, hw⟩
  refine ⟨_, rfl, ?_⟩
  rw [← e0] at hw
  have b1 := rdNum_bd (most := mI) b0
  have l1 : (rdNum mI rd0).2.bs.length ≤ 1099511627776 := Nat.le_trans rdNum_len l0
  obtain ⟨k, rd1, e1⟩ : ∃ y rd, rdNum mI rd0 = (y, rd) := ⟨_, _, rfl⟩
  refine (snum_spec b0 hw).use ?_
  clear hw
  rintro _ w ⟨rfl, hw⟩
  rw [e1] at b1 l1 hw ⊢
  dsimp only at b1 l1 hw ⊢
  refine ⟨_, rfl, ?_⟩
  have b2' := rdNum_bd (most := mI) b1
  have l2 : (rdNum mI rd1).2.bs.length ≤ 1099511627776 := Nat.le_trans rdNum_len l1
  obtain ⟨c, rd2, e2⟩ : ∃ y rd, rdNum mI rd1 = (y, rd) := ⟨_, _, rfl⟩
  refine (snum_spec b1 hw).use ?_
  clear hw
  rintro _ w ⟨rfl, hw⟩
  rw [e2] at b2' l2 hw ⊢
  dsimp only at b2' l2 hw ⊢
  refine ⟨_, rfl, ?_⟩
  have b3 := rdNum_bd (most := mI) b2'
  have l3 : (rdNum mI rd2).2.bs.length ≤ 1099511627776 := Nat.le_trans rdNum_len l2
  obtain ⟨q, rd3, e3⟩ : ∃ y rd, rdNum mI rd2 = (y, rd) := ⟨_, _, rfl⟩
  refine (snum_spec b2' hw).use ?_
  clear hw
  rintro _ w ⟨rfl, hw⟩
  rw [e3] at b3 l3 hw ⊢
  dsimp only at b3 l3 hw ⊢
  refine ⟨_, rfl, ?_⟩
  have b4 := rdNum_bd (most := mI) b3
  have l4 : (rdNum mI rd3).2.bs.length ≤ 1099511627776 := Nat.le_trans rdNum_len l3
  obtain ⟨t, rd4, e4⟩ : ∃ y rd, rdNum mI rd3 = (y, rd) := ⟨_, _, rfl⟩
  refine (snum_spec b3 hw).use ?_
  clear hw
  rintro _ w ⟨rfl, hw⟩
  rw [e4] at b4 l4 hw ⊢
  dsimp only at b4 l4 hw ⊢
  refine ⟨_, rfl, ?_⟩
  refine new_rule hw fun b w hw => ?_
  refine store_rule hw (by kernel_rfl) rfl (by simp [Value.cells]) fun w hw => ?_
  have hw : Sat R (RdAt r rd4 :: rqC b ⟨k, c, q, t, []⟩ nilS :: rqNew b2 :: Hs) w := (hw.re (rqC b ⟨k, c, q, t, []⟩ nilS)).swap
  have htl := rdText_len (most := 4000) (rd := rd4)
  obtain ⟨d, rd5, e5⟩ : ∃ y rd, rdText 4000 rd4 = (y, rd) := ⟨_, _, rfl⟩
  refine (rtext_spec (most := 4000) (by omega) l4 b4 hw).use ?_
  clear hw
  rintro _ w ⟨sd, rfl, hw⟩
  rw [e5] at hw htl
  dsimp only at hw htl
  refine ⟨sd, rfl, ?_⟩
  refine store_rule hw (by kernel_rfl) rfl (by simp [Value.cells]) fun w hw => ?_
  have hC : rqRd mI ⟨bs, false⟩ = (⟨k, c, q, t, d⟩, rd5) := by
    rw [← e0]
    unfold rqRd
    simp only [e1, e2, e3, e4, e5]
  obtain ⟨C, eC⟩ : ∃ C : Rq, C = ⟨k, c, q, t, d⟩ := ⟨_, rfl⟩
  have hw : Sat R (rqC b C sd :: Own sd 5 (b8 C.cmd) :: RdAt r rd5 :: rqNew b2 :: Hs) w := by rw [eC]; exact hw.re (rqC b ⟨k, c, q, t, d⟩ sd)
  rw [← eC] at hC
  have hdec : rqDec mI bs = if rdWhole rd5 = true ∧ RightQ C then (C, 0) else (zeroQ, 6) := by unfold rqDec; rw [hC]
  clear hC eC e0 e1 e2 e3 e4 e5 b0 b1 b2' b3 b4 l0 l1 l2 l3
  have hw : Sat R (RdAt r rd5 :: rqC b C sd :: Own sd 5 (b8 C.cmd) :: rqNew b2 :: Hs) w := hw.arr
  refine (whole_spec hw).use ?_
  clear hw
  rintro _ w ⟨rfl, hw⟩
  have no : rqDec mI bs = (zeroQ, 6) → ∀ {w}, Sat R (rqNew b2 :: Hs) w → ∃ t : Sl, Value.tuple #[.agg (rqV zeroQ nilS).toArray, .int .i64 6] = .tuple #[.agg (rqV (rqDec mI bs).1 t).toArray, .int .i64 (rqDec mI bs).2] ∧ Sat R (Own t 5 (b8 (rqDec mI bs).1.cmd) :: Hs) w := fun e {w} hw => by
    rw [e]
    exact ⟨nilS, rfl, Own.nil hw.drop⟩
  refine ⟨_, rfl, Br.nb (fun h => ?_) (fun h => ?_)⟩
  · have hw : Sat R (rqNew b2 :: Hs) w := hw.drop.drop.drop
    refine store_rule hw (by kernel_rfl) rfl (by simp [Value.cells]) fun w hw => ?_
    have hw := hw.re (rqNew b2)
    refine ⟨_, _, _, _, nilS, At.own (eqS hw) (by exact ⟨rfl, rfl, rfl, rfl, rfl, trivial⟩), no ?_ hw⟩
    rw [hdec, if_neg (by rintro ⟨h1, _⟩; rw [h1] at h; cases h)]
  refine ⟨C.kind, C.client, C.seq, C.token, sd, At.own (eqS hw) (by exact ⟨rfl, rfl, rfl, rfl, rfl, trivial⟩), ?_⟩
  have hsl : sd.len = C.cmd.length := by
    have := Own.len (hw.arr (Hs' := Own sd 5 (b8 C.cmd) :: RdAt r rd5 :: rqC b C sd :: rqNew b2 :: Hs))
    simpa using this
  refine (srightQ_spec hsl hw).use ?_
  clear hw
  rintro _ w ⟨rfl, hw⟩
  refine ⟨_, rfl, Br.nb (fun h2 => ?_) (fun h2 => ?_)⟩
  · have hw : Sat R (rqNew b2 :: Hs) w := hw.drop.drop.drop
    refine store_rule hw (by kernel_rfl) rfl (by simp [Value.cells]) fun w hw => ?_
    have hw := hw.re (rqNew b2)
    refine ⟨_, _, _, _, nilS, At.own (eqS hw) (by exact ⟨rfl, rfl, rfl, rfl, rfl, trivial⟩), no ?_ hw⟩
    rw [hdec, if_neg (by rintro ⟨_, h1⟩; rw [decide_eq_true h1] at h2; cases h2)]
  refine ⟨C.kind, C.client, C.seq, C.token, sd, At.own (eqS hw) (by exact ⟨rfl, rfl, rfl, rfl, rfl, trivial⟩), ?_⟩
  have hw : Sat R (rqNew b2 :: Own sd 5 (b8 C.cmd) :: RdAt r rd5 :: rqC b C sd :: Hs) w := hw.arr
  refine store_rule hw (by kernel_rfl) rfl (by simp [Value.cells]) fun w hw => ?_
  have hw := hw.re (rqC b2 C sd)
  refine ⟨C.kind, C.client, C.seq, C.token, sd, At.own (eqS hw) (by exact ⟨rfl, rfl, rfl, rfl, rfl, trivial⟩), ?_⟩
  rw [hdec, if_pos ⟨h, of_decide_eq_true h2⟩]
  exact ⟨sd, rfl, hw.drop.cons fun _ h => h.drop.drop⟩
abbrev tdNew (b : Nat) : HP := tdC b zeroT nilS
set_option maxHeartbeats 1000000 in
theorem sread_spec {s : Sl} {bs : List Int} (hb : Bytes bs) (hl : bs.length ≤ 1099511627776) (hs : Ro R s (b8 bs)) (hw : Sat R Hs w) :
    Gets Tryz.prog 16 #[.slice s.a s.len s.cap] w fun v w' => ∃ t : Sl, v = .tuple #[.agg (tdV (tdDec bs).1 t).toArray, .int .i64 (tdDec bs).2] ∧ Sat R (Own t 5 (b8 (tdDec bs).1.reply) :: Hs) w' := by
  apply call16
  have b0 : Bytes (⟨bs, false⟩ : Rd).bs := hb
  have l0 : (⟨bs, false⟩ : Rd).bs.length ≤ 1099511627776 := hl
  obtain ⟨rd0, e0⟩ : ∃ rd : Rd, rd = ⟨bs, false⟩ := ⟨_, rfl⟩
  rw [← e0] at b0 l0
  refine new_rule hw fun b2 w hw => ?_
  have hw : Sat R (tdNew b2 :: Hs) w := hw
  refine (fnew_spec hs hl hw).use ?_
  clear hw
  rintro _ w ⟨r, rfl, hw⟩
  refine ⟨_, rfl, ?_⟩
  rw [← e0] at hw
  have b1 := rdNum_bd (most := mI) b0
  have l1 : (rdNum mI rd0).2.bs.length ≤ 1099511627776 := Nat.le_trans rdNum_len l0
  obtain ⟨k, rd1, e1⟩ : ∃ y rd, rdNum mI rd0 = (y, rd) := ⟨_, _, rfl⟩
  refine (snum_spec b0 hw).use ?_
  clear hw
  rintro _ w ⟨rfl, hw⟩
  rw [e1] at b1 l1 hw ⊢
  dsimp only at b1 l1 hw ⊢
  refine ⟨_, rfl, ?_⟩
  have b2' := rdNum_bd (most := mI) b1
  have l2 : (rdNum mI rd1).2.bs.length ≤ 1099511627776 := Nat.le_trans rdNum_len l1
  obtain ⟨c, rd2, e2⟩ : ∃ y rd, rdNum mI rd1 = (y, rd) := ⟨_, _, rfl⟩
  refine (snum_spec b1 hw).use ?_
  clear hw
  rintro _ w ⟨rfl, hw⟩
  rw [e2] at b2' l2 hw ⊢
  dsimp only at b2' l2 hw ⊢
  refine ⟨_, rfl, ?_⟩
  have b3 := rdNum_bd (most := mI) b2'
  have l3 : (rdNum mI rd2).2.bs.length ≤ 1099511627776 := Nat.le_trans rdNum_len l2
  obtain ⟨q, rd3, e3⟩ : ∃ y rd, rdNum mI rd2 = (y, rd) := ⟨_, _, rfl⟩
  refine (snum_spec b2' hw).use ?_
  clear hw
  rintro _ w ⟨rfl, hw⟩
  rw [e3] at b3 l3 hw ⊢
  dsimp only at b3 l3 hw ⊢
  refine ⟨_, rfl, ?_⟩
  refine new_rule hw fun b w hw => ?_
  refine store_rule hw (by kernel_rfl) rfl (by simp [Value.cells]) fun w hw => ?_
  have hw : Sat R (RdAt r rd3 :: tdC b ⟨k, c, q, []⟩ nilS :: tdNew b2 :: Hs) w := (hw.re (tdC b ⟨k, c, q, []⟩ nilS)).swap
  obtain ⟨d, rd5, e5⟩ : ∃ y rd, rdText 65536 rd3 = (y, rd) := ⟨_, _, rfl⟩
  refine (rtext_spec (most := 65536) (by omega) l3 b3 hw).use ?_
  clear hw
  rintro _ w ⟨sd, rfl, hw⟩
  rw [e5] at hw
  dsimp only at hw
  refine ⟨sd, rfl, ?_⟩
  refine store_rule hw (by kernel_rfl) rfl (by simp [Value.cells]) fun w hw => ?_
  have hC : tdRd ⟨bs, false⟩ = (⟨k, c, q, d⟩, rd5) := by
    rw [← e0]
    unfold tdRd
    simp only [e1, e2, e3, e5]
  obtain ⟨C, eC⟩ : ∃ C : Told, C = ⟨k, c, q, d⟩ := ⟨_, rfl⟩
  have hw : Sat R (tdC b C sd :: Own sd 5 (b8 C.reply) :: RdAt r rd5 :: tdNew b2 :: Hs) w := by rw [eC]; exact hw.re (tdC b ⟨k, c, q, d⟩ sd)
  rw [← eC] at hC
  have hdec : tdDec bs = if rdWhole rd5 = true then (C, 0) else (zeroT, 6) := by unfold tdDec; rw [hC]
  clear hC eC e0 e1 e2 e3 e5 b0 b1 b2' b3 l0 l1 l2 l3
  have hw : Sat R (RdAt r rd5 :: tdC b C sd :: Own sd 5 (b8 C.reply) :: tdNew b2 :: Hs) w := hw.arr
  refine (whole_spec hw).use ?_
  clear hw
  rintro _ w ⟨rfl, hw⟩
  refine ⟨_, rfl, Br.nb (fun h => ?_) (fun h => ?_)⟩
  · have hw : Sat R (tdNew b2 :: Hs) w := hw.drop.drop.drop
    refine store_rule hw (by kernel_rfl) rfl (by simp [Value.cells]) fun w hw => ?_
    have hw := hw.re (tdNew b2)
    refine ⟨_, _, _, nilS, At.own (eqS hw) (by exact ⟨rfl, rfl, rfl, rfl, trivial⟩), ?_⟩
    rw [hdec, if_neg (by rw [h]; simp)]
    exact ⟨nilS, rfl, Own.nil hw.drop⟩
  refine ⟨C.code, C.client, C.seq, sd, At.own (eqS hw) (by exact ⟨rfl, rfl, rfl, rfl, trivial⟩), ?_⟩
  have hw : Sat R (tdNew b2 :: Own sd 5 (b8 C.reply) :: RdAt r rd5 :: tdC b C sd :: Hs) w := hw.arr
  refine store_rule hw (by kernel_rfl) rfl (by simp [Value.cells]) fun w hw => ?_
  have hw := hw.re (tdC b2 C sd)
  refine ⟨C.code, C.client, C.seq, sd, At.own (eqS hw) (by exact ⟨rfl, rfl, rfl, rfl, trivial⟩), ?_⟩
  rw [hdec, if_pos h]
  exact ⟨sd, rfl, hw.drop.cons fun _ h => h.drop.drop⟩
end Go.Proofs.YtadnmnkbgjippaaGreatDoor
/- Reference 19: requests and answers as bytes. Condition: bounds on lengths. -/
namespace Go.Proofs.YtadnmnkbgjippaaGreatDoor
set_option linter.unusedVariables false
open Go Go.VC
open Classical
variable {R : Cx} {Hs Rest : List HP} {w : World}
theorem r19nums_spec {s : Sl} {xs : List Int} (hxs : ∀ x ∈ xs, x < 9223372036854775808) (hl : 9 * xs.length ≤ 1099511627776) (hs : RoI R s xs) (hw : Sat R Hs w) :
    Gets Tryz.prog 24 #[.slice s.a s.len s.cap] w fun v w' => ∃ t : Sl, v = .slice t.a t.len t.cap ∧ Sat R (Own t 5 (b8 (numsB (xs.map nn))) :: Hs) w' := by
  have hlen := hs.len
  apply call24
  refine ⟨fun out i w => ∃ k : Nat, i = k ∧ k ≤ xs.length ∧ Sat R (Own out 5 (b8 (numsB ((xs.take k).map nn))) :: Hs) w, fun _ i _ => xs.length - i.toNat, ⟨0, rfl, by omega, Own.nil hw⟩, ?_⟩
  clear hw
  rintro _ out _ w ⟨k, rfl, hk, hw⟩
  refine Br.d (fun h => ?_) (fun h => ?_)
  · have hkx : k < xs.length := by omega
    have hx := nn_bd (hxs xs[k] (List.getElem_mem _))
    have hxt : ∀ x ∈ (xs.take k).map nn, 0 ≤ x ∧ x < 18446744073709551616 := fun x hx => by
      obtain ⟨y, hy, rfl⟩ := List.mem_map.1 hx
      have := nn_bd (hxs y (List.mem_of_mem_take hy)); omega
    have hnl := numsB_len hxt
    rw [List.length_map, List.length_take] at hnl
    refine Ro.ix hs (eqS hw) k rfl hkx ?_
    rw [nn_if]
    obtain ⟨n, hn⟩ := Int.eq_ofNat_of_zero_le hx.1
    rw [hn, wrapU64 (by omega) (by omega)]
    refine (rnumber_spec (by omega) hw).use ?_
    rintro _ w ⟨t, rfl, hw⟩
    refine ⟨t, rfl, ?_⟩
    have hnb := numB_len (n := n) (by omega)
    refine app8 (by omega) hw fun s2 w hw => ?_
    rw [wrap64 (by omega) (by omega)]
    refine ⟨⟨k + 1, by omega, by omega, ?_⟩, by dsimp only; omega⟩
    have e : (xs.take (k + 1)).map nn = (xs.take k).map nn ++ [nn xs[k]] := by rw [List.take_add_one, List.getElem?_eq_getElem hkx, List.map_append]; rfl
    rw [e, numsB_app, show numsB [nn xs[k]] = numB (nn xs[k]).toNat by simp [numsB], hn, Int.toNat_natCast]
    exact hw
  · rw [List.take_of_length_le (l := xs) (by omega)] at hw
    exact ⟨out, rfl, hw⟩
theorem r19lit_spec {b n : Nat} {xs : List Int} (hn : n = xs.length) (hxs : ∀ x ∈ xs, x < 9223372036854775808) (hl : 9 * xs.length ≤ 1099511627776) (hw : Sat R (pts b (.cells (intsI xs).toArray 3 (0, 0)) :: Hs) w) :
    Gets Tryz.prog 24 #[.slice (some ⟨b, 0, none⟩) n n] w fun v w' => ∃ t : Sl, v = .slice t.a t.len t.cap ∧ Sat R (Own t 5 (b8 (numsB (xs.map nn))) :: Hs) w' := by
  have hw : Sat R (Own ⟨some ⟨b, 0, none⟩, n, n⟩ 3 (intsI xs) :: Hs) w := own_lit hw (by rw [List.length_map]; exact hn)
  obtain ⟨R', hr, _, hw, back⟩ := Own.lendI hw (by omega)
  refine (r19nums_spec hxs hl hr hw).use ?_
  rintro _ w ⟨t, rfl, hw⟩
  exact ⟨_, rfl, t, rfl, (back hw).swap.cons fun _ h => h.drop⟩
theorem r19answer_spec {t : Told} {s : Sl} (hc : ∀ x ∈ [t.code, t.client, t.seq], x < 9223372036854775808) (hl : t.reply.length ≤ 100000) (hs : Ro R s (b8 t.reply)) (hw : Sat R Hs w) :
    Gets Tryz.prog 19 #[.agg #[.int .i64 t.code, .int .i64 t.client, .int .i64 t.seq, .slice s.a s.len s.cap]] w fun v w' =>
      ∃ x : Sl, v = .slice x.a x.len x.cap ∧ Sat R (Own x 5 (b8 (tdB t)) :: Hs) w' := by
  apply call19
  refine new_rule hw fun b w hw => ?_
  have hw : Sat R (tdC b t s :: Hs) w := hw
  refine drw_rule' (Sat R [tdC b t s, VC.tru]) hw (fun w hw => hw.restTru2) fun w hw => ?_
  refine ⟨t.code, At.own (fun _ h => h) (by exact ⟨rfl, trivial⟩), t.client, At.own (fun _ h => h) (by exact ⟨rfl, trivial⟩), t.seq, At.own (fun _ h => h) (by exact ⟨rfl, trivial⟩), s, At.own (fun _ h => h) (by exact ⟨rfl, trivial⟩), ?_⟩
  refine new_rule hw fun b2 w hw => ⟨hw.swap.restTru2, ?_⟩
  refine (r19lit_spec (xs := [t.code, t.client, t.seq]) rfl hc (by simp) hw).use ?_
  clear hw
  rintro _ w ⟨t1, rfl, hw⟩
  refine ⟨t1, rfl, hw.swap.restTru2, ?_⟩
  refine (rtextB_spec hs (by omega) hw).use ?_
  clear hw
  rintro _ w ⟨t2, rfl, hw⟩
  refine ⟨t2, rfl, (hw.arr (Hs' := tdC b t s :: Own t2 5 (b8 (textB t.reply)) :: Own t1 5 (b8 (numsB ([t.code, t.client, t.seq].map nn))) :: Hs)).restTru2, ?_⟩
  have l1 := numsB_len (l := [t.code, t.client, t.seq].map nn) fun y hy => by obtain ⟨x, hx, rfl⟩ := List.mem_map.1 hy; have := nn_bd (hc x hx); omega
  have l2 := textB_len (d := t.reply) (by omega)
  have e3 : ([t.code, t.client, t.seq].map nn).length = 3 := rfl
  have ht := hl
  refine app8 (a := numsB ([t.code, t.client, t.seq].map nn)) (b := textB t.reply) (by omega) hw fun x w hw => ⟨hw.swap.restTru2, x, rfl, ?_⟩
  exact hw.cons fun _ h => h.drop
set_option maxHeartbeats 1000000 in
theorem r19read_spec {s : Sl} {bs : List Int} (hb : Bytes bs) (hl : bs.length ≤ 1099511627776) (hs : SlR R.m s (b8 bs)) (hw : Sat R Hs w) :
    Gets Tryz.prog 17 #[.slice s.a s.len s.cap] w fun v w' => ∃ t : Sl, v = .tuple #[.agg (tdV (tdDec bs).1 t).toArray, .int .i64 (tdDec bs).2] ∧ Sat R (Own t 5 (b8 (tdDec bs).1.reply) :: Hs) w' := by
  apply call17
  have bb0 : Bytes (⟨bs, false⟩ : Rd).bs := hb
  obtain ⟨rd0, e0⟩ : ∃ rd : Rd, rd = ⟨bs, false⟩ := ⟨_, rfl⟩
  rw [← e0] at bb0
  refine new_rule hw fun b2 w hw => ?_
  have hw : Sat R (tdNew b2 :: Hs) w := hw
  refine new_rule hw fun p w hw => ?_
  have hw : Sat R (pts p (rrCells s 0 false) :: tdNew b2 :: Hs) w := hw
  have hw : Sat R (RRdAt p s bs ⟨bs, false⟩ :: tdNew b2 :: Hs) w := Sat.rrd.2 ⟨0, ⟨by omega, rfl⟩, hw⟩
  rw [← e0] at hw
  have bb1 := rdNum_bd (most := mI) bb0
  have v1 := rdNum_val (most := mI) bb0 (by decide)
  obtain ⟨k, rd1, e1⟩ : ∃ y rd, rdNum mI rd0 = (y, rd) := ⟨_, _, rfl⟩
  refine (rrnum_spec (most := mI) hl hb hs hw).use ?_
  clear hw
  rintro _ w ⟨rfl, hw⟩
  rw [e1] at bb1 v1 hw ⊢
  dsimp only at bb1 v1 hw ⊢
  refine ⟨_, rfl, ?_⟩
  have bb2 := rdNum_bd (most := mI) bb1
  have v2 := rdNum_val (most := mI) bb1 (by decide)
  obtain ⟨c, rd2, e2⟩ : ∃ y rd, rdNum mI rd1 = (y, rd) := ⟨_, _, rfl⟩
  refine (rrnum_spec (most := mI) hl hb hs hw).use ?_
  clear hw
  rintro _ w ⟨rfl, hw⟩
  rw [e2] at bb2 v2 hw ⊢
  dsimp only at bb2 v2 hw ⊢
  refine ⟨_, rfl, ?_⟩
  have bb3 := rdNum_bd (most := mI) bb2
  have v3 := rdNum_val (most := mI) bb2 (by decide)
  obtain ⟨q, rd3, e3⟩ : ∃ y rd, rdNum mI rd2 = (y, rd) := ⟨_, _, rfl⟩
  refine (rrnum_spec (most := mI) hl hb hs hw).use ?_
  clear hw
  rintro _ w ⟨rfl, hw⟩
  rw [e3] at bb3 v3 hw ⊢
  dsimp only at bb3 v3 hw ⊢
  refine ⟨_, rfl, ?_⟩
  have v1b : k ≤ 1099511627776 := v1.2
  have v2b : c ≤ 1099511627776 := v2.2
  have v3b : q ≤ 1099511627776 := v3.2
  rw [wrapN v1.1 (by omega), wrapN v2.1 (by omega), wrapN v3.1 (by omega)]
  refine new_rule hw fun b w hw => ?_
  refine store_rule hw (by kernel_rfl) rfl (by simp [Value.cells]) fun w hw => ?_
  have hw : Sat R (RRdAt p s bs rd3 :: tdC b ⟨k, c, q, []⟩ nilS :: tdNew b2 :: Hs) w := (hw.re (tdC b ⟨k, c, q, []⟩ nilS)).swap
  obtain ⟨d, rd5, e5⟩ : ∃ y rd, rdText 65536 rd3 = (y, rd) := ⟨_, _, rfl⟩
  refine (rrtext_spec (most := 65536) (by omega) hl hb hs hw).use ?_
  clear hw
  rintro _ w ⟨sd, rfl, hw⟩
  rw [e5] at hw
  dsimp only at hw
  refine ⟨sd, rfl, ?_⟩
  refine store_rule hw (by kernel_rfl) rfl (by simp [Value.cells]) fun w hw => ?_
  have hC : tdRd ⟨bs, false⟩ = (⟨k, c, q, d⟩, rd5) := by
    rw [← e0]
    unfold tdRd
    simp only [e1, e2, e3, e5]
  obtain ⟨C, eC⟩ : ∃ C : Told, C = ⟨k, c, q, d⟩ := ⟨_, rfl⟩
  have hw : Sat R (tdC b C sd :: Own sd 5 (b8 C.reply) :: RRdAt p s bs rd5 :: tdNew b2 :: Hs) w := by rw [eC]; exact hw.re (tdC b ⟨k, c, q, d⟩ sd)
  rw [← eC] at hC
  have hdec : tdDec bs = if rdWhole rd5 = true then (C, 0) else (zeroT, 6) := by unfold tdDec; rw [hC]
  clear hC eC e0 e1 e2 e3 e5
  have hw : Sat R (RRdAt p s bs rd5 :: tdC b C sd :: Own sd 5 (b8 C.reply) :: tdNew b2 :: Hs) w := hw.arr
  refine (rrwhole_spec hs hw).use ?_
  clear hw
  rintro _ w ⟨rfl, hw⟩
  refine ⟨_, rfl, Br.nb (fun h => ?_) (fun h => ?_)⟩
  · have hw : Sat R (tdNew b2 :: Hs) w := hw.drop.drop.drop
    refine store_rule hw (by kernel_rfl) rfl (by simp [Value.cells]) fun w hw => ?_
    have hw := hw.re (tdNew b2)
    refine ⟨_, _, _, nilS, At.own (eqS hw) (by exact ⟨rfl, rfl, rfl, rfl, trivial⟩), ?_⟩
    rw [hdec, if_neg (by rw [h]; simp)]
    exact ⟨nilS, rfl, Own.nil hw.drop⟩
  refine ⟨C.code, C.client, C.seq, sd, At.own (eqS hw) (by exact ⟨rfl, rfl, rfl, rfl, trivial⟩), ?_⟩
  have hw : Sat R (tdNew b2 :: Own sd 5 (b8 C.reply) :: RRdAt p s bs rd5 :: tdC b C sd :: Hs) w := hw.arr
  refine store_rule hw (by kernel_rfl) rfl (by simp [Value.cells]) fun w hw => ?_
  have hw := hw.re (tdC b2 C sd)
  refine ⟨C.code, C.client, C.seq, sd, At.own (eqS hw) (by exact ⟨rfl, rfl, rfl, rfl, trivial⟩), ?_⟩
  rw [hdec, if_pos h]
  exact ⟨sd, rfl, hw.drop.cons fun _ h => h.drop.drop⟩
theorem sameT19_spec {q : Told} {s t : Sl} (h1 : Ro R s (b8 q.reply)) (h2 : Ro R t (b8 q.reply)) (hw : Sat R Hs w) :
    Gets Tryz.prog 18 #[.agg #[.int .i64 q.code, .int .i64 q.client, .int .i64 q.seq, .slice s.a s.len s.cap], .agg #[.int .i64 q.code, .int .i64 q.client, .int .i64 q.seq, .slice t.a t.len t.cap]] w fun v w' => v = .bool true ∧ Sat R Hs w' := by
  apply call18
  refine new_rule hw fun x w hw => new_rule hw fun y w hw => ?_
  have hw : Sat R (tdC y q t :: tdC x q s :: Hs) w := hw
  refine ⟨q.code, At.own (eqS hw) (by exact ⟨rfl, trivial⟩), q.code, At.own (eqS hw) (by exact ⟨rfl, trivial⟩), Br.e (fun _ => ?_) (fun h => absurd rfl h)⟩
  refine ⟨q.client, At.own (eqS hw) (by exact ⟨rfl, trivial⟩), q.client, At.own (eqS hw) (by exact ⟨rfl, trivial⟩), Br.e (fun _ => ?_) (fun h => absurd rfl h)⟩
  refine ⟨q.seq, At.own (eqS hw) (by exact ⟨rfl, trivial⟩), q.seq, At.own (eqS hw) (by exact ⟨rfl, trivial⟩), Br.e (fun _ => ?_) (fun h => absurd rfl h)⟩
  refine ⟨s, At.own (eqS hw) (by exact ⟨rfl, trivial⟩), VC.strOf q.reply, fun w' e => ?_, t, At.own (eqS hw) (by exact ⟨rfl, trivial⟩), VC.strOf q.reply, fun w' e => ?_, ?_, hw.drop.drop⟩
  · rw [show w' = w from e]
    exact convS_ro Tryz.underlying22 Tryz.underlying5 Tryz.underlying9 hw h1
  · rw [show w' = w from e]
    exact convS_ro Tryz.underlying22 Tryz.underlying5 Tryz.underlying9 hw h2
  · rw [str_eql, decide_eq_true rfl]
end Go.Proofs.YtadnmnkbgjippaaGreatDoor
/- The formulas of functions of this seat's translation, printed by a program of mine off the translation; each is proved equal to 'fnF' of the function's body, so it is enough for the call. No condition. -/
namespace Go.Proofs.YtadnmnkbgjippaaGreatDoor
open Go Go.VC
set_option linter.unusedVariables false
set_option maxRecDepth 10000
def B14 (a0_0 : Int) (a0_1 : Int) (a0_2 : Int) (a0_3 : Int) (a0_4 : Sl) (K : Value → World → Prop) (w : World) : Prop :=
  New (.cells #[.int .i64 a0_0, .int .i64 a0_1, .int .i64 a0_2, .int .i64 a0_3, .slice a0_4.a a0_4.len a0_4.cap] 24 (0, 0)) (fun b_a1 w_1 =>
  ∃ t6 : Int, ∃ t6_1 : Int, ∃ t6_2 : Int, ∃ t6_3 : Int, ∃ t6_4 : Sl, (At (fun w' => w' = w_1) ⟨b_a1, 0, none⟩ [.int .i64 t6, .int .i64 t6_1, .int .i64 t6_2, .int .i64 t6_3, .slice t6_4.a t6_4.len t6_4.cap]) ∧
  Calls Tryz.prog 7 #[.agg #[.int .i64 t6, .int .i64 t6_1, .int .i64 t6_2, .int .i64 t6_3, .slice t6_4.a t6_4.len t6_4.cap]] w_1 fun e w_2 =>
  ∃ t7 : Sl, ∃ t7_1 : Int, (e = .returned (.tuple #[.slice t7.a t7.len t7.cap, .int .i64 t7_1])) ∧
  K (.slice t7.a t7.len t7.cap) w_2) w
def sk14 : Sk := .leaf
theorem ok14 : fnOk Tryz.prog Tryz.f14.ntmps Tryz.f14 sk14 = true := by kernel_rfl
theorem eq14 (a0_0 : Int) (a0_1 : Int) (a0_2 : Int) (a0_3 : Int) (a0_4 : Sl) (K : Value → World → Prop) (w : World) : fnF Tryz.prog cl Tryz.f14 sk14 [.agg #[.int .i64 a0_0, .int .i64 a0_1, .int .i64 a0_2, .int .i64 a0_3, .slice a0_4.a a0_4.len a0_4.cap]] K w = B14 a0_0 a0_1 a0_2 a0_3 a0_4 K w := by kernel_rfl
theorem call14 (a0_0 : Int) (a0_1 : Int) (a0_2 : Int) (a0_3 : Int) (a0_4 : Sl) (K : Value → World → Prop) (w : World) (h : B14 a0_0 a0_1 a0_2 a0_3 a0_4 K w) : Gets Tryz.prog 14 #[.agg #[.int .i64 a0_0, .int .i64 a0_1, .int .i64 a0_2, .int .i64 a0_3, .slice a0_4.a a0_4.len a0_4.cap]] w K :=
  calls_of (sk := sk14) cl_ok mixed Tryz.func14 ok14 (args := [.agg #[.int .i64 a0_0, .int .i64 a0_1, .int .i64 a0_2, .int .i64 a0_3, .slice a0_4.a a0_4.len a0_4.cap]]) (Nat.le_of_ble_eq_true (by kernel_rfl)) (by rw [eq14]; exact h)
def B6  (K : Value → World → Prop) (w : World) : Prop :=
  Calls Tryz.prog 12 #[] w fun e w_1 =>
  ∃ t3 : Option Addr, (e = .returned (.pointer t3)) ∧
  Br t3.isNone
   (K (.bool false) w_1)
   (Calls Tryz.prog 14 #[.agg #[.int .i64 1, .int .i64 0, .int .i64 0, .int .i64 9, .slice none 0 0]] w_1 fun e_1 w_2 =>
    ∃ t8 : Sl, (e_1 = .returned (.slice t8.a t8.len t8.cap)) ∧
    Calls Tryz.prog 13 #[.pointer t3, .slice t8.a t8.len t8.cap] w_2 fun e_2 w_3 =>
    ∃ t9 : Int, ∃ t9_1 : Int, ∃ t9_2 : Int, ∃ t9_3 : Sl, (e_2 = .returned (.agg #[.int .i64 t9, .int .i64 t9_1, .int .i64 t9_2, .slice t9_3.a t9_3.len t9_3.cap])) ∧
    New (.cells #[.int .i64 0, .int .i64 0, .int .i64 0, .slice none 0 0] 39 (0, 0)) (fun b_x2 w_4 =>
    ∃ w_5 : World, ((Instr.storeAt 39 (.pointer ((some ⟨b_x2, 0, none⟩))) (.agg #[.int .i64 t9, .int .i64 t9_1, .int .i64 t9_2, .slice t9_3.a t9_3.len t9_3.cap])).run Tryz.prog w_4 = .ok () w_5) ∧
    ∃ t11 : Int, (At (fun w' => w' = w_5) ⟨b_x2, 0, none⟩ [.int .i64 t11]) ∧
    Br (t11 == 0)
     (∃ t15 : Int, (At (fun w' => w' = w_5) ⟨b_x2, 0 + 1, none⟩ [.int .i64 t15]) ∧
      K (.bool (t15 == 1)) w_5)
     (K (.bool false) w_5)) w_3)
def sk6 : Sk := .leaf
theorem ok6 : fnOk Tryz.prog Tryz.f6.ntmps Tryz.f6 sk6 = true := by kernel_rfl
theorem eq6  (K : Value → World → Prop) (w : World) : fnF Tryz.prog cl Tryz.f6 sk6 [] K w = B6  K w := by kernel_rfl
theorem call6  (K : Value → World → Prop) (w : World) (h : B6  K w) : Gets Tryz.prog 6 #[] w K :=
  calls_of (sk := sk6) cl_ok mixed Tryz.func6 ok6 (args := []) (Nat.le_of_ble_eq_true (by kernel_rfl)) (by rw [eq6]; exact h)
def B5 (t0_0 : Int) (t0_1 : Int) (t0_2 : Int) (t0_3 : Sl) (b1 : Sl) (K : Value → World → Prop) (w : World) : Prop :=
  New (.cells #[.int .i64 t0_0, .int .i64 t0_1, .int .i64 t0_2, .slice t0_3.a t0_3.len t0_3.cap] 39 (0, 0)) (fun b_t2 w_1 =>
  Calls Tryz.prog 6 #[] w_1 fun e w_2 =>
  ∃ t12 : Bool, (e = .returned (.bool t12)) ∧
  ∃ (J : World → Prop), (Br (!t12)
     (K (.bool t12) w_2)
     (∃ t17 : Sl, (At (fun w' => w' = w_2) ⟨b_t2, 0 + 3, none⟩ [.slice t17.a t17.len t17.cap]) ∧
      Br (decide ((↑t17.len : Int) > 100000))
       (K (.bool t12) w_2)
       (Br (decide ((↑b1.len : Int) > 100000))
         (K (.bool t12) w_2)
         (J  w_2)))) ∧
  ∀ (z : Env)  (w_3 : World), J  w_3 →
  ∃ t27 : Int, ∃ t27_1 : Int, ∃ t27_2 : Int, ∃ t27_3 : Sl, (At (fun w' => w' = w_3) ⟨b_t2, 0, none⟩ [.int .i64 t27, .int .i64 t27_1, .int .i64 t27_2, .slice t27_3.a t27_3.len t27_3.cap]) ∧
  Calls Tryz.prog 15 #[.agg #[.int .i64 t27, .int .i64 t27_1, .int .i64 t27_2, .slice t27_3.a t27_3.len t27_3.cap]] w_3 fun e_1 w_4 =>
  ∃ t28 : Sl, (e_1 = .returned (.slice t28.a t28.len t28.cap)) ∧
  Calls Tryz.prog 16 #[.slice b1.a b1.len b1.cap] w_4 fun e_2 w_5 =>
  ∃ t31 : Int, ∃ t31_1 : Int, ∃ t31_2 : Int, ∃ t31_3 : Sl, ∃ t31_4 : Int, (e_2 = .returned (.tuple #[.agg #[.int .i64 t31, .int .i64 t31_1, .int .i64 t31_2, .slice t31_3.a t31_3.len t31_3.cap], .int .i64 t31_4])) ∧
  New (.cells #[.int .i64 0, .int .i64 0, .int .i64 0, .slice none 0 0] 39 (0, 0)) (fun b_y7 w_6 =>
  ∃ w_7 : World, ((Instr.storeAt 39 (.pointer ((some ⟨b_y7, 0, none⟩))) (.agg #[.int .i64 t31, .int .i64 t31_1, .int .i64 t31_2, .slice t31_3.a t31_3.len t31_3.cap])).run Tryz.prog w_6 = .ok () w_7) ∧
  Calls Tryz.prog 17 #[.slice b1.a b1.len b1.cap] w_7 fun e_3 w_8 =>
  ∃ t36 : Int, ∃ t36_1 : Int, ∃ t36_2 : Int, ∃ t36_3 : Sl, ∃ t36_4 : Int, (e_3 = .returned (.tuple #[.agg #[.int .i64 t36, .int .i64 t36_1, .int .i64 t36_2, .slice t36_3.a t36_3.len t36_3.cap], .int .i64 t36_4])) ∧
  New (.cells #[.int .i64 0, .int .i64 0, .int .i64 0, .slice none 0 0] 39 (0, 0)) (fun b_want9 w_9 =>
  ∃ w_10 : World, ((Instr.storeAt 39 (.pointer ((some ⟨b_want9, 0, none⟩))) (.agg #[.int .i64 t36, .int .i64 t36_1, .int .i64 t36_2, .slice t36_3.a t36_3.len t36_3.cap])).run Tryz.prog w_9 = .ok () w_10) ∧
  ∃ t39 : Int, ∃ t39_1 : Int, ∃ t39_2 : Int, ∃ t39_3 : Sl, (At (fun w' => w' = w_10) ⟨b_y7, 0, none⟩ [.int .i64 t39, .int .i64 t39_1, .int .i64 t39_2, .slice t39_3.a t39_3.len t39_3.cap]) ∧
  ∃ t40 : Int, ∃ t40_1 : Int, ∃ t40_2 : Int, ∃ t40_3 : Sl, (At (fun w' => w' = w_10) ⟨b_want9, 0, none⟩ [.int .i64 t40, .int .i64 t40_1, .int .i64 t40_2, .slice t40_3.a t40_3.len t40_3.cap]) ∧
  Calls Tryz.prog 18 #[.agg #[.int .i64 t39, .int .i64 t39_1, .int .i64 t39_2, .slice t39_3.a t39_3.len t39_3.cap], .agg #[.int .i64 t40, .int .i64 t40_1, .int .i64 t40_2, .slice t40_3.a t40_3.len t40_3.cap]] w_10 fun e_4 w_11 =>
  ∃ t41 : Bool, (e_4 = .returned (.bool t41)) ∧
  Drw w_11 fun S w_12 =>
  ∃ t43 : ByteArray, (∀ w', S w' → ((convert 22 9 (.slice t28.a t28.len t28.cap))).run Tryz.prog w' = .ok (.string t43) w') ∧
  ∃ t44 : Int, ∃ t44_1 : Int, ∃ t44_2 : Int, ∃ t44_3 : Sl, (At (fun w' => w' = w_12) ⟨b_t2, 0, none⟩ [.int .i64 t44, .int .i64 t44_1, .int .i64 t44_2, .slice t44_3.a t44_3.len t44_3.cap]) ∧
  Calls Tryz.prog 19 #[.agg #[.int .i64 t44, .int .i64 t44_1, .int .i64 t44_2, .slice t44_3.a t44_3.len t44_3.cap]] w_12 fun e_5 w_13 =>
  ∃ t45 : Sl, (e_5 = .returned (.slice t45.a t45.len t45.cap)) ∧
  (S w_13) ∧
  ∃ t46 : ByteArray, (∀ w', (fun w' => w' = w_13) w' → ((convert 22 9 (.slice t45.a t45.len t45.cap))).run Tryz.prog w' = .ok (.string t46) w') ∧
  Br (t43.toList == t46.toList)
   (Br t41
     (K (.bool (t31_4 == t36_4)) w_13)
     (K (.bool false) w_13))
   (K (.bool false) w_13)) w_8) w_5) w
def sk5 : Sk := (.seq .leaf (.seq .leaf (.cut [] [] [4, 13, 14, 15, 16, 17, 18, 19, 20, 21, 22, 23, 24, 25, 26] .leaf (.seq .leaf (.seq .leaf (.seq .leaf (.seq .leaf (.seq (.block .leaf) .leaf))))))))
theorem ok5 : fnOk Tryz.prog Tryz.f5.ntmps Tryz.f5 sk5 = true := by kernel_rfl
theorem eq5 (t0_0 : Int) (t0_1 : Int) (t0_2 : Int) (t0_3 : Sl) (b1 : Sl) (K : Value → World → Prop) (w : World) : fnF Tryz.prog cl Tryz.f5 sk5 [.agg #[.int .i64 t0_0, .int .i64 t0_1, .int .i64 t0_2, .slice t0_3.a t0_3.len t0_3.cap], .slice b1.a b1.len b1.cap] K w = B5 t0_0 t0_1 t0_2 t0_3 b1 K w := by kernel_rfl
theorem call5 (t0_0 : Int) (t0_1 : Int) (t0_2 : Int) (t0_3 : Sl) (b1 : Sl) (K : Value → World → Prop) (w : World) (h : B5 t0_0 t0_1 t0_2 t0_3 b1 K w) : Gets Tryz.prog 5 #[.agg #[.int .i64 t0_0, .int .i64 t0_1, .int .i64 t0_2, .slice t0_3.a t0_3.len t0_3.cap], .slice b1.a b1.len b1.cap] w K :=
  calls_of (sk := sk5) cl_ok mixed Tryz.func5 ok5 (args := [.agg #[.int .i64 t0_0, .int .i64 t0_1, .int .i64 t0_2, .slice t0_3.a t0_3.len t0_3.cap], .slice b1.a b1.len b1.cap]) (Nat.le_of_ble_eq_true (by kernel_rfl)) (by rw [eq5]; exact h)
end Go.Proofs.YtadnmnkbgjippaaGreatDoor
/- Package session: the table in memory; a session begins. Condition: bounds. -/
namespace Go.Proofs.YtadnmnkbgjippaaGreatDoor
set_option linter.unusedVariables false
open Go Go.VC
open Classical
variable {R : Cx} {Hs Rest : List HP} {w : World}
abbrev CE := Nat × Int × Int
abbrev cliObj (tok : Int) : Obj := .cells [.int .i64 tok, .int .i64 0, .slice none 0 0].toArray 71 (0, 0)
def cliAt (e : CE) : HP := pts e.1 (cliObj e.2.2)
def clV (e : CE) : Int × Value := (e.2.1, .pointer (some ⟨e.1, 0, none⟩))
abbrev tblC (bk : Option Addr) (next : Int) (m : Nat) : Obj := .cells [.pointer bk, .int .i64 next, .map (some m)].toArray 65 (0, 0)
def TblAt (p : Nat) (next : Int) (E : List CE) : HP := exs fun m : Nat => exs fun bk : Option Addr => Star [pts p (tblC bk next m), MapAt m (E.map clV), Star (E.map cliAt)]
theorem Sat.tbl {p : Nat} {next : Int} {E : List CE} : Sat R (TblAt p next E :: Hs) w ↔ ∃ m bk, Sat R (pts p (tblC bk next m) :: MapAt m (E.map clV) :: Star (E.map cliAt) :: Hs) w := by
  unfold TblAt
  simp only [Sat.exs]
  exact ⟨fun ⟨m, b, h⟩ => ⟨m, b, Sat.star.1 h⟩, fun ⟨m, b, h⟩ => ⟨m, b, Sat.star.2 h⟩⟩
theorem star_mid {A : HP} {B C : List HP} : Sat R (Star (B ++ A :: C) :: Hs) w ↔ Sat R (A :: Star (B ++ C) :: Hs) w := by
  have key : ∀ (B : List HP) {R : Cx} {Hs : List HP}, Sat R (B ++ A :: Hs) w ↔ Sat R (A :: (B ++ Hs)) w := fun B => by
    induction B with
    | nil => exact fun {R Hs} => Iff.rfl
    | cons X B ih =>
      intro R Hs
      constructor
      · intro h
        have h : Sat R (X :: (B ++ A :: Hs)) w := h
        exact (h.cons fun _ h => ih.1 h).swap
      · intro h
        have h : Sat R (A :: X :: (B ++ Hs)) w := h
        exact (h.swap.cons fun _ h => ih.2 h)
  rw [Sat.star, List.append_assoc, List.cons_append, key B]
  constructor
  · intro h
    exact h.cons fun _ h => Sat.star.2 (by rw [List.append_assoc]; exact h)
  · intro h
    refine h.cons fun _ h => ?_
    have := Sat.star.1 h
    rwa [List.append_assoc] at this
abbrev cMap : MapT Tryz.prog 63 Int 3 68 (.pointer none) := ⟨Tryz.underlying63, Tryz.underlying3, Tryz.zeroValue68⟩
theorem getM_ne {β : Type} {k : Int} : ∀ {l : List (Int × β)}, getM k l = none ↔ ∀ e ∈ l, e.1 ≠ k
  | [] => ⟨fun _ _ h => (by cases h), fun _ => rfl⟩
  | e :: l => by
    rw [getM]
    by_cases h : k = e.1
    · rw [if_pos (by simpa using h)]
      exact ⟨fun h2 => (by cases h2), fun h2 => absurd h.symm (h2 e (by simp))⟩
    · rw [if_neg (by simpa using h), getM_ne]
      exact ⟨fun h2 x hx => by
        rcases List.mem_cons.1 hx with h1 | h1
        · rw [h1]; exact fun e => h e.symm
        · exact h2 x h1, fun h2 x hx => h2 x (by simp [hx])⟩
structure TblOk (next : Int) (E : List CE) : Prop where
  nx : 1 ≤ next ∧ next < 1000000
  lt : ∀ e ∈ E, 1 ≤ e.2.1 ∧ e.2.1 < next
  ids : (E.map fun e => e.2.1).Nodup
theorem ids_inj {E : List CE} (h : (E.map fun e => e.2.1).Nodup) {a b : CE} (ha : a ∈ E) (hb : b ∈ E) (e : a.2.1 = b.2.1) : a = b := by
  induction E with
  | nil => cases ha
  | cons x E ih =>
    rw [List.map_cons, List.nodup_cons] at h
    rcases List.mem_cons.1 ha with h1 | h1
    · rcases List.mem_cons.1 hb with h2 | h2
      · rw [h1, h2]
      · exact absurd (List.mem_map.2 ⟨b, h2, by rw [← e, h1]⟩) h.1
    · rcases List.mem_cons.1 hb with h2 | h2
      · exact absurd (List.mem_map.2 ⟨a, h1, by rw [e, h2]⟩) h.1
      · exact ih h.2 h1 h2
set_option maxHeartbeats 1000000 in
theorem sbegin_spec {p : Nat} {next tok : Int} {E : List CE} (ok : TblOk next E) (hE : E.length < 64) (hw : Sat R (TblAt p next E :: Hs) w) :
    Gets Tryz.prog 35 #[.pointer (some ⟨p, 0, none⟩), .int .i64 tok] w fun v w' =>
      (∃ e ∈ E, e.2.2 = tok ∧ v = .agg (tdV ⟨0, e.2.1, 0, []⟩ nilS).toArray ∧ Sat R (TblAt p next E :: Hs) w') ∨
      ((∀ e ∈ E, e.2.2 ≠ tok) ∧ ∃ c, v = .agg (tdV ⟨0, next, 0, []⟩ nilS).toArray ∧ Sat R (TblAt p (next + 1) (E ++ [(c, next, tok)]) :: Hs) w') := by
  obtain ⟨m, bk, hw⟩ := Sat.tbl.1 hw
  have hnx := ok.nx
  apply call35
  refine new_rule hw fun b4 w hw => ?_
  have hw : Sat R (MapAt m (E.map clV) :: pts p (tblC bk next m) :: Star (E.map cliAt) :: tdNew b4 :: Hs) w := by
    have hw : Sat R (tdNew b4 :: pts p (tblC bk next m) :: MapAt m (E.map clV) :: Star (E.map cliAt) :: Hs) w := hw
    exact hw.arr
  refine NilP.mk rfl ⟨some m, At.own (eqS hw) (by exact ⟨rfl, trivial⟩), ?_⟩
  refine range_rule Tryz.underlying63 hw fun r w hw => ?_
  refine ⟨fun w => ∃ left : List (Int × Value), (∀ e ∈ E, e.2.2 = tok → clV e ∈ left) ∧ (∀ x ∈ left, x ∈ E.map clV) ∧ Sat R (ItAt r m (E.map clV) left :: pts p (tblC bk next m) :: Star (E.map cliAt) :: tdNew b4 :: Hs) w, itLeft r m, ⟨_, fun e he _ => List.mem_map.2 ⟨e, he, rfl⟩, fun x hx => hx, hw⟩, ?_⟩
  clear hw
  rintro _ w ⟨left, hall, hin, hw⟩
  have hlen := itLeft_eq hw
  rcases next_cases (P := Tryz.prog) (T := 0) hw with ⟨rfl, hrun⟩ | ⟨a, k, v, b, w', rfl, hrun, hent, hw'⟩
  · refine ⟨w, .inl ⟨hrun, ?_⟩⟩
    have hno : ∀ e ∈ E, e.2.2 ≠ tok := fun e he h => by have := hall e he h; cases this
    have hw := ItAt.map hw
    refine NilP.mk rfl ⟨some m, At.own (eqS hw) (by exact ⟨rfl, trivial⟩), ((E.map clV).length : Int), fun w' e => ?_, ?_⟩
    · rw [show w' = w from e]
      exact MapAt.len (by kernel_rfl) hw
    rw [List.length_map]
    refine Br.d (fun h => by omega) (fun _ => ?_)
    refine drw_rule hw fun w hw => ?_
    refine NilP.mk rfl ⟨some m, At.own selfS (by exact ⟨rfl, trivial⟩), NilP.mk rfl ⟨next, At.own selfS (by exact ⟨rfl, trivial⟩), ?_⟩⟩
    refine new_rule hw fun c w hw => ⟨hw.drop, ?_⟩
    have hw : Sat R (pts c (cliObj tok) :: MapAt m (E.map clV) :: pts p (tblC bk next m) :: Star (E.map cliAt) :: tdNew b4 :: Hs) w := hw
    refine MapAt.put cMap hw.swap next (.pointer (some ⟨c, 0, none⟩)) fun w hw => ?_
    have hput : putM next (.pointer (some ⟨c, 0, none⟩)) (E.map clV) = (E ++ [(c, next, tok)]).map clV := by
      unfold putM
      have : getM next (E.map clV) = none := getM_ne.2 fun x hx => by
        obtain ⟨e, he, rfl⟩ := List.mem_map.1 hx
        have := ok.lt e he
        show e.2.1 ≠ next
        omega
      rw [this]
      simp [clV]
    rw [hput] at hw
    have hw : Sat R (pts p (tblC bk next m) :: MapAt m ((E ++ [(c, next, tok)]).map clV) :: pts c (cliObj tok) :: Star (E.map cliAt) :: tdNew b4 :: Hs) w := hw.arr
    refine NilP.mk rfl ⟨next, At.own (eqS hw) (by exact ⟨rfl, trivial⟩), NilP.mk rfl ?_⟩
    rw [wrap64 (by omega) (by omega)]
    refine store_rule hw (by kernel_rfl) rfl (by simp [Value.cells]) fun w hw => ?_
    have hw := hw.re (pts p (tblC bk (next + 1) m))
    refine NilP.mk rfl ⟨next + 1, At.own (eqS hw) (by exact ⟨rfl, trivial⟩), ?_⟩
    rw [wrap64 (by omega) (by omega), show next + 1 - 1 = next by omega]
    refine store_rule hw (by kernel_rfl) rfl (by simp [Value.cells]) fun w hw => ?_
    have hw := hw.re (tdC b4 ⟨0, next, 0, []⟩ nilS)
    refine ⟨0, next, 0, nilS, At.own (eqS hw) (by exact ⟨rfl, rfl, rfl, rfl, trivial⟩), .inr ⟨hno, c, rfl, Sat.tbl.2 ⟨m, bk, ?_⟩⟩⟩
    have hw : Sat R (pts p (tblC bk (next + 1) m) :: MapAt m ((E ++ [(c, next, tok)]).map clV) :: pts c (cliObj tok) :: Star (E.map cliAt) :: Hs) w := hw.drop
    refine hw.cons fun _ h => h.cons fun _ h => ?_
    have e5 : (E ++ [(c, next, tok)]).map cliAt = E.map cliAt ++ cliAt (c, next, tok) :: [] := by simp
    rw [e5]
    refine star_mid.2 ?_
    rw [List.append_nil]
    exact h
  · obtain ⟨e, he, hkv⟩ := List.mem_map.1 (hin (k, v) (by simp))
    have hk : e.2.1 = k := congrArg Prod.fst hkv
    have hv : Value.pointer (some ⟨e.1, 0, none⟩) = v := congrArg Prod.snd hkv
    subst hk hv
    refine ⟨w', .inr ⟨_, _, hrun, e.2.1, some ⟨e.1, 0, none⟩, fun w2 h2 => by rw [show w2 = w' from h2]; exact hent, NilP.mk rfl ?_⟩⟩
    obtain ⟨A, C, hAC⟩ := List.append_of_mem he
    have hS : ∀ w2, (fun w2 => w2 = w') w2 → Sat R (pts e.1 (cliObj e.2.2) :: Star (A.map cliAt ++ C.map cliAt) :: ItAt r m (E.map clV) (a ++ b) :: pts p (tblC bk next m) :: tdNew b4 :: Hs) w2 := fun w2 h2 => by
      rw [show w2 = w' from h2]
      have h3 : Sat R (Star (E.map cliAt) :: ItAt r m (E.map clV) (a ++ b) :: pts p (tblC bk next m) :: tdNew b4 :: Hs) w' := hw'.arr
      have e5 : E.map cliAt = A.map cliAt ++ cliAt e :: C.map cliAt := by rw [hAC]; simp
      rw [e5] at h3
      exact star_mid.1 h3
    refine ⟨e.2.2, At.own (b := e.1) hS (by exact ⟨rfl, trivial⟩), Br.e (fun ht => ?_) (fun ht => ?_)⟩
    · refine store_rule hw' (by kernel_rfl) rfl (by simp [Value.cells]) fun w hw => ?_
      have hw := hw.re (tdC b4 ⟨0, e.2.1, 0, []⟩ nilS)
      refine ⟨0, e.2.1, 0, nilS, At.own (eqS hw) (by exact ⟨rfl, rfl, rfl, rfl, trivial⟩), .inl ⟨e, he, ht, rfl, ?_⟩⟩
      have hw : Sat R (ItAt r m (E.map clV) (a ++ b) :: pts p (tblC bk next m) :: Star (E.map cliAt) :: Hs) w := hw.drop
      exact Sat.tbl.2 ⟨m, bk, (ItAt.map hw).swap⟩
    · have hlen' := itLeft_eq hw'
      refine ⟨⟨a ++ b, fun e0 he0 h0 => ?_, fun x hx => hin x ?_, hw'⟩, ?_⟩
      · have h1 := hall e0 he0 h0
        rcases List.mem_append.1 h1 with h1 | h1
        · exact List.mem_append.2 (.inl h1)
        · rcases List.mem_cons.1 h1 with h1 | h1
          · have : e0 = e := ids_inj ok.ids he0 he (show (clV e0).1 = (clV e).1 from congrArg Prod.fst h1)
            rw [this] at h0
            exact absurd h0 ht
          · exact List.mem_append.2 (.inr h1)
      · rcases List.mem_append.1 hx with h1 | h1
        · exact List.mem_append.2 (.inl h1)
        · exact List.mem_append.2 (.inr (List.mem_cons_of_mem _ h1))
      · rw [hlen, hlen']
        simp
end Go.Proofs.YtadnmnkbgjippaaGreatDoor
/- Package session: Apply of a request that begins, or ends, a session; awake. Condition: bounds. -/
namespace Go.Proofs.YtadnmnkbgjippaaGreatDoor
set_option linter.unusedVariables false
open Go Go.VC
open Classical
variable {R : Cx} {Hs Rest : List HP} {w : World}
def begQ (tok : Int) : Rq := ⟨1, 0, 0, tok, []⟩
theorem begQ_right {tok : Int} (h : inI tok) : RightQ (begQ tok) := ⟨⟨Int.le_refl 0, by show (0 : Int) ≤ 1099511627776; omega⟩, ⟨Int.le_refl 0, by show (0 : Int) ≤ 1099511627776; omega⟩, h, by show 0 ≤ 4000; omega, .inl ⟨rfl, rfl, rfl, rfl⟩⟩
theorem bnewL_spec (hw : Sat R Hs w) : Gets Tryz.prog 33 #[] w fun v w' => ∃ p, v = .pointer (some ⟨p, 0, none⟩) ∧ Sat R Hs w' := by
  apply call33
  exact new_rule hw fun m1 w hw => new_rule hw fun m2 w hw => new_rule hw fun p w hw => ⟨p, rfl, hw.drop.drop.drop⟩
theorem snew_spec (hw : Sat R Hs w) : Gets Tryz.prog 12 #[] w fun v w' => ∃ p, v = .pointer (some ⟨p, 0, none⟩) ∧ Sat R (TblAt p 1 [] :: Hs) w' := by
  apply call12
  refine (bnewL_spec hw).use ?_
  rintro _ w ⟨p0, rfl, hw⟩
  refine ⟨_, rfl, new_rule hw fun m w hw => ?_⟩
  have hw := MapAt.new (α := Int) rfl hw
  refine new_rule hw fun p w hw => ⟨p, rfl, Sat.tbl.2 ⟨m, some ⟨p0, 0, none⟩, ?_⟩⟩
  exact hw.cons fun _ h => h.cons fun _ h => Sat.star.2 h
theorem encoded_spec {q : Rq} {s : Sl} (hs : Ro R s (b8 q.cmd)) (hw : Sat R Hs w) :
    Gets Tryz.prog 14 #[.agg #[.int .i64 q.kind, .int .i64 q.client, .int .i64 q.seq, .int .i64 q.token, .slice s.a s.len s.cap]] w fun v w' => ∃ t : Sl, v = .slice t.a t.len t.cap ∧ Sat R (Own t 5 (b8 (encQ q).1) :: Hs) w' := by
  apply call14
  refine new_rule hw fun b w hw => ?_
  have hw : Sat R (rqC b q s :: Hs) w := hw
  refine ⟨q.kind, q.client, q.seq, q.token, s, At.own (eqS hw) (by exact ⟨rfl, rfl, rfl, rfl, rfl, trivial⟩), ?_⟩
  refine (senc_spec hs hw).use ?_
  clear hw
  rintro _ w ⟨t, rfl, hw⟩
  exact ⟨t, _, rfl, t, rfl, hw.cons fun _ h => h.drop⟩
theorem rqB_bytes {q : Rq} (h : RightQ q) (hc : Bytes q.cmd) : Bytes (rqB q) := by
  have h1 := h.k4
  obtain ⟨a1, a2⟩ := h.client
  obtain ⟨a3, a4⟩ := h.seq
  obtain ⟨a5, a6⟩ := h.token
  have h2 := h.cmd
  intro y hy
  unfold rqB at hy
  rcases List.mem_append.1 hy with hy | hy
  · refine numsB_bd (l := [q.kind, q.client, q.seq, q.token]) (fun x hx => ?_) y hy
    simp only [List.mem_cons, List.not_mem_nil, or_false] at hx
    rcases hx with rfl | rfl | rfl | rfl <;> omega
  · unfold textB at hy
    rcases List.mem_append.1 hy with hy | hy
    · exact numB_bd (n := q.cmd.length) (by omega) y hy
    · exact hc y hy
set_option maxHeartbeats 1000000 in
theorem sapplyB_spec {p : Nat} {next tok : Int} {E : List CE} {s : Sl} (ok : TblOk next E) (hE : E.length < 64) (ht : inI tok) (hs : Ro R s (b8 (rqB (begQ tok)))) (hw : Sat R (TblAt p next E :: Hs) w) :
    Gets Tryz.prog 13 #[.pointer (some ⟨p, 0, none⟩), .slice s.a s.len s.cap] w fun v w' =>
      (∃ e ∈ E, e.2.2 = tok ∧ v = .agg (tdV ⟨0, e.2.1, 0, []⟩ nilS).toArray ∧ Sat R (TblAt p next E :: Hs) w') ∨
      ((∀ e ∈ E, e.2.2 ≠ tok) ∧ ∃ c, v = .agg (tdV ⟨0, next, 0, []⟩ nilS).toArray ∧ Sat R (TblAt p (next + 1) (E ++ [(c, next, tok)]) :: Hs) w') := by
  have hr := begQ_right ht
  have hlen := rqB_len hr
  apply call13
  refine new_rule hw fun b4 w hw => ?_
  have hw : Sat R (tdNew b4 :: TblAt p next E :: Hs) w := hw
  refine (sdec_spec (rqB_bytes hr (fun _ h => by cases h)) (by omega) hs hw).use ?_
  clear hw
  rintro _ w ⟨t, rfl, hw⟩
  rw [rqDec_back hr] at hw ⊢
  have hw := hw.drop
  refine ⟨1, 0, 0, tok, t, 0, rfl, ?_⟩
  refine new_rule hw fun b5 w hw => ?_
  refine store_rule hw (by kernel_rfl) rfl (by simp [Value.cells]) fun w hw => ?_
  have hw := hw.re (rqC b5 (begQ tok) t)
  refine Br.ne (fun h => absurd rfl h) (fun _ => ?_)
  refine ⟨1, At.own (eqS hw) (by exact ⟨rfl, trivial⟩), Br.e (fun h => by cases h) (fun _ => ?_)⟩
  refine ⟨1, At.own (eqS hw) (by exact ⟨rfl, trivial⟩), Br.e (fun _ => ?_) (fun h => absurd rfl h)⟩
  refine ⟨tok, At.own (eqS hw) (by exact ⟨rfl, trivial⟩), ?_⟩
  have hw : Sat R (TblAt p next E :: tdNew b4 :: rqC b5 (begQ tok) t :: Hs) w := hw.arr
  refine (sbegin_spec (tok := tok) ok hE hw).use ?_
  clear hw
  rintro _ w (⟨e, he, het, rfl, hw⟩ | ⟨hno, c, rfl, hw⟩)
  · refine ⟨0, e.2.1, 0, nilS, rfl, ?_⟩
    refine store_rule hw (by kernel_rfl) rfl (by simp [Value.cells]) fun w hw => ?_
    have hw := hw.re (tdC b4 ⟨0, e.2.1, 0, []⟩ nilS)
    refine ⟨0, e.2.1, 0, nilS, At.own (eqS hw) (by exact ⟨rfl, rfl, rfl, rfl, trivial⟩), .inl ⟨e, he, het, rfl, ?_⟩⟩
    exact hw.drop.cons fun _ h => h.drop
  · refine ⟨0, next, 0, nilS, rfl, ?_⟩
    refine store_rule hw (by kernel_rfl) rfl (by simp [Value.cells]) fun w hw => ?_
    have hw := hw.re (tdC b4 ⟨0, next, 0, []⟩ nilS)
    refine ⟨0, next, 0, nilS, At.own (eqS hw) (by exact ⟨rfl, rfl, rfl, rfl, trivial⟩), .inr ⟨hno, c, rfl, ?_⟩⟩
    exact hw.drop.cons fun _ h => h.drop
theorem ok_new : TblOk 1 [] := ⟨⟨by omega, by omega⟩, fun _ h => (by cases h), List.nodup_nil⟩
theorem aw19_spec (hw : Sat R Hs w) : Gets Tryz.prog 6 #[] w fun v w' => v = .bool true ∧ Sat R Hs w' := by
  apply call6
  refine (snew_spec hw).use ?_
  clear hw
  rintro _ w ⟨p, rfl, hw⟩
  refine ⟨_, rfl, Br.f rfl ?_⟩
  have h9 : inI 9 := ⟨by omega, by omega⟩
  refine (encoded_spec (q := begQ 9) (s := nilS) ⟨rfl, by show 0 ≤ 9223372036854775807; omega, fun h => absurd rfl h⟩ hw).use ?_
  clear hw
  rintro _ w ⟨t, rfl, hw⟩
  have he : (encQ (begQ 9)).1 = rqB (begQ 9) := by unfold encQ; rw [if_pos (begQ_right h9)]
  rw [he] at hw
  have hlen := rqB_len (begQ_right h9)
  obtain ⟨R1, e1, g1, hw⟩ := Own.leak hw
  refine ⟨t, rfl, ?_⟩
  refine (sapplyB_spec ok_new (by show 0 < 64; omega) h9 (g1.ro (by rw [List.length_map]; omega)) hw).use ?_
  clear hw
  rintro _ w (⟨e, he, _⟩ | ⟨_, c, rfl, hw⟩)
  · cases he
  refine ⟨0, 1, 0, nilS, rfl, ?_⟩
  refine new_rule hw fun b w hw => ?_
  refine store_rule hw (by kernel_rfl) rfl (by simp [Value.cells]) fun w hw => ?_
  have hw := hw.re (tdC b ⟨0, 1, 0, []⟩ nilS)
  refine ⟨0, At.own (eqS hw) (by exact ⟨rfl, trivial⟩), Br.e (fun _ => ?_) (fun h => absurd rfl h)⟩
  exact ⟨1, At.own (eqS hw) (by exact ⟨rfl, trivial⟩), rfl, e1.back hw.drop.drop⟩
end Go.Proofs.YtadnmnkbgjippaaGreatDoor
/- Chapter 19: SessionCodes, SessionAnswers. Condition: bounds on lengths. -/
namespace Go.Proofs.YtadnmnkbgjippaaGreatDoor
set_option linter.unusedVariables false
open Go Go.VC
open Classical
variable {R : Cx} {Hs Rest : List HP} {w : World}
theorem tdDec_len {bs : List Int} (hb : Bytes bs) : (tdDec bs).1.reply.length ≤ bs.length := by
  unfold tdDec
  split
  · show (rdText 65536 _).1.length ≤ _
    exact Nat.le_trans rdText_len.1 (Nat.le_trans rdNum_len (Nat.le_trans rdNum_len rdNum_len))
  · show 0 ≤ _; omega
theorem tdB_len {t : Told} (hc : ∀ x ∈ [t.code, t.client, t.seq], x < 9223372036854775808) (hl : t.reply.length ≤ 100000) : (tdB t).length ≤ 9223372036854775807 := by
  have l1 := numsB_len (l := [t.code, t.client, t.seq].map nn) fun y hy => by obtain ⟨x, hx, rfl⟩ := List.mem_map.1 hy; have := nn_bd (hc x hx); omega
  have l2 := textB_len (d := t.reply) (by omega)
  have e3 : ([t.code, t.client, t.seq].map nn).length = 3 := rfl
  unfold tdB
  rw [List.length_append]
  omega
set_option maxHeartbeats 1000000 in
theorem sanswers_lspec {q : Told} {sq s : Sl} {bs : List Int} (hi : ∀ x ∈ [q.code, q.client, q.seq], x < 9223372036854775808) (hq : SlR R.m sq (b8 q.reply)) (hs : SlR R.m s (b8 bs)) (hb : Bytes bs) (hw : Sat R Hs w) :
    Gets Tryz.prog 5 #[.agg #[.int .i64 q.code, .int .i64 q.client, .int .i64 q.seq, .slice sq.a sq.len sq.cap], .slice s.a s.len s.cap] w fun v w' => v = .bool true ∧ Sat R Hs w' := by
  have hqlen : sq.len = q.reply.length := by have := hq.len; simpa using this
  have hslen : s.len = bs.length := by have := hs.len; simpa using this
  apply call5
  suffices H : ∀ K : Value → World → Prop, (∀ w', Sat R Hs w' → K (.bool true) w') → B5 q.code q.client q.seq sq s K w from H _ fun w' h => ⟨rfl, h⟩
  intro K hK
  refine new_rule hw fun b2 w hw => ?_
  have hw : Sat R (tdC b2 q sq :: Hs) w := hw
  refine (aw19_spec hw).use ?_
  clear hw
  rintro _ w ⟨rfl, hw⟩
  refine ⟨_, rfl, fun w => (q.reply.length ≤ 100000 ∧ bs.length ≤ 100000) ∧ Sat R (tdC b2 q sq :: Hs) w, Br.f rfl ?_, ?_⟩
  · refine ⟨sq, At.own (eqS hw) (by exact ⟨rfl, trivial⟩), Br.d (fun _ => hK _ hw.drop) (fun h1 => Br.d (fun _ => hK _ hw.drop) (fun h2 => ⟨⟨by omega, by omega⟩, hw⟩))⟩
  clear hw
  rintro _ w ⟨⟨h1, h2⟩, hw⟩
  have hqr : Ro R sq (b8 q.reply) := hq.ro (by rw [List.length_map]; omega)
  refine ⟨q.code, q.client, q.seq, sq, At.own (eqS hw) (by exact ⟨rfl, rfl, rfl, rfl, trivial⟩), ?_⟩
  refine (sanswer_spec hi h1 hqr hw).use ?_
  clear hw
  rintro _ w ⟨t1, rfl, hw⟩
  refine ⟨t1, rfl, ?_⟩
  refine (sread_spec hb (by omega) (hs.ro (by rw [List.length_map]; omega)) hw).use ?_
  clear hw
  rintro _ w ⟨g1, rfl, hw⟩
  have hr19 := fun {Hs : List HP} {w : World} (hw : Sat R Hs w) => r19read_spec hb (by omega) hs hw
  have hcl := tdDec_len hb
  generalize (tdDec bs).1 = C at *
  generalize (tdDec bs).2 = e at *
  refine ⟨C.code, C.client, C.seq, g1, e, rfl, ?_⟩
  refine new_rule hw fun y w hw => ?_
  refine store_rule hw (by kernel_rfl) rfl (by simp [Value.cells]) fun w hw => ?_
  have hw := hw.re (tdC y C g1)
  refine (hr19 hw).use ?_
  clear hw
  rintro _ w ⟨g2, rfl, hw⟩
  refine ⟨C.code, C.client, C.seq, g2, e, rfl, ?_⟩
  refine new_rule hw fun z w hw => ?_
  refine store_rule hw (by kernel_rfl) rfl (by simp [Value.cells]) fun w hw => ?_
  have hw := hw.re (tdC z C g2)
  refine ⟨C.code, C.client, C.seq, g1, At.own (eqS hw) (by exact ⟨rfl, rfl, rfl, rfl, trivial⟩), ?_⟩
  refine ⟨C.code, C.client, C.seq, g2, At.own (eqS hw) (by exact ⟨rfl, rfl, rfl, rfl, trivial⟩), ?_⟩
  have hw : Sat R (Own g1 5 (b8 C.reply) :: Own g2 5 (b8 C.reply) :: Own t1 5 (b8 (tdB q)) :: tdC z C g2 :: tdC y C g1 :: tdC b2 q sq :: Hs) w := hw.arr
  obtain ⟨R1, e1, r1, hw⟩ := Own.leak hw
  obtain ⟨R2, e2, r2, hw⟩ := Own.leak hw
  refine (sameT19_spec (e2.ro (r1.ro (by rw [List.length_map]; omega))) (r2.ro (by rw [List.length_map]; omega)) hw).use ?_
  clear hw
  rintro _ w ⟨rfl, hw⟩
  refine ⟨_, rfl, ?_⟩
  have hl := tdB_len hi h1
  refine drw_rule' (Sat R2 [Own t1 5 (b8 (tdB q)), VC.tru]) hw (fun w hw => hw.restTru2) fun w hw => ?_
  refine ⟨VC.strOf (tdB q), fun w' h => ?_, ?_⟩
  · obtain ⟨_, q1, _, hw1, _⟩ := Own.lend h (by rw [List.length_map]; exact hl)
    exact convS_ro Tryz.underlying22 Tryz.underlying5 Tryz.underlying9 hw1 q1
  refine ⟨q.code, q.client, q.seq, sq, At.own (eqS hw) (by exact ⟨rfl, rfl, rfl, rfl, trivial⟩), ?_⟩
  refine (r19answer_spec hi h1 (e2.ro (e1.ro hqr)) hw).use ?_
  clear hw
  rintro _ w ⟨t2, rfl, hw⟩
  refine ⟨t2, rfl, hw.swap.restTru2, VC.strOf (tdB q), fun w' h => ?_, ?_⟩
  · rw [show w' = w from h]
    obtain ⟨_, q1, _, hw1, _⟩ := Own.lend hw (by rw [List.length_map]; exact hl)
    exact convS_ro Tryz.underlying22 Tryz.underlying5 Tryz.underlying9 hw1 q1
  refine Br.se (fun _ => Br.t rfl ?_) (fun h => absurd rfl h)
  rw [beq_self_eq_true]
  exact hK _ (e1.back (e2.back hw.drop.drop.drop.drop.drop))
end Go.Proofs.YtadnmnkbgjippaaGreatDoor
/- ROW: from a reading of an argument to what the contracts ask; from a walk's end to 'Below'. No condition. -/
namespace Go.VC
set_option linter.unusedVariables false
open Go.ChangeShapes Go.WideShapes Go.ChangeAt Go.RowKit
theorem below_of {W W' : World} {Hs : List HP} (h : Sat (Cx.of W) Hs W') : Below W.heap.size W W' := by
  obtain ⟨h1, h2, h3⟩ := h.streams
  have hb : ∀ k, k < W.heap.size → W'.heap[k]? = W.heap[k]? := fun k hk => by
    have : (Cx.of W).m k = some W.heap[k] := by simp [Cx.of, hk]
    rw [h.of_ro this]; simp [hk]
  refine ⟨h1, h2, h3, ?_, hb⟩
  rcases Nat.lt_or_ge W'.heap.size W.heap.size with hl | hl
  · have := hb W'.heap.size hl
    rw [Array.getElem?_eq_none (Nat.le_refl _)] at this
    simp [hl] at this
  · exact hl
theorem block_of_cell {w : World} {a : Addr} {v : Value} (h : w.cell? a = some v) : a.spot = none ∧ ∃ l T fr, w.heap[a.block]? = some (.cells l T fr) ∧ l[a.off]? = some v := by
  unfold World.cell? at h
  split at h
  · rename_i c T fr hb
    split at h
    · cases h
    · rename_i hs
      exact ⟨by simpa using hs, c, T, fr, hb, h⟩
  · cases h
section
variable {H : Type} {enc : TypeId × Value → H} {P : Program} {W : World} {base : Nat} {spare : Nat → Bool} {held : Bool}
end
end Go.VC

/- ROW, part 3: arguments of any plain type (integers, bools, floats, strings, slices, structs, arrays of such), read as trees. No condition. -/
namespace Go.VC
set_option linter.unusedVariables false
open Go.ChangeShapes Go.WideShapes Go.ChangeAt Go.RowKit
inductive Tr where
  | int (k : IntKind) (n : Int) | bool (b : Bool) | flt (n : Nat) | str (s : ByteArray) | sl (s : Sl) (xs : List Tr) | st (xs : List Tr)
mutual
def Tr.cells : Tr → List Value
  | .int k n => [.int k n]
  | .bool b => [.bool b]
  | .flt n => [.float .f64 n]
  | .str s => [.string s]
  | .sl s _ => [.slice s.a s.len s.cap]
  | .st xs => Tr.cellsL xs
def Tr.cellsL : List Tr → List Value
  | [] => []
  | x :: xs => x.cells ++ Tr.cellsL xs
end
inductive U where
  | int (k : IntKind) | bool | flt | str | sl (u : U) | st (us : List U)
mutual
def U.size : U → Nat
  | .st us => U.sizeL us
  | _ => 1
def U.sizeL : List U → Nat
  | [] => 0
  | u :: us => u.size + U.sizeL us
end
mutual
def Tr.Ok (R : Cx) : U → Tr → Prop
  | .int k, .int k' n => k' = k ∧ (Lit.int k n).wf = true
  | .bool, .bool _ => True
  | .flt, .flt n => (Lit.float .f64 n).wf = true
  | .str, .str s => s.size ≤ maxLen
  | .sl u, .sl s xs => (RoN u.size R s (xs.map Tr.cells) ∧ s.len ≤ s.cap) ∧ xs.length ≤ maxLen ∧ Tr.OkA R u xs
  | .st us, .st xs => Tr.OkL R us xs
  | _, _ => False
def Tr.OkA (R : Cx) (u : U) : List Tr → Prop
  | [] => True
  | x :: xs => Tr.Ok R u x ∧ Tr.OkA R u xs
def Tr.OkL (R : Cx) : List U → List Tr → Prop
  | [], [] => True
  | u :: us, x :: xs => Tr.Ok R u x ∧ Tr.OkL R us xs
  | _, _ => False
end
theorem Tr.okA {R : Cx} {u : U} : ∀ {xs : List Tr}, Tr.OkA R u xs → ∀ x ∈ xs, Tr.Ok R u x
  | [], _, x, hx => by cases hx
  | y :: ys, h, x, hx => by
    unfold Tr.OkA at h
    rcases List.mem_cons.1 hx with rfl | hx
    · exact h.1
    · exact Tr.okA h.2 x hx
theorem Tr.okA_mk {R : Cx} {u : U} : ∀ {xs : List Tr}, (∀ x ∈ xs, Tr.Ok R u x) → Tr.OkA R u xs
  | [], _ => by unfold Tr.OkA; trivial
  | y :: ys, h => by
    unfold Tr.OkA
    exact ⟨h y List.mem_cons_self, Tr.okA_mk fun x hx => h x (List.mem_cons_of_mem _ hx)⟩
def fieldsU (P : Program) (f : TypeId → Option U) : Nat → List Field → Option (List U)
  | _, [] => some []
  | off, x :: xs => match Nat.beq x.offset off with
    | false => none
    | true => match f x.type with
      | none => none
      | some u => match Nat.beq (P.cellsOf x.type) u.size with
        | false => none
        | true => match fieldsU P f (off + u.size) xs with
          | none => none
          | some us => some (u :: us)
def uOf (P : Program) : Nat → TypeId → Option U
  | 0, _ => none
  | d + 1, t => match P.underlying t with
    | some (.int k) => some (.int k)
    | some .bool => some .bool
    | some (.float .f64) => some .flt
    | some .string => some .str
    | some (.slice e) => match uOf P d e with
      | some u => (match Nat.beq (P.cellsOf e) u.size && Nat.blt 0 u.size with | true => some (.sl u) | false => none)
      | none => none
    | some (.struct fs) => match fieldsU P (uOf P d) 0 fs.toList with
      | some us => (match Nat.beq (P.cellsOf t) (U.sizeL us) with | true => some (.st us) | false => none)
      | none => none
    | some (.array n e) => match uOf P d e with
      | some u => (match Nat.beq (P.cellsOf e) u.size && Nat.beq (P.cellsOf t) (n * u.size) with | true => some (.st (List.replicate n u)) | false => none)
      | none => none
    | _ => none
section
variable {H : Type} {enc : TypeId × Value → H} {P : Program} {W : World} {base : Nat} {spare : Nat → Bool} {held : Bool}
def IsTr (R : Cx) (u : U) (cs : List Value) : Prop := ∃ x : Tr, x.cells = cs ∧ x.Ok R u
theorem cells?_cell {w : World} {base : Nat} {a : Addr} {n : Nat} {cs : List Value} (h : w.cells? base a n = some cs) : cs.length = n ∧ ∀ i, i < n → w.cell? (a.add i) = cs[i]? := by
  unfold World.cells? at h
  split at h
  · refine ⟨by have := mapM_some_length h; simpa using this, fun i hi => mapM_some_get h i i (by simp [hi])⟩
  · cases h
theorem add_add (a : Addr) (i j : Nat) (hs : a.spot = none) : (a.add i).add j = ⟨a.block, a.off + (i + j), none⟩ := by
  obtain ⟨b, o, s⟩ := a
  simp only at hs
  subst hs
  rw [add_off, add_off, Nat.add_assoc]
theorem fields_read {d : Nat} (ih : ∀ {fuel : Nat} {t : TypeId} {cs : List Value} {y : DataW H × List MemPlace} {u : U}, uOf P d t = some u → DataW.trod enc P W base spare held fuel t cs = some y → IsTr (Cx.of W) u cs) {n : Nat} {cs : List Value} {xs : List (DataW H × List MemPlace)} :
    ∀ (fs : List Field) (off : Nat) (us : List U), fieldsU P (uOf P d) off fs = some us → (∀ (i : Nat) (f : Field), fs[i]? = some f → ∃ y, DataW.trod enc P W base spare held n f.type ((cs.drop f.offset).take (P.cellsOf f.type)) = some y) →
      off + U.sizeL us ≤ cs.length → ∃ ts : List Tr, Tr.cellsL ts = (cs.drop off).take (U.sizeL us) ∧ Tr.OkL (Cx.of W) us ts
  | [], off, us, h, _, _ => by
    simp only [fieldsU, Option.some.injEq] at h
    subst h
    exact ⟨[], by simp [Tr.cellsL, U.sizeL], by unfold Tr.OkL; trivial⟩
  | f :: fs, off, us, h, hf, hl => by
    unfold fieldsU at h
    split at h
    · cases h
    rename_i hoff
    have hoff := Nat.eq_of_beq_eq_true hoff
    split at h
    · cases h
    rename_i u hu
    split at h
    · cases h
    rename_i hc
    have hc := Nat.eq_of_beq_eq_true hc
    split at h
    · cases h
    rename_i us' hus
    cases h
    simp only [U.sizeL] at hl ⊢
    obtain ⟨y, hy⟩ := hf 0 f rfl
    obtain ⟨x, hx, hxo⟩ := ih hu hy
    obtain ⟨ts, hts, htso⟩ := fields_read ih (n := n) (xs := xs) fs (off + u.size) us' hus (fun i g hg => hf (i + 1) g (by simpa using hg)) (by omega)
    refine ⟨x :: ts, ?_, by unfold Tr.OkL; exact ⟨hxo, htso⟩⟩
    simp only [Tr.cellsL]
    rw [hx, hts, hoff, hc, List.take_add, List.drop_drop]
theorem reps_read {u : U} {n s : Nat} : ∀ {m : Nat} {cs : List Value}, cs.length = m * s → u.size = s → (∀ i, i < m → IsTr (Cx.of W) u ((cs.drop (i * s)).take s)) → ∃ ts : List Tr, Tr.cellsL ts = cs ∧ Tr.OkL (Cx.of W) (List.replicate m u) ts
  | 0, cs, hl, _, _ => by
    have : cs = [] := List.length_eq_zero_iff.1 (by simpa using hl)
    subst this
    exact ⟨[], rfl, by unfold Tr.OkL; trivial⟩
  | m + 1, cs, hl, hs, h => by
    obtain ⟨x, hx, hxo⟩ := h 0 (by omega)
    obtain ⟨ts, hts, htso⟩ := reps_read (n := n) (m := m) (cs := cs.drop s) (by rw [List.length_drop, hl, Nat.add_mul]; omega) hs (fun i hi => by
      have := h (i + 1) (by omega)
      rw [Nat.add_mul, Nat.one_mul, Nat.add_comm, ← List.drop_drop] at this
      exact this)
    refine ⟨x :: ts, ?_, by rw [List.replicate_succ]; unfold Tr.OkL; exact ⟨hxo, htso⟩⟩
    simp only [Tr.cellsL]
    rw [hx, hts]
    simp
theorem choose_list {α β : Type} {p : Nat → α → Prop} : ∀ {n : Nat}, (∀ i, i < n → ∃ x : α, p i x) → ∃ xs : List α, xs.length = n ∧ ∀ i (hi : i < xs.length), p i xs[i]
  | 0, _ => ⟨[], rfl, fun i hi => by simp at hi⟩
  | n + 1, h => by
    obtain ⟨xs, hl, hp⟩ := choose_list (β := β) (n := n) fun i hi => h i (by omega)
    obtain ⟨x, hx⟩ := h n (by omega)
    refine ⟨xs ++ [x], by simp [hl], fun i hi => ?_⟩
    by_cases h2 : i < xs.length
    · rw [List.getElem_append_left h2]; exact hp i h2
    · have : i = n := by simp at hi; omega
      subst this
      rw [List.getElem_append_right (by omega)]
      simpa using hx
theorem trod_f64 {fuel : Nat} {t : TypeId} {cs : List Value} {x : DataW H × List MemPlace} (ht : P.underlying t = some (.float .f64)) (h : DataW.trod enc P W base spare held fuel t cs = some x) : ∃ n, cs = [.float .f64 n] ∧ (Lit.float .f64 n).wf = true := by
  cases fuel with
  | zero => simp [DataW.trod] at h
  | succ n =>
    unfold DataW.trod at h
    rw [ht] at h
    split at h <;> simp_all
theorem tr_read : ∀ {d fuel : Nat} {t : TypeId} {cs : List Value} {y : DataW H × List MemPlace} {u : U}, uOf P d t = some u → DataW.trod enc P W base spare held fuel t cs = some y → IsTr (Cx.of W) u cs
  | 0, _, _, _, _, _, h, _ => by cases h
  | d + 1, fuel, t, cs, y, u, h, hy => by
    unfold uOf at h
    split at h
    · rename_i k ht
      cases h
      obtain ⟨n, rfl, _, hw⟩ := DataW.trod_int ht hy
      exact ⟨.int k n, rfl, rfl, hw⟩
    · rename_i ht
      cases h
      obtain ⟨b, rfl, _⟩ := DataW.trod_bool ht hy
      exact ⟨.bool b, rfl, by unfold Tr.Ok; trivial⟩
    · rename_i ht
      cases h
      obtain ⟨n, rfl, hn⟩ := trod_f64 ht hy
      exact ⟨.flt n, rfl, by unfold Tr.Ok; exact hn⟩
    · rename_i ht
      cases h
      obtain ⟨s, rfl, _, hs⟩ := DataW.trod_string ht hy
      exact ⟨.str s, rfl, hs⟩
    · rename_i e ht
      split at h
      case h_2 => cases h
      rename_i ue hue
      split at h
      case h_2 => cases h
      rename_i hc
      simp only [Bool.and_eq_true] at hc
      have hpos : 0 < ue.size := Nat.blt_eq.mp hc.2
      have hc := Nat.eq_of_beq_eq_true hc.1
      cases h
      rcases DataW.trod_slice ht hy with ⟨rfl, _⟩ | ⟨a, len, cap, elems, rest, n, _, rfl, _, _, hlc, hcm, hel, helem, _, _⟩
      · refine ⟨.sl ⟨none, 0, 0⟩ [], rfl, ?_⟩
        unfold Tr.Ok
        exact ⟨⟨⟨Wid.nil, rfl, fun h => absurd rfl h⟩, Nat.le_refl _⟩, Nat.zero_le _, by unfold Tr.OkA; trivial⟩
      · obtain ⟨xs, hxl, hxs⟩ := choose_list (β := Unit) (p := fun i (x : Tr) => W.cells? base (a.add (i * P.cellsOf e)) (P.cellsOf e) = some x.cells ∧ x.Ok (Cx.of W) ue) (n := len) fun i hi => by
          have h1 := helem i hi
          rw [List.getElem?_eq_getElem (by omega)] at h1
          obtain ⟨ce, hce, hte⟩ := Option.bind_eq_some_iff.1 h1
          obtain ⟨x, rfl, hx⟩ := tr_read hue hte
          exact ⟨x, hce, hx⟩
        refine ⟨.sl ⟨some a, len, cap⟩ xs, rfl, ?_⟩
        unfold Tr.Ok
        have hwid : Wid ue.size (xs.map Tr.cells) := fun r hr => by
          obtain ⟨x, hx, rfl⟩ := List.mem_map.1 hr
          obtain ⟨i, hi, rfl⟩ := List.getElem_of_mem hx
          have := (cells?_cell (hxs i hi).1).1
          rw [this, hc]
        refine ⟨⟨⟨hwid, by simp [hxl], fun hne => ?_⟩, hlc⟩, by omega, Tr.okA_mk fun x hx => by obtain ⟨i, hi, rfl⟩ := List.getElem_of_mem hx; exact (hxs i hi).2⟩
        -- the block
        have h0 : 0 < xs.length := by
          have : 0 < (xs.map Tr.cells).length := List.length_pos_iff.2 hne
          simpa using this
        have hcell : ∀ i (hi : i < xs.length) j, j < ue.size → W.cell? ((a.add (i * ue.size)).add j) = (xs[i].cells)[j]? := fun i hi j hj => by
          have := (cells?_cell (hxs i hi).1).2 j (by rw [hc]; exact hj)
          rw [hc] at this; exact this
        have hxl0 : ∀ i (hi : i < xs.length), (xs[i].cells).length = ue.size := fun i hi => by rw [(cells?_cell (hxs i hi).1).1, hc]
        have hc0 := hcell 0 h0 0 (by omega)
        rw [List.getElem?_eq_getElem (by rw [hxl0 0 h0]; omega)] at hc0
        have hz0 : (a.add (0 * ue.size)).add 0 = a := by rw [Nat.zero_mul]; simp [Addr.add]
        rw [hz0] at hc0
        obtain ⟨hs, l, T, fr, hl, _⟩ := block_of_cell hc0
        refine ⟨a.block, a.off, l, T, fr, by cases a; simp_all, hl, fun i v hv => ?_⟩
        -- which row, which place
        have hlen := hwid.len
        rw [List.length_map] at hlen
        have hi : i < (xs.map Tr.cells).flatten.length := (List.getElem?_eq_some_iff.1 hv).1
        have hq : i / ue.size < xs.length := by
          rw [hlen] at hi; exact Nat.div_lt_of_lt_mul (by rwa [Nat.mul_comm])
        have hm : i % ue.size < ue.size := Nat.mod_lt _ (by omega)
        have hcc := hcell (i / ue.size) hq (i % ue.size) hm
        rw [add_add a _ _ hs, show i / ue.size * ue.size + i % ue.size = i by rw [Nat.mul_comm]; exact Nat.div_add_mod _ _] at hcc
        have e1 : (xs.map Tr.cells).flatten[i]? = (xs[i / ue.size].cells)[i % ue.size]? := by
          have h1 : i = i / ue.size * ue.size + i % ue.size := by rw [Nat.mul_comm]; exact (Nat.div_add_mod _ _).symm
          conv => lhs; rw [h1]
          rw [← List.getElem?_drop, hwid.drop_flat, List.drop_eq_getElem_cons (by simpa using hq), List.flatten_cons, List.getElem?_append_left (by rw [List.getElem_map, hxl0 _ hq]; exact hm), List.getElem_map]
        rw [← e1, hv] at hcc
        simp only [World.cell?, hl, Option.isSome_none, Bool.false_eq_true, if_false] at hcc
        exact hcc
    · rename_i fs ht
      split at h
      case h_2 => cases h
      rename_i us hus
      split at h
      case h_2 => cases h
      rename_i hc
      have hc := Nat.eq_of_beq_eq_true hc
      cases h
      obtain ⟨xs, n, _, _, hl, hxl, hf⟩ := DataW.trod_struct ht hy
      obtain ⟨ts, hts, hto⟩ := fields_read (d := d) (fun h h2 => tr_read h h2) (n := n) (cs := cs) (xs := xs) fs.toList 0 us hus (fun i f hfi => by
        have hfi2 : fs[i]? = some f := by simpa using hfi
        have hlt : i < xs.length := by rw [hxl]; exact (Array.getElem?_eq_some_iff.1 hfi2).1
        exact ⟨xs[i], by rw [hf i f hfi2]; exact List.getElem?_eq_getElem hlt⟩) (by omega)
      refine ⟨.st ts, ?_, by unfold Tr.Ok; exact hto⟩
      unfold Tr.cells
      rw [hts, List.drop_zero, List.take_of_length_le (by omega)]
    · rename_i m e ht
      split at h
      case h_2 => cases h
      rename_i ue hue
      split at h
      case h_2 => cases h
      rename_i hc
      simp only [Bool.and_eq_true] at hc
      have hc1 := Nat.eq_of_beq_eq_true hc.1
      have hc2 := Nat.eq_of_beq_eq_true hc.2
      cases h
      obtain ⟨xs, n, _, _, hl, hxl, hf⟩ := DataW.trod_array ht hy
      obtain ⟨ts, hts, hto⟩ := reps_read (n := n) (u := ue) (s := ue.size) (m := m) (cs := cs) (by rw [hl, hc2]) rfl (fun i hi => by
        have := hf i hi
        rw [hc1, List.getElem?_eq_getElem (by omega)] at this
        exact tr_read hue this)
      exact ⟨.st ts, by unfold Tr.cells; exact hts, by unfold Tr.Ok; exact hto⟩
    · cases h
theorem tr_arg {d : Nat} {t : TypeId} {v : Value} {dt : DataW H} {p : List MemPlace} {u : U} (hu : uOf P d t = some u) (h : DataW.Trod enc P W base spare held t v dt p) : IsTr (Cx.of W) u v.cells.toList := by
  obtain ⟨fuel, hf⟩ := h
  exact tr_read hu hf
theorem sl_form {α : Type} {R : Cx} {u : U} {s : Sl} {xs : List Tr} (g : α → List Value) (Q : α → Prop) (ho : Tr.Ok R (.sl u) (.sl s xs)) (h : ∀ x : Tr, x.Ok R u → ∃ e : α, x.cells = g e ∧ Q e) :
    ∃ es : List α, RoN u.size R s (es.map g) ∧ es.length ≤ maxLen ∧ ∀ e ∈ es, Q e := by
  unfold Tr.Ok at ho
  obtain ⟨⟨h1, _⟩, h2, h3⟩ := ho
  have key : ∀ l : List Tr, (∀ x ∈ l, x.Ok R u) → ∃ es : List α, l.map Tr.cells = es.map g ∧ es.length = l.length ∧ ∀ e ∈ es, Q e := fun l => by
    induction l with
    | nil => exact fun _ => ⟨[], rfl, rfl, fun _ h => by cases h⟩
    | cons x l ih =>
      intro hl
      obtain ⟨es, h1, h2, h3⟩ := ih fun y hy => hl y (List.mem_cons_of_mem _ hy)
      obtain ⟨e, he, hq⟩ := h x (hl x List.mem_cons_self)
      exact ⟨e :: es, by rw [List.map_cons, List.map_cons, he, h1], by simp [h2], fun y hy => by
        rcases List.mem_cons.1 hy with rfl | hy
        · exact hq
        · exact h3 y hy⟩
  obtain ⟨es, e1, e2, e3⟩ := key xs (Tr.okA h3)
  rw [e1] at h1
  exact ⟨es, h1, by omega, e3⟩
theorem sl_cap {R : Cx} {u : U} {s : Sl} {xs : List Tr} (ho : Tr.Ok R (.sl u) (.sl s xs)) : s.len ≤ s.cap := by
  unfold Tr.Ok at ho
  exact ho.1.2
theorem RoN.one {R : Cx} {s : Sl} {vs : List Value} (h : RoN 1 R s (vs.map fun v => [v])) (hb : vs.length ≤ maxLen) : Ro R s vs := by
  refine ⟨by have := h.len; simpa using this, by unfold maxLen at hb; omega, fun hne => ?_⟩
  obtain ⟨b, off, l, T, fr, h1, h2, h3⟩ := h.mem (by simpa using hne)
  refine ⟨b, off, l, T, fr, h1, h2, fun i v hv => h3 i v ?_⟩
  have : (vs.map fun v => [v]).flatten = vs := by
    clear h3 h hb hne hv
    induction vs with
    | nil => rfl
    | cons v vs ih => simp [ih]
  rw [this]; exact hv
theorem ints_form {R : Cx} {k : IntKind} {s : Sl} {xs : List Tr} (ho : Tr.Ok R (.sl (.int k)) (.sl s xs)) : ∃ zs : List Int, Ro R s (zs.map (Value.int k)) ∧ zs.length ≤ maxLen ∧ ∀ z ∈ zs, (Lit.int k z).wf = true := by
  obtain ⟨zs, h1, h2, h3⟩ := sl_form (fun z : Int => [Value.int k z]) (fun z => (Lit.int k z).wf = true) ho fun x hx => by
    cases x <;> simp only [Tr.Ok] at hx
    rename_i k' z
    obtain ⟨rfl, hw⟩ := hx
    exact ⟨z, rfl, hw⟩
  refine ⟨zs, RoN.one ?_ (by simpa using h2), h2, h3⟩
  rw [List.map_map]
  exact h1
end
end Go.VC
/- The arguments of chapter 19's laws. No condition. -/
namespace Go.Proofs.YtadnmnkbgjippaaGreatDoor
set_option linter.unusedVariables false
open Go Go.VC Go.ChangeShapes Go.WideShapes Go.ChangeAt Go.RowKit
variable {H : Type} {enc : TypeId × Value → H} {W : World} {r : Reach} {b0 : Nat} {v : Value} {d : DataW H} {p : List MemPlace}
theorem u8_form {R : Cx} {s : Sl} {xs : List Tr} (ho : Tr.Ok R (.sl (.int .u8)) (.sl s xs)) : ∃ bs : List Int, SlR R.m s (b8 bs) ∧ Bytes bs := by
  obtain ⟨bs, h1, h2, h3⟩ := ints_form ho
  refine ⟨bs, ⟨h1.len, sl_cap ho, h1.mem⟩, fun z hz => ?_⟩
  have := h3 z hz
  simp [Lit.wf, IntKind.min, IntKind.max, IntKind.bits, IntKind.signed] at this
  omega
set_option maxRecDepth 100000 in
theorem bytes19_in (hv : Value.okWide Tryz.prog W r b0 22 v) (h : DataW.Trod enc Tryz.prog W 0 (fun _ => true) true 22 v d p) :
    ∃ (s : Sl) (bs : List Int), v = .slice s.a s.len s.cap ∧ SlR (Cx.of W).m s (b8 bs) ∧ Bytes bs := by
  obtain ⟨a, n, c, rfl⟩ := okWide_slice Tryz.underlying22 hv
  obtain ⟨x, hx, ho⟩ := tr_arg (d := 6) (u := .sl (.int .u8)) (by kernel_rfl) h
  cases x <;> simp only [Tr.Ok] at ho
  rename_i s xs
  have ho : Tr.Ok (Cx.of W) (.sl (.int .u8)) (.sl s xs) := by unfold Tr.Ok; exact ho
  obtain ⟨bs, h1, h2⟩ := u8_form ho
  have e : [Value.slice s.a s.len s.cap] = [Value.slice a n c] := by simpa [Tr.cells, Value.cells] using hx
  have e := (List.cons.inj e).1
  simp only [Value.slice.injEq] at e
  obtain ⟨rfl, rfl, rfl⟩ := e
  exact ⟨s, bs, rfl, h1, h2⟩
theorem wf_i64 {n : Int} (h : (Lit.int .i64 n).wf = true) : n < 9223372036854775808 := by
  simp [Lit.wf, IntKind.min, IntKind.max, IntKind.bits, IntKind.signed] at h
  omega
abbrev toldU : U := .st [.int .i64, .int .i64, .int .i64, .sl (.int .u8)]
theorem told_form {R : Cx} {x : Tr} (ho : x.Ok R toldU) : ∃ (q : Told) (s : Sl), x.cells = tdV q s ∧ (∀ x ∈ [q.code, q.client, q.seq], x < 9223372036854775808) ∧ SlR R.m s (b8 q.reply) := by
  cases x <;> simp only [Tr.Ok] at ho
  rename_i xs
  match xs, ho with
  | [x0, x1, x2, x4], ho =>
    simp only [Tr.OkL, and_true] at ho
    obtain ⟨h0, h1, h2, h4⟩ := ho
    cases x0 <;> simp only [Tr.Ok] at h0
    rename_i k0 n0
    obtain ⟨rfl, w0⟩ := h0
    cases x1 <;> simp only [Tr.Ok] at h1
    rename_i k1 n1
    obtain ⟨rfl, w1⟩ := h1
    cases x2 <;> simp only [Tr.Ok] at h2
    rename_i k2 n2
    obtain ⟨rfl, w2⟩ := h2
    cases x4 <;> simp only [Tr.Ok] at h4
    rename_i s sx
    have h4 : Tr.Ok R (.sl (.int .u8)) (.sl s sx) := by unfold Tr.Ok; exact h4
    obtain ⟨bs, a1, _⟩ := u8_form h4
    refine ⟨⟨n0, n1, n2, bs⟩, s, rfl, fun x hx => ?_, a1⟩
    simp only [List.mem_cons, List.not_mem_nil, or_false] at hx
    rcases hx with rfl | rfl | rfl
    · exact wf_i64 w0
    · exact wf_i64 w1
    · exact wf_i64 w2
set_option maxRecDepth 100000 in
theorem told_in (hv : Value.okWide Tryz.prog W r b0 39 v) (h : DataW.Trod enc Tryz.prog W 0 (fun _ => true) true 39 v d p) :
    ∃ (q : Told) (s : Sl), v = .agg (tdV q s).toArray ∧ (∀ x ∈ [q.code, q.client, q.seq], x < 9223372036854775808) ∧ SlR (Cx.of W).m s (b8 q.reply) := by
  obtain ⟨x, hx, ho⟩ := tr_arg (d := 6) (u := toldU) (by kernel_rfl) h
  obtain ⟨q, s, e, h0, h1⟩ := told_form ho
  simp only [Value.okWide, Tryz.underlying39 ] at hv
  obtain ⟨cs, rfl, _⟩ := hv
  refine ⟨q, s, ?_, h0, h1⟩
  have : cs.toList = tdV q s := by rw [show cs.toList = (Value.agg cs).cells.toList from rfl, ← hx, e]
  congr 1
  exact Array.ext' this
end Go.Proofs.YtadnmnkbgjippaaGreatDoor
