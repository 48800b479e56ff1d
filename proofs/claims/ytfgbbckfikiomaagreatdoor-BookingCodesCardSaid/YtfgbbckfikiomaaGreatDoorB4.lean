/- The formulas of functions of this seat's translation, printed by a program of mine off the translation; each is proved equal to 'fnF' of the function's body, so it is enough for the call. No condition. -/
import Derived.Test.YtfgbbckfikiomaaGreatDoorB3
import Derived.Test.YtfgbbckfikiomaaGreatDoorB2
import Derived.Test.YtfgbbckfikiomaaGreatDoorB1
import Derived.ProofKit
import Derived.OpenShut
import Derived.ShutString
import Derived.ChangeOld
import Derived.Below
import Derived.Lib.SmallJoins
namespace Go.Proofs.YtfgbbckfikiomaaGreatDoor
open Go Go.VC
set_option linter.unusedVariables false
def B89 (f0 : Nat) (K : Value → World → Prop) (w : World) : Prop :=
  Ext Tryz.prog 149 #[.float .f64 f0] w fun e w_1 =>
  ∃ t5 : Int, (e = .returned (.int .u64 t5)) ∧
  Br (decide (t5 < 9223372036854775808))
   (K (.int .u64 (IntKind.u64.wrap (t5 + 9223372036854775808))) w_1)
   (K (.int .u64 (IntKind.u64.wrap (18446744073709551615 - t5))) w_1)
def sk89 : Sk := .leaf
theorem ok89 : fnOk Tryz.prog Tryz.f89.ntmps Tryz.f89 sk89 = true := by kernel_rfl
theorem eq89 (f0 : Nat) (K : Value → World → Prop) (w : World) : fnF Tryz.prog cl Tryz.f89 sk89 [.float .f64 f0] K w = B89 f0 K w := by kernel_rfl
theorem call89 (f0 : Nat) (K : Value → World → Prop) (w : World) (h : B89 f0 K w) : Gets Tryz.prog 89 #[.float .f64 f0] w K :=
  calls_of (sk := sk89) cl_ok mixed Tryz.func89 ok89 (args := [.float .f64 f0]) (Nat.le_of_ble_eq_true (by kernel_rfl)) (by rw [eq89]; exact h)
def B93 (key0 : Int) (K : Value → World → Prop) (w : World) : Prop :=
  Br (decide (key0 ≥ 9223372036854775808))
   (Ext Tryz.prog 151 #[.int .u64 (IntKind.u64.wrap (key0 - 9223372036854775808))] w fun e w_1 =>
    ∃ t7 : Nat, (e = .returned (.float .f64 t7)) ∧
    K (.float .f64 t7) w_1)
   (Ext Tryz.prog 151 #[.int .u64 (IntKind.u64.wrap (18446744073709551615 - key0))] w fun e_1 w_2 =>
    ∃ t10 : Nat, (e_1 = .returned (.float .f64 t10)) ∧
    K (.float .f64 t10) w_2)
def sk93 : Sk := .leaf
theorem ok93 : fnOk Tryz.prog Tryz.f93.ntmps Tryz.f93 sk93 = true := by kernel_rfl
theorem eq93 (key0 : Int) (K : Value → World → Prop) (w : World) : fnF Tryz.prog cl Tryz.f93 sk93 [.int .u64 key0] K w = B93 key0 K w := by kernel_rfl
theorem call93 (key0 : Int) (K : Value → World → Prop) (w : World) (h : B93 key0 K w) : Gets Tryz.prog 93 #[.int .u64 key0] w K :=
  calls_of (sk := sk93) cl_ok mixed Tryz.func93 ok93 (args := [.int .u64 key0]) (Nat.le_of_ble_eq_true (by kernel_rfl)) (by rw [eq93]; exact h)
def B62 (c0_0 : Int) (c0_1 : ByteArray) (c0_2 : Int) (c0_3 : Int) (c0_4 : Int) (c0_5 : Int) (c0_6 : Nat) (c0_7 : ByteArray) (c0_8 : Int) (c0_9 : Sl) (c0_10 : Sl) (K : Value → World → Prop) (w : World) : Prop :=
  New (.cells #[.int .i64 c0_0, .string c0_1, .int .i64 c0_2, .int .i64 c0_3, .int .i64 c0_4, .int .i64 c0_5, .float .f64 c0_6, .string c0_7, .int .i64 c0_8, .slice c0_9.a c0_9.len c0_9.cap, .slice c0_10.a c0_10.len c0_10.cap] 38 (0, 0)) (fun b_c1 w_1 =>
  ∃ t7 : Int, (At (fun w' => w' = w_1) ⟨b_c1, 0 + 2, none⟩ [.int .i64 t7]) ∧
  ∃ t9 : Int, (At (fun w' => w' = w_1) ⟨b_c1, 0 + 3, none⟩ [.int .i64 t9]) ∧
  ∃ t11 : Int, (At (fun w' => w' = w_1) ⟨b_c1, 0 + 4, none⟩ [.int .i64 t11]) ∧
  ∃ t14 : Int, (At (fun w' => w' = w_1) ⟨b_c1, 0 + 8, none⟩ [.int .i64 t14]) ∧
  New (.cells #[.int .i64 t7, .int .i64 t9, .int .i64 t11, .int .i64 t14] 3 (0, 0)) (fun b_t15 w_2 =>
  ∃ (I : Int → World → Prop) (μ : Int → World → Nat), (I 0 w_2) ∧ ∀ (z : Env) (i4 : Int) (w_3 : World), I i4 w_3 →
  Br (decide (i4 < (↑4 : Int)))
   (Rng i4 4 (∃ t25 : Int, (At (fun w' => w' = w_3) (Addr.add ⟨b_t15, 0, none⟩ i4.toNat) [.int .i64 t25]) ∧
    Br (decide (t25 < 0))
     (K (.bool false) w_3)
     (Rng i4 4 (∃ t31 : Int, (At (fun w' => w' = w_3) (Addr.add ⟨b_t15, 0, none⟩ i4.toNat) [.int .i64 t31]) ∧
      Br (decide (t31 > 9999))
       (K (.bool false) w_3)
       ((I (IntKind.i64.wrap (i4 + 1)) w_3) ∧ μ (IntKind.i64.wrap (i4 + 1)) w_3 < μ i4 w_3)))))
   (∃ (J : World → Prop), (∃ t35 : Int, (At (fun w' => w' = w_3) ⟨b_c1, 0, none⟩ [.int .i64 t35]) ∧
      Br (decide (t35 < 1))
       (K (.bool false) w_3)
       (∃ t39 : Int, (At (fun w' => w' = w_3) ⟨b_c1, 0, none⟩ [.int .i64 t39]) ∧
        Br (decide (t39 > 9))
         (K (.bool false) w_3)
         (∃ t44 : Int, (At (fun w' => w' = w_3) ⟨b_c1, 0 + 5, none⟩ [.int .i64 t44]) ∧
          Br (decide (t44 < 0))
           (K (.bool false) w_3)
           (∃ t49 : Int, (At (fun w' => w' = w_3) ⟨b_c1, 0 + 5, none⟩ [.int .i64 t49]) ∧
            Br (decide (t49 > 1099511627776))
             (K (.bool false) w_3)
             (∃ t54 : ByteArray, (At (fun w' => w' = w_3) ⟨b_c1, 0 + 1, none⟩ [.string t54]) ∧
              Br (decide ((↑t54.size : Int) > 16))
               (K (.bool false) w_3)
               (∃ t60 : ByteArray, (At (fun w' => w' = w_3) ⟨b_c1, 0 + 7, none⟩ [.string t60]) ∧
                Br (decide ((↑t60.size : Int) > 16))
                 (K (.bool false) w_3)
                 (∃ t67 : Sl, (At (fun w' => w' = w_3) ⟨b_c1, 0 + 8 + 1, none⟩ [.slice t67.a t67.len t67.cap]) ∧
                  Br (decide ((↑t67.len : Int) > 16))
                   (K (.bool false) w_3)
                   (∃ t73 : Sl, (At (fun w' => w' = w_3) ⟨b_c1, 0 + 10, none⟩ [.slice t73.a t73.len t73.cap]) ∧
                    Br (decide ((↑t73.len : Int) > 16))
                     (K (.bool false) w_3)
                     (J  w_3))))))))) ∧
    ∀ (z_1 : Env)  (w_4 : World), J  w_4 →
    ∃ (I_1 : Int → World → Prop) (μ_1 : Int → World → Nat), (I_1 0 w_4) ∧ ∀ (z_2 : Env) (i5 : Int) (w_5 : World), I_1 i5 w_5 →
    ∃ t80 : Sl, (At (fun w' => w' = w_5) ⟨b_c1, 0 + 8 + 1, none⟩ [.slice t80.a t80.len t80.cap]) ∧
    Br (decide (i5 < (↑t80.len : Int)))
     (∃ t87 : Sl, (At (fun w' => w' = w_5) ⟨b_c1, 0 + 8 + 1, none⟩ [.slice t87.a t87.len t87.cap]) ∧
      Rng i5 t87.len (NilP t87.a fun a_t89 =>
      ∃ t90 : Int, (At (fun w' => w' = w_5) (Addr.add a_t89 i5.toNat) [.int .i64 t90]) ∧
      Br (decide (t90 < 0))
       (K (.bool false) w_5)
       (∃ t95 : Sl, (At (fun w' => w' = w_5) ⟨b_c1, 0 + 8 + 1, none⟩ [.slice t95.a t95.len t95.cap]) ∧
        Rng i5 t95.len (NilP t95.a fun a_t97 =>
        ∃ t98 : Int, (At (fun w' => w' = w_5) (Addr.add a_t97 i5.toNat) [.int .i64 t98]) ∧
        Br (decide (t98 > 9999))
         (K (.bool false) w_5)
         ((I_1 (IntKind.i64.wrap (i5 + 1)) w_5) ∧ μ_1 (IntKind.i64.wrap (i5 + 1)) w_5 < μ_1 i5 w_5)))))
     (K (.bool true) w_5))) w_1) w
def sk62 : Sk := (.seq .leaf (.seq .leaf (.seq (.seq .leaf (.block (.loop [4] [(.int .i64)] [2, 4, 16, 17, 18, 19, 20, 21, 22, 23, 24, 25, 26, 27, 28, 29, 30, 31, 32, 33] .leaf))) (.cut [] [] [2, 34, 35, 36, 37, 38, 39, 40, 41, 42, 43, 44, 45, 46, 47, 48, 49, 50, 51, 52, 53, 54, 55, 56, 57, 58, 59, 60, 61, 62, 63, 64, 65, 66, 67, 68, 69, 70, 71, 72, 73, 74, 75, 76] .leaf (.seq (.seq .leaf (.block (.loop [5] [(.int .i64)] [2, 5, 77, 78, 79, 80, 81, 82, 83, 84, 85, 86, 87, 88, 89, 90, 91, 92, 93, 94, 95, 96, 97, 98, 99, 100] .leaf))) .leaf)))))
theorem ok62 : fnOk Tryz.prog Tryz.f62.ntmps Tryz.f62 sk62 = true := by kernel_rfl
theorem eq62 (c0_0 : Int) (c0_1 : ByteArray) (c0_2 : Int) (c0_3 : Int) (c0_4 : Int) (c0_5 : Int) (c0_6 : Nat) (c0_7 : ByteArray) (c0_8 : Int) (c0_9 : Sl) (c0_10 : Sl) (K : Value → World → Prop) (w : World) : fnF Tryz.prog cl Tryz.f62 sk62 [.agg #[.int .i64 c0_0, .string c0_1, .int .i64 c0_2, .int .i64 c0_3, .int .i64 c0_4, .int .i64 c0_5, .float .f64 c0_6, .string c0_7, .int .i64 c0_8, .slice c0_9.a c0_9.len c0_9.cap, .slice c0_10.a c0_10.len c0_10.cap]] K w = B62 c0_0 c0_1 c0_2 c0_3 c0_4 c0_5 c0_6 c0_7 c0_8 c0_9 c0_10 K w := by kernel_rfl
theorem call62 (c0_0 : Int) (c0_1 : ByteArray) (c0_2 : Int) (c0_3 : Int) (c0_4 : Int) (c0_5 : Int) (c0_6 : Nat) (c0_7 : ByteArray) (c0_8 : Int) (c0_9 : Sl) (c0_10 : Sl) (K : Value → World → Prop) (w : World) (h : B62 c0_0 c0_1 c0_2 c0_3 c0_4 c0_5 c0_6 c0_7 c0_8 c0_9 c0_10 K w) : Gets Tryz.prog 62 #[.agg #[.int .i64 c0_0, .string c0_1, .int .i64 c0_2, .int .i64 c0_3, .int .i64 c0_4, .int .i64 c0_5, .float .f64 c0_6, .string c0_7, .int .i64 c0_8, .slice c0_9.a c0_9.len c0_9.cap, .slice c0_10.a c0_10.len c0_10.cap]] w K :=
  calls_of (sk := sk62) cl_ok mixed Tryz.func62 ok62 (args := [.agg #[.int .i64 c0_0, .string c0_1, .int .i64 c0_2, .int .i64 c0_3, .int .i64 c0_4, .int .i64 c0_5, .float .f64 c0_6, .string c0_7, .int .i64 c0_8, .slice c0_9.a c0_9.len c0_9.cap, .slice c0_10.a c0_10.len c0_10.cap]]) (Nat.le_of_ble_eq_true (by kernel_rfl)) (by rw [eq62]; exact h)
def B71 (l0 : Sl) (K : Value → World → Prop) (w : World) : Prop :=
  ∃ (I : Sl → Int → World → Prop) (μ : Sl → Int → World → Nat), (I ⟨none, 0, 0⟩ 0 w) ∧ ∀ (z : Env) (out3 : Sl) (i4 : Int) (w_1 : World), I out3 i4 w_1 →
  Br (decide (i4 < (↑l0.len : Int)))
   (Rng i4 l0.len (NilP l0.a fun a_t14 =>
    ∃ t15 : Int, (At (fun w' => w' = w_1) (Addr.add a_t14 i4.toNat) [.int .i64 t15]) ∧
    Calls Tryz.prog 88 #[.int .u64 (IntKind.u64.wrap (if 0 > t15 then 0 else t15))] w_1 fun e w_2 =>
    ∃ t18 : Sl, (e = .returned (.slice t18.a t18.len t18.cap)) ∧
    ∃ w_3 : World, ∃ t19 : Sl, ((Builtin.append_ #[42, 42] 42 #[.slice out3.a out3.len out3.cap, .slice t18.a t18.len t18.cap]).run Tryz.prog w_2 = .ok (.slice t19.a t19.len t19.cap) w_3) ∧
    (I t19 (IntKind.i64.wrap (i4 + 1)) w_3) ∧ μ t19 (IntKind.i64.wrap (i4 + 1)) w_3 < μ out3 i4 w_1))
   (K (.slice out3.a out3.len out3.cap) w_1)
def sk71 : Sk := (.seq .leaf (.seq .leaf (.seq (.seq .leaf (.block (.loop [3, 4] [.sl, (.int .i64)] [3, 4, 5, 6, 7, 8, 9, 10, 11, 12, 13, 14, 15, 16, 17, 18, 19] .leaf))) .leaf)))
theorem ok71 : fnOk Tryz.prog Tryz.f71.ntmps Tryz.f71 sk71 = true := by kernel_rfl
theorem eq71 (l0 : Sl) (K : Value → World → Prop) (w : World) : fnF Tryz.prog cl Tryz.f71 sk71 [.slice l0.a l0.len l0.cap] K w = B71 l0 K w := by kernel_rfl
theorem call71 (l0 : Sl) (K : Value → World → Prop) (w : World) (h : B71 l0 K w) : Gets Tryz.prog 71 #[.slice l0.a l0.len l0.cap] w K :=
  calls_of (sk := sk71) cl_ok mixed Tryz.func71 ok71 (args := [.slice l0.a l0.len l0.cap]) (Nat.le_of_ble_eq_true (by kernel_rfl)) (by rw [eq71]; exact h)
def B30 (c0_0 : Int) (c0_1 : ByteArray) (c0_2 : Int) (c0_3 : Int) (c0_4 : Int) (c0_5 : Int) (c0_6 : Nat) (c0_7 : ByteArray) (c0_8 : Int) (c0_9 : Sl) (c0_10 : Sl) (K : Value → World → Prop) (w : World) : Prop :=
  New (.cells #[.int .i64 c0_0, .string c0_1, .int .i64 c0_2, .int .i64 c0_3, .int .i64 c0_4, .int .i64 c0_5, .float .f64 c0_6, .string c0_7, .int .i64 c0_8, .slice c0_9.a c0_9.len c0_9.cap, .slice c0_10.a c0_10.len c0_10.cap] 38 (0, 0)) (fun b_c1 w_1 =>
  ∃ t7 : Int, ∃ t7_1 : ByteArray, ∃ t7_2 : Int, ∃ t7_3 : Int, ∃ t7_4 : Int, ∃ t7_5 : Int, ∃ t7_6 : Nat, ∃ t7_7 : ByteArray, ∃ t7_8 : Int, ∃ t7_9 : Sl, ∃ t7_10 : Sl, (At (fun w' => w' = w_1) ⟨b_c1, 0, none⟩ [.int .i64 t7, .string t7_1, .int .i64 t7_2, .int .i64 t7_3, .int .i64 t7_4, .int .i64 t7_5, .float .f64 t7_6, .string t7_7, .int .i64 t7_8, .slice t7_9.a t7_9.len t7_9.cap, .slice t7_10.a t7_10.len t7_10.cap]) ∧
  Calls Tryz.prog 62 #[.agg #[.int .i64 t7, .string t7_1, .int .i64 t7_2, .int .i64 t7_3, .int .i64 t7_4, .int .i64 t7_5, .float .f64 t7_6, .string t7_7, .int .i64 t7_8, .slice t7_9.a t7_9.len t7_9.cap, .slice t7_10.a t7_10.len t7_10.cap]] w_1 fun e w_2 =>
  ∃ t8 : Bool, (e = .returned (.bool t8)) ∧
  Br (!t8)
   (K (.tuple #[.slice none 0 0, .int .i64 1]) w_2)
   (∃ t12 : Int, (At (fun w' => w' = w_2) ⟨b_c1, 0, none⟩ [.int .i64 t12]) ∧
    New (.cells #[.int .i64 t12] 3 (0, 0)) (fun b_t13 w_3 =>
    Calls Tryz.prog 71 #[.slice ((some ⟨b_t13, 0, none⟩)) 1 1] w_3 fun e_1 w_4 =>
    ∃ t14 : Sl, (e_1 = .returned (.slice t14.a t14.len t14.cap)) ∧
    ∃ t17 : ByteArray, (At (fun w' => w' = w_4) ⟨b_c1, 0 + 1, none⟩ [.string t17]) ∧
    ∃ w_5 : World, ∃ t18 : Sl, ((convert 9 42 (.string t17)).run Tryz.prog w_4 = .ok (.slice t18.a t18.len t18.cap) w_5) ∧
    Calls Tryz.prog 72 #[.slice t18.a t18.len t18.cap] w_5 fun e_2 w_6 =>
    ∃ t19 : Sl, (e_2 = .returned (.slice t19.a t19.len t19.cap)) ∧
    ∃ w_7 : World, ∃ t20 : Sl, ((Builtin.append_ #[42, 42] 42 #[.slice t14.a t14.len t14.cap, .slice t19.a t19.len t19.cap]).run Tryz.prog w_6 = .ok (.slice t20.a t20.len t20.cap) w_7) ∧
    ∃ t23 : Int, (At (fun w' => w' = w_7) ⟨b_c1, 0 + 2, none⟩ [.int .i64 t23]) ∧
    ∃ t25 : Int, (At (fun w' => w' = w_7) ⟨b_c1, 0 + 3, none⟩ [.int .i64 t25]) ∧
    ∃ t27 : Int, (At (fun w' => w' = w_7) ⟨b_c1, 0 + 4, none⟩ [.int .i64 t27]) ∧
    ∃ t29 : Int, (At (fun w' => w' = w_7) ⟨b_c1, 0 + 5, none⟩ [.int .i64 t29]) ∧
    New (.cells #[.int .i64 t23, .int .i64 t25, .int .i64 t27, .int .i64 t29] 3 (0, 0)) (fun b_t30 w_8 =>
    Calls Tryz.prog 71 #[.slice ((some ⟨b_t30, 0, none⟩)) 4 4] w_8 fun e_3 w_9 =>
    ∃ t31 : Sl, (e_3 = .returned (.slice t31.a t31.len t31.cap)) ∧
    ∃ w_10 : World, ∃ t32 : Sl, ((Builtin.append_ #[42, 42] 42 #[.slice t20.a t20.len t20.cap, .slice t31.a t31.len t31.cap]).run Tryz.prog w_9 = .ok (.slice t32.a t32.len t32.cap) w_10) ∧
    ∃ t35 : Nat, (At (fun w' => w' = w_10) ⟨b_c1, 0 + 6, none⟩ [.float .f64 t35]) ∧
    Calls Tryz.prog 89 #[.float .f64 t35] w_10 fun e_4 w_11 =>
    ∃ t36 : Int, (e_4 = .returned (.int .u64 t36)) ∧
    Calls Tryz.prog 88 #[.int .u64 t36] w_11 fun e_5 w_12 =>
    ∃ t37 : Sl, (e_5 = .returned (.slice t37.a t37.len t37.cap)) ∧
    ∃ w_13 : World, ∃ t38 : Sl, ((Builtin.append_ #[42, 42] 42 #[.slice t32.a t32.len t32.cap, .slice t37.a t37.len t37.cap]).run Tryz.prog w_12 = .ok (.slice t38.a t38.len t38.cap) w_13) ∧
    ∃ t41 : ByteArray, (At (fun w' => w' = w_13) ⟨b_c1, 0 + 7, none⟩ [.string t41]) ∧
    ∃ w_14 : World, ∃ t42 : Sl, ((convert 9 42 (.string t41)).run Tryz.prog w_13 = .ok (.slice t42.a t42.len t42.cap) w_14) ∧
    Calls Tryz.prog 72 #[.slice t42.a t42.len t42.cap] w_14 fun e_6 w_15 =>
    ∃ t43 : Sl, (e_6 = .returned (.slice t43.a t43.len t43.cap)) ∧
    ∃ w_16 : World, ∃ t44 : Sl, ((Builtin.append_ #[42, 42] 42 #[.slice t38.a t38.len t38.cap, .slice t43.a t43.len t43.cap]).run Tryz.prog w_15 = .ok (.slice t44.a t44.len t44.cap) w_16) ∧
    ∃ t48 : Int, (At (fun w' => w' = w_16) ⟨b_c1, 0 + 8, none⟩ [.int .i64 t48]) ∧
    ∃ t51 : Sl, (At (fun w' => w' = w_16) ⟨b_c1, 0 + 8 + 1, none⟩ [.slice t51.a t51.len t51.cap]) ∧
    New (.cells #[.int .i64 t48, .int .i64 ((↑t51.len : Int))] 3 (0, 0)) (fun b_t53 w_17 =>
    Calls Tryz.prog 71 #[.slice ((some ⟨b_t53, 0, none⟩)) 2 2] w_17 fun e_7 w_18 =>
    ∃ t54 : Sl, (e_7 = .returned (.slice t54.a t54.len t54.cap)) ∧
    ∃ w_19 : World, ∃ t55 : Sl, ((Builtin.append_ #[42, 42] 42 #[.slice t44.a t44.len t44.cap, .slice t54.a t54.len t54.cap]).run Tryz.prog w_18 = .ok (.slice t55.a t55.len t55.cap) w_19) ∧
    ∃ t59 : Sl, (At (fun w' => w' = w_19) ⟨b_c1, 0 + 8 + 1, none⟩ [.slice t59.a t59.len t59.cap]) ∧
    Calls Tryz.prog 71 #[.slice t59.a t59.len t59.cap] w_19 fun e_8 w_20 =>
    ∃ t60 : Sl, (e_8 = .returned (.slice t60.a t60.len t60.cap)) ∧
    ∃ w_21 : World, ∃ t61 : Sl, ((Builtin.append_ #[42, 42] 42 #[.slice t55.a t55.len t55.cap, .slice t60.a t60.len t60.cap]).run Tryz.prog w_20 = .ok (.slice t61.a t61.len t61.cap) w_21) ∧
    ∃ t64 : Sl, (At (fun w' => w' = w_21) ⟨b_c1, 0 + 10, none⟩ [.slice t64.a t64.len t64.cap]) ∧
    New (.cells #[.int .i64 ((↑t64.len : Int))] 3 (0, 0)) (fun b_t66 w_22 =>
    Calls Tryz.prog 71 #[.slice ((some ⟨b_t66, 0, none⟩)) 1 1] w_22 fun e_9 w_23 =>
    ∃ t67 : Sl, (e_9 = .returned (.slice t67.a t67.len t67.cap)) ∧
    ∃ w_24 : World, ∃ t68 : Sl, ((Builtin.append_ #[42, 42] 42 #[.slice t61.a t61.len t61.cap, .slice t67.a t67.len t67.cap]).run Tryz.prog w_23 = .ok (.slice t68.a t68.len t68.cap) w_24) ∧
    ∃ (I : Sl → Int → World → Prop) (μ : Sl → Int → World → Nat), (I t68 0 w_24) ∧ ∀ (z : Env) (b5 : Sl) (i6 : Int) (w_25 : World), I b5 i6 w_25 →
    ∃ t71 : Sl, (At (fun w' => w' = w_25) ⟨b_c1, 0 + 10, none⟩ [.slice t71.a t71.len t71.cap]) ∧
    Br (decide (i6 < (↑t71.len : Int)))
     (∃ t78 : Sl, (At (fun w' => w' = w_25) ⟨b_c1, 0 + 10, none⟩ [.slice t78.a t78.len t78.cap]) ∧
      Rng i6 t78.len (NilP t78.a fun a_t80 =>
      ∃ t81 : Nat, (At (fun w' => w' = w_25) (Addr.add a_t80 i6.toNat) [.float .f64 t81]) ∧
      Calls Tryz.prog 89 #[.float .f64 t81] w_25 fun e_10 w_26 =>
      ∃ t82 : Int, (e_10 = .returned (.int .u64 t82)) ∧
      Calls Tryz.prog 88 #[.int .u64 t82] w_26 fun e_11 w_27 =>
      ∃ t83 : Sl, (e_11 = .returned (.slice t83.a t83.len t83.cap)) ∧
      ∃ w_28 : World, ∃ t84 : Sl, ((Builtin.append_ #[42, 42] 42 #[.slice b5.a b5.len b5.cap, .slice t83.a t83.len t83.cap]).run Tryz.prog w_27 = .ok (.slice t84.a t84.len t84.cap) w_28) ∧
      (I t84 (IntKind.i64.wrap (i6 + 1)) w_28) ∧ μ t84 (IntKind.i64.wrap (i6 + 1)) w_28 < μ b5 i6 w_25))
     (K (.tuple #[.slice b5.a b5.len b5.cap, .int .i64 0]) w_25)) w_21) w_16) w_7) w_2)) w
def sk30 : Sk := (.seq .leaf (.seq .leaf (.seq .leaf (.seq .leaf (.seq .leaf (.seq .leaf (.seq .leaf (.seq .leaf (.seq .leaf (.seq .leaf (.seq .leaf (.seq (.seq .leaf (.block (.loop [5, 6] [.sl, (.int .i64)] [5, 6, 69, 70, 71, 72, 73, 74, 75, 76, 77, 78, 79, 80, 81, 82, 83, 84] .leaf))) .leaf))))))))))))
theorem ok30 : fnOk Tryz.prog Tryz.f30.ntmps Tryz.f30 sk30 = true := by kernel_rfl
theorem eq30 (c0_0 : Int) (c0_1 : ByteArray) (c0_2 : Int) (c0_3 : Int) (c0_4 : Int) (c0_5 : Int) (c0_6 : Nat) (c0_7 : ByteArray) (c0_8 : Int) (c0_9 : Sl) (c0_10 : Sl) (K : Value → World → Prop) (w : World) : fnF Tryz.prog cl Tryz.f30 sk30 [.agg #[.int .i64 c0_0, .string c0_1, .int .i64 c0_2, .int .i64 c0_3, .int .i64 c0_4, .int .i64 c0_5, .float .f64 c0_6, .string c0_7, .int .i64 c0_8, .slice c0_9.a c0_9.len c0_9.cap, .slice c0_10.a c0_10.len c0_10.cap]] K w = B30 c0_0 c0_1 c0_2 c0_3 c0_4 c0_5 c0_6 c0_7 c0_8 c0_9 c0_10 K w := by kernel_rfl
theorem call30 (c0_0 : Int) (c0_1 : ByteArray) (c0_2 : Int) (c0_3 : Int) (c0_4 : Int) (c0_5 : Int) (c0_6 : Nat) (c0_7 : ByteArray) (c0_8 : Int) (c0_9 : Sl) (c0_10 : Sl) (K : Value → World → Prop) (w : World) (h : B30 c0_0 c0_1 c0_2 c0_3 c0_4 c0_5 c0_6 c0_7 c0_8 c0_9 c0_10 K w) : Gets Tryz.prog 30 #[.agg #[.int .i64 c0_0, .string c0_1, .int .i64 c0_2, .int .i64 c0_3, .int .i64 c0_4, .int .i64 c0_5, .float .f64 c0_6, .string c0_7, .int .i64 c0_8, .slice c0_9.a c0_9.len c0_9.cap, .slice c0_10.a c0_10.len c0_10.cap]] w K :=
  calls_of (sk := sk30) cl_ok mixed Tryz.func30 ok30 (args := [.agg #[.int .i64 c0_0, .string c0_1, .int .i64 c0_2, .int .i64 c0_3, .int .i64 c0_4, .int .i64 c0_5, .float .f64 c0_6, .string c0_7, .int .i64 c0_8, .slice c0_9.a c0_9.len c0_9.cap, .slice c0_10.a c0_10.len c0_10.cap]]) (Nat.le_of_ble_eq_true (by kernel_rfl)) (by rw [eq30]; exact h)
def B32 (b0 : Sl) (K : Value → World → Prop) (w : World) : Prop :=
  New (.cells #[.int .i64 0, .string (ByteArray.mk #[]), .int .i64 0, .int .i64 0, .int .i64 0, .int .i64 0, .float .f64 0, .string (ByteArray.mk #[]), .int .i64 0, .slice none 0 0, .slice none 0 0] 38 (0, 0)) (fun b_t2 w_1 =>
  New (.cells #[.slice b0.a b0.len b0.cap, .int .i64 0, .bool false] 133 (0, 0)) (fun b_t13 w_2 =>
  Calls Tryz.prog 84 #[.pointer ((some ⟨b_t13, 0, none⟩)), .int .u64 9] w_2 fun e w_3 =>
  ∃ t15 : Int, (e = .returned (.int .u64 t15)) ∧
  Calls Tryz.prog 85 #[.pointer ((some ⟨b_t13, 0, none⟩)), .int .i64 16] w_3 fun e_1 w_4 =>
  ∃ t18 : Sl, (e_1 = .returned (.slice t18.a t18.len t18.cap)) ∧
  ∃ t19 : ByteArray, (∀ w', (fun w' => w' = w_4) w' → ((convert 42 9 (.slice t18.a t18.len t18.cap))).run Tryz.prog w' = .ok (.string t19) w') ∧
  New (.cells #[.int .i64 0, .string (ByteArray.mk #[]), .int .i64 0, .int .i64 0, .int .i64 0, .int .i64 0, .float .f64 0, .string (ByteArray.mk #[]), .int .i64 0, .slice none 0 0, .slice none 0 0] 38 (0, 0)) (fun b_c5 w_5 =>
  ∃ w_6 : World, ((Instr.storeAt 38 (.pointer ((some ⟨b_c5, 0, none⟩))) (.agg #[.int .i64 (IntKind.i64.wrap t15), .string t19, .int .i64 0, .int .i64 0, .int .i64 0, .int .i64 0, .float .f64 0, .string (ByteArray.mk #[]), .int .i64 0, .slice none 0 0, .slice none 0 0])).run Tryz.prog w_5 = .ok () w_6) ∧
  Calls Tryz.prog 84 #[.pointer ((some ⟨b_t13, 0, none⟩)), .int .u64 9999] w_6 fun e_2 w_7 =>
  ∃ t22 : Int, (e_2 = .returned (.int .u64 t22)) ∧
  ∃ w_8 : World, ((Instr.storeAt 3 (.pointer ((some ⟨b_c5, 0 + 2, none⟩))) (.int .i64 (IntKind.i64.wrap t22))).run Tryz.prog w_7 = .ok () w_8) ∧
  Calls Tryz.prog 84 #[.pointer ((some ⟨b_t13, 0, none⟩)), .int .u64 9999] w_8 fun e_3 w_9 =>
  ∃ t26 : Int, (e_3 = .returned (.int .u64 t26)) ∧
  ∃ w_10 : World, ((Instr.storeAt 3 (.pointer ((some ⟨b_c5, 0 + 3, none⟩))) (.int .i64 (IntKind.i64.wrap t26))).run Tryz.prog w_9 = .ok () w_10) ∧
  Calls Tryz.prog 84 #[.pointer ((some ⟨b_t13, 0, none⟩)), .int .u64 9999] w_10 fun e_4 w_11 =>
  ∃ t30 : Int, (e_4 = .returned (.int .u64 t30)) ∧
  ∃ w_12 : World, ((Instr.storeAt 3 (.pointer ((some ⟨b_c5, 0 + 4, none⟩))) (.int .i64 (IntKind.i64.wrap t30))).run Tryz.prog w_11 = .ok () w_12) ∧
  Calls Tryz.prog 84 #[.pointer ((some ⟨b_t13, 0, none⟩)), .int .u64 1099511627776] w_12 fun e_5 w_13 =>
  ∃ t34 : Int, (e_5 = .returned (.int .u64 t34)) ∧
  ∃ w_14 : World, ((Instr.storeAt 3 (.pointer ((some ⟨b_c5, 0 + 5, none⟩))) (.int .i64 (IntKind.i64.wrap t34))).run Tryz.prog w_13 = .ok () w_14) ∧
  Calls Tryz.prog 84 #[.pointer ((some ⟨b_t13, 0, none⟩)), .int .u64 18446744073709551615] w_14 fun e_6 w_15 =>
  ∃ t38 : Int, (e_6 = .returned (.int .u64 t38)) ∧
  Calls Tryz.prog 93 #[.int .u64 t38] w_15 fun e_7 w_16 =>
  ∃ t39 : Nat, (e_7 = .returned (.float .f64 t39)) ∧
  ∃ w_17 : World, ((Instr.storeAt 33 (.pointer ((some ⟨b_c5, 0 + 6, none⟩))) (.float .f64 t39)).run Tryz.prog w_16 = .ok () w_17) ∧
  Calls Tryz.prog 85 #[.pointer ((some ⟨b_t13, 0, none⟩)), .int .i64 16] w_17 fun e_8 w_18 =>
  ∃ t42 : Sl, (e_8 = .returned (.slice t42.a t42.len t42.cap)) ∧
  ∃ t43 : ByteArray, (∀ w', (fun w' => w' = w_18) w' → ((convert 42 9 (.slice t42.a t42.len t42.cap))).run Tryz.prog w' = .ok (.string t43) w') ∧
  ∃ w_19 : World, ((Instr.storeAt 9 (.pointer ((some ⟨b_c5, 0 + 7, none⟩))) (.string t43)).run Tryz.prog w_18 = .ok () w_19) ∧
  Calls Tryz.prog 84 #[.pointer ((some ⟨b_t13, 0, none⟩)), .int .u64 9999] w_19 fun e_9 w_20 =>
  ∃ t46 : Int, (e_9 = .returned (.int .u64 t46)) ∧
  ∃ w_21 : World, ((Instr.storeAt 3 (.pointer ((some ⟨b_c5, 0 + 8, none⟩))) (.int .i64 (IntKind.i64.wrap t46))).run Tryz.prog w_20 = .ok () w_21) ∧
  Calls Tryz.prog 84 #[.pointer ((some ⟨b_t13, 0, none⟩)), .int .u64 16] w_21 fun e_10 w_22 =>
  ∃ t51 : Int, (e_10 = .returned (.int .u64 t51)) ∧
  ∃ (I : Int → World → Prop) (μ : Int → World → Nat), (I 0 w_22) ∧ ∀ (z : Env) (i7 : Int) (w_23 : World), I i7 w_23 →
  Br (decide (i7 < t51))
   (Drw w_23 fun S w_24 =>
    ∃ t59 : Sl, (At S ⟨b_c5, 0 + 8 + 1, none⟩ [.slice t59.a t59.len t59.cap]) ∧
    Calls Tryz.prog 84 #[.pointer ((some ⟨b_t13, 0, none⟩)), .int .u64 9999] w_24 fun e_11 w_25 =>
    ∃ t61 : Int, (e_11 = .returned (.int .u64 t61)) ∧
    (S w_25) ∧
    New (.cells #[.int .i64 (IntKind.i64.wrap t61)] 3 (0, 0)) (fun b_t63 w_26 =>
    (S w_26) ∧
    ∃ w_27 : World, ∃ t64 : Sl, ((Builtin.append_ #[28, 28] 28 #[.slice t59.a t59.len t59.cap, .slice ((some ⟨b_t63, 0, none⟩)) 1 1]).run Tryz.prog w_26 = .ok (.slice t64.a t64.len t64.cap) w_27) ∧
    ∃ w_28 : World, ((Instr.storeAt 28 (.pointer ((some ⟨b_c5, 0 + 8 + 1, none⟩))) (.slice t64.a t64.len t64.cap)).run Tryz.prog w_27 = .ok () w_28) ∧
    (I (IntKind.u64.wrap (i7 + 1)) w_28) ∧ μ (IntKind.u64.wrap (i7 + 1)) w_28 < μ i7 w_23) w_25)
   (Calls Tryz.prog 84 #[.pointer ((some ⟨b_t13, 0, none⟩)), .int .u64 16] w_23 fun e_12 w_29 =>
    ∃ t68 : Int, (e_12 = .returned (.int .u64 t68)) ∧
    ∃ (I_1 : Int → World → Prop) (μ_1 : Int → World → Nat), (I_1 0 w_29) ∧ ∀ (z_1 : Env) (i8 : Int) (w_30 : World), I_1 i8 w_30 →
    Br (decide (i8 < t68))
     (Drw w_30 fun S_1 w_31 =>
      ∃ t75 : Sl, (At S_1 ⟨b_c5, 0 + 10, none⟩ [.slice t75.a t75.len t75.cap]) ∧
      Calls Tryz.prog 84 #[.pointer ((some ⟨b_t13, 0, none⟩)), .int .u64 18446744073709551615] w_31 fun e_13 w_32 =>
      ∃ t77 : Int, (e_13 = .returned (.int .u64 t77)) ∧
      (S_1 w_32) ∧
      Calls Tryz.prog 93 #[.int .u64 t77] w_32 fun e_14 w_33 =>
      ∃ t78 : Nat, (e_14 = .returned (.float .f64 t78)) ∧
      (S_1 w_33) ∧
      New (.cells #[.float .f64 t78] 33 (0, 0)) (fun b_t79 w_34 =>
      (S_1 w_34) ∧
      ∃ w_35 : World, ∃ t80 : Sl, ((Builtin.append_ #[36, 36] 36 #[.slice t75.a t75.len t75.cap, .slice ((some ⟨b_t79, 0, none⟩)) 1 1]).run Tryz.prog w_34 = .ok (.slice t80.a t80.len t80.cap) w_35) ∧
      ∃ w_36 : World, ((Instr.storeAt 36 (.pointer ((some ⟨b_c5, 0 + 10, none⟩))) (.slice t80.a t80.len t80.cap)).run Tryz.prog w_35 = .ok () w_36) ∧
      (I_1 (IntKind.u64.wrap (i8 + 1)) w_36) ∧ μ_1 (IntKind.u64.wrap (i8 + 1)) w_36 < μ_1 i8 w_30) w_33)
     (Calls Tryz.prog 86 #[.pointer ((some ⟨b_t13, 0, none⟩))] w_30 fun e_15 w_37 =>
      ∃ t83 : Bool, (e_15 = .returned (.bool t83)) ∧
      ∃ t84 : Int, ∃ t84_1 : ByteArray, ∃ t84_2 : Int, ∃ t84_3 : Int, ∃ t84_4 : Int, ∃ t84_5 : Int, ∃ t84_6 : Nat, ∃ t84_7 : ByteArray, ∃ t84_8 : Int, ∃ t84_9 : Sl, ∃ t84_10 : Sl, (At (fun w' => w' = w_37) ⟨b_c5, 0, none⟩ [.int .i64 t84, .string t84_1, .int .i64 t84_2, .int .i64 t84_3, .int .i64 t84_4, .int .i64 t84_5, .float .f64 t84_6, .string t84_7, .int .i64 t84_8, .slice t84_9.a t84_9.len t84_9.cap, .slice t84_10.a t84_10.len t84_10.cap]) ∧
      Calls Tryz.prog 62 #[.agg #[.int .i64 t84, .string t84_1, .int .i64 t84_2, .int .i64 t84_3, .int .i64 t84_4, .int .i64 t84_5, .float .f64 t84_6, .string t84_7, .int .i64 t84_8, .slice t84_9.a t84_9.len t84_9.cap, .slice t84_10.a t84_10.len t84_10.cap]] w_37 fun e_16 w_38 =>
      ∃ t85 : Bool, (e_16 = .returned (.bool t85)) ∧
      Br (!t83)
       (∃ w_39 : World, ((Instr.storeAt 38 (.pointer ((some ⟨b_t2, 0, none⟩))) (.agg #[.int .i64 0, .string (ByteArray.mk #[]), .int .i64 0, .int .i64 0, .int .i64 0, .int .i64 0, .float .f64 0, .string (ByteArray.mk #[]), .int .i64 0, .slice none 0 0, .slice none 0 0])).run Tryz.prog w_38 = .ok () w_39) ∧
        ∃ t3 : Int, ∃ t3_1 : ByteArray, ∃ t3_2 : Int, ∃ t3_3 : Int, ∃ t3_4 : Int, ∃ t3_5 : Int, ∃ t3_6 : Nat, ∃ t3_7 : ByteArray, ∃ t3_8 : Int, ∃ t3_9 : Sl, ∃ t3_10 : Sl, (At (fun w' => w' = w_39) ⟨b_t2, 0, none⟩ [.int .i64 t3, .string t3_1, .int .i64 t3_2, .int .i64 t3_3, .int .i64 t3_4, .int .i64 t3_5, .float .f64 t3_6, .string t3_7, .int .i64 t3_8, .slice t3_9.a t3_9.len t3_9.cap, .slice t3_10.a t3_10.len t3_10.cap]) ∧
        K (.tuple #[.agg #[.int .i64 t3, .string t3_1, .int .i64 t3_2, .int .i64 t3_3, .int .i64 t3_4, .int .i64 t3_5, .float .f64 t3_6, .string t3_7, .int .i64 t3_8, .slice t3_9.a t3_9.len t3_9.cap, .slice t3_10.a t3_10.len t3_10.cap], .int .i64 6]) w_39)
       (Br (!t85)
         (∃ w_40 : World, ((Instr.storeAt 38 (.pointer ((some ⟨b_t2, 0, none⟩))) (.agg #[.int .i64 0, .string (ByteArray.mk #[]), .int .i64 0, .int .i64 0, .int .i64 0, .int .i64 0, .float .f64 0, .string (ByteArray.mk #[]), .int .i64 0, .slice none 0 0, .slice none 0 0])).run Tryz.prog w_38 = .ok () w_40) ∧
          ∃ t3_11 : Int, ∃ t3_12 : ByteArray, ∃ t3_13 : Int, ∃ t3_14 : Int, ∃ t3_15 : Int, ∃ t3_16 : Int, ∃ t3_17 : Nat, ∃ t3_18 : ByteArray, ∃ t3_19 : Int, ∃ t3_20 : Sl, ∃ t3_21 : Sl, (At (fun w' => w' = w_40) ⟨b_t2, 0, none⟩ [.int .i64 t3_11, .string t3_12, .int .i64 t3_13, .int .i64 t3_14, .int .i64 t3_15, .int .i64 t3_16, .float .f64 t3_17, .string t3_18, .int .i64 t3_19, .slice t3_20.a t3_20.len t3_20.cap, .slice t3_21.a t3_21.len t3_21.cap]) ∧
          K (.tuple #[.agg #[.int .i64 t3_11, .string t3_12, .int .i64 t3_13, .int .i64 t3_14, .int .i64 t3_15, .int .i64 t3_16, .float .f64 t3_17, .string t3_18, .int .i64 t3_19, .slice t3_20.a t3_20.len t3_20.cap, .slice t3_21.a t3_21.len t3_21.cap], .int .i64 6]) w_40)
         (∃ t93 : Int, ∃ t93_1 : ByteArray, ∃ t93_2 : Int, ∃ t93_3 : Int, ∃ t93_4 : Int, ∃ t93_5 : Int, ∃ t93_6 : Nat, ∃ t93_7 : ByteArray, ∃ t93_8 : Int, ∃ t93_9 : Sl, ∃ t93_10 : Sl, (At (fun w' => w' = w_38) ⟨b_c5, 0, none⟩ [.int .i64 t93, .string t93_1, .int .i64 t93_2, .int .i64 t93_3, .int .i64 t93_4, .int .i64 t93_5, .float .f64 t93_6, .string t93_7, .int .i64 t93_8, .slice t93_9.a t93_9.len t93_9.cap, .slice t93_10.a t93_10.len t93_10.cap]) ∧
          ∃ w_41 : World, ((Instr.storeAt 38 (.pointer ((some ⟨b_t2, 0, none⟩))) (.agg #[.int .i64 t93, .string t93_1, .int .i64 t93_2, .int .i64 t93_3, .int .i64 t93_4, .int .i64 t93_5, .float .f64 t93_6, .string t93_7, .int .i64 t93_8, .slice t93_9.a t93_9.len t93_9.cap, .slice t93_10.a t93_10.len t93_10.cap])).run Tryz.prog w_38 = .ok () w_41) ∧
          ∃ t3_22 : Int, ∃ t3_23 : ByteArray, ∃ t3_24 : Int, ∃ t3_25 : Int, ∃ t3_26 : Int, ∃ t3_27 : Int, ∃ t3_28 : Nat, ∃ t3_29 : ByteArray, ∃ t3_30 : Int, ∃ t3_31 : Sl, ∃ t3_32 : Sl, (At (fun w' => w' = w_41) ⟨b_t2, 0, none⟩ [.int .i64 t3_22, .string t3_23, .int .i64 t3_24, .int .i64 t3_25, .int .i64 t3_26, .int .i64 t3_27, .float .f64 t3_28, .string t3_29, .int .i64 t3_30, .slice t3_31.a t3_31.len t3_31.cap, .slice t3_32.a t3_32.len t3_32.cap]) ∧
          K (.tuple #[.agg #[.int .i64 t3_22, .string t3_23, .int .i64 t3_24, .int .i64 t3_25, .int .i64 t3_26, .int .i64 t3_27, .float .f64 t3_28, .string t3_29, .int .i64 t3_30, .slice t3_31.a t3_31.len t3_31.cap, .slice t3_32.a t3_32.len t3_32.cap], .int .i64 0]) w_41))))) w_4) w_1) w
def sk32 : Sk := (.seq .leaf (.seq .leaf (.seq .leaf (.seq .leaf (.seq .leaf (.seq .leaf (.seq .leaf (.seq .leaf (.seq .leaf (.seq .leaf (.seq .leaf (.seq (.seq .leaf (.block (.loop [7] [(.int .u64)] [7, 52, 53, 54, 55, 56, 57, 58, 59, 60, 61, 62, 63, 64, 65, 66] .leaf))) (.seq .leaf (.seq (.seq .leaf (.block (.loop [8] [(.int .u64)] [8, 69, 70, 71, 72, 73, 74, 75, 76, 77, 78, 79, 80, 81] .leaf))) .leaf))))))))))))))
theorem ok32 : fnOk Tryz.prog Tryz.f32.ntmps Tryz.f32 sk32 = true := by kernel_rfl
theorem eq32 (b0 : Sl) (K : Value → World → Prop) (w : World) : fnF Tryz.prog cl Tryz.f32 sk32 [.slice b0.a b0.len b0.cap] K w = B32 b0 K w := by kernel_rfl
theorem call32 (b0 : Sl) (K : Value → World → Prop) (w : World) (h : B32 b0 K w) : Gets Tryz.prog 32 #[.slice b0.a b0.len b0.cap] w K :=
  calls_of (sk := sk32) cl_ok mixed Tryz.func32 ok32 (args := [.slice b0.a b0.len b0.cap]) (Nat.le_of_ble_eq_true (by kernel_rfl)) (by rw [eq32]; exact h)
def B33 (a0_0 : Int) (a0_1 : ByteArray) (a0_2 : Int) (a0_3 : Int) (a0_4 : Int) (a0_5 : Int) (a0_6 : Nat) (a0_7 : ByteArray) (a0_8 : Int) (a0_9 : Sl) (a0_10 : Sl) (b1_0 : Int) (b1_1 : ByteArray) (b1_2 : Int) (b1_3 : Int) (b1_4 : Int) (b1_5 : Int) (b1_6 : Nat) (b1_7 : ByteArray) (b1_8 : Int) (b1_9 : Sl) (b1_10 : Sl) (K : Value → World → Prop) (w : World) : Prop :=
  New (.cells #[.int .i64 a0_0, .string a0_1, .int .i64 a0_2, .int .i64 a0_3, .int .i64 a0_4, .int .i64 a0_5, .float .f64 a0_6, .string a0_7, .int .i64 a0_8, .slice a0_9.a a0_9.len a0_9.cap, .slice a0_10.a a0_10.len a0_10.cap] 38 (0, 0)) (fun b_a2 w_1 =>
  New (.cells #[.int .i64 b1_0, .string b1_1, .int .i64 b1_2, .int .i64 b1_3, .int .i64 b1_4, .int .i64 b1_5, .float .f64 b1_6, .string b1_7, .int .i64 b1_8, .slice b1_9.a b1_9.len b1_9.cap, .slice b1_10.a b1_10.len b1_10.cap] 38 (0, 0)) (fun b_b3 w_2 =>
  ∃ t10 : Int, ∃ t10_1 : ByteArray, ∃ t10_2 : Int, ∃ t10_3 : Int, ∃ t10_4 : Int, ∃ t10_5 : Int, ∃ t10_6 : Nat, ∃ t10_7 : ByteArray, ∃ t10_8 : Int, ∃ t10_9 : Sl, ∃ t10_10 : Sl, (At (fun w' => w' = w_2) ⟨b_a2, 0, none⟩ [.int .i64 t10, .string t10_1, .int .i64 t10_2, .int .i64 t10_3, .int .i64 t10_4, .int .i64 t10_5, .float .f64 t10_6, .string t10_7, .int .i64 t10_8, .slice t10_9.a t10_9.len t10_9.cap, .slice t10_10.a t10_10.len t10_10.cap]) ∧
  Calls Tryz.prog 30 #[.agg #[.int .i64 t10, .string t10_1, .int .i64 t10_2, .int .i64 t10_3, .int .i64 t10_4, .int .i64 t10_5, .float .f64 t10_6, .string t10_7, .int .i64 t10_8, .slice t10_9.a t10_9.len t10_9.cap, .slice t10_10.a t10_10.len t10_10.cap]] w_2 fun e w_3 =>
  ∃ t11 : Sl, ∃ t11_1 : Int, (e = .returned (.tuple #[.slice t11.a t11.len t11.cap, .int .i64 t11_1])) ∧
  ∃ t15 : Int, ∃ t15_1 : ByteArray, ∃ t15_2 : Int, ∃ t15_3 : Int, ∃ t15_4 : Int, ∃ t15_5 : Int, ∃ t15_6 : Nat, ∃ t15_7 : ByteArray, ∃ t15_8 : Int, ∃ t15_9 : Sl, ∃ t15_10 : Sl, (At (fun w' => w' = w_3) ⟨b_b3, 0, none⟩ [.int .i64 t15, .string t15_1, .int .i64 t15_2, .int .i64 t15_3, .int .i64 t15_4, .int .i64 t15_5, .float .f64 t15_6, .string t15_7, .int .i64 t15_8, .slice t15_9.a t15_9.len t15_9.cap, .slice t15_10.a t15_10.len t15_10.cap]) ∧
  Calls Tryz.prog 30 #[.agg #[.int .i64 t15, .string t15_1, .int .i64 t15_2, .int .i64 t15_3, .int .i64 t15_4, .int .i64 t15_5, .float .f64 t15_6, .string t15_7, .int .i64 t15_8, .slice t15_9.a t15_9.len t15_9.cap, .slice t15_10.a t15_10.len t15_10.cap]] w_3 fun e_1 w_4 =>
  ∃ t16 : Sl, ∃ t16_1 : Int, (e_1 = .returned (.tuple #[.slice t16.a t16.len t16.cap, .int .i64 t16_1])) ∧
  Br (t11_1 == t16_1)
   (∃ t24 : ByteArray, (∀ w', (fun w' => w' = w_4) w' → ((convert 42 9 (.slice t11.a t11.len t11.cap))).run Tryz.prog w' = .ok (.string t24) w') ∧
    ∃ t26 : ByteArray, (∀ w', (fun w' => w' = w_4) w' → ((convert 42 9 (.slice t16.a t16.len t16.cap))).run Tryz.prog w' = .ok (.string t26) w') ∧
    K (.bool (t24.toList == t26.toList)) w_4)
   (K (.bool false) w_4)) w_1) w
def sk33 : Sk := .leaf
theorem ok33 : fnOk Tryz.prog Tryz.f33.ntmps Tryz.f33 sk33 = true := by kernel_rfl
theorem eq33 (a0_0 : Int) (a0_1 : ByteArray) (a0_2 : Int) (a0_3 : Int) (a0_4 : Int) (a0_5 : Int) (a0_6 : Nat) (a0_7 : ByteArray) (a0_8 : Int) (a0_9 : Sl) (a0_10 : Sl) (b1_0 : Int) (b1_1 : ByteArray) (b1_2 : Int) (b1_3 : Int) (b1_4 : Int) (b1_5 : Int) (b1_6 : Nat) (b1_7 : ByteArray) (b1_8 : Int) (b1_9 : Sl) (b1_10 : Sl) (K : Value → World → Prop) (w : World) : fnF Tryz.prog cl Tryz.f33 sk33 [.agg #[.int .i64 a0_0, .string a0_1, .int .i64 a0_2, .int .i64 a0_3, .int .i64 a0_4, .int .i64 a0_5, .float .f64 a0_6, .string a0_7, .int .i64 a0_8, .slice a0_9.a a0_9.len a0_9.cap, .slice a0_10.a a0_10.len a0_10.cap], .agg #[.int .i64 b1_0, .string b1_1, .int .i64 b1_2, .int .i64 b1_3, .int .i64 b1_4, .int .i64 b1_5, .float .f64 b1_6, .string b1_7, .int .i64 b1_8, .slice b1_9.a b1_9.len b1_9.cap, .slice b1_10.a b1_10.len b1_10.cap]] K w = B33 a0_0 a0_1 a0_2 a0_3 a0_4 a0_5 a0_6 a0_7 a0_8 a0_9 a0_10 b1_0 b1_1 b1_2 b1_3 b1_4 b1_5 b1_6 b1_7 b1_8 b1_9 b1_10 K w := by kernel_rfl
theorem call33 (a0_0 : Int) (a0_1 : ByteArray) (a0_2 : Int) (a0_3 : Int) (a0_4 : Int) (a0_5 : Int) (a0_6 : Nat) (a0_7 : ByteArray) (a0_8 : Int) (a0_9 : Sl) (a0_10 : Sl) (b1_0 : Int) (b1_1 : ByteArray) (b1_2 : Int) (b1_3 : Int) (b1_4 : Int) (b1_5 : Int) (b1_6 : Nat) (b1_7 : ByteArray) (b1_8 : Int) (b1_9 : Sl) (b1_10 : Sl) (K : Value → World → Prop) (w : World) (h : B33 a0_0 a0_1 a0_2 a0_3 a0_4 a0_5 a0_6 a0_7 a0_8 a0_9 a0_10 b1_0 b1_1 b1_2 b1_3 b1_4 b1_5 b1_6 b1_7 b1_8 b1_9 b1_10 K w) : Gets Tryz.prog 33 #[.agg #[.int .i64 a0_0, .string a0_1, .int .i64 a0_2, .int .i64 a0_3, .int .i64 a0_4, .int .i64 a0_5, .float .f64 a0_6, .string a0_7, .int .i64 a0_8, .slice a0_9.a a0_9.len a0_9.cap, .slice a0_10.a a0_10.len a0_10.cap], .agg #[.int .i64 b1_0, .string b1_1, .int .i64 b1_2, .int .i64 b1_3, .int .i64 b1_4, .int .i64 b1_5, .float .f64 b1_6, .string b1_7, .int .i64 b1_8, .slice b1_9.a b1_9.len b1_9.cap, .slice b1_10.a b1_10.len b1_10.cap]] w K :=
  calls_of (sk := sk33) cl_ok mixed Tryz.func33 ok33 (args := [.agg #[.int .i64 a0_0, .string a0_1, .int .i64 a0_2, .int .i64 a0_3, .int .i64 a0_4, .int .i64 a0_5, .float .f64 a0_6, .string a0_7, .int .i64 a0_8, .slice a0_9.a a0_9.len a0_9.cap, .slice a0_10.a a0_10.len a0_10.cap], .agg #[.int .i64 b1_0, .string b1_1, .int .i64 b1_2, .int .i64 b1_3, .int .i64 b1_4, .int .i64 b1_5, .float .f64 b1_6, .string b1_7, .int .i64 b1_8, .slice b1_9.a b1_9.len b1_9.cap, .slice b1_10.a b1_10.len b1_10.cap]]) (Nat.le_of_ble_eq_true (by kernel_rfl)) (by rw [eq33]; exact h)
end Go.Proofs.YtfgbbckfikiomaaGreatDoor
/- Words of 64 bits: the highest bit. No condition. -/
namespace Go.VC
set_option linter.unusedVariables false
theorem and_top {x : Nat} (h : x < 18446744073709551616) : x &&& 9223372036854775808 = if x < 9223372036854775808 then 0 else 9223372036854775808 := by
  have e : (9223372036854775808 : Nat) = 2 ^ 63 := by decide
  apply Nat.eq_of_testBit_eq
  intro i
  rw [Nat.testBit_and]
  by_cases hi : 63 = i
  · subst hi
    have h1 : x.testBit 63 = decide (¬ x < 9223372036854775808) := by
      rw [Nat.testBit_eq_decide_div_mod_eq, ← e]
      exact decide_eq_decide.2 (by omega)
    have h2 : Nat.testBit 9223372036854775808 63 = true := by rw [e, Nat.testBit_two_pow]; simp
    rw [h1, h2]
    split
    · rw [decide_eq_false (by omega)]; simp
    · rw [decide_eq_true (by assumption)]; simp [h2]
  · have h2 : Nat.testBit 9223372036854775808 i = false := by rw [e, Nat.testBit_two_pow]; simp [hi]
    rw [h2]
    split <;> simp [h2]
theorem or_top {x : Nat} (h : x < 9223372036854775808) : x ||| 9223372036854775808 = x + 9223372036854775808 := by
  have := Nat.two_pow_add_eq_or_of_lt (i := 63) (b := x) (by simpa using h) 1
  rw [Nat.or_comm]
  simp only [Nat.mul_one] at this
  have e : (2 : Nat) ^ 63 = 9223372036854775808 := by decide
  rw [e] at this
  omega
theorem not_u64 {x : Nat} (h : x < 18446744073709551616) : IntKind.u64.wrap ((BitVec.ofInt IntKind.u64.bits (if IntKind.u64.signed = true then -1 else IntKind.u64.max) ^^^ BitVec.ofInt IntKind.u64.bits (x : Int)).toNat : Int) = ((18446744073709551615 - x : Nat) : Int) := by
  have e1 : BitVec.ofInt IntKind.u64.bits (if IntKind.u64.signed = true then -1 else IntKind.u64.max) = BitVec.allOnes 64 := by
    show BitVec.ofInt 64 18446744073709551615 = BitVec.allOnes 64
    decide
  have e2 : (BitVec.ofInt 64 (x : Int)).toNat = x := bv_toNat 64 x (by simpa using h)
  rw [e1]
  show IntKind.u64.wrap (((BitVec.allOnes 64 ^^^ BitVec.ofInt 64 (x : Int)).toNat : Nat) : Int) = _
  rw [BitVec.xor_comm, BitVec.xor_allOnes, BitVec.toNat_not, e2]
  have e3 : (2 : Nat) ^ 64 - 1 - x = 18446744073709551615 - x := by
    have : (2 : Nat) ^ 64 = 18446744073709551616 := by decide
    rw [this]
  rw [e3]
  exact wrapU64 (by omega) (by omega)
theorem andnot_top {k : Nat} (h : k < 18446744073709551616) (h1 : 9223372036854775808 ≤ k) : bitI .andNot .u64 (k : Int) 9223372036854775808 = ((k - 9223372036854775808 : Nat) : Int) := by
  have e1 : (BitVec.ofInt 64 (k : Int)).toNat = k := bv_toNat 64 k (by simpa using h)
  have e2 : (BitVec.ofInt 64 9223372036854775808).toNat = 9223372036854775808 := by decide
  have e3 : (BitVec.ofInt 64 (k : Int) &&& ~~~ BitVec.ofInt 64 9223372036854775808).toNat = k - 9223372036854775808 := by
    rw [BitVec.toNat_and, BitVec.toNat_not, e1, e2]
    have e4 : (2 : Nat) ^ 64 - 1 - 9223372036854775808 = 2 ^ 63 - 1 := by decide
    rw [e4, Nat.and_two_pow_sub_one_eq_mod]
    have e5 : (2 : Nat) ^ 63 = 9223372036854775808 := by decide
    rw [e5]
    omega
  show IntKind.u64.wrap (((BitVec.ofInt 64 (k : Int) &&& ~~~ BitVec.ofInt 64 9223372036854775808).toNat : Nat) : Int) = _
  rw [e3]
  exact wrapU64 (by omega) (by omega)
end Go.VC
/- Packages fare, cmp: floats in order, their places. Condition: words. -/
namespace Go.Proofs.YtfgbbckfikiomaaGreatDoor
set_option linter.unusedVariables false
open Go Go.VC Ieee
variable {R : Cx} {Hs Rest : List HP} {w : World}
theorem fb_name : (Tryz.f149.name == "runtime.NumGoroutine") = false := by kernel_rfl
theorem fb_body : Tryz.f149.body.isNone = true := by kernel_rfl
theorem fb_next : Extern.findNext Tryz.f149 = none := by kernel_rfl
theorem fb_find : Extern.find Tryz.f149 = some Extern.MathFloatBits.float64bits := by kernel_rfl
theorem ff_name : (Tryz.f151.name == "runtime.NumGoroutine") = false := by kernel_rfl
theorem ff_body : Tryz.f151.body.isNone = true := by kernel_rfl
theorem ff_next : Extern.findNext Tryz.f151 = none := by kernel_rfl
theorem ff_find : Extern.find Tryz.f151 = some Extern.MathFloatBits.float64frombits := by kernel_rfl
theorem bits_run (x : Nat) (w : World) : (callFunc 149 #[.float .f64 x]).run Tryz.prog w = .ok (.value (.int .u64 x)) w := by
  rw [run_callFunc_extern Tryz.func149 fb_name fb_body fb_next fb_find]
  rfl
theorem from_run (n : Nat) (w : World) : (callFunc 151 #[.int .u64 n]).run Tryz.prog w = .ok (.value (.float .f64 n)) w := by
  rw [run_callFunc_extern Tryz.func151 ff_name ff_body ff_next ff_find]
  rfl
theorem key_spec {x : Nat} (hx : x < 18446744073709551616) (hw : Sat R Hs w) : Gets Tryz.prog 127 #[.float .f64 x] w fun v w' => v = .int .u64 (keyF x : Nat) ∧ Sat R Hs w' := by
  apply call127
  refine ⟨_, w, bits_run x w, _, rfl, ?_⟩
  have e1 : bitI BinOp.and IntKind.u64 (x : Int) 9223372036854775808 = ((x &&& 9223372036854775808 : Nat) : Int) := andU64 (y := 9223372036854775808) hx (by decide)
  have e2 : bitI BinOp.or IntKind.u64 (x : Int) 9223372036854775808 = ((x ||| 9223372036854775808 : Nat) : Int) := orU64 (y := 9223372036854775808) hx (by decide)
  rw [e1, e2, and_top hx]
  refine Br.mk (fun h => ⟨?_, hw⟩) (fun h => ⟨?_, hw⟩)
  · rw [not_u64 hx]
    unfold keyF
    split at h
    · simp at h
    · rename_i h1; rw [if_neg h1]
  · split at h
    · rename_i h1
      rw [or_top h1]
      unfold keyF
      rw [if_pos h1]
    · simp at h
theorem of_spec {k : Nat} (hk : k < 18446744073709551616) (hw : Sat R Hs w) : Gets Tryz.prog 150 #[.int .u64 k] w fun v w' => v = .float .f64 (ofF k) ∧ Sat R Hs w' := by
  apply call150
  have e1 : bitI BinOp.and IntKind.u64 (k : Int) 9223372036854775808 = ((k &&& 9223372036854775808 : Nat) : Int) := andU64 (y := 9223372036854775808) hk (by decide)
  unfold B150
  rw [e1, and_top hk]
  refine Br.mk (fun h => ?_) (fun h => ?_)
  · rw [not_u64 hk]
    refine ⟨_, w, from_run _ w, _, rfl, ?_, hw⟩
    unfold ofF
    split at h
    · rename_i h1; rw [if_neg (by omega)]
    · simp at h
  · have h1 : ¬ k < 9223372036854775808 := by
      intro h1
      rw [if_pos h1] at h
      simp at h
    have e2 := andnot_top hk (by omega)
    rw [e2]
    refine ⟨_, w, from_run _ w, _, rfl, ?_, hw⟩
    unfold ofF
    rw [if_pos (by omega)]
theorem rkey_spec {x : Nat} (hx : x < 18446744073709551616) (hw : Sat R Hs w) : Gets Tryz.prog 89 #[.float .f64 x] w fun v w' => v = .int .u64 (keyF x : Nat) ∧ Sat R Hs w' := by
  apply call89
  refine ⟨_, w, bits_run x w, _, rfl, ?_⟩
  unfold keyF
  with_reducible refine Br.d (fun h => ?_) (fun h => ?_)
  · refine ⟨?_, hw⟩
    have e1 : IntKind.u64.wrap ((x : Int) + 9223372036854775808) = ((x + 9223372036854775808 : Nat) : Int) := by rw [wrapU64 (by omega) (by omega)]; omega
    have h1 : x < 9223372036854775808 := by omega
    rw [if_pos h1]
    exact congrArg (Value.int .u64) e1
  · refine ⟨?_, hw⟩
    have e1 : IntKind.u64.wrap (18446744073709551615 - (x : Int)) = ((18446744073709551615 - x : Nat) : Int) := by rw [wrapU64 (by omega) (by omega)]; omega
    have h1 : ¬ x < 9223372036854775808 := by omega
    rw [if_neg h1]
    exact congrArg (Value.int .u64) e1
theorem rof_spec {k : Nat} (hk : k < 18446744073709551616) (hw : Sat R Hs w) : Gets Tryz.prog 93 #[.int .u64 k] w fun v w' => v = .float .f64 (ofF k) ∧ Sat R Hs w' := by
  apply call93
  unfold B93 ofF
  with_reducible refine Br.d (fun h => ?_) (fun h => ?_)
  · rw [wrapU64 (by omega) (by omega), show (k : Int) - 9223372036854775808 = ((k - 9223372036854775808 : Nat) : Int) by omega]
    exact ⟨_, w, from_run _ w, _, rfl, by rw [if_pos (by omega)], hw⟩
  · rw [wrapU64 (by omega) (by omega), show 18446744073709551615 - (k : Int) = ((18446744073709551615 - k : Nat) : Int) by omega]
    exact ⟨_, w, from_run _ w, _, rfl, by rw [if_neg (by omega)], hw⟩
end Go.Proofs.YtfgbbckfikiomaaGreatDoor
/- Package booking: a writer. Condition: bounds on lengths. -/
namespace Go.Proofs.YtfgbbckfikiomaaGreatDoor
set_option linter.unusedVariables false
open Go Go.VC
variable {R : Cx} {Hs Rest : List HP} {w : World}
abbrev wrp (p : Nat) (s : Sl) : HP := pts p (.cells [.slice s.a s.len s.cap].toArray 93 (0, 0))
def WrB (p : Nat) (bs : List Int) : HP := exs fun s : Sl => Star [wrp p s, Own s 5 (b8 bs)]
theorem Sat.wrB {p : Nat} {bs : List Int} : Sat R (WrB p bs :: Hs) w ↔ ∃ s : Sl, Sat R (wrp p s :: Own s 5 (b8 bs) :: Hs) w := by
  unfold WrB
  rw [Sat.exs]
  exact ⟨fun ⟨s, h⟩ => ⟨s, Sat.star.1 h⟩, fun ⟨s, h⟩ => ⟨s, Sat.star.2 h⟩⟩
theorem nn_bd {n : Int} (h : n < 9223372036854775808) : 0 ≤ nn n ∧ nn n < 9223372036854775808 := by unfold nn; omega
theorem nn_if (n : Int) : (if 0 > n then 0 else n) = nn n := by unfold nn; split <;> omega
theorem wnums_spec {p : Nat} {s : Sl} {xs bs : List Int} (hxs : ∀ x ∈ xs, x < 9223372036854775808) (hl : bs.length + 9 * xs.length ≤ 1099511627776) (hs : RoI R s xs) (hw : Sat R (WrB p bs :: Hs) w) :
    Gets Tryz.prog 49 #[.pointer (some ⟨p, 0, none⟩), .slice s.a s.len s.cap] w fun v w' => v = .tuple #[] ∧ Sat R (WrB p (bs ++ numsB (xs.map nn)) :: Hs) w' := by
  have hlen := hs.len
  apply call49
  refine ⟨fun i w => ∃ k : Nat, i = k ∧ k ≤ xs.length ∧ Sat R (WrB p (bs ++ numsB ((xs.take k).map nn)) :: Hs) w, fun i _ => xs.length - i.toNat, ⟨0, rfl, by omega, by simpa [numsB] using hw⟩, ?_⟩
  clear hw
  rintro _ _ w ⟨k, rfl, hk, hw⟩
  refine Br.d (fun h => ?_) (fun h => ?_)
  · have hkx : k < xs.length := by omega
    have hx := nn_bd (hxs xs[k] (List.getElem_mem _))
    have hxt : ∀ x ∈ (xs.take k).map nn, 0 ≤ x ∧ x < 18446744073709551616 := fun x hx => by
      obtain ⟨y, hy, rfl⟩ := List.mem_map.1 hx
      have := nn_bd (hxs y (List.mem_of_mem_take hy)); omega
    have hnl := numsB_len hxt
    rw [List.length_map, List.length_take] at hnl
    refine Ro.ix hs (eqS hw) k rfl hkx ?_
    obtain ⟨s0, hw⟩ := Sat.wrB.1 hw
    refine drw_ruleT hw fun w hw => ?_
    refine NilP.mk rfl ⟨s0, At.own selfS (by exact ⟨rfl, trivial⟩), ?_⟩
    rw [nn_if]
    obtain ⟨n, hn⟩ := Int.eq_ofNat_of_zero_le hx.1
    rw [hn, wrapU64 (by omega) (by omega)]
    refine (number_spec (by omega) hw).use ?_
    rintro _ w ⟨t, rfl, hw⟩
    refine ⟨t, rfl, hw.absorb, ?_⟩
    have hw : Sat R (Own s0 5 (b8 (bs ++ numsB ((xs.take k).map nn))) :: Own t 5 (b8 (numB n)) :: wrp p s0 :: VC.tru :: Hs) w := hw.arr
    have hnb := numB_len (n := n) (by omega)
    refine appendOO elB8 (s := s0) (n := 1099511627790) Tryz.underlying42 hw (by rw [List.length_append]; omega) (by omega) (by omega) fun s2 w hw => ?_
    have hw : Sat R (wrp p s0 :: Own s2 5 (b8 (bs ++ numsB ((xs.take k).map nn) ++ numB n)) :: Hs) w := by
      have h : Sat R (Own t 5 (b8 (numB n)) :: VC.tru :: wrp p s0 :: Own s2 5 (b8 (bs ++ numsB ((xs.take k).map nn) ++ numB n)) :: Hs) w := hw.arr
      exact h.drop.drop
    refine NilP.mk rfl ?_
    refine store_rule hw (by kernel_rfl) rfl (by simp [Value.cells]) fun w hw => ?_
    have hw := hw.re (wrp p s2)
    rw [wrap64 (by omega) (by omega)]
    refine ⟨⟨k + 1, by omega, by omega, Sat.wrB.2 ⟨s2, ?_⟩⟩, by dsimp only; omega⟩
    have e : (xs.take (k + 1)).map nn = (xs.take k).map nn ++ [nn xs[k]] := by rw [List.take_add_one, List.getElem?_eq_getElem hkx, List.map_append]; rfl
    rw [e, numsB_app, show numsB [nn xs[k]] = numB (nn xs[k]).toNat by simp [numsB], hn, Int.toNat_natCast, ← List.append_assoc]
    exact hw
  · have : k = xs.length := by omega
    subst this
    rw [List.take_length] at hw
    exact ⟨rfl, hw⟩
theorem wtext_spec {p : Nat} {s : Sl} {d bs : List Int} (hl : bs.length + d.length ≤ 1099511627776) (hd : d.length ≤ 1099511627776) (hs : Ro R s (b8 d)) (hw : Sat R (WrB p bs :: Hs) w) :
    Gets Tryz.prog 52 #[.pointer (some ⟨p, 0, none⟩), .slice s.a s.len s.cap] w fun v w' => v = .tuple #[] ∧ Sat R (WrB p (bs ++ textB d) :: Hs) w' := by
  apply call52
  obtain ⟨s0, hw⟩ := Sat.wrB.1 hw
  refine drw_ruleT hw fun w hw => ?_
  refine NilP.mk rfl ⟨s0, At.own selfS (by exact ⟨rfl, trivial⟩), ?_⟩
  refine (ftext_spec hs hd hw).use ?_
  rintro _ w ⟨t, rfl, hw⟩
  refine ⟨t, rfl, hw.absorb, ?_⟩
  have hw : Sat R (Own s0 5 (b8 bs) :: Own t 5 (b8 (textB d)) :: wrp p s0 :: VC.tru :: Hs) w := hw.arr
  have hnb := numB_len (n := d.length) (by omega)
  have htl : (textB d).length ≤ d.length + 9 := by unfold textB; rw [List.length_append]; omega
  refine appendOO elB8 (s := s0) (n := 1099511627800) Tryz.underlying42 hw (by omega) (by omega) (by omega) fun s2 w hw => ?_
  have hw : Sat R (wrp p s0 :: Own s2 5 (b8 (bs ++ textB d)) :: Hs) w := by
    have h : Sat R (Own t 5 (b8 (textB d)) :: VC.tru :: wrp p s0 :: Own s2 5 (b8 (bs ++ textB d)) :: Hs) w := hw.arr
    exact h.drop.drop
  refine NilP.mk rfl ?_
  refine store_rule hw (by kernel_rfl) rfl (by simp [Value.cells]) fun w hw => ?_
  have hw := hw.re (wrp p s2)
  exact ⟨rfl, Sat.wrB.2 ⟨s2, hw⟩⟩
theorem wfloat_spec {p x : Nat} {bs : List Int} (hl : bs.length ≤ 1099511627776) (hx : x < 18446744073709551616) (hw : Sat R (WrB p bs :: Hs) w) :
    Gets Tryz.prog 87 #[.pointer (some ⟨p, 0, none⟩), .float .f64 x] w fun v w' => v = .tuple #[] ∧ Sat R (WrB p (bs ++ fltB x) :: Hs) w' := by
  apply call87
  obtain ⟨s0, hw⟩ := Sat.wrB.1 hw
  refine drw_ruleT hw fun w hw => ?_
  refine NilP.mk rfl ⟨s0, At.own selfS (by exact ⟨rfl, trivial⟩), ?_⟩
  refine (key_spec hx hw).use ?_
  rintro _ w ⟨rfl, hw⟩
  refine ⟨_, rfl, hw, ?_⟩
  refine (number_spec (key_lt hx) hw).use ?_
  rintro _ w ⟨t, rfl, hw⟩
  refine ⟨t, rfl, hw.absorb, ?_⟩
  have hw : Sat R (Own s0 5 (b8 bs) :: Own t 5 (b8 (numB (keyF x))) :: wrp p s0 :: VC.tru :: Hs) w := hw.arr
  have hnb : (numB (keyF x)).length ≤ 9 := fltB_len hx
  unfold fltB
  refine appendOO elB8 (s := s0) (n := 1099511627800) Tryz.underlying42 hw (by omega) (by omega) (by omega) fun s2 w hw => ?_
  have hw : Sat R (wrp p s0 :: Own s2 5 (b8 (bs ++ numB (keyF x))) :: Hs) w := by
    have h : Sat R (Own t 5 (b8 (numB (keyF x))) :: VC.tru :: wrp p s0 :: Own s2 5 (b8 (bs ++ numB (keyF x))) :: Hs) w := hw.arr
    exact h.drop.drop
  refine NilP.mk rfl ?_
  refine store_rule hw (by kernel_rfl) rfl (by simp [Value.cells]) fun w hw => ?_
  have hw := hw.re (wrp p s2)
  exact ⟨rfl, Sat.wrB.2 ⟨s2, hw⟩⟩
end Go.Proofs.YtfgbbckfikiomaaGreatDoor
/- Package booking: whether a command may be. Condition: bounds on lengths. -/
namespace Go.Proofs.YtfgbbckfikiomaaGreatDoor
set_option linter.unusedVariables false
open Go Go.VC
open scoped Classical
variable {R : Cx} {Hs Rest : List HP} {w : World}
abbrev cmV (c : Cm) (sg sp : Sl) : List Value := [.int .i64 c.kind, .string c.pnr, .int .i64 c.flt, .int .i64 c.cls, .int .i64 c.many, .int .i64 c.time, .float .f64 c.sc, .string c.lab, .int .i64 c.rows, .slice sg.a sg.len sg.cap, .slice sp.a sp.len sp.cap]
abbrev cmC (b : Nat) (c : Cm) (sg sp : Sl) : HP := pts b (.cells (cmV c sg sp).toArray 38 (0, 0))
theorem right_iff {c : Cm} : RightC c ↔ (∀ n ∈ [c.flt, c.cls, c.many, c.rows] ++ c.grps, numOk n) ∧ (c.pnr.size ≤ 16 ∧ c.lab.size ≤ 16) ∧ (c.grps.length ≤ 16 ∧ c.parts.length ≤ 16) ∧ 1 ≤ c.kind ∧ c.kind ≤ 9 ∧ 0 ≤ c.time ∧ c.time ≤ 1099511627776 := by
  constructor
  · intro h
    refine ⟨fun n hn => ?_, ⟨h.pnr, h.lab⟩, ⟨h.gl, h.pl⟩, h.kind.1, h.kind.2, h.time.1, h.time.2⟩
    simp only [List.cons_append, List.nil_append, List.mem_cons] at hn
    rcases hn with rfl | rfl | rfl | rfl | hn
    · exact h.flt
    · exact h.cls
    · exact h.many
    · exact h.rows
    · exact h.grps n hn
  · rintro ⟨h1, ⟨h2, h3⟩, ⟨h4, h5⟩, h6, h7, h8, h9⟩
    exact ⟨h1 _ (by simp), h1 _ (by simp), h1 _ (by simp), h1 _ (by simp), fun n hn => h1 n (by simp [hn]), h2, h3, h4, h5, ⟨h6, h7⟩, h8, h9⟩
theorem bodd_spec {n : Int} : Gets Tryz.prog 108 #[.int .i64 n] w fun v w' => v = .bool (decide (n < 0 ∨ n > 9999)) ∧ w' = w := by
  apply call108
  refine Br.d (fun h => ⟨by rw [decide_eq_true (by omega)], rfl⟩) (fun h => ⟨?_, rfl⟩)
  congr 1
  exact decide_eq_decide.2 (by omega)
set_option maxHeartbeats 400000 in
theorem bright_spec {c : Cm} {sg sp : Sl} (hg : RoI R sg c.grps) (hgl : c.grps.length ≤ 100000) (hp : sp.len = c.parts.length) (hw : Sat R Hs w) :
    Gets Tryz.prog 41 #[.agg #[.int .i64 c.kind, .string c.pnr, .int .i64 c.flt, .int .i64 c.cls, .int .i64 c.many, .int .i64 c.time, .float .f64 c.sc, .string c.lab, .int .i64 c.rows, .slice sg.a sg.len sg.cap, .slice sp.a sp.len sp.cap]] w fun v w' => v = .bool (decide (RightC c)) ∧ Sat R Hs w' := by
  have hglen := hg.len
  apply call41
  refine new_rule hw fun b w hw => ?_
  have hw : Sat R (cmC b c sg sp :: Hs) w := hw
  repeat (first | refine NilP.mk rfl ?_ | refine ⟨_, At.own selfS (by exact ⟨rfl, trivial⟩), ?_⟩ | refine ⟨_, At.own (eqS hw) (by exact ⟨rfl, trivial⟩), ?_⟩ | refine ⟨_, (by rw [add_off]; exact At.own selfS (by exact ⟨rfl, trivial⟩)), ?_⟩ | refine ⟨_, (by rw [add_off]; exact At.own (eqS hw) (by exact ⟨rfl, trivial⟩)), ?_⟩)
  refine new_rule hw fun b2 w hw => ?_
  have hw : Sat R (Own ⟨some ⟨b2, 0, none⟩, 4, 4⟩ 3 (intsI [c.flt, c.cls, c.many, c.rows]) :: cmC b c sg sp :: Hs) w := own_lit hw
  refine ⟨sg, At.own (eqS hw) (by exact ⟨rfl, trivial⟩), ?_⟩
  refine appendRI (n := 200000) (s := ⟨some ⟨b2, 0, none⟩, 4, 4⟩) (ty := 28) elI8 Tryz.underlying28 hw hg (by simp; omega) (by omega) (by omega) fun t w hw => ?_
  obtain ⟨L, hL⟩ : ∃ L, L = [c.flt, c.cls, c.many, c.rows] ++ c.grps := ⟨_, rfl⟩
  have hLl : L.length = 4 + c.grps.length := by rw [hL]; simp; omega
  rw [← hL] at hw
  have htl : t.len = L.length := by have := Own.len hw; simpa using this
  refine ⟨fun i w => ∃ k : Nat, i = k ∧ k ≤ L.length ∧ (∀ n ∈ L.take k, numOk n) ∧ Sat R (Own t 3 (intsI L) :: cmC b c sg sp :: Hs) w, fun i _ => L.length - i.toNat, ⟨0, rfl, by omega, by simp, hw⟩, ?_⟩
  clear hw
  rintro _ _ w ⟨k, rfl, hk, hok, hw⟩
  have no : ¬ RightC c → ∀ {w}, Sat R (Own t 3 (intsI L) :: cmC b c sg sp :: Hs) w → (Value.bool false = .bool (decide (RightC c)) ∧ Sat R Hs w) := fun h w hw => ⟨by rw [decide_eq_false h], hw.drop.drop⟩
  refine Br.d (fun h => ?_) (fun h => ?_)
  · have hkx : k < L.length := by omega
    refine Own.ix hw (eqS hw) k rfl hkx ?_
    refine bodd_spec.use ?_
    rintro _ w2 ⟨rfl, rfl⟩
    refine ⟨_, rfl, Br.mk (fun h2 => no (fun hr => ?_) hw) (fun h2 => ?_)⟩
    · have h3 := (right_iff.1 hr).1 L[k] (by rw [← hL]; exact List.getElem_mem hkx)
      have h4 := of_decide_eq_true h2
      unfold numOk at h3
      omega
    · rw [wrap64 (by omega) (by omega)]
      refine ⟨⟨k + 1, by omega, by omega, fun n hn => ?_, hw⟩, by dsimp only; omega⟩
      rw [List.take_add_one, List.getElem?_eq_getElem hkx] at hn
      rcases List.mem_append.1 hn with hn | hn
      · exact hok n hn
      · rw [show n = L[k] by simpa using hn]
        have h4 := of_decide_eq_false h2
        unfold numOk
        omega
  · have hall : ∀ n ∈ L, numOk n := by rw [List.take_of_length_le (by omega)] at hok; exact hok
    refine ⟨fun t6 w => t6 = decide (c.pnr.size ≤ 16 ∧ c.lab.size ≤ 16) ∧ Sat R (Own t 3 (intsI L) :: cmC b c sg sp :: Hs) w, ⟨c.pnr, At.own (eqS hw) (by exact ⟨rfl, trivial⟩), Br.d (fun h => ?_) (fun h => ?_)⟩, ?_⟩
    · refine ⟨c.lab, At.own (eqS hw) (by exact ⟨rfl, trivial⟩), ?_, hw⟩
      exact decide_eq_decide.2 (by omega)
    · exact ⟨by rw [decide_eq_false (by omega)], hw⟩
    clear hw
    rintro _ _ w ⟨rfl, hw⟩
    refine ⟨fun t7 w => t7 = decide (c.grps.length ≤ 16 ∧ c.parts.length ≤ 16) ∧ Sat R (Own t 3 (intsI L) :: cmC b c sg sp :: Hs) w, ⟨sg, At.own (eqS hw) (by exact ⟨rfl, trivial⟩), Br.d (fun h => ?_) (fun h => ?_)⟩, ?_⟩
    · refine ⟨sp, At.own (eqS hw) (by exact ⟨rfl, trivial⟩), ?_, hw⟩
      exact decide_eq_decide.2 (by omega)
    · exact ⟨by rw [decide_eq_false (by omega)], hw⟩
    clear hw
    rintro _ _ w ⟨rfl, hw⟩
    have no2 : ¬ RightC c → (Value.bool false = .bool (decide (RightC c)) ∧ Sat R Hs w) := fun h => no h hw
    refine Br.d (fun h1 => ?_) (fun h1 => no2 fun hr => h1 (right_iff.1 hr).2.1)
    refine Br.d (fun h2 => ?_) (fun h2 => no2 fun hr => h2 (right_iff.1 hr).2.2.1)
    refine ⟨c.kind, At.own (eqS hw) (by exact ⟨rfl, trivial⟩), Br.d (fun h3 => ?_) (fun h3 => no2 fun hr => h3 (right_iff.1 hr).2.2.2.1)⟩
    refine ⟨c.kind, At.own (eqS hw) (by exact ⟨rfl, trivial⟩), Br.d (fun h4 => ?_) (fun h4 => no2 fun hr => h4 (right_iff.1 hr).2.2.2.2.1)⟩
    refine ⟨c.time, At.own (eqS hw) (by exact ⟨rfl, trivial⟩), Br.d (fun h5 => ?_) (fun h5 => no2 fun hr => h5 (right_iff.1 hr).2.2.2.2.2.1)⟩
    refine ⟨c.time, At.own (eqS hw) (by exact ⟨rfl, trivial⟩), ?_, hw.drop.drop⟩
    congr 1
    refine decide_eq_decide.2 ?_
    rw [right_iff, ← hL]
    exact ⟨fun h6 => ⟨hall, h1, h2, h3, h4, h5, h6⟩, fun h6 => h6.2.2.2.2.2.2⟩
end Go.Proofs.YtfgbbckfikiomaaGreatDoor
/- Package booking: a writer's steps, as Encode and Answer take them. Condition: bounds on lengths. -/
namespace Go.Proofs.YtfgbbckfikiomaaGreatDoor
set_option linter.unusedVariables false
open Go Go.VC
variable {R : Cx} {Hs Rest : List HP} {w : World}
theorem wlit_spec {p b n : Nat} {xs bs : List Int} (hn : n = xs.length) (hxs : ∀ x ∈ xs, x < 9223372036854775808) (hl : bs.length + 9 * xs.length ≤ 1099511627776) (hw : Sat R (pts b (.cells (intsI xs).toArray 3 (0, 0)) :: WrB p bs :: Hs) w) :
    Gets Tryz.prog 49 #[.pointer (some ⟨p, 0, none⟩), .slice (some ⟨b, 0, none⟩) n n] w fun v w' => v = .tuple #[] ∧ Sat R (WrB p (bs ++ numsB (xs.map nn)) :: Hs) w' := by
  have hw : Sat R (Own ⟨some ⟨b, 0, none⟩, n, n⟩ 3 (intsI xs) :: WrB p bs :: Hs) w := own_lit hw (by rw [List.length_map]; exact hn)
  obtain ⟨R', hr, _, hw, back⟩ := Own.lendI hw (by omega)
  refine (wnums_spec hxs hl hr hw).use ?_
  rintro _ w ⟨rfl, hw⟩
  exact ⟨_, rfl, rfl, (back hw).drop⟩
theorem wstr_rule {p : Nat} {s : ByteArray} {bs : List Int} {K : World → Prop} (hl : bs.length + s.size ≤ 1099511627776) (hw : Sat R (WrB p bs :: Hs) w) (k : ∀ w', Sat R (WrB p (bs ++ strB s) :: Hs) w' → K w') :
    ∃ w_1 : World, ∃ t : Sl, ((convert 9 42 (.string s)).run Tryz.prog w = .ok (.slice t.a t.len t.cap) w_1) ∧
      Calls Tryz.prog 52 #[.pointer (some ⟨p, 0, none⟩), .slice t.a t.len t.cap] w_1 fun e w_2 => (e = .returned (.tuple #[])) ∧ K w_2 := by
  refine convB_rule Tryz.underlying9 Tryz.underlying42 Tryz.underlying5 hw fun t w hw => ?_
  have hsz := bytesL_len s
  obtain ⟨R', hr, _, hw, back⟩ := Own.lend hw (by rw [List.length_map]; omega)
  refine (wtext_spec (by omega) (by omega) hr hw).use ?_
  rintro _ w ⟨rfl, hw⟩
  exact ⟨rfl, k _ (back hw).drop⟩
end Go.Proofs.YtfgbbckfikiomaaGreatDoor
/- Package booking: Encode. Condition: bounds on lengths; words. -/
namespace Go.Proofs.YtfgbbckfikiomaaGreatDoor
set_option linter.unusedVariables false
open Go Go.VC
open scoped Classical
variable {R : Cx} {Hs Rest : List HP} {w : World}
theorem strB_len {s : ByteArray} (h : s.size ≤ 100000) : (strB s).length ≤ s.size + 9 := by
  have := textB_len (d := bytesL s) (by rw [bytesL_len]; omega)
  rw [bytesL_len] at this
  exact this
theorem numsB_sp (a : Int) (l : List Int) : numsB (a :: l) = numsB [a] ++ numsB l := numsB_one a l
theorem nn4 {a b c d : Int} (h0 : 0 ≤ a) (h1 : 0 ≤ b) (h2 : 0 ≤ c) (h3 : 0 ≤ d) : numsB ([a, b, c, d].map nn) = numsB [a] ++ (numsB [b] ++ (numsB [c] ++ numsB [d])) := by
  show numsB [nn a, nn b, nn c, nn d] = _
  rw [nn_id h0, nn_id h1, nn_id h2, nn_id h3, numsB_sp a, numsB_sp b, numsB_sp c]
theorem nn1 {a : Int} (h : 0 ≤ a) : numsB ([a].map nn) = numsB [a] := by
  show numsB [nn a] = _
  rw [nn_id h]
theorem wlist_spec {p : Nat} {s : Sl} {xs bs : List Int} (hxs : ∀ x ∈ xs, x < 9223372036854775808) (hx : xs.length ≤ 100000) (hl : bs.length ≤ 1000000) (hs : RoI R s xs) (hw : Sat R (WrB p bs :: Hs) w) :
    Gets Tryz.prog 75 #[.pointer (some ⟨p, 0, none⟩), .slice s.a s.len s.cap] w fun v w' => v = .tuple #[] ∧ Sat R (WrB p (bs ++ numsB [(xs.length : Int)] ++ numsB (xs.map nn)) :: Hs) w' := by
  have hlen := hs.len
  have l1 := nums1_len (x := (xs.length : Int)) (by omega)
  apply call75
  refine new_rule hw fun b w hw => ?_
  refine (wlit_spec (xs := [(s.len : Int)]) rfl (by simp; omega) (by simp only [List.length_cons, List.length_nil]; omega) hw).use ?_
  clear hw
  rintro _ w ⟨rfl, hw⟩
  refine ⟨rfl, ?_⟩
  rw [nn1 (by omega), show ((s.len : Nat) : Int) = (xs.length : Int) by omega] at hw
  refine (wnums_spec hxs (by simp only [List.length_append]; omega) hs hw).use ?_
  rintro _ w ⟨rfl, hw⟩
  exact ⟨rfl, rfl, hw⟩
set_option maxHeartbeats 1000000 in
theorem benc_spec {c : Cm} {sg sp : Sl} (hf : FltC c) (hg : RoI R sg c.grps) (hgl : c.grps.length ≤ 100000) (hp : SlR R.m sp (flts c.parts)) (hpl : c.parts.length ≤ 100000) (hw : Sat R Hs w) :
    Gets Tryz.prog 29 #[.agg #[.int .i64 c.kind, .string c.pnr, .int .i64 c.flt, .int .i64 c.cls, .int .i64 c.many, .int .i64 c.time, .float .f64 c.sc, .string c.lab, .int .i64 c.rows, .slice sg.a sg.len sg.cap, .slice sp.a sp.len sp.cap]] w fun v w' =>
      (¬ RightC c ∧ v = .tuple #[.slice none 0 0, .int .i64 1] ∧ Sat R Hs w') ∨ (RightC c ∧ ∃ t : Sl, v = .tuple #[.slice t.a t.len t.cap, .int .i64 0] ∧ Sat R (Own t 5 (b8 (cmB c)) :: Hs) w') := by
  have hplen : sp.len = c.parts.length := by have := hp.len; simpa using this
  apply call29
  refine new_rule hw fun b w hw => ?_
  have hw : Sat R (cmC b c sg sp :: Hs) w := hw
  refine ⟨c.kind, c.pnr, c.flt, c.cls, c.many, c.time, c.sc, c.lab, c.rows, sg, sp, At.own (eqS hw) (by exact ⟨rfl, rfl, rfl, rfl, rfl, rfl, rfl, rfl, rfl, rfl, rfl, trivial⟩), ?_⟩
  refine (bright_spec hg hgl hplen hw).use ?_
  clear hw
  rintro _ w ⟨rfl, hw⟩
  refine ⟨_, rfl, Br.nd (fun hr => .inl ⟨hr, rfl, hw.drop⟩) (fun hr => ?_)⟩
  have r1 := hr.flt
  have r2 := hr.cls
  have r3 := hr.many
  have r4 := hr.rows
  have r5 := hr.kind
  have r6 := hr.time
  have r7 := hr.pnr
  have r8 := hr.lab
  have r9 := hr.gl
  have r10 := hr.pl
  unfold numOk at r1 r2 r3 r4
  have l1 := nums1_len (x := c.kind) (by omega)
  have l2 := strB_len (s := c.pnr) (by omega)
  have l3 := nums1_len (x := c.flt) (by omega)
  have l4 := nums1_len (x := c.cls) (by omega)
  have l5 := nums1_len (x := c.many) (by omega)
  have l6 := nums1_len (x := c.time) (by omega)
  have l7 := fltB_len hf.sc
  have l8 := strB_len (s := c.lab) (by omega)
  have l9 := nums1_len (x := c.rows) (by omega)
  have l10 := nums1_len (x := (c.grps.length : Int)) (by omega)
  have l11 := numsB_len (l := c.grps) fun y hy => by have := hr.grps y hy; unfold numOk at this; omega
  have l12 := nums1_len (x := (c.parts.length : Int)) (by omega)
  refine new_rule hw fun p w hw => ?_
  have hw : Sat R (WrB p [] :: cmC b c sg sp :: Hs) w := Sat.wrB.2 ⟨⟨none, 0, 0⟩, (Own.nil hw).swap⟩
  refine ⟨c.kind, At.own (eqS hw) (by exact ⟨rfl, trivial⟩), ?_⟩
  refine new_rule hw fun b15 w hw => ?_
  refine (wlit_spec (xs := [c.kind]) rfl (by simp; omega) (by simp) hw).use ?_
  clear hw
  rintro _ w ⟨rfl, hw⟩
  refine ⟨rfl, ?_⟩
  rw [nn1 (by omega), List.nil_append] at hw
  refine ⟨c.pnr, At.own (eqS hw) (by exact ⟨rfl, trivial⟩), ?_⟩
  refine wstr_rule (by omega) hw fun w hw => ?_
  refine ⟨c.flt, At.own (eqS hw) (by exact ⟨rfl, trivial⟩), c.cls, At.own (eqS hw) (by exact ⟨rfl, trivial⟩), c.many, At.own (eqS hw) (by exact ⟨rfl, trivial⟩), c.time, At.own (eqS hw) (by exact ⟨rfl, trivial⟩), ?_⟩
  refine new_rule hw fun b31 w hw => ?_
  refine (wlit_spec (xs := [c.flt, c.cls, c.many, c.time]) rfl (by simp; omega) (by simp only [List.length_append, List.length_cons, List.length_nil]; omega) hw).use ?_
  clear hw
  rintro _ w ⟨rfl, hw⟩
  refine ⟨rfl, ?_⟩
  rw [nn4 (by omega) (by omega) (by omega) (by omega)] at hw
  refine ⟨c.sc, At.own (eqS hw) (by exact ⟨rfl, trivial⟩), ?_⟩
  refine (wfloat_spec (by simp only [List.length_append]; omega) hf.sc hw).use ?_
  clear hw
  rintro _ w ⟨rfl, hw⟩
  refine ⟨rfl, ?_⟩
  refine ⟨c.lab, At.own (eqS hw) (by exact ⟨rfl, trivial⟩), ?_⟩
  refine wstr_rule (by simp only [List.length_append]; omega) hw fun w hw => ?_
  refine ⟨c.rows, At.own (eqS hw) (by exact ⟨rfl, trivial⟩), ?_⟩
  refine new_rule hw fun b46 w hw => ?_
  refine (wlit_spec (xs := [c.rows]) rfl (by simp; omega) (by simp only [List.length_append, List.length_cons, List.length_nil]; omega) hw).use ?_
  clear hw
  rintro _ w ⟨rfl, hw⟩
  refine ⟨rfl, ?_⟩
  rw [nn1 (by omega)] at hw
  refine ⟨sg, At.own (eqS hw) (by exact ⟨rfl, trivial⟩), ?_⟩
  refine (wlist_spec (xs := c.grps) (fun y hy => by have := hr.grps y hy; unfold numOk at this; omega) (by omega) (by simp only [List.length_append]; omega) hg hw).use ?_
  clear hw
  rintro _ w ⟨rfl, hw⟩
  refine ⟨rfl, ?_⟩
  rw [nn_map fun y hy => (hr.grps y hy).1] at hw
  refine ⟨sp, At.own (eqS hw) (by exact ⟨rfl, trivial⟩), ?_⟩
  refine new_rule hw fun b57 w hw => ?_
  refine (wlit_spec (xs := [(sp.len : Int)]) rfl (by simp; omega) (by simp only [List.length_append, List.length_cons, List.length_nil]; omega) hw).use ?_
  clear hw
  rintro _ w ⟨rfl, hw⟩
  refine ⟨rfl, ?_⟩
  rw [nn1 (by omega), show ((sp.len : Nat) : Int) = (c.parts.length : Int) by omega] at hw
  refine ⟨sp, At.own (eqS hw) (by exact ⟨rfl, trivial⟩), ?_⟩
  obtain ⟨B, hBl, hB, hw⟩ : ∃ B : List Int, B.length ≤ 100000 ∧ B ++ (c.parts.map fltB).flatten = cmB c ∧ Sat R (WrB p B :: cmC b c sg sp :: Hs) w :=
    ⟨_, by simp only [List.length_append]; omega, by unfold cmB; simp only [List.append_assoc], hw⟩
  refine ⟨fun i w => ∃ k : Nat, i = k ∧ k ≤ c.parts.length ∧ Sat R (WrB p (B ++ ((c.parts.take k).map fltB).flatten) :: cmC b c sg sp :: Hs) w, fun i _ => c.parts.length - i.toNat, ⟨0, rfl, by omega, by simpa using hw⟩, ?_⟩
  clear hw
  rintro _ _ w ⟨k, rfl, hk, hw⟩
  refine Br.d (fun h => ?_) (fun h => ?_)
  · have hkx : k < c.parts.length := by omega
    have hfl := flat_len (l := c.parts.take k) (code := fltB) (m := 9) fun x hx => fltB_len (hf.parts x (List.mem_of_mem_take hx))
    rw [List.length_take] at hfl
    refine Ro.ixF (hp.ro (by rw [List.length_map]; omega)) (eqS hw) k rfl hkx ?_
    refine (wfloat_spec (by rw [List.length_append]; omega) (hf.parts _ (List.getElem_mem hkx)) hw).use ?_
    clear hw
    rintro _ w ⟨rfl, hw⟩
    refine ⟨rfl, ?_⟩
    rw [wrap64 (by omega) (by omega)]
    refine ⟨⟨k + 1, by omega, by omega, ?_⟩, by dsimp only; omega⟩
    rw [List.take_add_one, List.getElem?_eq_getElem hkx, List.map_append, List.flatten_append, ← List.append_assoc]
    simpa using hw
  · rw [List.take_of_length_le (l := c.parts) (by omega), hB] at hw
    obtain ⟨s, hw⟩ := Sat.wrB.1 hw
    refine ⟨s, At.own (eqS hw) (by exact ⟨rfl, trivial⟩), .inr ⟨hr, s, rfl, ?_⟩⟩
    exact (hw.drop.swap).drop
end Go.Proofs.YtfgbbckfikiomaaGreatDoor
/- Package booking: Answer. Condition: bounds on lengths. -/
namespace Go.Proofs.YtfgbbckfikiomaaGreatDoor
set_option linter.unusedVariables false
open Go Go.VC
variable {R : Cx} {Hs Rest : List HP} {w : World}
abbrev rpV (r : Rp) (sl sb : Sl) : List Value := [.int .i64 r.code, .string r.pnr, .int .i64 r.state, .int .i64 r.flt, .int .i64 r.cls, .int .i64 r.many, .int .i64 r.time, .slice sl.a sl.len sl.cap, .slice sb.a sb.len sb.cap]
abbrev rpC (b : Nat) (r : Rp) (sl sb : Sl) : HP := pts b (.cells (rpV r sl sb).toArray 31 (0, 0))
structure RpW (r : Rp) : Prop where
  ints : ∀ x ∈ [r.code, r.state, r.flt, r.cls, r.many, r.time] ++ r.left, x < 9223372036854775808
  pnr : r.pnr.size ≤ 100000
  ll : r.left.length ≤ 100000
  bl : r.labs.length ≤ 100000
  labs : ∀ s ∈ r.labs, s.size ≤ 100000
end Go.Proofs.YtfgbbckfikiomaaGreatDoor
/- Package booking: a reader. Condition: bounds on lengths. -/
namespace Go.Proofs.YtfgbbckfikiomaaGreatDoor
set_option linter.unusedVariables false
open Go Go.VC
variable {R : Cx} {Hs Rest : List HP} {w : World}
theorem bnum_spec {r : Nat} {rd : Rd} {most : Int} (hb : Bytes rd.bs) (h0 : 0 ≤ most) (h1 : most < 9223372036854775808) (hw : Sat R (RdAt r rd :: Hs) w) :
    Gets Tryz.prog 78 #[.agg #[.pointer (some ⟨r, 0, none⟩)], .int .i64 most] w fun v w' => v = .int .i64 (rdNum most rd).1 ∧ Sat R (RdAt r (rdNum most rd).2 :: Hs) w' := by
  have hv := rdNum_val hb h0
  apply call78
  refine new_rule hw fun b w hw => ?_
  refine ⟨_, At.own (eqS hw) (by exact ⟨rfl, trivial⟩), ?_⟩
  rw [wrapU64 (by omega) (by omega)]
  refine (rnum_spec hb hw.drop).use ?_
  rintro _ w ⟨rfl, hw⟩
  refine ⟨_, rfl, ?_, hw⟩
  rw [wrap64 (by omega) (by omega)]
theorem bstr_spec {r : Nat} {rd : Rd} {most : Int} (hb : Bytes rd.bs) (hl : rd.bs.length ≤ 1099511627776) (h1 : most < 9223372036854775808) (hw : Sat R (RdAt r rd :: Hs) w) :
    Gets Tryz.prog 79 #[.agg #[.pointer (some ⟨r, 0, none⟩)], .int .i64 most] w fun v w' => v = .string (strRd most rd).1 ∧ Sat R (RdAt r (strRd most rd).2 :: Hs) w' := by
  apply call79
  refine new_rule hw fun b w hw => ?_
  refine ⟨_, At.own (eqS hw) (by exact ⟨rfl, trivial⟩), ?_⟩
  refine (rtext_spec h1 hl hb hw.drop).use ?_
  rintro _ w ⟨t, rfl, hw⟩
  have hlen := rdText_len (most := most) (rd := rd)
  obtain ⟨R', hr, _, hw2, back⟩ := Own.lend hw (by rw [List.length_map]; omega)
  refine ⟨t, rfl, VC.strOf (rdText most rd).1, fun w' e => ?_, rfl, hw.drop⟩
  rw [show w' = w from e]
  exact convS_ro Tryz.underlying42 Tryz.underlying5 Tryz.underlying9 hw2 hr
theorem bflt_spec {r : Nat} {rd : Rd} (hb : Bytes rd.bs) (hw : Sat R (RdAt r rd :: Hs) w) :
    Gets Tryz.prog 91 #[.agg #[.pointer (some ⟨r, 0, none⟩)]] w fun v w' => v = .float .f64 (fltRd rd).1 ∧ Sat R (RdAt r (fltRd rd).2 :: Hs) w' := by
  have hv := rdNum_val (most := 18446744073709551615) hb (by omega)
  apply call91
  refine new_rule hw fun b w hw => ?_
  refine ⟨_, At.own (eqS hw) (by exact ⟨rfl, trivial⟩), ?_⟩
  refine (rnum_spec hb hw.drop).use ?_
  rintro _ w ⟨rfl, hw⟩
  refine ⟨_, rfl, ?_⟩
  obtain ⟨n, hn⟩ := Int.eq_ofNat_of_zero_le hv.1
  rw [hn]
  refine (of_spec (k := n) (by omega) hw).use ?_
  rintro _ w ⟨rfl, hw⟩
  refine ⟨_, rfl, ?_, hw⟩
  show _ = Value.float .f64 (ofF (rdNum 18446744073709551615 rd).1.toNat)
  rw [hn, Int.toNat_natCast]
end Go.Proofs.YtfgbbckfikiomaaGreatDoor
/- Package booking: so many things, one by one. Condition: bounds on lengths. -/
namespace Go.Proofs.YtfgbbckfikiomaaGreatDoor
set_option linter.unusedVariables false
open Go Go.VC
variable {R : Cx} {Hs Rest : List HP} {w : World}
theorem timesI_spec {r n : Nat} {rd : Rd} {f : Value} {one : Rd → Int × Rd} {I : Rd → Prop} (hI : ∀ rd, I rd → I (one rd).2) (hn : n ≤ 100000) (h0 : I rd)
    (hone : ∀ (T : HP) (rd : Rd) (w : World), I rd → Sat R (RdAt r rd :: T :: Hs) w → CalW Tryz.prog cl f [] w fun e w' => e = .returned (.int .i64 (one rd).1) ∧ Sat R (RdAt r (one rd).2 :: T :: Hs) w')
    (hw : Sat R (RdAt r rd :: Hs) w) :
    Gets Tryz.prog 80 #[.int .i64 n, f] w fun v w' => ∃ t : Sl, v = .slice t.a t.len t.cap ∧ Sat R (Own t 3 (intsI (rdEach one n rd).1) :: RdAt r (rdEach one n rd).2 :: Hs) w' := by
  apply call80
  have inv : ∀ k, I (rdEach one k rd).2 := fun k => (rdEach_inv (one := one) (P := I) (Q := fun _ => True) (fun r hr => ⟨trivial, hI r hr⟩) k h0).2
  refine ⟨fun out i w => ∃ k : Nat, i = k ∧ k ≤ n ∧ Sat R (Own out 3 (intsI (rdEach one k rd).1) :: RdAt r (rdEach one k rd).2 :: Hs) w, fun _ i _ => n - i.toNat, ⟨0, rfl, by omega, Own.nil hw⟩, ?_⟩
  clear hw
  rintro _ out _ w ⟨k, rfl, hk, hw⟩
  refine Br.d (fun h => ?_) (fun h => ?_)
  · refine (hone _ _ _ (inv k) hw.swap).mono ?_
    rintro _ w ⟨rfl, hw⟩
    refine ⟨_, rfl, ?_⟩
    have hl := rdEach_len one k rd
    refine pushI_rule elI8 hw.swap (by rw [hl]; omega) fun out' w hw => ?_
    rw [wrap64 (by omega) (by omega)]
    refine ⟨⟨k + 1, by omega, by omega, ?_⟩, by dsimp only; omega⟩
    rw [rdEach_snoc]
    exact hw
  · have : k = n := by omega
    subst this
    exact ⟨out, rfl, hw⟩
end Go.Proofs.YtfgbbckfikiomaaGreatDoor
/- Package booking: so many texts, so many floats, one by one. Condition: bounds on lengths. -/
namespace Go.Proofs.YtfgbbckfikiomaaGreatDoor
set_option linter.unusedVariables false
open Go Go.VC
variable {R : Cx} {Hs Rest : List HP} {w : World}
theorem elFl : El Tryz.prog 36 36 33 8 := ⟨Tryz.underlying36, ⟨_, Tryz.underlying36⟩, by kernel_rfl⟩
theorem oneAll_fl (l : List Nat) : oneAll (flts l) = true := by unfold oneAll flts; simp [Value.oneCell']
theorem timesF_spec {r n : Nat} {rd : Rd} {f : Value} {one : Rd → Nat × Rd} {I : Rd → Prop} (hI : ∀ rd, I rd → I (one rd).2) (hn : n ≤ 100000) (h0 : I rd)
    (hone : ∀ (T : HP) (rd : Rd) (w : World), I rd → Sat R (RdAt r rd :: T :: Hs) w → CalW Tryz.prog cl f [] w fun e w' => e = .returned (.float .f64 (one rd).1) ∧ Sat R (RdAt r (one rd).2 :: T :: Hs) w')
    (hw : Sat R (RdAt r rd :: Hs) w) :
    Gets Tryz.prog 92 #[.int .i64 n, f] w fun v w' => ∃ t : Sl, v = .slice t.a t.len t.cap ∧ Sat R (Own t 33 (flts (rdEach one n rd).1) :: RdAt r (rdEach one n rd).2 :: Hs) w' := by
  apply call92
  have inv : ∀ k, I (rdEach one k rd).2 := fun k => (rdEach_inv (one := one) (P := I) (Q := fun _ => True) (fun r hr => ⟨trivial, hI r hr⟩) k h0).2
  refine ⟨fun out i w => ∃ k : Nat, i = k ∧ k ≤ n ∧ Sat R (Own out 33 (flts (rdEach one k rd).1) :: RdAt r (rdEach one k rd).2 :: Hs) w, fun _ i _ => n - i.toNat, ⟨0, rfl, by omega, Own.nil hw⟩, ?_⟩
  clear hw
  rintro _ out _ w ⟨k, rfl, hk, hw⟩
  refine Br.d (fun h => ?_) (fun h => ?_)
  · refine (hone _ _ _ (inv k) hw.swap).mono ?_
    rintro _ w ⟨rfl, hw⟩
    refine ⟨_, rfl, ?_⟩
    have hl := rdEach_len one k rd
    refine push_rule elFl hw.swap (oneAll_fl _) rfl (by rw [List.length_map, hl]; omega) (by rw [List.length_map, hl]; omega) fun out' w hw => ?_
    rw [wrap64 (by omega) (by omega)]
    refine ⟨⟨k + 1, by omega, by omega, ?_⟩, by dsimp only; omega⟩
    rw [rdEach_snoc]
    simpa using hw
  · have : k = n := by omega
    subst this
    exact ⟨out, rfl, hw⟩
end Go.Proofs.YtfgbbckfikiomaaGreatDoor
/- Reference 18: numbers as bytes. Condition: bounds on lengths. -/
namespace Go.Proofs.YtfgbbckfikiomaaGreatDoor
set_option linter.unusedVariables false
open Go Go.VC
variable {R : Cx} {Hs Rest : List HP} {w : World}
theorem r18nums_spec {s : Sl} {xs : List Int} (hxs : ∀ x ∈ xs, x < 9223372036854775808) (hl : 9 * xs.length ≤ 1099511627776) (hs : RoI R s xs) (hw : Sat R Hs w) :
    Gets Tryz.prog 71 #[.slice s.a s.len s.cap] w fun v w' => ∃ t : Sl, v = .slice t.a t.len t.cap ∧ Sat R (Own t 5 (b8 (numsB (xs.map nn))) :: Hs) w' := by
  have hlen := hs.len
  apply call71
  refine ⟨fun out i w => ∃ k : Nat, i = k ∧ k ≤ xs.length ∧ Sat R (Own out 5 (b8 (numsB ((xs.take k).map nn))) :: Hs) w, fun _ i _ => xs.length - i.toNat, ⟨0, rfl, by omega, Own.nil hw⟩, ?_⟩
  clear hw
  rintro _ out _ w ⟨k, rfl, hk, hw⟩
  refine Br.d (fun h => ?_) (fun h => ?_)
  · have hkx : k < xs.length := by omega
    have hx := nn_bd (hxs xs[k] (List.getElem_mem _))
    have hxt : ∀ x ∈ (xs.take k).map nn, 0 ≤ x ∧ x < 18446744073709551616 := fun x hx => by
      obtain ⟨y, hy, rfl⟩ := List.mem_map.1 hx
      have := nn_bd (hxs y (List.mem_of_mem_take hy)); omega
    have hnl := numsB_len hxt
    rw [List.length_map, List.length_take] at hnl
    refine Ro.ix hs (eqS hw) k rfl hkx ?_
    rw [nn_if]
    obtain ⟨n, hn⟩ := Int.eq_ofNat_of_zero_le hx.1
    rw [hn, wrapU64 (by omega) (by omega)]
    refine (rnumber_spec (by omega) hw).use ?_
    rintro _ w ⟨t, rfl, hw⟩
    refine ⟨t, rfl, ?_⟩
    have hnb := numB_len (n := n) (by omega)
    refine appendOO elB8 (s := out) (n := 1099511627790) Tryz.underlying42 hw.swap (by omega) (by omega) (by omega) fun s2 w hw => ?_
    rw [wrap64 (by omega) (by omega)]
    refine ⟨⟨k + 1, by omega, by omega, ?_⟩, by dsimp only; omega⟩
    have e : (xs.take (k + 1)).map nn = (xs.take k).map nn ++ [nn xs[k]] := by rw [List.take_add_one, List.getElem?_eq_getElem hkx, List.map_append]; rfl
    rw [e, numsB_app, show numsB [nn xs[k]] = numB (nn xs[k]).toNat by simp [numsB], hn, Int.toNat_natCast]
    exact hw.swap.drop
  · rw [List.take_of_length_le (l := xs) (by omega)] at hw
    exact ⟨out, rfl, hw⟩
end Go.Proofs.YtfgbbckfikiomaaGreatDoor
/- Reference 02: a reader's text, at this seat. Condition: bounds on lengths. -/
namespace Go.Proofs.YtfgbbckfikiomaaGreatDoor
set_option linter.unusedVariables false
open Go Go.VC
variable {R : Cx} {Hs Rest : List HP} {w : World}
theorem _root_.Go.VC.SlR.b8take {h : Heap} {s : Sl} {xs : List Int} (a : SlR h s (b8 xs)) {k : Nat} (hk : k ≤ xs.length) : SlR h ⟨s.a, k, s.cap⟩ (b8 (xs.take k)) := by
  have := a.take (k := k) (by simpa using hk)
  simpa using this
theorem _root_.Go.VC.SlR.b8drop {h : Heap} {s : Sl} {xs : List Int} (a : SlR h s (b8 xs)) {k : Nat} (hk : k ≤ xs.length) : SlR h (sdrop s k) (b8 (xs.drop k)) := by
  have := a.drop (k := k) (by simpa using hk)
  simpa using this
theorem rrtext_spec {r : Nat} {s : Sl} {bs : List Int} {rd : Rd} {most : Int} (hm : most < 9223372036854775808) (hl : bs.length ≤ 1099511627776) (hb : ∀ x ∈ bs, 0 ≤ x ∧ x < 256) (hs : SlR R.m s (b8 bs)) (hw : Sat R (RRdAt r s bs rd :: Hs) w) :
    Gets Tryz.prog 85 #[.pointer (some ⟨r, 0, none⟩), .int .i64 most] w fun v w' => ∃ t : Sl, v = .slice t.a t.len t.cap ∧ Sat R (Own t 5 (b8 (rdText most rd).1) :: RRdAt r s bs (rdText most rd).2 :: Hs) w' := by
  have hsl : s.len = bs.length := by have := hs.len; simpa using this
  have hscap := hs.cap
  obtain ⟨n, ⟨hn, hd⟩, hw⟩ := Sat.rrd.1 hw
  have hlen : rd.bs.length = bs.length - n := by rw [← hd, List.length_drop]
  have hb2 : ∀ x ∈ rd.bs, 0 ≤ x ∧ x < 256 := fun x hx => hb x (by rw [← hd] at hx; exact List.mem_of_mem_drop hx)
  apply call85
  refine (rnext_spec hl hb hs hn hw).use ?_
  rintro _ w ⟨rfl, hw⟩
  refine ⟨_, _, _, rfl, ?_⟩
  rw [hd]
  have bad : rdText most rd = ([], ⟨rd.bs, true⟩) → ∀ {w}, Sat R (pts r (rrCells s n rd.bad) :: Hs) w → NilP (some ⟨r, 0, none⟩) fun a_t25 =>
      ∃ w_2 : World, ((Instr.storeAt 4 (.pointer ((some ⟨a_t25.block, a_t25.off + 2, none⟩))) (.bool true)).run Tryz.prog w = .ok () w_2) ∧
      (∃ t : Sl, Value.slice none 0 0 = .slice t.a t.len t.cap ∧ Sat R (Own t 5 (b8 (rdText most rd).1) :: RRdAt r s bs (rdText most rd).2 :: Hs) w_2) := fun e w hw => by
    refine NilP.mk rfl ?_
    refine store_rule hw (by kernel_rfl) rfl (by simp [Value.cells]) fun w hw => ?_
    have hw := hw.re (pts r (rrCells s n true))
    rw [e]
    exact ⟨⟨none, 0, 0⟩, rfl, Own.nil (Sat.rrd.2 ⟨n, ⟨hn, hd⟩, hw⟩)⟩
  refine ⟨fun w => (∃ x k, rd.bad = false ∧ parse rd.bs = some (x, false, k) ∧ 0 ≤ most ∧ x ≤ most ∧ x ≤ (rd.bs.length : Int) - k) ∧ Sat R (pts r (rrCells s n rd.bad) :: Hs) w, drw_rule hw fun w hw => ?_, ?_⟩
  · by_cases hbd : rd.bad = true
    · have e : nextR ⟨rd.bs, rd.bad⟩ = (0, false, 0) := by unfold nextR; rw [if_pos hbd]
      rw [e]; dsimp only
      refine Br.mk (fun h => bad ?_ hw) (fun h => by simp at h)
      unfold rdText; rw [if_pos hbd]; rw [show rd = ⟨rd.bs, rd.bad⟩ from rfl, hbd]
    · have hbd : rd.bad = false := by simpa using hbd
      cases hp : parse rd.bs with
      | none =>
        have e : nextR ⟨rd.bs, rd.bad⟩ = (0, false, 0) := by unfold nextR; simp [hp]
        rw [e]; dsimp only
        refine Br.mk (fun h => bad ?_ hw) (fun h => by simp at h)
        unfold rdText; rw [if_neg (by rw [hbd]; simp), hp]
      | some p =>
        obtain ⟨x, neg, k⟩ := p
        have e : nextR ⟨rd.bs, rd.bad⟩ = (x, neg, (k : Int)) := by unfold nextR; simp [hp, hbd]
        rw [e]; dsimp only
        obtain ⟨x0, x1, k0, k1, k2⟩ := parse_bd hb2 hp
        have e2 : rdText most rd = if neg = false ∧ 0 ≤ most ∧ x ≤ most ∧ x ≤ ((rd.bs.length : Int) - k) then (((rd.bs.drop k).take x.toNat), ⟨rd.bs.drop (k + x.toNat), false⟩) else ([], ⟨rd.bs, true⟩) := by
          unfold rdText; rw [if_neg (by rw [hbd]; simp), hp]
        refine Br.e (fun h => by omega) (fun _ => Br.mk (fun h => bad ?_ hw) (fun h => Br.d (fun h2 => bad ?_ hw) (fun h2 => ?_)))
        · rw [e2, if_neg (by rintro ⟨h3, _⟩; rw [h3] at h; cases h)]
        · rw [e2, if_neg (by rintro ⟨_, h3, _⟩; omega)]
        · rw [wrapU64 (x := most) (by omega) (by omega)]
          refine Br.d (fun h3 => bad ?_ hw) (fun h3 => ?_)
          · rw [e2, if_neg (by rintro ⟨_, _, h4, _⟩; omega)]
          · refine NilP.mk rfl ⟨s, At.own selfS (by exact ⟨rfl, trivial⟩), NilP.mk rfl ⟨n, At.own selfS (by exact ⟨rfl, trivial⟩), ?_⟩⟩
            have e3 : IntKind.u64.wrap (IntKind.i64.wrap (IntKind.i64.wrap ((s.len : Int) - (n : Int)) - (k : Int))) = (rd.bs.length : Int) - k := by
              rw [wrap64 (x := (s.len : Int) - (n : Int)) (by omega) (by omega), wrap64 (by omega) (by omega), wrapU64 (by omega) (by omega)]; omega
            rw [e3]
            refine Br.d (fun h4 => bad ?_ hw) (fun h4 => ⟨⟨x, k, hbd, by rw [h], by omega, by omega, by omega⟩, hw⟩)
            rw [e2, if_neg (by rintro ⟨_, _, _, h5⟩; omega)]
  clear bad hw
  rintro _ w ⟨⟨x, k, hbd, hp, hm0, hxm, hxl⟩, hw⟩
  obtain ⟨x0, x1, k0, k1, k2⟩ := parse_bd hb2 hp
  have e : nextR ⟨rd.bs, rd.bad⟩ = (x, false, (k : Int)) := by unfold nextR; simp [hp, hbd]
  have e2 : rdText most rd = (((rd.bs.drop k).take x.toNat), ⟨rd.bs.drop (k + x.toNat), false⟩) := by
    unfold rdText; rw [if_neg (by rw [hbd]; simp), hp]; dsimp only; rw [if_pos ⟨rfl, hm0, hxm, hxl⟩]
  rw [e, e2]
  dsimp only
  obtain ⟨m, rfl⟩ := Int.eq_ofNat_of_zero_le x0
  refine NilP.mk rfl ⟨n, At.own (eqS hw) (by exact ⟨rfl, trivial⟩), NilP.mk rfl ?_⟩
  have e3 : IntKind.i64.wrap ((n : Int) + (k : Int)) = ((n + k : Nat) : Int) := by rw [wrap64 (by omega) (by omega)]; omega
  have e4 : IntKind.i64.wrap (((n + k : Nat) : Int) + IntKind.i64.wrap (m : Int)) = ((n + k + m : Nat) : Int) := by rw [wrap64 (x := (m : Int)) (by omega) (by omega), wrap64 (by omega) (by omega)]; omega
  dsimp only
  rw [e3, e4]
  refine store_rule hw (by kernel_rfl) rfl (by simp [Value.cells]) fun w hw => ?_
  rw [hbd] at hw
  have hw := hw.re (pts r (rrCells s (n + k + m) false))
  refine drw_ruleT hw fun w hw => ?_
  refine NilP.mk rfl ⟨s, At.own selfS (by exact ⟨rfl, trivial⟩), NilP.mk rfl ⟨((n + k + m : Nat) : Int), At.own selfS (by exact ⟨rfl, trivial⟩), by omega, by omega, by omega, by omega, ?_⟩⟩
  rw [Int.toNat_natCast, Int.toNat_natCast, Int.toNat_natCast]
  refine new_rule hw fun b w hw => ?_
  have e5 : n + k + m - (n + k) = m := by omega
  rw [e5]
  have hro : SlR R.m ⟨(sdrop s (n + k)).a, m, (sdrop s (n + k)).cap⟩ (b8 ((rd.bs.drop k).take m)) := by
    have := (hs.b8drop (k := n + k) (by omega)).b8take (k := m) (by simp; omega)
    rw [← List.drop_drop, hd] at this
    exact this
  have hll : ((rd.bs.drop k).take m).length ≤ 1099511627776 := by simp; omega
  refine ⟨hw.absorb, ?_⟩
  have hw : Sat R (Own ⟨some ⟨b, 0, none⟩, 0, 0⟩ 5 (([] : List Int).map (Value.int .u8)) :: VC.tru :: pts r (rrCells s (n + k + m) false) :: Hs) w := own_lit hw
  refine appendRI elB8 (s := ⟨some ⟨b, 0, none⟩, 0, 0⟩) (t := ⟨(sdrop s (n + k)).a, m, (sdrop s (n + k)).cap⟩) (n := 1099511627776) Tryz.underlying42 hw (hro.ro (by simp; omega)) (by simp; omega) (by omega) (by omega) fun t w hw => ?_
  refine ⟨hw.absorb, t, rfl, ?_⟩
  rw [List.nil_append] at hw
  refine hw.cons fun _ h => Sat.rrd.2 ⟨n + k + m, ⟨by omega, ?_⟩, h.drop⟩
  show bs.drop (n + k + m) = rd.bs.drop (k + m)
  rw [← hd, List.drop_drop, Nat.add_assoc]
end Go.Proofs.YtfgbbckfikiomaaGreatDoor
/- Package booking: Decode. Condition: bounds on lengths. -/
namespace Go.Proofs.YtfgbbckfikiomaaGreatDoor
set_option linter.unusedVariables false
open Go Go.VC
open scoped Classical
variable {R : Cx} {Hs Rest : List HP} {w : World}
abbrev brC (b r : Nat) : HP := pts b (.cells [.pointer (some ⟨r, 0, none⟩)].toArray 126 (0, 0))
abbrev nilSl : Sl := ⟨none, 0, 0⟩
abbrev cmHead (k : Int) (p : ByteArray) (f c m t : Int) : Cm := ⟨k, p, f, c, m, t, 0, ByteArray.mk #[], 0, [], []⟩
abbrev cmNew (b : Nat) : HP := cmC b (cmHead 0 (ByteArray.mk #[]) 0 0 0 0) nilSl nilSl
theorem bdn_spec {b r : Nat} {rd : Rd} (hb : Bytes rd.bs) (hw : Sat R (RdAt r rd :: brC b r :: Hs) w) :
    Gets Tryz.prog 90 #[.pointer (some ⟨b, 0, none⟩)] w fun v w' => v = .int .i64 (rdNum 9999 rd).1 ∧ Sat R (RdAt r (rdNum 9999 rd).2 :: brC b r :: Hs) w' := by
  apply call90
  have hw2 : Sat R (brC b r :: RdAt r rd :: Hs) w := hw.swap
  refine NilP.mk rfl ⟨some ⟨r, 0, none⟩, At.own (eqS hw2) (by exact ⟨rfl, trivial⟩), ?_⟩
  refine (bnum_spec (most := 9999) hb (by omega) (by omega) hw).use ?_
  rintro _ w ⟨rfl, hw⟩
  exact ⟨_, rfl, rfl, hw⟩
theorem tru2 {A B : HP} (hw : Sat R (A :: B :: Hs) w) : Sat R [B, VC.tru] w := hw.swap.restTru2
theorem tru3 {A B C : HP} (hw : Sat R (C :: A :: B :: Hs) w) : Sat R [B, VC.tru] w := (hw.arr (Hs' := B :: C :: A :: Hs)).restTru2
section
variable (S : World → Prop) (J : Option Addr → World → Prop) (b4 b : Nat) (r : Option Addr)
def dT6 (k : Int) (p : ByteArray) (f c m t : Int) (w : World) : Prop :=
  ∃ w' : World, ((Instr.storeAt 38 (.pointer (some ⟨b, 0, none⟩)) (.agg #[.int .i64 k, .string p, .int .i64 f, .int .i64 c, .int .i64 m, .int .i64 t, .float .f64 0, .string (ByteArray.mk #[]), .int .i64 0, .slice none 0 0, .slice none 0 0])).run Tryz.prog w = .ok () w') ∧ J (some ⟨b, 0, none⟩) w'
def dT5 (k : Int) (p : ByteArray) (f c m : Int) (w : World) : Prop :=
  Calls Tryz.prog 78 #[.agg #[.pointer r], .int .i64 1099511627776] w fun e w' => ∃ t : Int, (e = .returned (.int .i64 t)) ∧ S w' ∧ dT6 J b k p f c m t w'
def dT4 (k : Int) (p : ByteArray) (f c : Int) (w : World) : Prop :=
  Calls Tryz.prog 90 #[.pointer (some ⟨b4, 0, none⟩)] w fun e w' => ∃ t : Int, (e = .returned (.int .i64 t)) ∧ S w' ∧ dT5 S J b r k p f c t w'
def dT3 (k : Int) (p : ByteArray) (f : Int) (w : World) : Prop :=
  Calls Tryz.prog 90 #[.pointer (some ⟨b4, 0, none⟩)] w fun e w' => ∃ t : Int, (e = .returned (.int .i64 t)) ∧ S w' ∧ dT4 S J b4 b r k p f t w'
def dT2 (k : Int) (p : ByteArray) (w : World) : Prop :=
  Calls Tryz.prog 90 #[.pointer (some ⟨b4, 0, none⟩)] w fun e w' => ∃ t : Int, (e = .returned (.int .i64 t)) ∧ S w' ∧ dT3 S J b4 b r k p t w'
def dT1 (k : Int) (w : World) : Prop :=
  Calls Tryz.prog 79 #[.agg #[.pointer r], .int .i64 16] w fun e w' => ∃ t : ByteArray, (e = .returned (.string t)) ∧ S w' ∧ dT2 S J b4 b r k t w'
def dT0 (w : World) : Prop :=
  Calls Tryz.prog 78 #[.agg #[.pointer r], .int .i64 9] w fun e w' => ∃ t : Int, (e = .returned (.int .i64 t)) ∧ S w' ∧ dT1 S J b4 b r t w'
end
section
variable {J : Option Addr → World → Prop} {b4 b r : Nat} {rd : Rd} {k f c m t : Int} {p : ByteArray}
theorem dT6_ok (hJ : ∀ {w}, Sat R (cmC b (cmHead k p f c m t) nilSl nilSl :: RdAt r rd :: brC b4 r :: Hs) w → J (some ⟨b, 0, none⟩) w) (hw : Sat R (RdAt r rd :: brC b4 r :: cmNew b :: Hs) w) : dT6 J b k p f c m t w := by
  have hw : Sat R (cmNew b :: RdAt r rd :: brC b4 r :: Hs) w := hw.arr
  refine store_rule hw (by kernel_rfl) rfl (by simp [Value.cells]) fun w hw => ?_
  exact hJ (hw.re (cmC b (cmHead k p f c m t) nilSl nilSl))
theorem dT5_ok (hb : Bytes rd.bs) (hJ : ∀ {w}, Sat R (cmC b (cmHead k p f c m (rdNum 1099511627776 rd).1) nilSl nilSl :: RdAt r (rdNum 1099511627776 rd).2 :: brC b4 r :: Hs) w → J (some ⟨b, 0, none⟩) w)
    (hw : Sat R (RdAt r rd :: brC b4 r :: cmNew b :: Hs) w) : dT5 (Sat R [brC b4 r, VC.tru]) J b (some ⟨r, 0, none⟩) k p f c m w := by
  refine (bnum_spec (most := 1099511627776) hb (by omega) (by omega) hw).use ?_
  rintro _ w ⟨rfl, hw⟩
  exact ⟨_, rfl, tru2 hw, dT6_ok hJ hw⟩
theorem dT4_ok (hb : Bytes rd.bs) (hJ : ∀ {w}, Sat R (cmC b (cmHead k p f c (rdNum 9999 rd).1 (rdNum 1099511627776 (rdNum 9999 rd).2).1) nilSl nilSl :: RdAt r (rdNum 1099511627776 (rdNum 9999 rd).2).2 :: brC b4 r :: Hs) w → J (some ⟨b, 0, none⟩) w)
    (hw : Sat R (RdAt r rd :: brC b4 r :: cmNew b :: Hs) w) : dT4 (Sat R [brC b4 r, VC.tru]) J b4 b (some ⟨r, 0, none⟩) k p f c w := by
  refine (bdn_spec hb hw).use ?_
  rintro _ w ⟨rfl, hw⟩
  exact ⟨_, rfl, tru2 hw, dT5_ok (rdNum_bd hb) hJ hw⟩
theorem dT3_ok (hb : Bytes rd.bs) (hJ : ∀ {w}, Sat R (cmC b (cmHead k p f (rdNum 9999 rd).1 (rdNum 9999 (rdNum 9999 rd).2).1 (rdNum 1099511627776 (rdNum 9999 (rdNum 9999 rd).2).2).1) nilSl nilSl :: RdAt r (rdNum 1099511627776 (rdNum 9999 (rdNum 9999 rd).2).2).2 :: brC b4 r :: Hs) w → J (some ⟨b, 0, none⟩) w)
    (hw : Sat R (RdAt r rd :: brC b4 r :: cmNew b :: Hs) w) : dT3 (Sat R [brC b4 r, VC.tru]) J b4 b (some ⟨r, 0, none⟩) k p f w := by
  refine (bdn_spec hb hw).use ?_
  rintro _ w ⟨rfl, hw⟩
  exact ⟨_, rfl, tru2 hw, dT4_ok (rdNum_bd hb) hJ hw⟩
theorem dT2_ok (hb : Bytes rd.bs) (hJ : ∀ {w}, Sat R (cmC b (cmHead k p (rdNum 9999 rd).1 (rdNum 9999 (rdNum 9999 rd).2).1 (rdNum 9999 (rdNum 9999 (rdNum 9999 rd).2).2).1 (rdNum 1099511627776 (rdNum 9999 (rdNum 9999 (rdNum 9999 rd).2).2).2).1) nilSl nilSl :: RdAt r (rdNum 1099511627776 (rdNum 9999 (rdNum 9999 (rdNum 9999 rd).2).2).2).2 :: brC b4 r :: Hs) w → J (some ⟨b, 0, none⟩) w)
    (hw : Sat R (RdAt r rd :: brC b4 r :: cmNew b :: Hs) w) : dT2 (Sat R [brC b4 r, VC.tru]) J b4 b (some ⟨r, 0, none⟩) k p w := by
  refine (bdn_spec hb hw).use ?_
  rintro _ w ⟨rfl, hw⟩
  exact ⟨_, rfl, tru2 hw, dT3_ok (rdNum_bd hb) hJ hw⟩
def hd2 (rd : Rd) : (Int × Int × Int × Int) × Rd :=
  let f := rdNum 9999 rd
  let c := rdNum 9999 f.2
  let m := rdNum 9999 c.2
  let t := rdNum 1099511627776 m.2
  ((f.1, c.1, m.1, t.1), t.2)
abbrev JD (R : Cx) (Hs : List HP) (b4 r : Nat) (k : Int) (p : ByteArray) (x : (Int × Int × Int × Int) × Rd) (c6 : Option Addr) (w : World) : Prop :=
  ∃ b, c6 = some ⟨b, 0, none⟩ ∧ Sat R (cmC b (cmHead k p x.1.1 x.1.2.1 x.1.2.2.1 x.1.2.2.2) nilSl nilSl :: RdAt r x.2 :: brC b4 r :: Hs) w
theorem dT1_ok (hb : Bytes rd.bs) (hl : rd.bs.length ≤ 1099511627776) (hJ : ∀ {w}, Sat R (cmC b (cmHead k (strRd 16 rd).1 (hd2 (strRd 16 rd).2).1.1 (hd2 (strRd 16 rd).2).1.2.1 (hd2 (strRd 16 rd).2).1.2.2.1 (hd2 (strRd 16 rd).2).1.2.2.2) nilSl nilSl :: RdAt r (hd2 (strRd 16 rd).2).2 :: brC b4 r :: Hs) w → J (some ⟨b, 0, none⟩) w)
    (hw : Sat R (RdAt r rd :: brC b4 r :: cmNew b :: Hs) w) : dT1 (Sat R [brC b4 r, VC.tru]) J b4 b (some ⟨r, 0, none⟩) k w := by
  refine (bstr_spec (most := 16) hb hl (by omega) hw).use ?_
  rintro _ w ⟨rfl, hw⟩
  exact ⟨_, rfl, tru2 hw, dT2_ok (strRd_bd hb) hJ hw⟩
theorem dT0_ok (hb : Bytes rd.bs) (hl : rd.bs.length ≤ 1099511627776) (hJ : ∀ {w}, Sat R (cmC b (cmHead (rdNum 9 rd).1 (strRd 16 (rdNum 9 rd).2).1 (hd2 (strRd 16 (rdNum 9 rd).2).2).1.1 (hd2 (strRd 16 (rdNum 9 rd).2).2).1.2.1 (hd2 (strRd 16 (rdNum 9 rd).2).2).1.2.2.1 (hd2 (strRd 16 (rdNum 9 rd).2).2).1.2.2.2) nilSl nilSl :: RdAt r (hd2 (strRd 16 (rdNum 9 rd).2).2).2 :: brC b4 r :: Hs) w → J (some ⟨b, 0, none⟩) w)
    (hw : Sat R (RdAt r rd :: brC b4 r :: cmNew b :: Hs) w) : dT0 (Sat R [brC b4 r, VC.tru]) J b4 b (some ⟨r, 0, none⟩) w := by
  refine (bnum_spec (most := 9) hb (by omega) (by omega) hw).use ?_
  rintro _ w ⟨rfl, hw⟩
  exact ⟨_, rfl, tru2 hw, dT1_ok (rdNum_bd hb) (by have := rdNum_len (most := 9) (rd := rd); omega) hJ hw⟩
end
end Go.Proofs.YtfgbbckfikiomaaGreatDoor
/- Package booking: Decode, the whole. Condition: bounds on lengths. -/
namespace Go.Proofs.YtfgbbckfikiomaaGreatDoor
set_option linter.unusedVariables false
open Go Go.VC
open scoped Classical
variable {R : Cx} {Hs Rest : List HP} {w : World}
theorem CalW.mkB {g : FuncId} {first captured : Array Value} {args : List Value} {Q : Ending → World → Prop} (hc : cl g = true) (h : Calls Tryz.prog g (first.toList ++ (args ++ captured.toList)).toArray w Q) : CalW Tryz.prog cl (.func (.func g) first captured) args w Q := by
  unfold CalW
  simp only [hc]
  exact h
theorem CalW.mk1 {g : FuncId} {x : Value} {Q : Ending → World → Prop} (hc : cl g = true) (h : Calls Tryz.prog g #[x] w Q) : CalW Tryz.prog cl (.func (.func g) #[x] #[]) [] w Q := CalW.mkB hc (by
  have e : ((#[x] : Array Value).toList ++ (([] : List Value) ++ (#[] : Array Value).toList)).toArray = #[x] := rfl
  rw [e]; exact h)
def zeroC : Cm := cmHead 0 (ByteArray.mk #[]) 0 0 0 0
noncomputable def cmDec (bs : List Int) : Cm × Int := if rdWhole (cmRd ⟨bs, false⟩).2 = true ∧ RightC (cmRd ⟨bs, false⟩).1 then ((cmRd ⟨bs, false⟩).1, 0) else (zeroC, 6)
theorem strRd_len {most : Int} {rd : Rd} : (strRd most rd).2.bs.length ≤ rd.bs.length := rdText_len.2
theorem fltRd_len {rd : Rd} : (fltRd rd).2.bs.length ≤ rd.bs.length := rdNum_len
theorem hd2_bd {rd : Rd} (hb : Bytes rd.bs) : Bytes (hd2 rd).2.bs := rdNum_bd (rdNum_bd (rdNum_bd (rdNum_bd hb)))
theorem hd2_len {rd : Rd} : (hd2 rd).2.bs.length ≤ rd.bs.length := Nat.le_trans rdNum_len (Nat.le_trans rdNum_len (Nat.le_trans rdNum_len rdNum_len))
theorem cmRd_hd (r : Rd) : cmRd r =
  let k := rdNum 9 r
  let p := strRd 16 k.2
  let h := hd2 p.2
  let s := fltRd h.2
  let l := strRd 16 s.2
  let w := rdNum 9999 l.2
  let n := rdNum 16 w.2
  let g := rdEach (rdNum 9999) n.1.toNat n.2
  let q := rdNum 16 g.2
  let x := rdEach fltRd q.1.toNat q.2
  (⟨k.1, p.1, h.1.1, h.1.2.1, h.1.2.2.1, h.1.2.2.2, s.1, l.1, w.1, g.1, x.1⟩, x.2) := rfl
set_option maxHeartbeats 1000000 in
theorem bdec_spec {s : Sl} {bs : List Int} (hb : Bytes bs) (hl : bs.length ≤ 1099511627776) (hs : Ro R s (b8 bs)) (hw : Sat R Hs w) :
    Gets Tryz.prog 31 #[.slice s.a s.len s.cap] w fun v w' => ∃ sg sp : Sl, v = .tuple #[.agg (cmV (cmDec bs).1 sg sp).toArray, .int .i64 (cmDec bs).2] ∧ Sat R (Own sg 3 (intsI (cmDec bs).1.grps) :: Own sp 33 (flts (cmDec bs).1.parts) :: Hs) w' := by
  apply call31
  have b0 : Bytes (⟨bs, false⟩ : Rd).bs := hb
  have l0 : (⟨bs, false⟩ : Rd).bs.length ≤ 1099511627776 := hl
  have hcm := cmRd_hd ⟨bs, false⟩
  obtain ⟨rd0, e0⟩ : ∃ rd : Rd, rd = ⟨bs, false⟩ := ⟨_, rfl⟩
  rw [← e0] at b0 l0 hcm
  have b1 := rdNum_bd (most := 9) b0
  have l1 : (rdNum 9 rd0).2.bs.length ≤ 1099511627776 := Nat.le_trans rdNum_len l0
  refine new_rule hw fun b2 w hw => ?_
  have hw : Sat R (cmNew b2 :: Hs) w := hw
  refine (fnew_spec hs hl hw).use ?_
  clear hw
  rintro _ w ⟨r, rfl, hw⟩
  refine ⟨_, rfl, ?_⟩
  rw [← e0] at hw
  refine new_rule hw fun b4 w hw => ?_
  refine store_rule hw (by kernel_rfl) rfl (by simp [Value.cells]) fun w hw => ?_
  have hw : Sat R (RdAt r rd0 :: brC b4 r :: cmNew b2 :: Hs) w := hw.re (brC b4 r) |>.swap
  refine ⟨JD R (cmNew b2 :: Hs) b4 r (rdNum 9 rd0).1 (strRd 16 (rdNum 9 rd0).2).1 (hd2 (strRd 16 (rdNum 9 rd0).2).2), ?_, ?_⟩
  · refine drw_rule' (Sat R [brC b4 r, VC.tru]) hw (fun w hw => tru2 hw) fun w hw => ?_
    clear hcm
    refine ⟨_, At.own (fun _ h => h) (by exact ⟨rfl, trivial⟩), _, At.own (fun _ h => h) (by exact ⟨rfl, trivial⟩), _, At.own (fun _ h => h) (by exact ⟨rfl, trivial⟩), ?_⟩
    refine ⟨?_, new_rule hw fun b w hw => ⟨tru3 hw, dT0_ok b0 l0 (fun hw => ⟨b, rfl, hw⟩) (hw.arr (Hs' := RdAt r rd0 :: brC b4 r :: cmNew b :: cmNew b2 :: Hs))⟩⟩
    refine (bnum_spec (most := 9) b0 (by omega) (by omega) hw).use ?_
    clear hw
    rintro _ w ⟨rfl, hw⟩
    refine ⟨_, rfl, tru2 hw, ?_⟩
    generalize (rdNum 9 rd0).1 = k at *
    generalize (rdNum 9 rd0).2 = rd1 at *
    refine ⟨?_, new_rule hw fun b w hw => ⟨tru3 hw, dT1_ok b1 l1 (fun hw => ⟨b, rfl, hw⟩) (hw.arr (Hs' := RdAt r rd1 :: brC b4 r :: cmNew b :: cmNew b2 :: Hs))⟩⟩
    have b2' := strRd_bd (most := 16) b1
    refine (bstr_spec (most := 16) b1 l1 (by omega) hw).use ?_
    clear hw
    rintro _ w ⟨rfl, hw⟩
    refine ⟨_, rfl, tru2 hw, ?_⟩
    generalize (strRd 16 rd1).1 = p at *
    generalize (strRd 16 rd1).2 = rd2 at *
    refine ⟨?_, new_rule hw fun b w hw => ⟨tru3 hw, dT2_ok b2' (fun hw => ⟨b, rfl, hw⟩) (hw.arr (Hs' := RdAt r rd2 :: brC b4 r :: cmNew b :: cmNew b2 :: Hs))⟩⟩
    have b3 := rdNum_bd (most := 9999) b2'
    refine (bdn_spec b2' hw).use ?_
    clear hw
    rintro _ w ⟨rfl, hw⟩
    refine ⟨_, rfl, tru2 hw, ?_⟩
    refine ⟨?_, new_rule hw fun b w hw => ⟨tru3 hw, dT3_ok b3 (fun hw => ⟨b, rfl, hw⟩) (hw.arr (Hs' := RdAt r _ :: brC b4 r :: cmNew b :: cmNew b2 :: Hs))⟩⟩
    have b4' := rdNum_bd (most := 9999) b3
    refine (bdn_spec b3 hw).use ?_
    clear hw
    rintro _ w ⟨rfl, hw⟩
    refine ⟨_, rfl, tru2 hw, ?_⟩
    refine ⟨?_, new_rule hw fun b w hw => ⟨tru3 hw, dT4_ok b4' (fun hw => ⟨b, rfl, hw⟩) (hw.arr (Hs' := RdAt r _ :: brC b4 r :: cmNew b :: cmNew b2 :: Hs))⟩⟩
    have b5 := rdNum_bd (most := 9999) b4'
    refine (bdn_spec b4' hw).use ?_
    clear hw
    rintro _ w ⟨rfl, hw⟩
    refine ⟨_, rfl, tru2 hw, ?_⟩
    refine ⟨?_, new_rule hw fun b w hw => ⟨tru3 hw, dT5_ok b5 (fun hw => ⟨b, rfl, hw⟩) (hw.arr (Hs' := RdAt r _ :: brC b4 r :: cmNew b :: cmNew b2 :: Hs))⟩⟩
    refine (bnum_spec (most := 1099511627776) b5 (by omega) (by omega) hw).use ?_
    clear hw
    rintro _ w ⟨rfl, hw⟩
    have hw : Sat R (RdAt r (hd2 rd2).2 :: brC b4 r :: cmNew b2 :: Hs) w := hw
    refine ⟨_, rfl, tru2 hw, new_rule hw fun b w hw => ⟨tru3 hw, dT6_ok (fun hw => ⟨b, rfl, hw⟩) (hw.arr (Hs' := RdAt r _ :: brC b4 r :: cmNew b :: cmNew b2 :: Hs))⟩⟩
  clear hw
  obtain ⟨k, rd1, e1⟩ : ∃ y rd, rdNum 9 rd0 = (y, rd) := ⟨_, _, rfl⟩
  rw [e1] at b1 l1 ⊢
  dsimp only at b1 l1 ⊢
  have b2' := strRd_bd (most := 16) b1
  have l2 : (strRd 16 rd1).2.bs.length ≤ 1099511627776 := Nat.le_trans strRd_len l1
  obtain ⟨p, rd2, e2⟩ : ∃ y rd, strRd 16 rd1 = (y, rd) := ⟨_, _, rfl⟩
  rw [e2] at b2' l2 ⊢
  dsimp only at b2' l2 ⊢
  have b3 := hd2_bd b2'
  have l3 : (hd2 rd2).2.bs.length ≤ 1099511627776 := Nat.le_trans hd2_len l2
  obtain ⟨⟨f, c, m, t⟩, rd3, e3⟩ : ∃ y rd, hd2 rd2 = (y, rd) := ⟨_, _, rfl⟩
  rw [e3] at b3 l3 ⊢
  dsimp only at b3 l3 ⊢
  rintro _ _ w ⟨b, rfl, hw⟩
  have b4' := fltRd_bd b3
  have l4 : (fltRd rd3).2.bs.length ≤ 1099511627776 := Nat.le_trans fltRd_len l3
  obtain ⟨sc, rd4, e4⟩ : ∃ y rd, fltRd rd3 = (y, rd) := ⟨_, _, rfl⟩
  have hw : Sat R (RdAt r rd3 :: brC b4 r :: cmC b (cmHead k p f c m t) nilSl nilSl :: cmNew b2 :: Hs) w := hw.arr
  refine ⟨some ⟨r, 0, none⟩, At.own (eqS hw) (by exact ⟨rfl, trivial⟩), ?_⟩
  refine (bflt_spec b3 hw).use ?_
  clear hw
  rintro _ w ⟨rfl, hw⟩
  rw [e4] at b4' l4 hw ⊢
  dsimp only at b4' l4 hw ⊢
  refine ⟨_, rfl, NilP.mk rfl ?_⟩
  refine store_rule hw (by kernel_rfl) rfl (by simp [Value.cells]) fun w hw => ?_
  have hw : Sat R (RdAt r rd4 :: brC b4 r :: cmC b { cmHead k p f c m t with sc := sc } nilSl nilSl :: cmNew b2 :: Hs) w := (hw.re (cmC b { cmHead k p f c m t with sc := sc } nilSl nilSl)).arr
  have b5 := strRd_bd (most := 16) b4'
  have l5 : (strRd 16 rd4).2.bs.length ≤ 1099511627776 := Nat.le_trans strRd_len l4
  obtain ⟨lab, rd5, e5⟩ : ∃ y rd, strRd 16 rd4 = (y, rd) := ⟨_, _, rfl⟩
  refine ⟨some ⟨r, 0, none⟩, At.own (eqS hw) (by exact ⟨rfl, trivial⟩), ?_⟩
  refine (bstr_spec (most := 16) b4' l4 (by omega) hw).use ?_
  clear hw
  rintro _ w ⟨rfl, hw⟩
  rw [e5] at b5 l5 hw ⊢
  dsimp only at b5 l5 hw ⊢
  refine ⟨_, rfl, NilP.mk rfl ?_⟩
  refine store_rule hw (by kernel_rfl) rfl (by simp [Value.cells]) fun w hw => ?_
  have hw : Sat R (RdAt r rd5 :: brC b4 r :: cmC b { cmHead k p f c m t with sc := sc, lab := lab } nilSl nilSl :: cmNew b2 :: Hs) w := (hw.re (cmC b { cmHead k p f c m t with sc := sc, lab := lab } nilSl nilSl)).arr
  have b6 := rdNum_bd (most := 9999) b5
  have l6 : (rdNum 9999 rd5).2.bs.length ≤ 1099511627776 := Nat.le_trans rdNum_len l5
  obtain ⟨rows, rd6, e6⟩ : ∃ y rd, rdNum 9999 rd5 = (y, rd) := ⟨_, _, rfl⟩
  refine (bdn_spec b5 hw).use ?_
  clear hw
  rintro _ w ⟨rfl, hw⟩
  rw [e6] at b6 l6 hw ⊢
  dsimp only at b6 l6 hw ⊢
  refine ⟨_, rfl, NilP.mk rfl ?_⟩
  refine store_rule hw (by kernel_rfl) rfl (by simp [Value.cells]) fun w hw => ?_
  have hw : Sat R (RdAt r rd6 :: brC b4 r :: cmC b { cmHead k p f c m t with sc := sc, lab := lab, rows := rows } nilSl nilSl :: cmNew b2 :: Hs) w := (hw.re (cmC b { cmHead k p f c m t with sc := sc, lab := lab, rows := rows } nilSl nilSl)).arr
  have b7 := rdNum_bd (most := 16) b6
  have v7 := rdNum_val (most := 16) b6 (by omega)
  obtain ⟨n7, rd7, e7⟩ : ∃ y rd, rdNum 16 rd6 = (y, rd) := ⟨_, _, rfl⟩
  refine ⟨some ⟨r, 0, none⟩, At.own (eqS hw) (by exact ⟨rfl, trivial⟩), ?_⟩
  refine (bnum_spec (most := 16) b6 (by omega) (by omega) hw).use ?_
  clear hw
  rintro _ w ⟨rfl, hw⟩
  rw [e7] at b7 v7 hw ⊢
  dsimp only at b7 v7 hw ⊢
  refine ⟨_, rfl, ?_⟩
  obtain ⟨n, rfl⟩ := Int.eq_ofNat_of_zero_le v7.1
  have b8' : Bytes (rdEach (rdNum 9999) n rd7).2.bs := (rdEach_inv (one := rdNum 9999) (P := fun r => Bytes r.bs) (Q := fun _ => True) (fun r hr => ⟨trivial, rdNum_bd hr⟩) n b7).2
  refine (timesI_spec (one := rdNum 9999) (I := fun rd => Bytes rd.bs) (fun rd h => rdNum_bd h) (by omega) b7 (fun T rd w hI hw => CalW.mk (by kernel_rfl) ((bdn_spec hI (hw.arr (Hs' := RdAt r rd :: brC b4 r :: T :: cmC b { cmHead k p f c m t with sc := sc, lab := lab, rows := rows } nilSl nilSl :: cmNew b2 :: Hs))).use fun v w h => ⟨by rw [h.1], h.2.arr⟩)) hw).use ?_
  clear hw
  rintro _ w ⟨sg, rfl, hw⟩
  have gl := rdEach_len (rdNum 9999) n rd7
  obtain ⟨gs, rd8, e8⟩ : ∃ y rd, rdEach (rdNum 9999) n rd7 = (y, rd) := ⟨_, _, rfl⟩
  rw [e8] at gl b8' hw
  dsimp only at gl b8' hw
  refine ⟨sg, rfl, NilP.mk rfl ?_⟩
  refine store_rule hw (by kernel_rfl) rfl (by simp [Value.cells]) fun w hw => ?_
  have hw : Sat R (RdAt r rd8 :: brC b4 r :: Own sg 3 (intsI gs) :: cmC b { cmHead k p f c m t with sc := sc, lab := lab, rows := rows, grps := gs } sg nilSl :: cmNew b2 :: Hs) w := (hw.re (cmC b { cmHead k p f c m t with sc := sc, lab := lab, rows := rows, grps := gs } sg nilSl)).arr
  have b9 := rdNum_bd (most := 16) b8'
  have v9 := rdNum_val (most := 16) b8' (by omega)
  obtain ⟨n9, rd9, e9⟩ : ∃ y rd, rdNum 16 rd8 = (y, rd) := ⟨_, _, rfl⟩
  refine drw_rule' (Sat R [brC b4 r, VC.tru]) hw (fun w hw => tru2 hw) fun w hw => ?_
  refine ⟨some ⟨r, 0, none⟩, At.own (fun _ h => h) (by exact ⟨rfl, trivial⟩), some ⟨r, 0, none⟩, At.own (fun _ h => h) (by exact ⟨rfl, trivial⟩), ?_⟩
  refine (bnum_spec (most := 16) b8' (by omega) (by omega) hw).use ?_
  clear hw
  rintro _ w ⟨rfl, hw⟩
  rw [e9] at b9 v9 hw ⊢
  dsimp only at b9 v9 hw ⊢
  refine ⟨_, rfl, tru2 hw, ?_⟩
  obtain ⟨n', rfl⟩ := Int.eq_ofNat_of_zero_le v9.1
  refine (timesF_spec (one := fltRd) (I := fun rd => Bytes rd.bs) (fun rd h => fltRd_bd h) (by omega) b9 (fun T rd w hI hw => CalW.mk1 (by kernel_rfl) ((bflt_spec hI hw).use fun v w h => ⟨by rw [h.1], h.2⟩)) hw).use ?_
  clear hw
  rintro _ w ⟨sp, rfl, hw⟩
  have pl := rdEach_len fltRd n' rd9
  obtain ⟨ps, rd10, e10⟩ : ∃ y rd, rdEach fltRd n' rd9 = (y, rd) := ⟨_, _, rfl⟩
  rw [e10] at pl hw
  dsimp only at pl hw
  have hC : cmRd rd0 = ({ cmHead k p f c m t with sc := sc, lab := lab, rows := rows, grps := gs, parts := ps }, rd10) := by
    rw [hcm]
    simp only [e1, e2, e3, e4, e5, e6, e7, e8, e9, e10, Int.toNat_natCast]
  clear hcm
  rw [e0] at hC
  have hdec : cmDec bs = if rdWhole rd10 = true ∧ RightC { cmHead k p f c m t with sc := sc, lab := lab, rows := rows, grps := gs, parts := ps } then ({ cmHead k p f c m t with sc := sc, lab := lab, rows := rows, grps := gs, parts := ps }, 0) else (zeroC, 6) := by unfold cmDec; rw [hC]
  obtain ⟨C, eC⟩ : ∃ C : Cm, C = { cmHead k p f c m t with sc := sc, lab := lab, rows := rows, grps := gs, parts := ps } := ⟨_, rfl⟩
  refine ⟨sp, rfl, (hw.arr (Hs' := RdAt r rd10 :: brC b4 r :: Own sp 33 (flts ps) :: Own sg 3 (intsI gs) :: cmC b { cmHead k p f c m t with sc := sc, lab := lab, rows := rows, grps := gs } sg nilSl :: cmNew b2 :: Hs)) |> tru2, NilP.mk rfl ?_⟩
  refine store_rule hw (by kernel_rfl) rfl (by simp [Value.cells]) fun w hw => ?_
  have hw := hw.re (cmC b { cmHead k p f c m t with sc := sc, lab := lab, rows := rows, grps := gs, parts := ps } sg sp)
  rw [← eC] at hdec hw
  have eg : C.grps = gs := by rw [eC]
  have ep : C.parts = ps := by rw [eC]
  rw [← eg] at hw gl
  rw [← ep] at hw pl
  clear eC hC eg ep e1 e2 e3 e4 e5 e6 e7 e8 e9 e10 b0 b1 b2' b3 b4' b5 b6 b7 b8' b9 l0 l1 l2 l3 l4 l5 l6
  have hw : Sat R (RdAt r rd10 :: brC b4 r :: cmC b C sg sp :: Own sp 33 (flts C.parts) :: Own sg 3 (intsI C.grps) :: cmNew b2 :: Hs) w := hw.arr
  refine ⟨some ⟨r, 0, none⟩, At.own (eqS hw) (by exact ⟨rfl, trivial⟩), ?_⟩
  refine (whole_spec hw).use ?_
  clear hw
  rintro _ w ⟨rfl, hw⟩
  refine ⟨_, rfl, ?_⟩
  have no : cmDec bs = (zeroC, 6) → ∀ {w}, Sat R (cmNew b2 :: Hs) w → ∃ sg sp : Sl, Value.tuple #[.agg (cmV zeroC nilSl nilSl).toArray, .int .i64 6] = .tuple #[.agg (cmV (cmDec bs).1 sg sp).toArray, .int .i64 (cmDec bs).2] ∧ Sat R (Own sg 3 (intsI (cmDec bs).1.grps) :: Own sp 33 (flts (cmDec bs).1.parts) :: Hs) w := fun e {w} hw => by
    rw [e]
    exact ⟨nilSl, nilSl, rfl, Own.nil (Own.nil hw.drop)⟩
  refine Br.nb (fun h => ?_) (fun h => ?_)
  · have hw : Sat R (cmNew b2 :: Hs) w := hw.drop.drop.drop.drop.drop
    refine store_rule hw (by kernel_rfl) rfl (by simp [Value.cells]) fun w hw => ?_
    have hw := hw.re (cmNew b2)
    refine ⟨_, _, _, _, _, _, _, _, _, nilSl, nilSl, At.own (eqS hw) (by exact ⟨rfl, rfl, rfl, rfl, rfl, rfl, rfl, rfl, rfl, rfl, rfl, trivial⟩), no ?_ hw⟩
    rw [hdec, if_neg (by rintro ⟨h1, _⟩; rw [h1] at h; cases h)]
  refine NilP.mk rfl ⟨C.kind, C.pnr, C.flt, C.cls, C.many, C.time, C.sc, C.lab, C.rows, sg, sp, At.own (eqS hw) (by exact ⟨rfl, rfl, rfl, rfl, rfl, rfl, rfl, rfl, rfl, rfl, rfl, trivial⟩), ?_⟩
  have hw : Sat R (Own sg 3 (intsI C.grps) :: RdAt r rd10 :: brC b4 r :: cmC b C sg sp :: Own sp 33 (flts C.parts) :: cmNew b2 :: Hs) w := hw.arr
  have sl := Own.len (hw.arr (Hs' := Own sp 33 (flts C.parts) :: Own sg 3 (intsI C.grps) :: RdAt r rd10 :: brC b4 r :: cmC b C sg sp :: cmNew b2 :: Hs))
  obtain ⟨R', hr, _, hw, back⟩ := Own.lendI hw (by omega)
  refine (bright_spec hr (by omega) (by simpa using sl) hw).use ?_
  clear hw
  rintro _ w ⟨rfl, hw⟩
  have hw := back hw
  refine ⟨_, rfl, Br.nb (fun h2 => ?_) (fun h2 => ?_)⟩
  · have hw : Sat R (cmNew b2 :: Hs) w := hw.drop.drop.drop.drop.drop
    refine store_rule hw (by kernel_rfl) rfl (by simp [Value.cells]) fun w hw => ?_
    have hw := hw.re (cmNew b2)
    refine ⟨_, _, _, _, _, _, _, _, _, nilSl, nilSl, At.own (eqS hw) (by exact ⟨rfl, rfl, rfl, rfl, rfl, rfl, rfl, rfl, rfl, rfl, rfl, trivial⟩), no ?_ hw⟩
    rw [hdec, if_neg (by rintro ⟨_, h1⟩; rw [decide_eq_true h1] at h2; cases h2)]
  refine NilP.mk rfl ⟨C.kind, C.pnr, C.flt, C.cls, C.many, C.time, C.sc, C.lab, C.rows, sg, sp, At.own (eqS hw) (by exact ⟨rfl, rfl, rfl, rfl, rfl, rfl, rfl, rfl, rfl, rfl, rfl, trivial⟩), ?_⟩
  have hw : Sat R (cmNew b2 :: Own sg 3 (intsI C.grps) :: RdAt r rd10 :: brC b4 r :: cmC b C sg sp :: Own sp 33 (flts C.parts) :: Hs) w := hw.arr
  refine store_rule hw (by kernel_rfl) rfl (by simp [Value.cells]) fun w hw => ?_
  have hw := hw.re (cmC b2 C sg sp)
  refine ⟨C.kind, C.pnr, C.flt, C.cls, C.many, C.time, C.sc, C.lab, C.rows, sg, sp, At.own (eqS hw) (by exact ⟨rfl, rfl, rfl, rfl, rfl, rfl, rfl, rfl, rfl, rfl, rfl, trivial⟩), ?_⟩
  rw [hdec, if_pos ⟨h, of_decide_eq_true h2⟩]
  exact ⟨sg, sp, rfl, hw.drop.cons fun _ h => (h.arr (Hs' := Own sp 33 (flts C.parts) :: RdAt r rd10 :: brC b4 r :: cmC b C sg sp :: Hs)).cons fun _ h => h.drop.drop.drop⟩
end Go.Proofs.YtfgbbckfikiomaaGreatDoor
/- Package booking: Read. Condition: bounds on lengths. -/
namespace Go.Proofs.YtfgbbckfikiomaaGreatDoor
set_option linter.unusedVariables false
open Go Go.VC
open scoped Classical
variable {R : Cx} {Hs Rest : List HP} {w : World}
abbrev rpHead (k : Int) (p : ByteArray) (s f c m t : Int) : Rp := ⟨k, p, s, f, c, m, t, [], []⟩
abbrev rpNew (b : Nat) : HP := rpC b (rpHead 0 (ByteArray.mk #[]) 0 0 0 0 0) nilSl nilSl
section
variable (S : World → Prop) (J : Option Addr → World → Prop) (b4 b : Nat) (r : Option Addr)
end
section
variable {J : Option Addr → World → Prop} {b4 b r : Nat} {rd : Rd} {k s f c m t : Int} {p : ByteArray}
end
end Go.Proofs.YtfgbbckfikiomaaGreatDoor

/- Reference 18: whether a command may be; steps of its codes. Condition: bounds on lengths. -/
namespace Go.Proofs.YtfgbbckfikiomaaGreatDoor
set_option linter.unusedVariables false
open Go Go.VC
open scoped Classical
variable {R : Cx} {Hs Rest : List HP} {w : World}
set_option maxHeartbeats 400000 in
theorem r18right_spec {c : Cm} {sg sp : Sl} (hg : RoI R sg c.grps) (hgl : c.grps.length ≤ 100000) (hp : sp.len = c.parts.length) (hw : Sat R Hs w) :
    Gets Tryz.prog 62 #[.agg #[.int .i64 c.kind, .string c.pnr, .int .i64 c.flt, .int .i64 c.cls, .int .i64 c.many, .int .i64 c.time, .float .f64 c.sc, .string c.lab, .int .i64 c.rows, .slice sg.a sg.len sg.cap, .slice sp.a sp.len sp.cap]] w fun v w' => v = .bool (decide (RightC c)) ∧ Sat R Hs w' := by
  have hglen := hg.len
  apply call62
  refine new_rule hw fun b w hw => ?_
  have hw : Sat R (cmC b c sg sp :: Hs) w := hw
  refine ⟨c.flt, At.own (eqS hw) (by exact ⟨rfl, trivial⟩), c.cls, At.own (eqS hw) (by exact ⟨rfl, trivial⟩), c.many, At.own (eqS hw) (by exact ⟨rfl, trivial⟩), c.rows, At.own (eqS hw) (by exact ⟨rfl, trivial⟩), ?_⟩
  refine new_rule hw fun b2 w hw => ?_
  have hw : Sat R (Own ⟨some ⟨b2, 0, none⟩, 4, 4⟩ 3 (intsI [c.flt, c.cls, c.many, c.rows]) :: cmC b c sg sp :: Hs) w := own_lit hw
  obtain ⟨L, hL⟩ : ∃ L, L = [c.flt, c.cls, c.many, c.rows] := ⟨_, rfl⟩
  have hLl : L.length = 4 := by rw [hL]; rfl
  rw [← hL] at hw
  have no : ¬ RightC c → ∀ {w}, Sat R (Own ⟨some ⟨b2, 0, none⟩, 4, 4⟩ 3 (intsI L) :: cmC b c sg sp :: Hs) w → (Value.bool false = .bool (decide (RightC c)) ∧ Sat R Hs w) := fun h w hw => ⟨by rw [decide_eq_false h], hw.drop.drop⟩
  have bad : ∀ n ∈ L, ¬ numOk n → ¬ RightC c := fun n hn h hr => h ((right_iff.1 hr).1 n (List.mem_append.2 (.inl (by rw [← hL]; exact hn))))
  refine ⟨fun i w => ∃ k : Nat, i = k ∧ k ≤ 4 ∧ (∀ n ∈ L.take k, numOk n) ∧ Sat R (Own ⟨some ⟨b2, 0, none⟩, 4, 4⟩ 3 (intsI L) :: cmC b c sg sp :: Hs) w, fun i _ => 4 - i.toNat, ⟨0, rfl, by omega, by simp, hw⟩, ?_⟩
  clear hw
  rintro _ _ w ⟨k, rfl, hk, hok, hw⟩
  refine Br.d (fun h => ?_) (fun h => ?_)
  · have hkx : k < L.length := by omega
    refine Own.ix (s := ⟨some ⟨b2, 0, none⟩, 4, 4⟩) hw (eqS hw) k rfl hkx ?_
    refine Br.d (fun h2 => no (bad _ (List.getElem_mem hkx) (by unfold numOk; omega)) hw) (fun h2 => ?_)
    refine Own.ix (s := ⟨some ⟨b2, 0, none⟩, 4, 4⟩) hw (eqS hw) k rfl hkx ?_
    refine Br.d (fun h3 => no (bad _ (List.getElem_mem hkx) (by unfold numOk; omega)) hw) (fun h3 => ?_)
    rw [wrap64 (by omega) (by omega)]
    refine ⟨⟨k + 1, by omega, by omega, fun n hn => ?_, hw⟩, by dsimp only; omega⟩
    rw [List.take_add_one, List.getElem?_eq_getElem hkx] at hn
    rcases List.mem_append.1 hn with hn | hn
    · exact hok n hn
    · rw [show n = L[k] by simpa using hn]
      unfold numOk
      omega
  rw [List.take_of_length_le (by omega)] at hok
  refine ⟨fun w => ((1 ≤ c.kind ∧ c.kind ≤ 9 ∧ 0 ≤ c.time ∧ c.time ≤ 1099511627776) ∧ (c.pnr.size ≤ 16 ∧ c.lab.size ≤ 16) ∧ (c.grps.length ≤ 16 ∧ c.parts.length ≤ 16)) ∧ Sat R (Own ⟨some ⟨b2, 0, none⟩, 4, 4⟩ 3 (intsI L) :: cmC b c sg sp :: Hs) w, ?_, ?_⟩
  · refine ⟨c.kind, At.own (eqS hw) (by exact ⟨rfl, trivial⟩), Br.d (fun h1 => no (fun hr => by have := hr.kind; omega) hw) (fun h1 => ?_)⟩
    refine ⟨c.kind, At.own (eqS hw) (by exact ⟨rfl, trivial⟩), Br.d (fun h2 => no (fun hr => by have := hr.kind; omega) hw) (fun h2 => ?_)⟩
    refine ⟨c.time, At.own (eqS hw) (by exact ⟨rfl, trivial⟩), Br.d (fun h3 => no (fun hr => by have := hr.time; omega) hw) (fun h3 => ?_)⟩
    refine ⟨c.time, At.own (eqS hw) (by exact ⟨rfl, trivial⟩), Br.d (fun h4 => no (fun hr => by have := hr.time; omega) hw) (fun h4 => ?_)⟩
    refine ⟨c.pnr, At.own (eqS hw) (by exact ⟨rfl, trivial⟩), Br.d (fun h5 => no (fun hr => by have := hr.pnr; omega) hw) (fun h5 => ?_)⟩
    refine ⟨c.lab, At.own (eqS hw) (by exact ⟨rfl, trivial⟩), Br.d (fun h6 => no (fun hr => by have := hr.lab; omega) hw) (fun h6 => ?_)⟩
    refine ⟨sg, At.own (eqS hw) (by exact ⟨rfl, trivial⟩), Br.d (fun h7 => no (fun hr => by have := hr.gl; omega) hw) (fun h7 => ?_)⟩
    refine ⟨sp, At.own (eqS hw) (by exact ⟨rfl, trivial⟩), Br.d (fun h8 => no (fun hr => by have := hr.pl; omega) hw) (fun h8 => ?_)⟩
    exact ⟨⟨⟨by omega, by omega, by omega, by omega⟩, ⟨by omega, by omega⟩, by omega, by omega⟩, hw⟩
  clear hw h hk
  rintro _ w ⟨⟨h1, h2, h3⟩, hw⟩
  refine ⟨fun i w => ∃ k : Nat, i = k ∧ k ≤ c.grps.length ∧ (∀ n ∈ c.grps.take k, numOk n) ∧ Sat R (Own ⟨some ⟨b2, 0, none⟩, 4, 4⟩ 3 (intsI L) :: cmC b c sg sp :: Hs) w, fun i _ => c.grps.length - i.toNat, ⟨0, rfl, by omega, by simp, hw⟩, ?_⟩
  clear hw
  rintro _ _ w ⟨k, rfl, hk, hok2, hw⟩
  have badg : ∀ n ∈ c.grps, ¬ numOk n → ¬ RightC c := fun n hn h hr => h (hr.grps n hn)
  refine ⟨sg, At.own (eqS hw) (by exact ⟨rfl, trivial⟩), Br.d (fun h => ?_) (fun h => ?_)⟩
  · have hkx : k < c.grps.length := by omega
    refine ⟨sg, At.own (eqS hw) (by exact ⟨rfl, trivial⟩), Ro.ix hg (eqS hw) k rfl hkx ?_⟩
    refine Br.d (fun h2 => no (badg _ (List.getElem_mem hkx) (by unfold numOk; omega)) hw) (fun h2 => ?_)
    refine ⟨sg, At.own (eqS hw) (by exact ⟨rfl, trivial⟩), Ro.ix hg (eqS hw) k rfl hkx ?_⟩
    refine Br.d (fun h3 => no (badg _ (List.getElem_mem hkx) (by unfold numOk; omega)) hw) (fun h3 => ?_)
    rw [wrap64 (by omega) (by omega)]
    refine ⟨⟨k + 1, by omega, by omega, fun n hn => ?_, hw⟩, by dsimp only; omega⟩
    rw [List.take_add_one, List.getElem?_eq_getElem hkx] at hn
    rcases List.mem_append.1 hn with hn | hn
    · exact hok2 n hn
    · rw [show n = c.grps[k] by simpa using hn]
      unfold numOk
      omega
  · rw [List.take_of_length_le (by omega)] at hok2
    refine ⟨?_, hw.drop.drop⟩
    rw [decide_eq_true]
    refine right_iff.2 ⟨fun n hn => ?_, h2, h3, h1⟩
    rcases List.mem_append.1 hn with hn | hn
    · exact hok n (by rw [hL]; exact hn)
    · exact hok2 n hn
theorem app8 {s t : Sl} {a b : List Int} {K : Sl → World → Prop} (hl : a.length + b.length ≤ 1099511627776) (hw : Sat R (Own t 5 (b8 b) :: Own s 5 (b8 a) :: Hs) w)
    (k : ∀ s2 w', Sat R (Own s2 5 (b8 (a ++ b)) :: Hs) w' → K s2 w') :
    ∃ w_1 : World, ∃ t2 : Sl, ((Builtin.append_ #[ 42, 42 ] 42 #[.slice s.a s.len s.cap, .slice t.a t.len t.cap]).run Tryz.prog w = .ok (.slice t2.a t2.len t2.cap) w_1) ∧ K t2 w_1 :=
  appendOO elB8 (s := s) (n := 1099511627776) Tryz.underlying42 hw.swap (by omega) (by omega) (by omega) fun s2 w hw => k s2 w (hw.swap.drop)
theorem rlit_spec {b n : Nat} {xs : List Int} (hn : n = xs.length) (hxs : ∀ x ∈ xs, x < 9223372036854775808) (hl : 9 * xs.length ≤ 1099511627776) (hw : Sat R (pts b (.cells (intsI xs).toArray 3 (0, 0)) :: Hs) w) :
    Gets Tryz.prog 71 #[.slice (some ⟨b, 0, none⟩) n n] w fun v w' => ∃ t : Sl, v = .slice t.a t.len t.cap ∧ Sat R (Own t 5 (b8 (numsB (xs.map nn))) :: Hs) w' := by
  have hw : Sat R (Own ⟨some ⟨b, 0, none⟩, n, n⟩ 3 (intsI xs) :: Hs) w := own_lit hw (by rw [List.length_map]; exact hn)
  obtain ⟨R', hr, _, hw, back⟩ := Own.lendI hw (by omega)
  refine (r18nums_spec hxs hl hr hw).use ?_
  rintro _ w ⟨t, rfl, hw⟩
  exact ⟨_, rfl, t, rfl, (back hw).swap.cons fun _ h => h.drop⟩
theorem rstr_rule {s : ByteArray} {K : Sl → World → Prop} (hl : s.size ≤ 1099511627776) (hw : Sat R Hs w) (k : ∀ t w', Sat R (Own t 5 (b8 (strB s)) :: Hs) w' → K t w') :
    ∃ w_1 : World, ∃ t : Sl, ((convert 9 42 (.string s)).run Tryz.prog w = .ok (.slice t.a t.len t.cap) w_1) ∧
      Calls Tryz.prog 72 #[.slice t.a t.len t.cap] w_1 fun e w_2 => ∃ t2 : Sl, (e = .returned (.slice t2.a t2.len t2.cap)) ∧ K t2 w_2 := by
  refine convB_rule Tryz.underlying9 Tryz.underlying42 Tryz.underlying5 hw fun t w hw => ?_
  have hsz := bytesL_len s
  obtain ⟨R', hr, _, hw, back⟩ := Own.lend hw (by rw [List.length_map]; omega)
  refine (rtextB_spec hr (by omega) hw).use ?_
  rintro _ w ⟨t2, rfl, hw⟩
  exact ⟨t2, rfl, k _ _ ((back hw).swap.cons fun _ h => h.drop)⟩
theorem rflt_rule {x : Nat} {K : Sl → World → Prop} (hx : x < 18446744073709551616) (hw : Sat R Hs w) (k : ∀ t w', Sat R (Own t 5 (b8 (fltB x)) :: Hs) w' → K t w') :
    Calls Tryz.prog 89 #[.float .f64 x] w fun e w' => ∃ y : Int, (e = .returned (.int .u64 y)) ∧
      Calls Tryz.prog 88 #[.int .u64 y] w' fun e w' => ∃ t2 : Sl, (e = .returned (.slice t2.a t2.len t2.cap)) ∧ K t2 w' := by
  refine (rkey_spec hx hw).use ?_
  rintro _ w ⟨rfl, hw⟩
  refine ⟨_, rfl, ?_⟩
  refine (rnumber_spec (key_lt hx) hw).use ?_
  rintro _ w ⟨t, rfl, hw⟩
  exact ⟨t, rfl, k _ _ hw⟩
end Go.Proofs.YtfgbbckfikiomaaGreatDoor
/- Reference 18: Encode, Answer. Condition: bounds on lengths; words. -/
namespace Go.Proofs.YtfgbbckfikiomaaGreatDoor
set_option linter.unusedVariables false
open Go Go.VC
open scoped Classical
variable {R : Cx} {Hs Rest : List HP} {w : World}
theorem nn2 {a b : Int} (h0 : 0 ≤ a) (h1 : 0 ≤ b) : numsB ([a, b].map nn) = numsB [a] ++ numsB [b] := by
  show numsB [nn a, nn b] = _
  rw [nn_id h0, nn_id h1, numsB_sp a]
set_option maxHeartbeats 1000000 in
theorem r18enc_spec {c : Cm} {sg sp : Sl} (hf : FltC c) (hg : RoI R sg c.grps) (hgl : c.grps.length ≤ 100000) (hp : SlR R.m sp (flts c.parts)) (hpl : c.parts.length ≤ 100000) (hw : Sat R Hs w) :
    Gets Tryz.prog 30 #[.agg #[.int .i64 c.kind, .string c.pnr, .int .i64 c.flt, .int .i64 c.cls, .int .i64 c.many, .int .i64 c.time, .float .f64 c.sc, .string c.lab, .int .i64 c.rows, .slice sg.a sg.len sg.cap, .slice sp.a sp.len sp.cap]] w fun v w' =>
      (¬ RightC c ∧ v = .tuple #[.slice none 0 0, .int .i64 1] ∧ Sat R Hs w') ∨ (RightC c ∧ ∃ t : Sl, v = .tuple #[.slice t.a t.len t.cap, .int .i64 0] ∧ Sat R (Own t 5 (b8 (cmB c)) :: Hs) w') := by
  have hplen : sp.len = c.parts.length := by have := hp.len; simpa using this
  have hglen := hg.len
  apply call30
  refine new_rule hw fun b w hw => ?_
  have hw : Sat R (cmC b c sg sp :: Hs) w := hw
  refine ⟨c.kind, c.pnr, c.flt, c.cls, c.many, c.time, c.sc, c.lab, c.rows, sg, sp, At.own (eqS hw) (by exact ⟨rfl, rfl, rfl, rfl, rfl, rfl, rfl, rfl, rfl, rfl, rfl, trivial⟩), ?_⟩
  refine (r18right_spec hg hgl hplen hw).use ?_
  clear hw
  rintro _ w ⟨rfl, hw⟩
  refine ⟨_, rfl, Br.nd (fun hr => .inl ⟨hr, rfl, hw.drop⟩) (fun hr => ?_)⟩
  have r1 := hr.flt
  have r2 := hr.cls
  have r3 := hr.many
  have r4 := hr.rows
  have r5 := hr.kind
  have r6 := hr.time
  have r7 := hr.pnr
  have r8 := hr.lab
  have r9 := hr.gl
  have r10 := hr.pl
  unfold numOk at r1 r2 r3 r4
  have l1 := nums1_len (x := c.kind) (by omega)
  have l2 := strB_len (s := c.pnr) (by omega)
  have l3 := nums1_len (x := c.flt) (by omega)
  have l4 := nums1_len (x := c.cls) (by omega)
  have l5 := nums1_len (x := c.many) (by omega)
  have l6 := nums1_len (x := c.time) (by omega)
  have l7 := fltB_len hf.sc
  have l8 := strB_len (s := c.lab) (by omega)
  have l9 := nums1_len (x := c.rows) (by omega)
  have l10 := nums1_len (x := (c.grps.length : Int)) (by omega)
  have l11 := numsB_len (l := c.grps) fun y hy => by have := hr.grps y hy; unfold numOk at this; omega
  have l12 := nums1_len (x := (c.parts.length : Int)) (by omega)
  refine ⟨c.kind, At.own (eqS hw) (by exact ⟨rfl, trivial⟩), ?_⟩
  refine new_rule hw fun b15 w hw => ?_
  refine (rlit_spec (xs := [c.kind]) rfl (by simp; omega) (by simp) hw).use ?_
  clear hw
  rintro _ w ⟨t1, rfl, hw⟩
  refine ⟨t1, rfl, ?_⟩
  rw [nn1 (by omega)] at hw
  refine ⟨c.pnr, At.own (eqS hw) (by exact ⟨rfl, trivial⟩), ?_⟩
  refine rstr_rule (by omega) hw fun t2 w hw => ?_
  refine app8 (by omega) hw fun t1 w hw => ?_
  refine ⟨c.flt, At.own (eqS hw) (by exact ⟨rfl, trivial⟩), c.cls, At.own (eqS hw) (by exact ⟨rfl, trivial⟩), c.many, At.own (eqS hw) (by exact ⟨rfl, trivial⟩), c.time, At.own (eqS hw) (by exact ⟨rfl, trivial⟩), ?_⟩
  refine new_rule hw fun b31 w hw => ?_
  refine (rlit_spec (xs := [c.flt, c.cls, c.many, c.time]) rfl (by simp; omega) (by simp) hw).use ?_
  clear hw
  rintro _ w ⟨t2, rfl, hw⟩
  refine ⟨t2, rfl, ?_⟩
  rw [nn4 (by omega) (by omega) (by omega) (by omega)] at hw
  refine app8 (by simp only [List.length_append]; omega) hw fun t1 w hw => ?_
  refine ⟨c.sc, At.own (eqS hw) (by exact ⟨rfl, trivial⟩), ?_⟩
  refine rflt_rule hf.sc hw fun t2 w hw => ?_
  refine app8 (by simp only [List.length_append]; omega) hw fun t1 w hw => ?_
  refine ⟨c.lab, At.own (eqS hw) (by exact ⟨rfl, trivial⟩), ?_⟩
  refine rstr_rule (by omega) hw fun t2 w hw => ?_
  refine app8 (by simp only [List.length_append]; omega) hw fun t1 w hw => ?_
  refine ⟨c.rows, At.own (eqS hw) (by exact ⟨rfl, trivial⟩), sg, At.own (eqS hw) (by exact ⟨rfl, trivial⟩), ?_⟩
  refine new_rule hw fun b46 w hw => ?_
  refine (rlit_spec (xs := [c.rows, (sg.len : Int)]) rfl (by simp; omega) (by simp) hw).use ?_
  clear hw
  rintro _ w ⟨t2, rfl, hw⟩
  refine ⟨t2, rfl, ?_⟩
  rw [nn2 (by omega) (by omega), show ((sg.len : Nat) : Int) = (c.grps.length : Int) by omega] at hw
  refine app8 (by simp only [List.length_append]; omega) hw fun t1 w hw => ?_
  refine ⟨sg, At.own (eqS hw) (by exact ⟨rfl, trivial⟩), ?_⟩
  refine (r18nums_spec (xs := c.grps) (fun y hy => by have := hr.grps y hy; unfold numOk at this; omega) (by omega) hg hw).use ?_
  clear hw
  rintro _ w ⟨t2, rfl, hw⟩
  refine ⟨t2, rfl, ?_⟩
  rw [nn_map fun y hy => (hr.grps y hy).1] at hw
  refine app8 (by simp only [List.length_append]; omega) hw fun t1 w hw => ?_
  refine ⟨sp, At.own (eqS hw) (by exact ⟨rfl, trivial⟩), ?_⟩
  refine new_rule hw fun b57 w hw => ?_
  refine (rlit_spec (xs := [(sp.len : Int)]) rfl (by simp; omega) (by simp) hw).use ?_
  clear hw
  rintro _ w ⟨t2, rfl, hw⟩
  refine ⟨t2, rfl, ?_⟩
  rw [nn1 (by omega), show ((sp.len : Nat) : Int) = (c.parts.length : Int) by omega] at hw
  refine app8 (by simp only [List.length_append]; omega) hw fun t1 w hw => ?_
  obtain ⟨B, hBl, hB, hw⟩ : ∃ B : List Int, B.length ≤ 100000 ∧ B ++ (c.parts.map fltB).flatten = cmB c ∧ Sat R (Own t1 5 (b8 B) :: cmC b c sg sp :: Hs) w :=
    ⟨_, by simp only [List.length_append]; omega, by unfold cmB; simp only [List.append_assoc], hw⟩
  refine ⟨fun out i w => ∃ k : Nat, i = k ∧ k ≤ c.parts.length ∧ Sat R (Own out 5 (b8 (B ++ ((c.parts.take k).map fltB).flatten)) :: cmC b c sg sp :: Hs) w, fun _ i _ => c.parts.length - i.toNat, ⟨0, rfl, by omega, by simpa using hw⟩, ?_⟩
  clear hw
  rintro _ out _ w ⟨k, rfl, hk, hw⟩
  refine ⟨sp, At.own (eqS hw) (by exact ⟨rfl, trivial⟩), ?_⟩
  refine Br.d (fun h => ?_) (fun h => ?_)
  · have hkx : k < c.parts.length := by omega
    have hfl := flat_len (l := c.parts.take k) (code := fltB) (m := 9) fun x hx => fltB_len (hf.parts x (List.mem_of_mem_take hx))
    rw [List.length_take] at hfl
    have hfk := fltB_len (hf.parts _ (List.getElem_mem hkx))
    refine ⟨sp, At.own (eqS hw) (by exact ⟨rfl, trivial⟩), ?_⟩
    refine Ro.ixF (hp.ro (by rw [List.length_map]; omega)) (eqS hw) k rfl hkx ?_
    refine rflt_rule (hf.parts _ (List.getElem_mem hkx)) hw fun t2 w hw => ?_
    refine app8 (by rw [List.length_append]; omega) hw fun t1 w hw => ?_
    rw [wrap64 (by omega) (by omega)]
    refine ⟨⟨k + 1, by omega, by omega, ?_⟩, by dsimp only; omega⟩
    rw [List.take_add_one, List.getElem?_eq_getElem hkx, List.map_append, List.flatten_append, ← List.append_assoc]
    simpa using hw
  · rw [List.take_of_length_le (l := c.parts) (by omega), hB] at hw
    exact .inr ⟨hr, out, rfl, hw.cons fun _ h => h.drop⟩
end Go.Proofs.YtfgbbckfikiomaaGreatDoor
/- Reference 18: Decode. Condition: bounds on lengths. -/
namespace Go.Proofs.YtfgbbckfikiomaaGreatDoor
set_option linter.unusedVariables false
open Go Go.VC
open scoped Classical
variable {R : Cx} {Hs Rest : List HP} {w : World}
theorem pushS_rule {P : Program} {t1 t2 ty T T' : TypeId} {bytes : Nat} (E : El P t1 t2 T bytes) {R : Cx} {Hs : List HP} {w : World} {s : Sl} {xs : List Value} {x : Value} {K : Sl → World → Prop} {S : World → Prop}
    (hw : Sat R (Own s T xs :: Hs) w) (h1 : oneAll xs = true) (hx : x.oneCell' = true) (hb : 2 * (xs.length + 1) * bytes ≤ 281474976710656) (hb' : xs.length + 1 ≤ 9223372036854775807)
    (hS : ∀ A w, Sat R (A :: Own s T xs :: Hs) w → S w)
    (k : ∀ s' w', Sat R (Own s' T (xs ++ [x]) :: Hs) w' → K s' w') :
    New (.cells #[x] T' (0, 0)) (fun b w => S w ∧ ∃ w', ∃ t : Sl, (Builtin.append_ #[t1, t2] ty #[.slice s.a s.len s.cap, .slice (some ⟨b, 0, none⟩) 1 1]).run P w = .ok (.slice t.a t.len t.cap) w' ∧ K t w') w := by
  refine new_rule hw fun b w hw => ⟨hS _ _ hw, ?_⟩
  have hw : Sat R (pts b (.cells [x].toArray T' (0, 0)) :: Own s T xs :: Hs) w := hw
  exact append_rule E hw.swap (Src_one E.hk 1 hw hx) h1 hb hb' fun s' w' h => k s' w' h.swap.drop
theorem rrstr_rule {q : Nat} {s : Sl} {bs : List Int} {rd : Rd} {most : Int} {K : ByteArray → World → Prop} (hm : most < 9223372036854775808) (hl : bs.length ≤ 1099511627776) (hb : Bytes bs) (hs : SlR R.m s (b8 bs)) (hw : Sat R (RRdAt q s bs rd :: Hs) w)
    (k : ∀ w', Sat R (RRdAt q s bs (strRd most rd).2 :: Hs) w' → K (strRd most rd).1 w') :
    Calls Tryz.prog 85 #[.pointer (some ⟨q, 0, none⟩), .int .i64 most] w fun e w' => ∃ t : Sl, (e = .returned (.slice t.a t.len t.cap)) ∧
      ∃ x : ByteArray, (∀ w2, (fun w'' => w'' = w') w2 → ((convert 42 9 (.slice t.a t.len t.cap))).run Tryz.prog w2 = .ok (.string x) w2) ∧ K x w' := by
  obtain ⟨n, ⟨hn, hd⟩, _⟩ := Sat.rrd.1 hw
  have hrd : rd.bs.length ≤ bs.length := by rw [← hd, List.length_drop]; omega
  have htl := rdText_len (most := most) (rd := rd)
  refine (rrtext_spec hm hl hb hs hw).use ?_
  rintro _ w ⟨t, rfl, hw⟩
  refine ⟨t, rfl, VC.strOf (rdText most rd).1, fun w' e => ?_, k _ hw.drop⟩
  rw [show w' = w from e]
  obtain ⟨R', hr, _, hw2, back⟩ := Own.lend hw (by rw [List.length_map]; omega)
  exact convS_ro Tryz.underlying42 Tryz.underlying5 Tryz.underlying9 hw2 hr
theorem wrapN {x : Int} (h : 0 ≤ x) (h2 : x < 9223372036854775808) : IntKind.i64.wrap x = x := wrap64 (by omega) h2
theorem cmRd_eq (r : Rd) : cmRd r =
  let k := rdNum 9 r
  let p := strRd 16 k.2
  let f := rdNum 9999 p.2
  let c := rdNum 9999 f.2
  let m := rdNum 9999 c.2
  let t := rdNum 1099511627776 m.2
  let s := fltRd t.2
  let l := strRd 16 s.2
  let w := rdNum 9999 l.2
  let n := rdNum 16 w.2
  let g := rdEach (rdNum 9999) n.1.toNat n.2
  let q := rdNum 16 g.2
  let x := rdEach fltRd q.1.toNat q.2
  (⟨k.1, p.1, f.1, c.1, m.1, t.1, s.1, l.1, w.1, g.1, x.1⟩, x.2) := rfl
set_option maxHeartbeats 1000000 in
theorem r18dec_spec {s : Sl} {bs : List Int} (hb : Bytes bs) (hl : bs.length ≤ 1099511627776) (hs : SlR R.m s (b8 bs)) (hw : Sat R Hs w) :
    Gets Tryz.prog 32 #[.slice s.a s.len s.cap] w fun v w' => ∃ sg sp : Sl, v = .tuple #[.agg (cmV (cmDec bs).1 sg sp).toArray, .int .i64 (cmDec bs).2] ∧ Sat R (Own sg 3 (intsI (cmDec bs).1.grps) :: Own sp 33 (flts (cmDec bs).1.parts) :: Hs) w' := by
  apply call32
  have bb0 : Bytes (⟨bs, false⟩ : Rd).bs := hb
  have hcm := cmRd_eq ⟨bs, false⟩
  obtain ⟨rd0, e0⟩ : ∃ rd : Rd, rd = ⟨bs, false⟩ := ⟨_, rfl⟩
  rw [← e0] at bb0 hcm
  refine new_rule hw fun b2 w hw => ?_
  have hw : Sat R (cmNew b2 :: Hs) w := hw
  refine new_rule hw fun q w hw => ?_
  have hw : Sat R (pts q (rrCells s 0 false) :: cmNew b2 :: Hs) w := hw
  have hw : Sat R (RRdAt q s bs ⟨bs, false⟩ :: cmNew b2 :: Hs) w := Sat.rrd.2 ⟨0, ⟨by omega, rfl⟩, hw⟩
  rw [← e0] at hw
  have bb1 := rdNum_bd (most := 9) bb0
  have v1 := rdNum_val (most := 9) bb0 (by omega)
  obtain ⟨k, rd1, e1⟩ : ∃ y rd, rdNum 9 rd0 = (y, rd) := ⟨_, _, rfl⟩
  refine (rrnum_spec (most := 9) hl hb hs hw).use ?_
  clear hw
  rintro _ w ⟨rfl, hw⟩
  rw [e1] at bb1 v1 hw ⊢
  dsimp only at bb1 v1 hw ⊢
  refine ⟨_, rfl, ?_⟩
  rw [wrapN (x := k) v1.1 (by omega)]
  have bb2 := strRd_bd (most := 16) bb1
  obtain ⟨p, rd2, e2⟩ : ∃ y rd, strRd 16 rd1 = (y, rd) := ⟨_, _, rfl⟩
  refine rrstr_rule (most := 16) (by omega) hl hb hs hw fun w hw => ?_
  rw [e2] at bb2 hw ⊢
  dsimp only at bb2 hw ⊢
  refine new_rule hw fun b w hw => ?_
  have hw : Sat R (cmNew b :: RRdAt q s bs rd2 :: cmNew b2 :: Hs) w := hw
  refine store_rule hw (by kernel_rfl) rfl (by simp [Value.cells]) fun w hw => ?_
  have hw : Sat R (RRdAt q s bs rd2 :: cmC b (cmHead k p 0 0 0 0) nilSl nilSl :: cmNew b2 :: Hs) w := (hw.re (cmC b (cmHead k p 0 0 0 0) nilSl nilSl)).arr
  have bb3 := rdNum_bd (most := 9999) bb2
  have v3 := rdNum_val (most := 9999) bb2 (by omega)
  obtain ⟨f, rd3, e3⟩ : ∃ y rd, rdNum 9999 rd2 = (y, rd) := ⟨_, _, rfl⟩
  refine (rrnum_spec (most := 9999) hl hb hs hw).use ?_
  clear hw
  rintro _ w ⟨rfl, hw⟩
  rw [e3] at bb3 v3 hw ⊢
  dsimp only at bb3 v3 hw ⊢
  refine ⟨_, rfl, ?_⟩
  rw [wrapN (x := f) v3.1 (by omega)]
  refine store_rule hw (by kernel_rfl) rfl (by simp [Value.cells]) fun w hw => ?_
  have hw : Sat R (RRdAt q s bs rd3 :: cmC b ({ cmHead k p 0 0 0 0 with flt := f }) nilSl nilSl :: cmNew b2 :: Hs) w := (hw.re (cmC b ({ cmHead k p 0 0 0 0 with flt := f }) nilSl nilSl)).arr
  have bb4 := rdNum_bd (most := 9999) bb3
  have v4 := rdNum_val (most := 9999) bb3 (by omega)
  obtain ⟨c, rd4, e4⟩ : ∃ y rd, rdNum 9999 rd3 = (y, rd) := ⟨_, _, rfl⟩
  refine (rrnum_spec (most := 9999) hl hb hs hw).use ?_
  clear hw
  rintro _ w ⟨rfl, hw⟩
  rw [e4] at bb4 v4 hw ⊢
  dsimp only at bb4 v4 hw ⊢
  refine ⟨_, rfl, ?_⟩
  rw [wrapN (x := c) v4.1 (by omega)]
  refine store_rule hw (by kernel_rfl) rfl (by simp [Value.cells]) fun w hw => ?_
  have hw : Sat R (RRdAt q s bs rd4 :: cmC b ({ cmHead k p 0 0 0 0 with flt := f, cls := c }) nilSl nilSl :: cmNew b2 :: Hs) w := (hw.re (cmC b ({ cmHead k p 0 0 0 0 with flt := f, cls := c }) nilSl nilSl)).arr
  have bb5 := rdNum_bd (most := 9999) bb4
  have v5 := rdNum_val (most := 9999) bb4 (by omega)
  obtain ⟨m, rd5, e5⟩ : ∃ y rd, rdNum 9999 rd4 = (y, rd) := ⟨_, _, rfl⟩
  refine (rrnum_spec (most := 9999) hl hb hs hw).use ?_
  clear hw
  rintro _ w ⟨rfl, hw⟩
  rw [e5] at bb5 v5 hw ⊢
  dsimp only at bb5 v5 hw ⊢
  refine ⟨_, rfl, ?_⟩
  rw [wrapN (x := m) v5.1 (by omega)]
  refine store_rule hw (by kernel_rfl) rfl (by simp [Value.cells]) fun w hw => ?_
  have hw : Sat R (RRdAt q s bs rd5 :: cmC b ({ cmHead k p 0 0 0 0 with flt := f, cls := c, many := m }) nilSl nilSl :: cmNew b2 :: Hs) w := (hw.re (cmC b ({ cmHead k p 0 0 0 0 with flt := f, cls := c, many := m }) nilSl nilSl)).arr
  have bb6 := rdNum_bd (most := 1099511627776) bb5
  have v6 := rdNum_val (most := 1099511627776) bb5 (by omega)
  obtain ⟨t, rd6, e6⟩ : ∃ y rd, rdNum 1099511627776 rd5 = (y, rd) := ⟨_, _, rfl⟩
  refine (rrnum_spec (most := 1099511627776) hl hb hs hw).use ?_
  clear hw
  rintro _ w ⟨rfl, hw⟩
  rw [e6] at bb6 v6 hw ⊢
  dsimp only at bb6 v6 hw ⊢
  refine ⟨_, rfl, ?_⟩
  rw [wrapN (x := t) v6.1 (by omega)]
  refine store_rule hw (by kernel_rfl) rfl (by simp [Value.cells]) fun w hw => ?_
  have hw : Sat R (RRdAt q s bs rd6 :: cmC b ({ cmHead k p 0 0 0 0 with flt := f, cls := c, many := m, time := t }) nilSl nilSl :: cmNew b2 :: Hs) w := (hw.re (cmC b ({ cmHead k p 0 0 0 0 with flt := f, cls := c, many := m, time := t }) nilSl nilSl)).arr
  have bb7 := fltRd_bd bb6
  obtain ⟨sc, rd7, e7⟩ : ∃ y rd, fltRd rd6 = (y, rd) := ⟨_, _, rfl⟩
  have v7 := rdNum_val (most := 18446744073709551615) bb6 (by omega)
  refine (rrnum_spec (most := 18446744073709551615) hl hb hs hw).use ?_
  clear hw
  rintro _ w ⟨rfl, hw⟩
  refine ⟨_, rfl, ?_⟩
  obtain ⟨y7, hy7⟩ := Int.eq_ofNat_of_zero_le v7.1
  rw [hy7]
  refine (rof_spec (k := y7) (by omega) hw).use ?_
  clear hw
  rintro _ w ⟨rfl, hw⟩
  have e7a : ofF y7 = sc := by have := congrArg Prod.fst e7; dsimp only [fltRd] at this; rw [hy7, Int.toNat_natCast] at this; exact this
  have e7b : (rdNum 18446744073709551615 rd6).2 = rd7 := congrArg Prod.snd e7
  rw [e7b] at hw
  rw [e7] at bb7
  dsimp only at bb7
  refine ⟨_, rfl, ?_⟩
  rw [e7a]
  refine store_rule hw (by kernel_rfl) rfl (by simp [Value.cells]) fun w hw => ?_
  have hw : Sat R (RRdAt q s bs rd7 :: cmC b ({ cmHead k p 0 0 0 0 with flt := f, cls := c, many := m, time := t, sc := sc }) nilSl nilSl :: cmNew b2 :: Hs) w := (hw.re (cmC b ({ cmHead k p 0 0 0 0 with flt := f, cls := c, many := m, time := t, sc := sc }) nilSl nilSl)).arr
  have bb8 := strRd_bd (most := 16) bb7
  obtain ⟨lab, rd8, e8⟩ : ∃ y rd, strRd 16 rd7 = (y, rd) := ⟨_, _, rfl⟩
  refine rrstr_rule (most := 16) (by omega) hl hb hs hw fun w hw => ?_
  rw [e8] at bb8 hw ⊢
  dsimp only at bb8 hw ⊢
  refine store_rule hw (by kernel_rfl) rfl (by simp [Value.cells]) fun w hw => ?_
  have hw : Sat R (RRdAt q s bs rd8 :: cmC b ({ cmHead k p 0 0 0 0 with flt := f, cls := c, many := m, time := t, sc := sc, lab := lab }) nilSl nilSl :: cmNew b2 :: Hs) w := (hw.re (cmC b ({ cmHead k p 0 0 0 0 with flt := f, cls := c, many := m, time := t, sc := sc, lab := lab }) nilSl nilSl)).arr
  have bb9 := rdNum_bd (most := 9999) bb8
  have v9 := rdNum_val (most := 9999) bb8 (by omega)
  obtain ⟨rows, rd9, e9⟩ : ∃ y rd, rdNum 9999 rd8 = (y, rd) := ⟨_, _, rfl⟩
  refine (rrnum_spec (most := 9999) hl hb hs hw).use ?_
  clear hw
  rintro _ w ⟨rfl, hw⟩
  rw [e9] at bb9 v9 hw ⊢
  dsimp only at bb9 v9 hw ⊢
  refine ⟨_, rfl, ?_⟩
  rw [wrapN (x := rows) v9.1 (by omega)]
  refine store_rule hw (by kernel_rfl) rfl (by simp [Value.cells]) fun w hw => ?_
  have hw : Sat R (RRdAt q s bs rd9 :: cmC b ({ cmHead k p 0 0 0 0 with flt := f, cls := c, many := m, time := t, sc := sc, lab := lab, rows := rows }) nilSl nilSl :: cmNew b2 :: Hs) w := (hw.re (cmC b ({ cmHead k p 0 0 0 0 with flt := f, cls := c, many := m, time := t, sc := sc, lab := lab, rows := rows }) nilSl nilSl)).arr
  have bb10 := rdNum_bd (most := 16) bb9
  have v10 := rdNum_val (most := 16) bb9 (by omega)
  obtain ⟨n10, rd10, e10⟩ : ∃ y rd, rdNum 16 rd9 = (y, rd) := ⟨_, _, rfl⟩
  refine (rrnum_spec (most := 16) hl hb hs hw).use ?_
  clear hw
  rintro _ w ⟨rfl, hw⟩
  rw [e10] at bb10 v10 hw ⊢
  dsimp only at bb10 v10 hw ⊢
  refine ⟨_, rfl, ?_⟩
  obtain ⟨n, rfl⟩ := Int.eq_ofNat_of_zero_le v10.1
  have inv : ∀ k, Bytes (rdEach (rdNum 9999) k rd10).2.bs := fun k => (rdEach_inv (one := rdNum 9999) (P := fun r => Bytes r.bs) (Q := fun _ => True) (fun r hr => ⟨trivial, rdNum_bd hr⟩) k bb10).2
  refine ⟨fun i w => ∃ (j : Nat) (sg : Sl), i = j ∧ j ≤ n ∧ Sat R (RRdAt q s bs (rdEach (rdNum 9999) j rd10).2 :: cmC b ({ cmHead k p 0 0 0 0 with flt := f, cls := c, many := m, time := t, sc := sc, lab := lab, rows := rows, grps := (rdEach (rdNum 9999) j rd10).1 }) sg nilSl :: Own sg 3 (intsI (rdEach (rdNum 9999) j rd10).1) :: cmNew b2 :: Hs) w, fun i _ => n - i.toNat, ⟨0, nilSl, rfl, by omega, show Sat R (RRdAt q s bs rd10 :: cmC b ({ cmHead k p 0 0 0 0 with flt := f, cls := c, many := m, time := t, sc := sc, lab := lab, rows := rows, grps := [] }) nilSl nilSl :: Own nilSl 3 (intsI []) :: cmNew b2 :: Hs) w from (show Sat R (Own nilSl 3 (intsI []) :: RRdAt q s bs rd10 :: cmC b ({ cmHead k p 0 0 0 0 with flt := f, cls := c, many := m, time := t, sc := sc, lab := lab, rows := rows, grps := [] }) nilSl nilSl :: cmNew b2 :: Hs) w from Own.nil hw).arr⟩, ?_⟩
  clear hw
  rintro _ _ w ⟨j, sg, rfl, hj, hw⟩
  refine Br.d (fun h => ?_) (fun h => ?_)
  · have gl := rdEach_len (rdNum 9999) j rd10
    have bj := inv j
    have hsn := rdEach_snoc (rdNum 9999) j rd10
    have vj := rdNum_val (most := 9999) bj (by omega)
    rw [wrapU64 (x := (j : Int) + 1) (by omega) (by omega)]
    generalize (rdEach (rdNum 9999) j rd10).1 = gs at *
    generalize (rdEach (rdNum 9999) j rd10).2 = rdj at *
    refine drw_rule' (Sat R [cmC b ({ cmHead k p 0 0 0 0 with flt := f, cls := c, many := m, time := t, sc := sc, lab := lab, rows := rows, grps := gs }) sg nilSl, VC.tru]) hw (fun w hw => tru2 hw) fun w hw => ?_
    refine ⟨sg, At.own (fun _ h => h) (by exact ⟨rfl, trivial⟩), ?_⟩
    refine (rrnum_spec (most := 9999) hl hb hs hw).use ?_
    clear hw
    rintro _ w ⟨rfl, hw⟩
    refine ⟨_, rfl, tru2 hw, ?_⟩
    rw [wrapN vj.1 (by omega)]
    have hw : Sat R (Own sg 3 (intsI gs) :: cmC b ({ cmHead k p 0 0 0 0 with flt := f, cls := c, many := m, time := t, sc := sc, lab := lab, rows := rows, grps := gs }) sg nilSl :: RRdAt q s bs (rdNum 9999 rdj).2 :: cmNew b2 :: Hs) w := hw.arr
    refine pushS_rule elI8 hw (by unfold oneAll; simp [Value.oneCell']) rfl (by rw [List.length_map]; omega) (by rw [List.length_map]; omega) (fun A w hw => (hw.arr (Hs' := cmC b ({ cmHead k p 0 0 0 0 with flt := f, cls := c, many := m, time := t, sc := sc, lab := lab, rows := rows, grps := gs }) sg nilSl :: A :: Own sg 3 (intsI gs) :: RRdAt q s bs (rdNum 9999 rdj).2 :: cmNew b2 :: Hs)).restTru2) fun sg' w hw => ?_
    refine store_rule hw (by kernel_rfl) rfl (by simp [Value.cells]) fun w hw => ?_
    have hw := hw.re (cmC b ({ cmHead k p 0 0 0 0 with flt := f, cls := c, many := m, time := t, sc := sc, lab := lab, rows := rows, grps := gs ++ [(rdNum 9999 rdj).1] }) sg' nilSl)
    refine ⟨⟨j + 1, sg', by omega, by omega, ?_⟩, by dsimp only; omega⟩
    rw [hsn]
    simp only [List.map_append, List.map_cons, List.map_nil] at hw ⊢
    exact hw.arr
  have hjn : j = n := by omega
  subst hjn
  have gl := rdEach_len (rdNum 9999) j rd10
  have bb11 := inv j
  clear inv
  obtain ⟨gs, rd11, e11⟩ : ∃ y rd, rdEach (rdNum 9999) j rd10 = (y, rd) := ⟨_, _, rfl⟩
  rw [e11] at gl bb11 hw
  dsimp only at gl bb11 hw
  have bb12 := rdNum_bd (most := 16) bb11
  have v12 := rdNum_val (most := 16) bb11 (by omega)
  obtain ⟨n12, rd12, e12⟩ : ∃ y rd, rdNum 16 rd11 = (y, rd) := ⟨_, _, rfl⟩
  refine (rrnum_spec (most := 16) hl hb hs hw).use ?_
  clear hw
  rintro _ w ⟨rfl, hw⟩
  rw [e12] at bb12 v12 hw ⊢
  dsimp only at bb12 v12 hw ⊢
  refine ⟨_, rfl, ?_⟩
  obtain ⟨n, rfl⟩ := Int.eq_ofNat_of_zero_le v12.1
  have inv : ∀ k, Bytes (rdEach fltRd k rd12).2.bs := fun k => (rdEach_inv (one := fltRd) (P := fun r => Bytes r.bs) (Q := fun _ => True) (fun r hr => ⟨trivial, fltRd_bd hr⟩) k bb12).2
  refine ⟨fun i w => ∃ (j : Nat) (sp : Sl), i = j ∧ j ≤ n ∧ Sat R (RRdAt q s bs (rdEach fltRd j rd12).2 :: cmC b ({ cmHead k p 0 0 0 0 with flt := f, cls := c, many := m, time := t, sc := sc, lab := lab, rows := rows, grps := gs, parts := (rdEach fltRd j rd12).1 }) sg sp :: Own sg 3 (intsI gs) :: Own sp 33 (flts (rdEach fltRd j rd12).1) :: cmNew b2 :: Hs) w, fun i _ => n - i.toNat, ⟨0, nilSl, rfl, by omega, show Sat R (RRdAt q s bs rd12 :: cmC b ({ cmHead k p 0 0 0 0 with flt := f, cls := c, many := m, time := t, sc := sc, lab := lab, rows := rows, grps := gs, parts := [] }) sg nilSl :: Own sg 3 (intsI gs) :: Own nilSl 33 (flts []) :: cmNew b2 :: Hs) w from (show Sat R (Own nilSl 33 (flts []) :: RRdAt q s bs rd12 :: cmC b ({ cmHead k p 0 0 0 0 with flt := f, cls := c, many := m, time := t, sc := sc, lab := lab, rows := rows, grps := gs, parts := [] }) sg nilSl :: Own sg 3 (intsI gs) :: cmNew b2 :: Hs) w from Own.nil hw).arr⟩, ?_⟩
  clear hw
  rintro _ _ w ⟨i, sp, rfl, hi, hw⟩
  refine Br.d (fun h => ?_) (fun h => ?_)
  · have pl := rdEach_len fltRd i rd12
    have bj := inv i
    have hsn := rdEach_snoc fltRd i rd12
    have vj := rdNum_val (most := 18446744073709551615) bj (by omega)
    rw [wrapU64 (x := (i : Int) + 1) (by omega) (by omega)]
    generalize (rdEach fltRd i rd12).1 = ps at *
    generalize (rdEach fltRd i rd12).2 = rdj at *
    refine drw_rule' (Sat R [cmC b ({ cmHead k p 0 0 0 0 with flt := f, cls := c, many := m, time := t, sc := sc, lab := lab, rows := rows, grps := gs, parts := ps }) sg sp, VC.tru]) hw (fun w hw => tru2 hw) fun w hw => ?_
    refine ⟨sp, At.own (fun _ h => h) (by exact ⟨rfl, trivial⟩), ?_⟩
    refine (rrnum_spec (most := 18446744073709551615) hl hb hs hw).use ?_
    clear hw
    rintro _ w ⟨rfl, hw⟩
    refine ⟨_, rfl, tru2 hw, ?_⟩
    obtain ⟨y, hy⟩ := Int.eq_ofNat_of_zero_le vj.1
    rw [hy]
    refine (rof_spec (k := y) (by omega) hw).use ?_
    clear hw
    rintro _ w ⟨rfl, hw⟩
    refine ⟨_, rfl, tru2 hw, ?_⟩
    have hw : Sat R (RRdAt q s bs (fltRd rdj).2 :: cmC b ({ cmHead k p 0 0 0 0 with flt := f, cls := c, many := m, time := t, sc := sc, lab := lab, rows := rows, grps := gs, parts := ps }) sg sp :: Own sg 3 (intsI gs) :: Own sp 33 (flts ps) :: cmNew b2 :: Hs) w := hw
    have hw : Sat R (Own sp 33 (flts ps) :: cmC b ({ cmHead k p 0 0 0 0 with flt := f, cls := c, many := m, time := t, sc := sc, lab := lab, rows := rows, grps := gs, parts := ps }) sg sp :: RRdAt q s bs (fltRd rdj).2 :: Own sg 3 (intsI gs) :: cmNew b2 :: Hs) w := hw.arr
    have ey : ofF y = (fltRd rdj).1 := by show _ = ofF _; rw [hy, Int.toNat_natCast]
    rw [ey]
    refine pushS_rule elFl hw (oneAll_fl _) rfl (by rw [List.length_map]; omega) (by rw [List.length_map]; omega) (fun A w hw => (hw.arr (Hs' := cmC b ({ cmHead k p 0 0 0 0 with flt := f, cls := c, many := m, time := t, sc := sc, lab := lab, rows := rows, grps := gs, parts := ps }) sg sp :: A :: Own sp 33 (flts ps) :: RRdAt q s bs (fltRd rdj).2 :: Own sg 3 (intsI gs) :: cmNew b2 :: Hs)).restTru2) fun sp' w hw => ?_
    refine store_rule hw (by kernel_rfl) rfl (by simp [Value.cells]) fun w hw => ?_
    have hw := hw.re (cmC b ({ cmHead k p 0 0 0 0 with flt := f, cls := c, many := m, time := t, sc := sc, lab := lab, rows := rows, grps := gs, parts := ps ++ [(fltRd rdj).1] }) sg sp')
    refine ⟨⟨i + 1, sp', by omega, by omega, ?_⟩, by dsimp only; omega⟩
    rw [hsn]
    have e : flts ps ++ [Value.float .f64 (fltRd rdj).1] = flts (ps ++ [(fltRd rdj).1]) := by simp
    rw [e] at hw
    exact hw.arr
  have hin : i = n := by omega
  subst hin
  have pl := rdEach_len fltRd i rd12
  clear inv
  obtain ⟨ps, rd13, e13⟩ : ∃ y rd, rdEach fltRd i rd12 = (y, rd) := ⟨_, _, rfl⟩
  rw [e13] at pl hw
  dsimp only at pl hw
  have hC : cmRd rd0 = ({ cmHead k p 0 0 0 0 with flt := f, cls := c, many := m, time := t, sc := sc, lab := lab, rows := rows, grps := gs, parts := ps }, rd13) := by
    rw [hcm]
    simp only [e1, e2, e3, e4, e5, e6, e7, e8, e9, e10, e11, e12, e13, Int.toNat_natCast]
  clear hcm
  rw [e0] at hC
  have hdec : cmDec bs = if rdWhole rd13 = true ∧ RightC ({ cmHead k p 0 0 0 0 with flt := f, cls := c, many := m, time := t, sc := sc, lab := lab, rows := rows, grps := gs, parts := ps }) then ({ cmHead k p 0 0 0 0 with flt := f, cls := c, many := m, time := t, sc := sc, lab := lab, rows := rows, grps := gs, parts := ps }, 0) else (zeroC, 6) := by unfold cmDec; rw [hC]
  obtain ⟨C, eC⟩ : ∃ C : Cm, C = { cmHead k p 0 0 0 0 with flt := f, cls := c, many := m, time := t, sc := sc, lab := lab, rows := rows, grps := gs, parts := ps } := ⟨_, rfl⟩
  rw [← eC] at hdec hw
  have eg : C.grps = gs := by rw [eC]
  have ep : C.parts = ps := by rw [eC]
  rw [← eg] at hw gl
  rw [← ep] at hw pl
  clear eC hC eg ep e1 e2 e3 e4 e5 e6 e7 e8 e9 e10 e11 e12 e13
  refine (rrwhole_spec hs hw).use ?_
  clear hw
  rintro _ w ⟨rfl, hw⟩
  refine ⟨_, rfl, C.kind, C.pnr, C.flt, C.cls, C.many, C.time, C.sc, C.lab, C.rows, sg, sp, At.own (eqS hw) (by exact ⟨rfl, rfl, rfl, rfl, rfl, rfl, rfl, rfl, rfl, rfl, rfl, trivial⟩), ?_⟩
  have hw : Sat R (Own sg 3 (intsI C.grps) :: RRdAt q s bs rd13 :: cmC b C sg sp :: Own sp 33 (flts C.parts) :: cmNew b2 :: Hs) w := hw.arr
  have sl := Own.len (hw.arr (Hs' := Own sp 33 (flts C.parts) :: Own sg 3 (intsI C.grps) :: RRdAt q s bs rd13 :: cmC b C sg sp :: cmNew b2 :: Hs))
  obtain ⟨R', hr, _, hw, back⟩ := Own.lendI hw (by omega)
  refine (r18right_spec hr (by omega) (by simpa using sl) hw).use ?_
  clear hw
  rintro _ w ⟨rfl, hw⟩
  have hw := back hw
  refine ⟨_, rfl, ?_⟩
  have no : cmDec bs = (zeroC, 6) → ∀ {w}, Sat R (cmNew b2 :: Hs) w → ∃ sg sp : Sl, Value.tuple #[.agg (cmV zeroC nilSl nilSl).toArray, .int .i64 6] = .tuple #[.agg (cmV (cmDec bs).1 sg sp).toArray, .int .i64 (cmDec bs).2] ∧ Sat R (Own sg 3 (intsI (cmDec bs).1.grps) :: Own sp 33 (flts (cmDec bs).1.parts) :: Hs) w := fun e {w} hw => by
    rw [e]
    exact ⟨nilSl, nilSl, rfl, Own.nil (Own.nil hw.drop)⟩
  refine Br.nb (fun h => ?_) (fun h => Br.nb (fun h2 => ?_) (fun h2 => ?_))
  · have hw : Sat R (cmNew b2 :: Hs) w := hw.drop.drop.drop.drop
    refine store_rule hw (by kernel_rfl) rfl (by simp [Value.cells]) fun w hw => ?_
    have hw := hw.re (cmNew b2)
    refine ⟨_, _, _, _, _, _, _, _, _, nilSl, nilSl, At.own (eqS hw) (by exact ⟨rfl, rfl, rfl, rfl, rfl, rfl, rfl, rfl, rfl, rfl, rfl, trivial⟩), no ?_ hw⟩
    rw [hdec, if_neg (by rintro ⟨h1, _⟩; rw [h1] at h; cases h)]
  · have hw : Sat R (cmNew b2 :: Hs) w := hw.drop.drop.drop.drop
    refine store_rule hw (by kernel_rfl) rfl (by simp [Value.cells]) fun w hw => ?_
    have hw := hw.re (cmNew b2)
    refine ⟨_, _, _, _, _, _, _, _, _, nilSl, nilSl, At.own (eqS hw) (by exact ⟨rfl, rfl, rfl, rfl, rfl, rfl, rfl, rfl, rfl, rfl, rfl, trivial⟩), no ?_ hw⟩
    rw [hdec, if_neg (by rintro ⟨_, h1⟩; rw [decide_eq_true h1] at h2; cases h2)]
  refine ⟨C.kind, C.pnr, C.flt, C.cls, C.many, C.time, C.sc, C.lab, C.rows, sg, sp, At.own (eqS hw) (by exact ⟨rfl, rfl, rfl, rfl, rfl, rfl, rfl, rfl, rfl, rfl, rfl, trivial⟩), ?_⟩
  have hw : Sat R (cmNew b2 :: Own sg 3 (intsI C.grps) :: RRdAt q s bs rd13 :: cmC b C sg sp :: Own sp 33 (flts C.parts) :: Hs) w := hw.arr
  refine store_rule hw (by kernel_rfl) rfl (by simp [Value.cells]) fun w hw => ?_
  have hw := hw.re (cmC b2 C sg sp)
  refine ⟨C.kind, C.pnr, C.flt, C.cls, C.many, C.time, C.sc, C.lab, C.rows, sg, sp, At.own (eqS hw) (by exact ⟨rfl, rfl, rfl, rfl, rfl, rfl, rfl, rfl, rfl, rfl, rfl, trivial⟩), ?_⟩
  rw [hdec, if_pos ⟨h, of_decide_eq_true h2⟩]
  exact ⟨sg, sp, rfl, hw.drop.cons fun _ h => (h.arr (Hs' := Own sp 33 (flts C.parts) :: RRdAt q s bs rd13 :: cmC b C sg sp :: Hs)).cons fun _ h => h.drop.drop⟩
end Go.Proofs.YtfgbbckfikiomaaGreatDoor

/- The formulas of functions of this seat's translation, printed by a program of mine off the translation; each is proved equal to 'fnF' of the function's body, so it is enough for the call. No condition. -/
namespace Go.Proofs.YtfgbbckfikiomaaGreatDoor
open Go Go.VC
set_option linter.unusedVariables false
set_option maxRecDepth 10000
def B12  (K : Value → World → Prop) (w : World) : Prop :=
  Calls Tryz.prog 14 #[] w fun e w_1 =>
  ∃ t3 : Option Addr, (e = .returned (.pointer t3)) ∧
  Br t3.isNone
   (K (.bool false) w_1)
   (Calls Tryz.prog 38 #[] w_1 fun e_1 w_2 =>
    ∃ t7 : Int, ∃ t7_1 : ByteArray, ∃ t7_2 : Int, ∃ t7_3 : Int, ∃ t7_4 : Int, ∃ t7_5 : Int, ∃ t7_6 : Nat, ∃ t7_7 : ByteArray, ∃ t7_8 : Int, ∃ t7_9 : Sl, ∃ t7_10 : Sl, (e_1 = .returned (.agg #[.int .i64 t7, .string t7_1, .int .i64 t7_2, .int .i64 t7_3, .int .i64 t7_4, .int .i64 t7_5, .float .f64 t7_6, .string t7_7, .int .i64 t7_8, .slice t7_9.a t7_9.len t7_9.cap, .slice t7_10.a t7_10.len t7_10.cap])) ∧
    Calls Tryz.prog 15 #[.pointer t3, .agg #[.int .i64 t7, .string t7_1, .int .i64 t7_2, .int .i64 t7_3, .int .i64 t7_4, .int .i64 t7_5, .float .f64 t7_6, .string t7_7, .int .i64 t7_8, .slice t7_9.a t7_9.len t7_9.cap, .slice t7_10.a t7_10.len t7_10.cap]] w_2 fun e_2 w_3 =>
    ∃ t8 : Int, ∃ t8_1 : ByteArray, ∃ t8_2 : Int, ∃ t8_3 : Int, ∃ t8_4 : Int, ∃ t8_5 : Int, ∃ t8_6 : Int, ∃ t8_7 : Sl, ∃ t8_8 : Sl, (e_2 = .returned (.agg #[.int .i64 t8, .string t8_1, .int .i64 t8_2, .int .i64 t8_3, .int .i64 t8_4, .int .i64 t8_5, .int .i64 t8_6, .slice t8_7.a t8_7.len t8_7.cap, .slice t8_8.a t8_8.len t8_8.cap])) ∧
    New (.cells #[.int .i64 0, .string (ByteArray.mk #[]), .int .i64 0, .int .i64 0, .int .i64 0, .int .i64 0, .int .i64 0, .slice none 0 0, .slice none 0 0] 31 (0, 0)) (fun b_r2 w_4 =>
    ∃ w_5 : World, ((Instr.storeAt 31 (.pointer ((some ⟨b_r2, 0, none⟩))) (.agg #[.int .i64 t8, .string t8_1, .int .i64 t8_2, .int .i64 t8_3, .int .i64 t8_4, .int .i64 t8_5, .int .i64 t8_6, .slice t8_7.a t8_7.len t8_7.cap, .slice t8_8.a t8_8.len t8_8.cap])).run Tryz.prog w_4 = .ok () w_5) ∧
    ∃ t10 : Int, (At (fun w' => w' = w_5) ⟨b_r2, 0, none⟩ [.int .i64 t10]) ∧
    Br (t10 == 0)
     (∃ t14 : Sl, (At (fun w' => w' = w_5) ⟨b_r2, 0 + 7, none⟩ [.slice t14.a t14.len t14.cap]) ∧
      Br ((↑t14.len : Int) == 1)
       (∃ t20 : Sl, (At (fun w' => w' = w_5) ⟨b_r2, 0 + 7, none⟩ [.slice t20.a t20.len t20.cap]) ∧
        Rng 0 t20.len (NilP t20.a fun a_t21 =>
        ∃ t22 : Int, (At (fun w' => w' = w_5) (Addr.add a_t21 0) [.int .i64 t22]) ∧
        K (.bool (t22 == 2)) w_5))
       (K (.bool false) w_5))
     (K (.bool false) w_5)) w_3)
def sk12 : Sk := .leaf
theorem ok12 : fnOk Tryz.prog Tryz.f12.ntmps Tryz.f12 sk12 = true := by kernel_rfl
theorem eq12  (K : Value → World → Prop) (w : World) : fnF Tryz.prog cl Tryz.f12 sk12 [] K w = B12  K w := by kernel_rfl
theorem call12  (K : Value → World → Prop) (w : World) (h : B12  K w) : Gets Tryz.prog 12 #[] w K :=
  calls_of (sk := sk12) cl_ok mixed Tryz.func12 ok12 (args := []) (Nat.le_of_ble_eq_true (by kernel_rfl)) (by rw [eq12]; exact h)
def B38  (K : Value → World → Prop) (w : World) : Prop :=
  New (.cells #[.int .i64 0, .string (ByteArray.mk #[]), .int .i64 0, .int .i64 0, .int .i64 0, .int .i64 0, .float .f64 0, .string (ByteArray.mk #[]), .int .i64 0, .slice none 0 0, .slice none 0 0] 38 (0, 0)) (fun b_t0 w_1 =>
  New (.cells #[.int .i64 2] 3 (0, 0)) (fun b_t1 w_2 =>
  New (.cells #[.float .f64 4607182418800017408] 33 (0, 0)) (fun b_t3 w_3 =>
  ∃ w_4 : World, ((Instr.storeAt 38 (.pointer ((some ⟨b_t0, 0, none⟩))) (.agg #[.int .i64 1, .string (ByteArray.mk #[]), .int .i64 7, .int .i64 0, .int .i64 0, .int .i64 0, .float .f64 0, .string (ByteArray.mk #[]), .int .i64 1, .slice ((some ⟨b_t1, 0, none⟩)) 1 1, .slice ((some ⟨b_t3, 0, none⟩)) 1 1])).run Tryz.prog w_3 = .ok () w_4) ∧
  ∃ u : Int, ∃ u_1 : ByteArray, ∃ u_2 : Int, ∃ u_3 : Int, ∃ u_4 : Int, ∃ u_5 : Int, ∃ u_6 : Nat, ∃ u_7 : ByteArray, ∃ u_8 : Int, ∃ u_9 : Sl, ∃ u_10 : Sl, (At (fun w' => w' = w_4) ⟨b_t0, 0, none⟩ [.int .i64 u, .string u_1, .int .i64 u_2, .int .i64 u_3, .int .i64 u_4, .int .i64 u_5, .float .f64 u_6, .string u_7, .int .i64 u_8, .slice u_9.a u_9.len u_9.cap, .slice u_10.a u_10.len u_10.cap]) ∧
  K (.agg #[.int .i64 u, .string u_1, .int .i64 u_2, .int .i64 u_3, .int .i64 u_4, .int .i64 u_5, .float .f64 u_6, .string u_7, .int .i64 u_8, .slice u_9.a u_9.len u_9.cap, .slice u_10.a u_10.len u_10.cap]) w_4) w_2) w_1) w
def sk38 : Sk := .leaf
theorem ok38 : fnOk Tryz.prog Tryz.f38.ntmps Tryz.f38 sk38 = true := by kernel_rfl
theorem eq38  (K : Value → World → Prop) (w : World) : fnF Tryz.prog cl Tryz.f38 sk38 [] K w = B38  K w := by kernel_rfl
theorem call38  (K : Value → World → Prop) (w : World) (h : B38  K w) : Gets Tryz.prog 38 #[] w K :=
  calls_of (sk := sk38) cl_ok mixed Tryz.func38 ok38 (args := []) (Nat.le_of_ble_eq_true (by kernel_rfl)) (by rw [eq38]; exact h)
def B13 (l0 : Sl) (K : Value → World → Prop) (w : World) : Prop :=
  ∃ (I : Int → World → Prop) (μ : Int → World → Nat), (I 0 w) ∧ ∀ (z : Env) (i3 : Int) (w_1 : World), I i3 w_1 →
  ∃ (J : World → Prop), (Br (decide (i3 < (↑l0.len : Int)))
     (Br (decide (i3 < 400))
       (J  w_1)
       (K (.bool false) w_1))
     (K (.bool false) w_1)) ∧
  ∀ (z_1 : Env)  (w_2 : World), J  w_2 →
  Rng i3 l0.len (NilP l0.a fun a_t16 =>
  ∃ t19 : Sl, (At (fun w' => w' = w_2) ⟨(a_t16.add (mulS i3.toNat 11)).block, (a_t16.add (mulS i3.toNat 11)).off + 8 + 1, none⟩ [.slice t19.a t19.len t19.cap]) ∧
  Br (decide ((↑t19.len : Int) > 100))
   (K (.bool true) w_2)
   (Rng i3 l0.len (NilP l0.a fun a_t25 =>
    ∃ t27 : Sl, (At (fun w' => w' = w_2) ⟨(a_t25.add (mulS i3.toNat 11)).block, (a_t25.add (mulS i3.toNat 11)).off + 10, none⟩ [.slice t27.a t27.len t27.cap]) ∧
    Br (decide ((↑t27.len : Int) > 100))
     (K (.bool true) w_2)
     (Rng i3 l0.len (NilP l0.a fun a_t34 =>
      ∃ t36 : ByteArray, (At (fun w' => w' = w_2) ⟨(a_t34.add (mulS i3.toNat 11)).block, (a_t34.add (mulS i3.toNat 11)).off + 1, none⟩ [.string t36]) ∧
      Br (decide ((↑t36.size : Int) > 1000))
       (K (.bool true) w_2)
       (Rng i3 l0.len (NilP l0.a fun a_t43 =>
        ∃ t45 : ByteArray, (At (fun w' => w' = w_2) ⟨(a_t43.add (mulS i3.toNat 11)).block, (a_t43.add (mulS i3.toNat 11)).off + 7, none⟩ [.string t45]) ∧
        Br (decide ((↑t45.size : Int) > 1000))
         (K (.bool true) w_2)
         ((I (IntKind.i64.wrap (i3 + 1)) w_2) ∧ μ (IntKind.i64.wrap (i3 + 1)) w_2 < μ i3 w_1))))))))
def sk13 : Sk := (.seq .leaf (.seq (.seq .leaf (.block (.loop [3] [(.int .i64)] [2, 3, 4, 5, 6, 7, 8, 9, 10, 11, 12, 13, 14, 15, 16, 17, 18, 19, 20, 21, 22, 23, 24, 25, 26, 27, 28, 29, 30, 31, 32, 33, 34, 35, 36, 37, 38, 39, 40, 41, 42, 43, 44, 45, 46, 47, 48] (.cut [] [] [4, 5, 6, 7, 8, 9, 10, 11] .leaf .leaf)))) .leaf))
theorem ok13 : fnOk Tryz.prog Tryz.f13.ntmps Tryz.f13 sk13 = true := by kernel_rfl
theorem eq13 (l0 : Sl) (K : Value → World → Prop) (w : World) : fnF Tryz.prog cl Tryz.f13 sk13 [.slice l0.a l0.len l0.cap] K w = B13 l0 K w := by kernel_rfl
theorem call13 (l0 : Sl) (K : Value → World → Prop) (w : World) (h : B13 l0 K w) : Gets Tryz.prog 13 #[.slice l0.a l0.len l0.cap] w K :=
  calls_of (sk := sk13) cl_ok mixed Tryz.func13 ok13 (args := [.slice l0.a l0.len l0.cap]) (Nat.le_of_ble_eq_true (by kernel_rfl)) (by rw [eq13]; exact h)
def B8 (c0_0 : Int) (c0_1 : ByteArray) (c0_2 : Int) (c0_3 : Int) (c0_4 : Int) (c0_5 : Int) (c0_6 : Nat) (c0_7 : ByteArray) (c0_8 : Int) (c0_9 : Sl) (c0_10 : Sl) (b1 : Sl) (K : Value → World → Prop) (w : World) : Prop :=
  New (.cells #[.int .i64 c0_0, .string c0_1, .int .i64 c0_2, .int .i64 c0_3, .int .i64 c0_4, .int .i64 c0_5, .float .f64 c0_6, .string c0_7, .int .i64 c0_8, .slice c0_9.a c0_9.len c0_9.cap, .slice c0_10.a c0_10.len c0_10.cap] 38 (0, 0)) (fun b_c2 w_1 =>
  Calls Tryz.prog 12 #[] w_1 fun e w_2 =>
  ∃ t16 : Bool, (e = .returned (.bool t16)) ∧
  ∃ t17 : Int, ∃ t17_1 : ByteArray, ∃ t17_2 : Int, ∃ t17_3 : Int, ∃ t17_4 : Int, ∃ t17_5 : Int, ∃ t17_6 : Nat, ∃ t17_7 : ByteArray, ∃ t17_8 : Int, ∃ t17_9 : Sl, ∃ t17_10 : Sl, (At (fun w' => w' = w_2) ⟨b_c2, 0, none⟩ [.int .i64 t17, .string t17_1, .int .i64 t17_2, .int .i64 t17_3, .int .i64 t17_4, .int .i64 t17_5, .float .f64 t17_6, .string t17_7, .int .i64 t17_8, .slice t17_9.a t17_9.len t17_9.cap, .slice t17_10.a t17_10.len t17_10.cap]) ∧
  New (.cells #[.int .i64 t17, .string t17_1, .int .i64 t17_2, .int .i64 t17_3, .int .i64 t17_4, .int .i64 t17_5, .float .f64 t17_6, .string t17_7, .int .i64 t17_8, .slice t17_9.a t17_9.len t17_9.cap, .slice t17_10.a t17_10.len t17_10.cap] 38 (0, 0)) (fun b_t18 w_3 =>
  Calls Tryz.prog 13 #[.slice ((some ⟨b_t18, 0, none⟩)) 1 1] w_3 fun e_1 w_4 =>
  ∃ t19 : Bool, (e_1 = .returned (.bool t19)) ∧
  ∃ (J : World → Prop), (Br (!t16)
     (K (.bool t16) w_4)
     (Br t19
       (K (.bool t16) w_4)
       (Br (decide ((↑b1.len : Int) > 20000))
         (K (.bool t16) w_4)
         (J  w_4)))) ∧
  ∀ (z : Env)  (w_5 : World), J  w_5 →
  ∃ t32 : Int, ∃ t32_1 : ByteArray, ∃ t32_2 : Int, ∃ t32_3 : Int, ∃ t32_4 : Int, ∃ t32_5 : Int, ∃ t32_6 : Nat, ∃ t32_7 : ByteArray, ∃ t32_8 : Int, ∃ t32_9 : Sl, ∃ t32_10 : Sl, (At (fun w' => w' = w_5) ⟨b_c2, 0, none⟩ [.int .i64 t32, .string t32_1, .int .i64 t32_2, .int .i64 t32_3, .int .i64 t32_4, .int .i64 t32_5, .float .f64 t32_6, .string t32_7, .int .i64 t32_8, .slice t32_9.a t32_9.len t32_9.cap, .slice t32_10.a t32_10.len t32_10.cap]) ∧
  Calls Tryz.prog 29 #[.agg #[.int .i64 t32, .string t32_1, .int .i64 t32_2, .int .i64 t32_3, .int .i64 t32_4, .int .i64 t32_5, .float .f64 t32_6, .string t32_7, .int .i64 t32_8, .slice t32_9.a t32_9.len t32_9.cap, .slice t32_10.a t32_10.len t32_10.cap]] w_5 fun e_2 w_6 =>
  ∃ t33 : Sl, ∃ t33_1 : Int, (e_2 = .returned (.tuple #[.slice t33.a t33.len t33.cap, .int .i64 t33_1])) ∧
  ∃ t37 : Int, ∃ t37_1 : ByteArray, ∃ t37_2 : Int, ∃ t37_3 : Int, ∃ t37_4 : Int, ∃ t37_5 : Int, ∃ t37_6 : Nat, ∃ t37_7 : ByteArray, ∃ t37_8 : Int, ∃ t37_9 : Sl, ∃ t37_10 : Sl, (At (fun w' => w' = w_6) ⟨b_c2, 0, none⟩ [.int .i64 t37, .string t37_1, .int .i64 t37_2, .int .i64 t37_3, .int .i64 t37_4, .int .i64 t37_5, .float .f64 t37_6, .string t37_7, .int .i64 t37_8, .slice t37_9.a t37_9.len t37_9.cap, .slice t37_10.a t37_10.len t37_10.cap]) ∧
  Calls Tryz.prog 30 #[.agg #[.int .i64 t37, .string t37_1, .int .i64 t37_2, .int .i64 t37_3, .int .i64 t37_4, .int .i64 t37_5, .float .f64 t37_6, .string t37_7, .int .i64 t37_8, .slice t37_9.a t37_9.len t37_9.cap, .slice t37_10.a t37_10.len t37_10.cap]] w_6 fun e_3 w_7 =>
  ∃ t38 : Sl, ∃ t38_1 : Int, (e_3 = .returned (.tuple #[.slice t38.a t38.len t38.cap, .int .i64 t38_1])) ∧
  Calls Tryz.prog 31 #[.slice b1.a b1.len b1.cap] w_7 fun e_4 w_8 =>
  ∃ t43 : Int, ∃ t43_1 : ByteArray, ∃ t43_2 : Int, ∃ t43_3 : Int, ∃ t43_4 : Int, ∃ t43_5 : Int, ∃ t43_6 : Nat, ∃ t43_7 : ByteArray, ∃ t43_8 : Int, ∃ t43_9 : Sl, ∃ t43_10 : Sl, ∃ t43_11 : Int, (e_4 = .returned (.tuple #[.agg #[.int .i64 t43, .string t43_1, .int .i64 t43_2, .int .i64 t43_3, .int .i64 t43_4, .int .i64 t43_5, .float .f64 t43_6, .string t43_7, .int .i64 t43_8, .slice t43_9.a t43_9.len t43_9.cap, .slice t43_10.a t43_10.len t43_10.cap], .int .i64 t43_11])) ∧
  New (.cells #[.int .i64 0, .string (ByteArray.mk #[]), .int .i64 0, .int .i64 0, .int .i64 0, .int .i64 0, .float .f64 0, .string (ByteArray.mk #[]), .int .i64 0, .slice none 0 0, .slice none 0 0] 38 (0, 0)) (fun b_y11 w_9 =>
  ∃ w_10 : World, ((Instr.storeAt 38 (.pointer ((some ⟨b_y11, 0, none⟩))) (.agg #[.int .i64 t43, .string t43_1, .int .i64 t43_2, .int .i64 t43_3, .int .i64 t43_4, .int .i64 t43_5, .float .f64 t43_6, .string t43_7, .int .i64 t43_8, .slice t43_9.a t43_9.len t43_9.cap, .slice t43_10.a t43_10.len t43_10.cap])).run Tryz.prog w_9 = .ok () w_10) ∧
  Calls Tryz.prog 32 #[.slice b1.a b1.len b1.cap] w_10 fun e_5 w_11 =>
  ∃ t48 : Int, ∃ t48_1 : ByteArray, ∃ t48_2 : Int, ∃ t48_3 : Int, ∃ t48_4 : Int, ∃ t48_5 : Int, ∃ t48_6 : Nat, ∃ t48_7 : ByteArray, ∃ t48_8 : Int, ∃ t48_9 : Sl, ∃ t48_10 : Sl, ∃ t48_11 : Int, (e_5 = .returned (.tuple #[.agg #[.int .i64 t48, .string t48_1, .int .i64 t48_2, .int .i64 t48_3, .int .i64 t48_4, .int .i64 t48_5, .float .f64 t48_6, .string t48_7, .int .i64 t48_8, .slice t48_9.a t48_9.len t48_9.cap, .slice t48_10.a t48_10.len t48_10.cap], .int .i64 t48_11])) ∧
  New (.cells #[.int .i64 0, .string (ByteArray.mk #[]), .int .i64 0, .int .i64 0, .int .i64 0, .int .i64 0, .float .f64 0, .string (ByteArray.mk #[]), .int .i64 0, .slice none 0 0, .slice none 0 0] 38 (0, 0)) (fun b_also13 w_12 =>
  ∃ w_13 : World, ((Instr.storeAt 38 (.pointer ((some ⟨b_also13, 0, none⟩))) (.agg #[.int .i64 t48, .string t48_1, .int .i64 t48_2, .int .i64 t48_3, .int .i64 t48_4, .int .i64 t48_5, .float .f64 t48_6, .string t48_7, .int .i64 t48_8, .slice t48_9.a t48_9.len t48_9.cap, .slice t48_10.a t48_10.len t48_10.cap])).run Tryz.prog w_12 = .ok () w_13) ∧
  ∃ t51 : Int, ∃ t51_1 : ByteArray, ∃ t51_2 : Int, ∃ t51_3 : Int, ∃ t51_4 : Int, ∃ t51_5 : Int, ∃ t51_6 : Nat, ∃ t51_7 : ByteArray, ∃ t51_8 : Int, ∃ t51_9 : Sl, ∃ t51_10 : Sl, (At (fun w' => w' = w_13) ⟨b_y11, 0, none⟩ [.int .i64 t51, .string t51_1, .int .i64 t51_2, .int .i64 t51_3, .int .i64 t51_4, .int .i64 t51_5, .float .f64 t51_6, .string t51_7, .int .i64 t51_8, .slice t51_9.a t51_9.len t51_9.cap, .slice t51_10.a t51_10.len t51_10.cap]) ∧
  ∃ t52 : Int, ∃ t52_1 : ByteArray, ∃ t52_2 : Int, ∃ t52_3 : Int, ∃ t52_4 : Int, ∃ t52_5 : Int, ∃ t52_6 : Nat, ∃ t52_7 : ByteArray, ∃ t52_8 : Int, ∃ t52_9 : Sl, ∃ t52_10 : Sl, (At (fun w' => w' = w_13) ⟨b_also13, 0, none⟩ [.int .i64 t52, .string t52_1, .int .i64 t52_2, .int .i64 t52_3, .int .i64 t52_4, .int .i64 t52_5, .float .f64 t52_6, .string t52_7, .int .i64 t52_8, .slice t52_9.a t52_9.len t52_9.cap, .slice t52_10.a t52_10.len t52_10.cap]) ∧
  Calls Tryz.prog 33 #[.agg #[.int .i64 t51, .string t51_1, .int .i64 t51_2, .int .i64 t51_3, .int .i64 t51_4, .int .i64 t51_5, .float .f64 t51_6, .string t51_7, .int .i64 t51_8, .slice t51_9.a t51_9.len t51_9.cap, .slice t51_10.a t51_10.len t51_10.cap], .agg #[.int .i64 t52, .string t52_1, .int .i64 t52_2, .int .i64 t52_3, .int .i64 t52_4, .int .i64 t52_5, .float .f64 t52_6, .string t52_7, .int .i64 t52_8, .slice t52_9.a t52_9.len t52_9.cap, .slice t52_10.a t52_10.len t52_10.cap]] w_13 fun e_6 w_14 =>
  ∃ t53 : Bool, (e_6 = .returned (.bool t53)) ∧
  ∃ t55 : ByteArray, (∀ w', (fun w' => w' = w_14) w' → ((convert 42 9 (.slice t33.a t33.len t33.cap))).run Tryz.prog w' = .ok (.string t55) w') ∧
  ∃ t57 : ByteArray, (∀ w', (fun w' => w' = w_14) w' → ((convert 42 9 (.slice t38.a t38.len t38.cap))).run Tryz.prog w' = .ok (.string t57) w') ∧
  Br (t55.toList == t57.toList)
   (Br (t33_1 == t38_1)
     (Br t53
       (K (.bool (t43_11 == t48_11)) w_14)
       (K (.bool false) w_14))
     (K (.bool false) w_14))
   (K (.bool false) w_14)) w_11) w_8) w_2) w
def sk8 : Sk := (.seq .leaf (.seq .leaf (.seq .leaf (.cut [] [] [4, 20, 21, 22, 23, 24, 25, 26, 27, 28, 29, 30] .leaf .leaf))))
theorem ok8 : fnOk Tryz.prog Tryz.f8.ntmps Tryz.f8 sk8 = true := by kernel_rfl
theorem eq8 (c0_0 : Int) (c0_1 : ByteArray) (c0_2 : Int) (c0_3 : Int) (c0_4 : Int) (c0_5 : Int) (c0_6 : Nat) (c0_7 : ByteArray) (c0_8 : Int) (c0_9 : Sl) (c0_10 : Sl) (b1 : Sl) (K : Value → World → Prop) (w : World) : fnF Tryz.prog cl Tryz.f8 sk8 [.agg #[.int .i64 c0_0, .string c0_1, .int .i64 c0_2, .int .i64 c0_3, .int .i64 c0_4, .int .i64 c0_5, .float .f64 c0_6, .string c0_7, .int .i64 c0_8, .slice c0_9.a c0_9.len c0_9.cap, .slice c0_10.a c0_10.len c0_10.cap], .slice b1.a b1.len b1.cap] K w = B8 c0_0 c0_1 c0_2 c0_3 c0_4 c0_5 c0_6 c0_7 c0_8 c0_9 c0_10 b1 K w := by kernel_rfl
theorem call8 (c0_0 : Int) (c0_1 : ByteArray) (c0_2 : Int) (c0_3 : Int) (c0_4 : Int) (c0_5 : Int) (c0_6 : Nat) (c0_7 : ByteArray) (c0_8 : Int) (c0_9 : Sl) (c0_10 : Sl) (b1 : Sl) (K : Value → World → Prop) (w : World) (h : B8 c0_0 c0_1 c0_2 c0_3 c0_4 c0_5 c0_6 c0_7 c0_8 c0_9 c0_10 b1 K w) : Gets Tryz.prog 8 #[.agg #[.int .i64 c0_0, .string c0_1, .int .i64 c0_2, .int .i64 c0_3, .int .i64 c0_4, .int .i64 c0_5, .float .f64 c0_6, .string c0_7, .int .i64 c0_8, .slice c0_9.a c0_9.len c0_9.cap, .slice c0_10.a c0_10.len c0_10.cap], .slice b1.a b1.len b1.cap] w K :=
  calls_of (sk := sk8) cl_ok mixed Tryz.func8 ok8 (args := [.agg #[.int .i64 c0_0, .string c0_1, .int .i64 c0_2, .int .i64 c0_3, .int .i64 c0_4, .int .i64 c0_5, .float .f64 c0_6, .string c0_7, .int .i64 c0_8, .slice c0_9.a c0_9.len c0_9.cap, .slice c0_10.a c0_10.len c0_10.cap], .slice b1.a b1.len b1.cap]) (Nat.le_of_ble_eq_true (by kernel_rfl)) (by rw [eq8]; exact h)
end Go.Proofs.YtfgbbckfikiomaaGreatDoor
/- The laws of chapter 18: two replies, two commands; many commands. Condition: bounds on lengths. -/
namespace Go.Proofs.YtfgbbckfikiomaaGreatDoor
set_option linter.unusedVariables false
open Go Go.VC
open scoped Classical
variable {R : Cx} {Hs Rest : List HP} {w : World}
theorem cmB_bd {c : Cm} (hr : RightC c) (hf : FltC c) : (cmB c).length ≤ 9223372036854775807 := by
  have r1 := hr.flt
  have r2 := hr.cls
  have r3 := hr.many
  have r4 := hr.rows
  have r5 := hr.kind
  have r6 := hr.time
  have r7 := hr.pnr
  have r8 := hr.lab
  have r9 := hr.gl
  have r10 := hr.pl
  unfold numOk at r1 r2 r3 r4
  have l1 := nums1_len (x := c.kind) (by omega)
  have l2 := strB_len (s := c.pnr) (by omega)
  have l3 := nums1_len (x := c.flt) (by omega)
  have l4 := nums1_len (x := c.cls) (by omega)
  have l5 := nums1_len (x := c.many) (by omega)
  have l6 := nums1_len (x := c.time) (by omega)
  have l7 := fltB_len hf.sc
  have l8 := strB_len (s := c.lab) (by omega)
  have l9 := nums1_len (x := c.rows) (by omega)
  have l10 := nums1_len (x := (c.grps.length : Int)) (by omega)
  have l11 := numsB_len (l := c.grps) fun y hy => by have := hr.grps y hy; unfold numOk at this; omega
  have l12 := nums1_len (x := (c.parts.length : Int)) (by omega)
  have hfl := flat_len (l := c.parts) (code := fltB) (m := 9) fun x hx => fltB_len (hf.parts x hx)
  unfold cmB
  simp only [List.length_append]
  omega
theorem samec_spec {c : Cm} {sg sp tg tp : Sl} (hf : FltC c) (hgl : c.grps.length ≤ 100000) (hpl : c.parts.length ≤ 100000) (h1 : RoI R sg c.grps) (h2 : SlR R.m sp (flts c.parts)) (h3 : RoI R tg c.grps) (h4 : SlR R.m tp (flts c.parts)) (hw : Sat R Hs w) :
    Gets Tryz.prog 33 #[.agg #[.int .i64 c.kind, .string c.pnr, .int .i64 c.flt, .int .i64 c.cls, .int .i64 c.many, .int .i64 c.time, .float .f64 c.sc, .string c.lab, .int .i64 c.rows, .slice sg.a sg.len sg.cap, .slice sp.a sp.len sp.cap], .agg #[.int .i64 c.kind, .string c.pnr, .int .i64 c.flt, .int .i64 c.cls, .int .i64 c.many, .int .i64 c.time, .float .f64 c.sc, .string c.lab, .int .i64 c.rows, .slice tg.a tg.len tg.cap, .slice tp.a tp.len tp.cap]] w
      fun v w' => v = .bool true ∧ Sat R Hs w' := by
  apply call33
  refine new_rule hw fun x w hw => new_rule hw fun y w hw => ?_
  have hw : Sat R (cmC y c tg tp :: cmC x c sg sp :: Hs) w := hw
  refine ⟨c.kind, c.pnr, c.flt, c.cls, c.many, c.time, c.sc, c.lab, c.rows, sg, sp, At.own (eqS hw) (by exact ⟨rfl, rfl, rfl, rfl, rfl, rfl, rfl, rfl, rfl, rfl, rfl, trivial⟩), ?_⟩
  have empty : ∀ {w : World}, Sat R Hs w → (convert 42 9 (.slice none 0 0)).run Tryz.prog w = .ok (.string (VC.strOf [])) w := fun hw =>
    convS_ro (xs := []) (s := ⟨none, 0, 0⟩) Tryz.underlying42 Tryz.underlying5 Tryz.underlying9 hw ⟨rfl, by simp, fun h => absurd rfl h⟩
  refine (r18enc_spec hf h1 hgl h2 hpl hw).use ?_
  clear hw
  rintro _ w (⟨hr, rfl, hw⟩ | ⟨hr, t, rfl, hw⟩)
  · refine ⟨nilSl, 1, rfl, ?_⟩
    refine ⟨c.kind, c.pnr, c.flt, c.cls, c.many, c.time, c.sc, c.lab, c.rows, tg, tp, At.own (eqS hw) (by exact ⟨rfl, rfl, rfl, rfl, rfl, rfl, rfl, rfl, rfl, rfl, rfl, trivial⟩), ?_⟩
    refine (r18enc_spec hf h3 hgl h4 hpl hw).use ?_
    clear hw
    rintro _ w (⟨_, rfl, hw⟩ | ⟨hr', _⟩)
    · refine ⟨nilSl, 1, rfl, Br.e (fun _ => ?_) (fun h => absurd rfl h)⟩
      refine ⟨_, fun w' e => by rw [show w' = w from e]; exact empty hw.drop.drop, _, fun w' e => by rw [show w' = w from e]; exact empty hw.drop.drop, ?_, hw.drop.drop⟩
      rw [str_eql, decide_eq_true rfl]
    · exact absurd hr' hr
  · refine ⟨t, 0, rfl, ?_⟩
    refine ⟨c.kind, c.pnr, c.flt, c.cls, c.many, c.time, c.sc, c.lab, c.rows, tg, tp, At.own (eqS hw) (by exact ⟨rfl, rfl, rfl, rfl, rfl, rfl, rfl, rfl, rfl, rfl, rfl, trivial⟩), ?_⟩
    refine (r18enc_spec hf h3 hgl h4 hpl hw).use ?_
    clear hw
    rintro _ w (⟨hr', _⟩ | ⟨_, t2, rfl, hw⟩)
    · exact absurd hr hr'
    refine ⟨t2, 0, rfl, Br.e (fun _ => ?_) (fun h => absurd rfl h)⟩
    have hcb : (cmB c).length ≤ 9223372036854775807 := cmB_bd hr hf
    obtain ⟨R', r1, e1, hw2, _⟩ := Own.lend hw (by rw [List.length_map]; exact hcb)
    obtain ⟨R2, r2, e2, hw3, _⟩ := Own.lend hw2 (by rw [List.length_map]; exact hcb)
    refine ⟨_, fun w' e => by rw [show w' = w from e]; exact convS_ro Tryz.underlying42 Tryz.underlying5 Tryz.underlying9 hw3 r2, _, fun w' e => by rw [show w' = w from e]; exact convS_ro Tryz.underlying42 Tryz.underlying5 Tryz.underlying9 hw2 r1, ?_, hw.drop.drop.drop.drop⟩
    rw [str_eql, decide_eq_true rfl]
abbrev CmS := Cm × Sl × Sl
abbrev cmRow (c : CmS) : List Value := cmV c.1 c.2.1 c.2.2
def Much (c : CmS) : Prop := 100 < c.2.1.len ∨ 100 < c.2.2.len ∨ 1000 < c.1.pnr.size ∨ 1000 < c.1.lab.size
theorem much_spec {l : Sl} {cs : List CmS} (hr : ∀ S : World → Prop, (∀ w, S w → Sat R Hs w) → ReadsN 11 l (cs.map cmRow) S) (hw : Sat R Hs w) :
    Gets Tryz.prog 13 #[.slice l.a l.len l.cap] w fun v w' => ∃ b : Bool, v = .bool b ∧ (b = false → ∀ c ∈ cs.take 400, ¬ Much c) ∧ Sat R Hs w' := by
  have hlen := (hr _ (eqS hw)).1
  rw [List.length_map] at hlen
  apply call13
  refine ⟨fun i w => ∃ k : Nat, i = k ∧ k ≤ 400 ∧ k ≤ cs.length ∧ (∀ c ∈ cs.take k, ¬ Much c) ∧ Sat R Hs w, fun i _ => 400 - i.toNat, ⟨0, rfl, by omega, by omega, by simp, hw⟩, ?_⟩
  clear hw
  rintro _ _ w ⟨k, rfl, hk, hkc, hm, hw⟩
  have fin : (cs.take k = cs.take 400) → ∃ b : Bool, Value.bool false = .bool b ∧ (b = false → ∀ c ∈ cs.take 400, ¬ Much c) ∧ Sat R Hs w := fun e => ⟨false, rfl, fun _ => by rw [← e]; exact hm, hw⟩
  refine ⟨fun w => (k < 400 ∧ k < cs.length) ∧ Sat R Hs w, ?_, ?_⟩
  · with_reducible refine Br.d (fun h => ?_) (fun h => fin ?_)
    · with_reducible refine Br.d (fun h2 => ?_) (fun h2 => fin ?_)
      · exact ⟨⟨by omega, by omega⟩, hw⟩
      · rw [show k = 400 by omega]
    · rw [List.take_of_length_le (by omega), List.take_of_length_le (by omega)]
  clear hw
  rintro _ w ⟨⟨h1, h2⟩, hw⟩
  have hS := hr _ (eqS hw)
  have yes : ∀ {b : Bool}, b = true → ∃ b2 : Bool, Value.bool b = .bool b2 ∧ (b2 = false → ∀ c ∈ cs.take 400, ¬ Much c) ∧ Sat R Hs w := fun {b} e => ⟨b, rfl, fun h => (by rw [e] at h; cases h), hw⟩
  refine hS.rngM h2 fun a _ he => ⟨cs[k].2.1, he.f 9 (by exact ⟨rfl, trivial⟩), Br.d (fun _ => yes rfl) (fun g1 => ?_)⟩
  refine hS.rngM h2 fun a _ he => ⟨cs[k].2.2, he.f 10 (by exact ⟨rfl, trivial⟩), Br.d (fun _ => yes rfl) (fun g2 => ?_)⟩
  refine hS.rngM h2 fun a _ he => ⟨cs[k].1.pnr, he.f 1 (by exact ⟨rfl, trivial⟩), Br.d (fun _ => yes rfl) (fun g3 => ?_)⟩
  refine hS.rngM h2 fun a _ he => ⟨cs[k].1.lab, he.f 7 (by exact ⟨rfl, trivial⟩), Br.d (fun _ => yes rfl) (fun g4 => ?_)⟩
  rw [wrap64 (by omega) (by omega)]
  refine ⟨⟨k + 1, by omega, by omega, by omega, fun c hc => ?_, hw⟩, by dsimp only; omega⟩
  rw [List.take_add_one, List.getElem?_eq_getElem h2] at hc
  rcases List.mem_append.1 hc with hc | hc
  · exact hm c hc
  · rw [show c = cs[k] by simpa using hc]
    unfold Much
    omega
end Go.Proofs.YtfgbbckfikiomaaGreatDoor
/- Package booking: the book in memory; errors that are thrown and caught. Condition: none. -/
namespace Go.Proofs.YtfgbbckfikiomaaGreatDoor
set_option linter.unusedVariables false
open Go Go.VC
open scoped Classical
variable {R : Cx} {Hs Rest : List HP} {w : World}
def wtV (w : Wt) : List Value := [.int .i64 w.id, .int .i64 w.cls, .int .i64 w.many, .int .i64 w.time, .float .f64 w.sc]
abbrev quCell (s : Sl) : Obj := .cells [.slice s.a s.len s.cap].toArray 179 (0, 0)
def QuAt (q : Nat) (l : List Wt) : HP := exs fun s : Sl => Star [pts q (quCell s), OwnN 5 s 181 (l.map wtV)]
theorem Sat.qu {q : Nat} {l : List Wt} : Sat R (QuAt q l :: Hs) w ↔ ∃ s : Sl, Sat R (pts q (quCell s) :: OwnN 5 s 181 (l.map wtV) :: Hs) w := by
  unfold QuAt
  rw [Sat.exs]
  exact ⟨fun ⟨s, h⟩ => ⟨s, Sat.star.1 h⟩, fun ⟨s, h⟩ => ⟨s, Sat.star.2 h⟩⟩
abbrev FE := Nat × Nat × Pl
abbrev BE := Nat × Bk
def plAt (e : FE) : HP := Star [LoneAt e.1 e.2.2.r, QuAt e.2.1 e.2.2.q]
abbrev bkObj (x : Bk) : Obj := .cells [.int .i64 x.id, .int .i64 x.flt, .int .i64 x.cls, .int .i64 x.many, .int .i64 x.state, .int .i64 x.till].toArray 106 (0, 0)
def bkAt (e : BE) : HP := pts e.1 (bkObj e.2)
def FlsAt (fs : List FE) : HP := Star (fs.map plAt)
def BksAt (xs : List BE) : HP := Star (xs.map bkAt)
def flV (e : FE) : Int × Value := (e.2.2.n, .agg #[.pointer (some ⟨e.1, 0, none⟩), .pointer (some ⟨e.2.1, 0, none⟩)])
def bkV (e : BE) : Int × Value := (e.2.id, .pointer (some ⟨e.1, 0, none⟩))
abbrev bookC (b : Book) (m1 m2 : Nat) : Obj := .cells [.int .i64 b.now, .int .i64 b.next, .map (some m1), .map (some m2)].toArray 80 (0, 0)
structure BookL (b : Book) (fs : List FE) (xs : List BE) : Prop where
  fl : (fs.map fun e => e.2.2).Perm b.fl
  bk : xs.map (fun e => e.2) = b.L
def BookAt (p : Nat) (b : Book) : HP := exs fun m1 : Nat => exs fun m2 : Nat => exs fun fs : List FE => exs fun xs : List BE =>
  Star [pur (BookL b fs xs), pts p (bookC b m1 m2), MapAt m1 (fs.map flV), MapAt m2 (xs.map bkV), FlsAt fs, BksAt xs]
theorem Sat.book {p : Nat} {b : Book} : Sat R (BookAt p b :: Hs) w ↔ ∃ m1 m2 fs xs, BookL b fs xs ∧ Sat R (pts p (bookC b m1 m2) :: MapAt m1 (fs.map flV) :: MapAt m2 (xs.map bkV) :: FlsAt fs :: BksAt xs :: Hs) w := by
  unfold BookAt
  simp only [Sat.exs]
  constructor
  · rintro ⟨m1, m2, fs, xs, h⟩
    obtain ⟨h1, h2⟩ := Sat.pur.1 (Sat.star.1 h)
    exact ⟨m1, m2, fs, xs, h1, h2⟩
  · rintro ⟨m1, m2, fs, xs, h1, h2⟩
    exact ⟨m1, m2, fs, xs, Sat.star.2 (Sat.pur.2 ⟨h1, h2⟩)⟩
abbrev pMap : MapT Tryz.prog 77 Int 3 102 (.agg #[.pointer none, .pointer none]) := ⟨Tryz.underlying77, Tryz.underlying3, Tryz.zeroValue102⟩
theorem FlsAt.snoc {fs : List FE} {f q : Nat} {p : Pl} (hw : Sat R (LoneAt f p.r :: QuAt q p.q :: FlsAt fs :: Hs) w) : Sat R (FlsAt (fs ++ [(f, q, p)]) :: Hs) w := by
  unfold FlsAt at hw ⊢
  rw [Sat.star, List.map_append, List.append_assoc]
  have hw : Sat R (Star (fs.map plAt) :: LoneAt f p.r :: QuAt q p.q :: Hs) w := hw.arr
  rw [Sat.star] at hw
  have key : ∀ (L : List HP) {R : Cx}, Sat R (L ++ LoneAt f p.r :: QuAt q p.q :: Hs) w → Sat R (L ++ (List.map plAt [(f, q, p)] ++ Hs)) w := fun L => by
    induction L with
    | nil => exact fun h => Sat.star.2 h
    | cons A L ih => exact fun h => h.cons fun _ h => ih h
  exact key _ hw
theorem getM_ne {β : Type} {k : Int} : ∀ {l : List (Int × β)}, getM k l = none ↔ ∀ e ∈ l, e.1 ≠ k
  | [] => ⟨fun _ _ h => (by cases h), fun _ => rfl⟩
  | e :: l => by
    rw [getM]
    by_cases h : k = e.1
    · rw [if_pos (by simpa using h)]
      exact ⟨fun h2 => (by cases h2), fun h2 => absurd h.symm (h2 e (by simp))⟩
    · rw [if_neg (by simpa using h), getM_ne]
      exact ⟨fun h2 x hx => by
        rcases List.mem_cons.1 hx with h1 | h1
        · rw [h1]; exact fun e => h e.symm
        · exact h2 x h1, fun h2 x hx => h2 x (by simp [hx])⟩
theorem fl_none {b : Book} {fs : List FE} {xs : List BE} (hl : BookL b fs xs) {n : Int} : getM n (fs.map flV) = none ↔ b.at n = none := by
  unfold Book.at
  rw [getM_ne, kget_none]
  constructor
  · intro h p hp
    obtain ⟨e, he, rfl⟩ := List.mem_map.1 (hl.fl.mem_iff.2 hp)
    exact h (flV e) (List.mem_map.2 ⟨e, he, rfl⟩)
  · rintro h _ he
    obtain ⟨e, h1, rfl⟩ := List.mem_map.1 he
    exact h e.2.2 (hl.fl.mem_iff.1 (List.mem_map.2 ⟨e, h1, rfl⟩))
theorem fl_len {b : Book} {fs : List FE} {xs : List BE} (hl : BookL b fs xs) : fs.length = b.fl.length := by
  have := hl.fl.length_eq
  rwa [List.length_map] at this
abbrev errP (e : Int) : List PanicEntry := [⟨.iface 27 (.int .i64 e), false, false⟩]
theorem need_c {b : Bool} {e : Int} {Q : Ending → World → Prop} (h1 : b = true → Q (.returned (.tuple #[])) w) (h2 : b = false → Q (.panicked (errP e)) w) : Calls Tryz.prog 40 #[.bool b, .int .i64 e] w Q := by
  have h : GetsX Tryz.prog 40 #[.bool b, .int .i64 e] w (fun ch w' => b = false ∧ ch = errP e ∧ w' = w) (fun v w' => b = true ∧ v = .tuple #[] ∧ w' = w) := by
    apply call40
    exact Br.nb (fun h => ⟨h, rfl, rfl⟩) (fun h => ⟨h, rfl, rfl⟩)
  refine h.use ?_ ?_
  · rintro v w' ⟨hb, rfl, e⟩; rw [e]; exact h1 hb
  · rintro v w' ⟨hb, rfl, e⟩; rw [e]; exact h2 hb
theorem mustE_c {e : Int} {Q : Ending → World → Prop} (h1 : e = 0 → Q (.returned (.tuple #[])) w) (h2 : ¬ e = 0 → Q (.panicked (errP e)) w) : Calls Tryz.prog 110 #[.int .i64 e] w Q := by
  have h : GetsX Tryz.prog 110 #[.int .i64 e] w (fun ch w' => ¬ e = 0 ∧ ch = errP e ∧ w' = w) (fun v w' => e = 0 ∧ v = .tuple #[] ∧ w' = w) := by
    apply call110
    exact Br.ne (fun h => ⟨h, rfl, rfl⟩) (fun h => ⟨h, rfl, rfl⟩)
  refine h.use ?_ ?_
  · rintro v w' ⟨hb, rfl, e⟩; rw [e]; exact h1 hb
  · rintro v w' ⟨hb, rfl, e⟩; rw [e]; exact h2 hb
theorem caughtP {r : Nat} {x : Rp} {sl sb : Sl} {e : Int} {Kr : World → Prop} (hw : Sat R (rpC r x sl sb :: Hs) w) (k : ∀ w, Sat R (rpC r (errR e) nilSl nilSl :: Hs) w → Kr w) :
    LeaveF Tryz.prog 39 [.pointer (some ⟨r, 0, none⟩)] (.panicking (errP e)) Kr w := by
  unfold LeaveF
  refine CallsD.mono (callP39 (some ⟨r, 0, none⟩) (.iface 27 (.int .i64 e)) Kr w ?_) ?_
  · refine ⟨true, fun w' _ => by kernel_rfl, Br.t rfl ?_⟩
    refine ⟨e, fun w' _ => by kernel_rfl, NilP.mk rfl ?_⟩
    refine store_rule hw (by kernel_rfl) rfl (by simp [Value.cells]) fun w hw => ?_
    exact k w (hw.re (rpC r (errR e) nilSl nilSl))
  · rintro e v w' ⟨hy, rfl, hk⟩
    exact ⟨hy, rfl, hk⟩
theorem caughtR {r : Nat} {Kr : World → Prop} (k : Kr w) : LeaveF Tryz.prog 39 [.pointer (some ⟨r, 0, none⟩)] .returning Kr w := by
  unfold LeaveF
  refine CallsD.mono (callR39 (some ⟨r, 0, none⟩) Kr w ?_) ?_
  · exact ⟨false, fun w' _ => by kernel_rfl, Br.f rfl k⟩
  · rintro e v w' ⟨hy, rfl, hk⟩
    exact ⟨hy, rfl, hk⟩
theorem qnew_spec (hw : Sat R Hs w) : Gets Tryz.prog 111 #[] w fun v w' => ∃ q, v = .pointer (some ⟨q, 0, none⟩) ∧ Sat R (QuAt q [] :: Hs) w' := by
  apply call111
  refine new_rule hw fun q w hw => ⟨q, rfl, Sat.qu.2 ⟨nilSl, ?_⟩⟩
  exact (OwnN.nil hw).swap
theorem bnew_spec (hw : Sat R Hs w) : Gets Tryz.prog 14 #[] w fun v w' => ∃ p, v = .pointer (some ⟨p, 0, none⟩) ∧ Sat R (BookAt p newBook :: Hs) w' := by
  apply call14
  refine new_rule hw fun m1 w hw => ?_
  have hw := MapAt.new (α := Int) rfl hw
  refine new_rule hw fun m2 w hw => ?_
  have hw := MapAt.new (α := Int) rfl hw
  refine new_rule hw fun p w hw => ⟨p, rfl, Sat.book.2 ⟨m1, m2, [], [], ⟨List.Perm.refl _, rfl⟩, ?_⟩⟩
  have hw : Sat R (pts p (bookC newBook m1 m2) :: MapAt (α := Int) m2 [] :: MapAt (α := Int) m1 [] :: Hs) w := hw
  have hw : Sat R (pts p (bookC newBook m1 m2) :: MapAt (α := Int) m1 [] :: MapAt (α := Int) m2 [] :: Hs) w := hw.arr
  exact hw.cons fun _ h => h.cons fun _ h => h.cons fun _ h => Sat.star.2 (Sat.star.2 h)
end Go.Proofs.YtfgbbckfikiomaaGreatDoor
/- Package booking: a flight is opened. Condition: bounds. -/
namespace Go.Proofs.YtfgbbckfikiomaaGreatDoor
set_option linter.unusedVariables false
open Go Go.VC
open scoped Classical
variable {R : Cx} {Hs Rest : List HP} {w : World}
abbrev openR (c : Cm) : Rp := ⟨0, emS, 0, c.flt, 0, 0, 0, rleftsF (rnewF c.flt c.rows c.grps (limitsT (layN c.rows c.grps) c.parts).1), []⟩
set_option maxHeartbeats 1000000 in
theorem bopen_spec {p : Nat} {b : Book} {c : Cm} {sg sp : Sl} (hfl : b.fl.length ≤ 1000000) (hg : RoI R sg c.grps) (hp : SlR R.m sp (flts c.parts)) (hw : Sat R (BookAt p b :: Hs) w) :
    GetsX Tryz.prog 42 #[.pointer (some ⟨p, 0, none⟩), .agg #[.int .i64 c.kind, .string c.pnr, .int .i64 c.flt, .int .i64 c.cls, .int .i64 c.many, .int .i64 c.time, .float .f64 c.sc, .string c.lab, .int .i64 c.rows, .slice sg.a sg.len sg.cap, .slice sp.a sp.len sp.cap]] w
      (fun ch w' => ∃ e, ch = errP e ∧ openB b c = (b, errR e) ∧ Sat R (BookAt p b :: Hs) w')
      (fun v w' => (openB b c).2 = openR c ∧ ∃ sl : Sl, v = .agg (rpV (openR c) sl nilSl).toArray ∧ Sat R (Own sl 3 (intsI (openR c).left) :: BookAt p (openB b c).1 :: Hs) w') := by
  apply call42
  suffices H : ∀ (X : List PanicEntry → World → Prop) (K : Value → World → Prop), (∀ e w', openB b c = (b, errR e) → Sat R (BookAt p b :: Hs) w' → X (errP e) w') →
      (∀ sl w', (openB b c).2 = openR c → Sat R (Own sl 3 (intsI (openR c).left) :: BookAt p (openB b c).1 :: Hs) w' → K (.agg (rpV (openR c) sl nilSl).toArray) w') → B42 (some ⟨p, 0, none⟩) c.kind c.pnr c.flt c.cls c.many c.time c.sc c.lab c.rows sg sp X K w from
    H _ _ (fun e w' h1 h2 => ⟨e, rfl, h1, h2⟩) (fun sl w' h1 h2 => ⟨h1, sl, rfl, h2⟩)
  intro X K hX hK
  obtain ⟨m1, m2, fs, xs, hl, hw⟩ := Sat.book.1 hw
  have hlen := fl_len hl
  refine new_rule hw fun b3 w hw => new_rule hw fun b4 w hw => ?_
  have hw : Sat R (MapAt m1 (fs.map flV) :: pts p (bookC b m1 m2) :: cmC b3 c sg sp :: rpNew b4 :: MapAt m2 (xs.map bkV) :: FlsAt fs :: BksAt xs :: Hs) w := by
    have hw : Sat R (rpNew b4 :: cmC b3 c sg sp :: pts p (bookC b m1 m2) :: MapAt m1 (fs.map flV) :: MapAt m2 (xs.map bkV) :: FlsAt fs :: BksAt xs :: Hs) w := hw
    exact hw.arr
  have close : ∀ {w}, Sat R (MapAt m1 (fs.map flV) :: pts p (bookC b m1 m2) :: cmC b3 c sg sp :: rpNew b4 :: MapAt m2 (xs.map bkV) :: FlsAt fs :: BksAt xs :: Hs) w → Sat R (BookAt p b :: Hs) w := fun {w} hw => by
    have hw : Sat R (cmC b3 c sg sp :: rpNew b4 :: pts p (bookC b m1 m2) :: MapAt m1 (fs.map flV) :: MapAt m2 (xs.map bkV) :: FlsAt fs :: BksAt xs :: Hs) w := hw.arr
    exact Sat.book.2 ⟨m1, m2, fs, xs, hl, hw.drop.drop⟩
  refine drw_ruleT hw fun w hw => ?_
  refine NilP.mk rfl ⟨some m1, At.own (fun _ h => h) (by exact ⟨rfl, trivial⟩), c.flt, At.own (fun _ h => h) (by exact ⟨rfl, trivial⟩), ?_⟩
  have look : ∀ w', Sat R (VC.tru :: MapAt m1 (fs.map flV) :: pts p (bookC b m1 m2) :: cmC b3 c sg sp :: rpNew b4 :: MapAt m2 (xs.map bkV) :: FlsAt fs :: BksAt xs :: Hs) w' →
      (Instr.lookup 77 (.map (some m1)) (.int .i64 c.flt) true).run Tryz.prog w' = .ok (.tuple #[(getM c.flt (fs.map flV)).getD (.agg #[.pointer none, .pointer none]), .bool (getM c.flt (fs.map flV)).isSome]) w' := fun w' h =>
    MapAt.look pMap h.swap c.flt true
  obtain ⟨v1, v2, hv⟩ : ∃ v1 v2 : Option Addr, (getM c.flt (fs.map flV)).getD (.agg #[.pointer none, .pointer none]) = .agg #[.pointer v1, .pointer v2] := by
    cases hgm : getM c.flt (fs.map flV) with
    | none => exact ⟨none, none, rfl⟩
    | some v =>
      obtain ⟨A, C, e, _⟩ := getM_split hgm
      have : (c.flt, v) ∈ fs.map flV := by rw [e]; simp
      obtain ⟨x, _, hx⟩ := List.mem_map.1 this
      have hx2 := congrArg Prod.snd hx
      exact ⟨_, _, hx2.symm⟩
  rw [hv] at look
  refine ⟨v1, v2, _, look, ?_⟩
  refine new_rule hw fun b5 w hw => ⟨hw.absorb, ?_⟩
  refine store_rule hw (by kernel_rfl) rfl (by simp [Value.cells]) fun w hw => ?_
  have hw := hw.drop.drop
  have hat := fl_none hl (n := c.flt)
  refine need_c (fun hn => .inl ⟨rfl, ?_⟩) (fun hn => .inr ⟨_, rfl, hX 7 w ?_ (close hw)⟩)
  rotate_left
  · unfold openB
    rw [if_pos]
    cases hba : b.at c.flt with
    | none => rw [hat.2 hba] at hn; cases hn
    | some _ => rfl
  have hno : getM c.flt (fs.map flV) = none := by
    cases hgm : getM c.flt (fs.map flV) with
    | none => rfl
    | some v => rw [hgm] at hn; cases hn
  have hba := hat.1 hno
  have o1 : ¬ (b.at c.flt).isSome = true := by rw [hba]; simp
  refine NilP.mk rfl ⟨some m1, At.own (eqS hw) (by exact ⟨rfl, trivial⟩), ((fs.map flV).length : Int), fun w' e => ?_, ?_⟩
  · rw [show w' = w from e]
    exact MapAt.len (by kernel_rfl) hw
  rw [List.length_map, hlen]
  refine need_c (fun hn8 => .inl ⟨rfl, ?_⟩) (fun hn8 => .inr ⟨_, rfl, hX 3 w ?_ (close hw)⟩)
  rotate_left
  · have := of_decide_eq_false hn8
    unfold openB
    rw [if_neg o1, if_pos (by omega)]
  have h8 := of_decide_eq_true hn8
  have o2 : ¬ 8 ≤ b.fl.length := by omega
  refine ⟨c.flt, At.own (eqS hw) (by exact ⟨rfl, trivial⟩), c.rows, sg, At.own (eqS hw) (by exact ⟨rfl, rfl, trivial⟩), sp, At.own (eqS hw) (by exact ⟨rfl, trivial⟩), ?_⟩
  refine (fnew_spec' hg hp hw).use ?_
  clear hw
  rintro _ w (⟨hn, rfl, hw⟩ | ⟨hn, f, rfl, hw⟩)
  · refine .inl ⟨none, 1, rfl, mustE_c (fun h => by cases h) (fun _ => .inr ⟨_, rfl, hX 1 w ?_ (close hw)⟩)⟩
    unfold openB
    rw [if_neg o1, if_neg o2, if_pos hn]
  have hopen : openB b c = ({ b with fl := kins Pl.n ⟨rnewF c.flt c.rows c.grps (limitsT (layN c.rows c.grps) c.parts).1, []⟩ b.fl }, openR c) := by
    unfold openB
    rw [if_neg o1, if_neg o2, if_neg (fun h => h hn)]
  obtain ⟨r, hr⟩ : ∃ r, r = rnewF c.flt c.rows c.grps (limitsT (layN c.rows c.grps) c.parts).1 := ⟨_, rfl⟩
  have hw : Sat R (LoneAt f r :: MapAt m1 (fs.map flV) :: pts p (bookC b m1 m2) :: cmC b3 c sg sp :: rpNew b4 :: MapAt m2 (xs.map bkV) :: FlsAt fs :: BksAt xs :: Hs) w := by
    rw [hr]
    exact Sat.lone.2 ⟨_, ⟨tie_new, good_new hn⟩, hw⟩
  rw [← hr] at hopen
  refine .inl ⟨some ⟨f, 0, none⟩, 0, rfl, mustE_c (fun _ => .inl ⟨rfl, ?_⟩) (fun h => absurd rfl h)⟩
  refine drw_rule' (Sat R [cmC b3 c sg sp, pts p (bookC b m1 m2), VC.tru]) hw (fun w hw => ?_) fun w hw => ?_
  · exact (hw.arr (Hs' := cmC b3 c sg sp :: pts p (bookC b m1 m2) :: LoneAt f r :: MapAt m1 (fs.map flV) :: rpNew b4 :: MapAt m2 (xs.map bkV) :: FlsAt fs :: BksAt xs :: Hs)).cons fun _ h => h.restTru2
  refine NilP.mk rfl ⟨some m1, At.own (fun _ h => h) (by exact ⟨rfl, trivial⟩), c.flt, At.own (fun _ h => h) (by exact ⟨rfl, trivial⟩), ?_⟩
  refine (qnew_spec hw).use ?_
  clear hw
  rintro _ w ⟨q, rfl, hw⟩
  refine .inl ⟨_, rfl, ?_, ?_⟩
  · exact (hw.arr (Hs' := cmC b3 c sg sp :: pts p (bookC b m1 m2) :: QuAt q [] :: LoneAt f r :: MapAt m1 (fs.map flV) :: rpNew b4 :: MapAt m2 (xs.map bkV) :: FlsAt fs :: BksAt xs :: Hs)).cons fun _ h => h.restTru2
  have hw : Sat R (MapAt m1 (fs.map flV) :: LoneAt f r :: QuAt q [] :: FlsAt fs :: pts p (bookC b m1 m2) :: cmC b3 c sg sp :: rpNew b4 :: MapAt m2 (xs.map bkV) :: BksAt xs :: Hs) w := hw.arr
  refine MapAt.put pMap hw c.flt (.agg #[.pointer (some ⟨f, 0, none⟩), .pointer (some ⟨q, 0, none⟩)]) fun w hw => ?_
  have hput : putM c.flt (.agg #[.pointer (some ⟨f, 0, none⟩), .pointer (some ⟨q, 0, none⟩)]) (fs.map flV) = (fs ++ [((f, q, ⟨r, []⟩) : FE)]).map flV := by
    unfold putM
    rw [hno]
    have : r.num = c.flt := by rw [hr]; rfl
    simp only [Option.isSome_none, Bool.false_eq_true, if_false, List.map_append, List.map_cons, List.map_nil, flV, Pl.n, this]
  rw [hput] at hw
  refine drw_rule' (Sat R [cmC b3 c sg sp, VC.tru]) hw (fun w hw => ?_) fun w hw => ?_
  · exact (hw.arr (Hs' := cmC b3 c sg sp :: MapAt m1 ((fs ++ [((f, q, ⟨r, []⟩) : FE)]).map flV) :: LoneAt f r :: QuAt q [] :: FlsAt fs :: pts p (bookC b m1 m2) :: rpNew b4 :: MapAt m2 (xs.map bkV) :: BksAt xs :: Hs)).restTru2
  refine ⟨c.flt, At.own (fun _ h => h) (by exact ⟨rfl, trivial⟩), ?_⟩
  have hw : Sat R (LoneAt f r :: MapAt m1 ((fs ++ [((f, q, ⟨r, []⟩) : FE)]).map flV) :: QuAt q [] :: FlsAt fs :: pts p (bookC b m1 m2) :: cmC b3 c sg sp :: rpNew b4 :: MapAt m2 (xs.map bkV) :: BksAt xs :: Hs) w := hw.swap
  refine (lone_left hw).use ?_
  clear hw
  rintro _ w ⟨sl, rfl, hw⟩
  refine .inl ⟨sl, rfl, ?_, ?_⟩
  · exact (hw.arr (Hs' := cmC b3 c sg sp :: Own sl 3 (intsI (rleftsF r)) :: LoneAt f r :: MapAt m1 ((fs ++ [((f, q, ⟨r, []⟩) : FE)]).map flV) :: QuAt q [] :: FlsAt fs :: pts p (bookC b m1 m2) :: rpNew b4 :: MapAt m2 (xs.map bkV) :: BksAt xs :: Hs)).restTru2
  refine store_rule hw (by kernel_rfl) rfl (by simp [Value.cells]) fun w hw => ?_
  have hw := hw.re (rpC b4 (openR c) sl nilSl)
  refine ⟨0, emS, 0, c.flt, 0, 0, 0, sl, nilSl, At.own (eqS hw) (by exact ⟨rfl, rfl, rfl, rfl, rfl, rfl, rfl, rfl, rfl, trivial⟩), ?_⟩
  have hw : Sat R (Own sl 3 (intsI (rleftsF r)) :: pts p (bookC b m1 m2) :: MapAt m1 ((fs ++ [((f, q, ⟨r, []⟩) : FE)]).map flV) :: MapAt m2 (xs.map bkV) :: LoneAt f r :: QuAt q [] :: FlsAt fs :: BksAt xs :: rpC b4 (openR c) sl nilSl :: cmC b3 c sg sp :: Hs) w := hw.arr
  refine hK sl w (by rw [hopen]) ?_
  rw [hopen]
  dsimp only
  rw [← hr]
  refine hw.cons fun _ hw => Sat.book.2 ⟨m1, m2, fs ++ [((f, q, ⟨r, []⟩) : FE)], xs, ⟨?_, hl.bk⟩, ?_⟩
  · rw [List.map_append]
    refine (List.perm_append_singleton _ _).trans (List.Perm.trans (hl.fl.cons _) kins_perm.symm)
  · refine hw.cons fun _ h => h.cons fun _ h => h.cons fun _ h => ?_
    exact (FlsAt.snoc h).cons fun _ h => h.cons fun _ h => h.drop.drop
end Go.Proofs.YtfgbbckfikiomaaGreatDoor
/- Chapter 18: a flight is opened in a book of nothing: awake. Condition: none. -/
namespace Go.Proofs.YtfgbbckfikiomaaGreatDoor
set_option linter.unusedVariables false
open Go Go.VC
open scoped Classical
variable {R : Cx} {Hs Rest : List HP} {w : World}
set_option maxHeartbeats 1000000 in
theorem bapply1_spec {p : Nat} {b : Book} {c : Cm} {sg sp : Sl} (hk : c.kind = 1) (hr : RightC c) (hfl : b.fl.length ≤ 1000000) (hg : RoI R sg c.grps) (hp : SlR R.m sp (flts c.parts)) (hw : Sat R (BookAt p b :: Hs) w) :
    Gets Tryz.prog 15 #[.pointer (some ⟨p, 0, none⟩), .agg #[.int .i64 c.kind, .string c.pnr, .int .i64 c.flt, .int .i64 c.cls, .int .i64 c.many, .int .i64 c.time, .float .f64 c.sc, .string c.lab, .int .i64 c.rows, .slice sg.a sg.len sg.cap, .slice sp.a sp.len sp.cap]] w
      fun v w' => ∃ sl : Sl, v = .agg (rpV (openB b c).2 sl nilSl).toArray ∧ Sat R (Own sl 3 (intsI (openB b c).2.left) :: BookAt p (openB b c).1 :: Hs) w' := by
  have hplen : sp.len = c.parts.length := by have := hp.len; simpa using this
  have hgl : c.grps.length ≤ 100000 := by have := hr.gl; omega
  apply call15
  refine new_rule hw fun b3 w hw => new_rule hw fun b4 w hw => ?_
  have hw : Sat R (rpNew b4 :: cmC b3 c sg sp :: BookAt p b :: Hs) w := hw
  refine ⟨c.kind, c.pnr, c.flt, c.cls, c.many, c.time, c.sc, c.lab, c.rows, sg, sp, At.own (eqS hw) (by exact ⟨rfl, rfl, rfl, rfl, rfl, rfl, rfl, rfl, rfl, rfl, rfl, trivial⟩), ?_⟩
  refine (bright_spec hg hgl hplen hw).use ?_
  clear hw
  rintro _ w ⟨rfl, hw⟩
  refine .inl ⟨_, rfl, need_c (fun _ => .inl ⟨rfl, ?_⟩) (fun h => absurd hr (of_decide_eq_false h))⟩
  refine ⟨c.kind, At.own (eqS hw) (by exact ⟨rfl, trivial⟩), Br.e (fun _ => ?_) (fun h => absurd hk h)⟩
  refine ⟨c.kind, c.pnr, c.flt, c.cls, c.many, c.time, c.sc, c.lab, c.rows, sg, sp, At.own (eqS hw) (by exact ⟨rfl, rfl, rfl, rfl, rfl, rfl, rfl, rfl, rfl, rfl, rfl, trivial⟩), ?_⟩
  have hw : Sat R (BookAt p b :: rpNew b4 :: cmC b3 c sg sp :: Hs) w := hw.arr
  refine (bopen_spec hfl hg hp hw).use ?_ ?_
  · clear hw
    rintro _ w ⟨he, sl, rfl, hw⟩
    refine .inl ⟨0, emS, 0, c.flt, 0, 0, 0, sl, nilSl, rfl, ?_⟩
    refine store_rule hw (by kernel_rfl) rfl (by simp [Value.cells]) fun w hw => ?_
    have hw := hw.re (rpC b4 (openR c) sl nilSl)
    refine caughtR ⟨0, emS, 0, c.flt, 0, 0, 0, sl, nilSl, At.own (eqS hw) (by exact ⟨rfl, rfl, rfl, rfl, rfl, rfl, rfl, rfl, rfl, trivial⟩), sl, ?_, ?_⟩
    · rw [he]
    · rw [he]
      have hw : Sat R (Own sl 3 (intsI (openR c).left) :: BookAt p (openB b c).1 :: rpC b4 (openR c) sl nilSl :: cmC b3 c sg sp :: Hs) w := hw.arr
      exact hw.cons fun _ h => h.cons fun _ h => h.drop.drop
  · clear hw
    rintro _ w ⟨e, rfl, he, hw⟩
    refine .inr ⟨_, rfl, ?_⟩
    have hw : Sat R (rpNew b4 :: BookAt p b :: cmC b3 c sg sp :: Hs) w := hw.swap
    refine caughtP hw fun w hw => ⟨e, emS, 0, 0, 0, 0, 0, nilSl, nilSl, At.own (eqS hw) (by exact ⟨rfl, rfl, rfl, rfl, rfl, rfl, rfl, rfl, rfl, trivial⟩), nilSl, ?_, ?_⟩
    · rw [he]; rfl
    · rw [he]
      exact Own.nil (hw.drop.cons fun _ h => h.drop)
def aw18 : Cm := ⟨1, ByteArray.mk #[], 7, 0, 0, 0, 0, ByteArray.mk #[], 1, [2], [4607182418800017408]⟩
theorem aw18_lims : limitsT (layN 1 [2]) [4607182418800017408] = ([2], 0) := by kernel_rfl
theorem aw18_left : rleftsF (rnewF 7 1 [2] [2]) = [2] := by kernel_rfl
theorem aw18_ok : newOk 7 1 [2] [4607182418800017408] := ⟨by omega, by omega, by kernel_rfl, by rw [aw18_lims]⟩
theorem aw18_right : RightC aw18 := by
  refine ⟨?_, ?_, ?_, ?_, ?_, ?_, ?_, ?_, ?_, ?_, ?_⟩ <;> unfold aw18 <;> try (unfold numOk) <;> try (simp only; omega)
  · intro n hn
    simp only [List.mem_singleton] at hn
    subst hn; omega
  all_goals first | (show (0 : Nat) ≤ 16; omega) | simp
theorem aw18_open : (openB newBook aw18).2 = ⟨0, emS, 0, 7, 0, 0, 0, [2], []⟩ := by
  have h1 : ¬ (newBook.at aw18.flt).isSome = true := by
    show ¬ (kget Pl.n 7 []).isSome = true
    unfold kget
    simp
  unfold openB
  rw [if_neg h1, if_neg (by show ¬ 8 ≤ 0; omega), if_neg (fun h => h aw18_ok)]
  show (⟨0, emS, 0, 7, 0, 0, 0, rleftsF (rnewF 7 1 [2] (limitsT (layN 1 [2]) [4607182418800017408]).1), []⟩ : Rp) = _
  rw [aw18_lims, aw18_left]
theorem lopen_spec (hw : Sat R Hs w) : Gets Tryz.prog 38 #[] w fun v w' => ∃ sg sp : Sl, v = .agg (cmV aw18 sg sp).toArray ∧ Sat R (Own sg 3 (intsI aw18.grps) :: Own sp 33 (flts aw18.parts) :: Hs) w' := by
  apply call38
  refine new_rule hw fun b w hw => new_rule hw fun x w hw => new_rule hw fun y w hw => ?_
  have hw : Sat R (pts y (.cells (flts [4607182418800017408]).toArray 33 (0, 0)) :: pts x (.cells (intsI [2]).toArray 3 (0, 0)) :: cmNew b :: Hs) w := hw
  have hw : Sat R (cmNew b :: pts y (.cells (flts [4607182418800017408]).toArray 33 (0, 0)) :: pts x (.cells (intsI [2]).toArray 3 (0, 0)) :: Hs) w := hw.arr
  refine store_rule hw (by kernel_rfl) rfl (by simp [Value.cells]) fun w hw => ?_
  have hw := hw.re (cmC b aw18 ⟨some ⟨x, 0, none⟩, 1, 1⟩ ⟨some ⟨y, 0, none⟩, 1, 1⟩)
  refine ⟨_, _, _, _, _, _, _, _, _, ⟨some ⟨x, 0, none⟩, 1, 1⟩, ⟨some ⟨y, 0, none⟩, 1, 1⟩, At.own (eqS hw) (by exact ⟨rfl, rfl, rfl, rfl, rfl, rfl, rfl, rfl, rfl, rfl, rfl, trivial⟩), ⟨some ⟨x, 0, none⟩, 1, 1⟩, ⟨some ⟨y, 0, none⟩, 1, 1⟩, rfl, ?_⟩
  exact (own_lit (n := 1) (hw.drop.swap)).cons fun _ h => own_lit (n := 1) h
theorem aw18_spec (hw : Sat R Hs w) : Gets Tryz.prog 12 #[] w fun v w' => v = .bool true ∧ Sat R Hs w' := by
  apply call12
  refine (bnew_spec hw).use ?_
  clear hw
  rintro _ w ⟨p, rfl, hw⟩
  refine ⟨_, rfl, Br.f rfl ?_⟩
  refine (lopen_spec hw).use ?_
  clear hw
  rintro _ w ⟨sg, sp, rfl, hw⟩
  obtain ⟨R1, e1, g1, hw⟩ := Own.leak hw
  obtain ⟨R2, e2, g2, hw⟩ := Own.leak hw
  refine ⟨_, _, _, _, _, _, _, _, _, sg, sp, rfl, ?_⟩
  refine (bapply1_spec (c := aw18) rfl aw18_right (by show 0 ≤ 1000000; omega) (e2.ro (g1.ro (by unfold aw18; simp))) g2 hw).use ?_
  clear hw
  rintro _ w ⟨sl, rfl, hw⟩
  rw [aw18_open] at hw ⊢
  refine ⟨_, _, _, _, _, _, _, sl, nilSl, rfl, ?_⟩
  refine new_rule hw fun b w hw => ?_
  refine store_rule hw (by kernel_rfl) rfl (by simp [Value.cells]) fun w hw => ?_
  have hw := hw.re (rpC b ⟨0, emS, 0, 7, 0, 0, 0, [2], []⟩ sl nilSl)
  refine ⟨0, At.own (eqS hw) (by exact ⟨rfl, trivial⟩), Br.e (fun _ => ?_) (fun h => absurd rfl h)⟩
  have hw := hw.swap
  have hsl := Own.len hw
  have hsl : sl.len = 1 := hsl
  refine ⟨sl, At.own (eqS hw) (by exact ⟨rfl, trivial⟩), Br.e (fun _ => ?_) (fun h => absurd (by rw [hsl]; rfl) h)⟩
  refine ⟨sl, At.own (eqS hw) (by exact ⟨rfl, trivial⟩), Own.ix (xs := [2]) hw (eqS hw) 0 rfl (by simp) ⟨rfl, ?_⟩⟩
  exact e1.back (e2.back hw.drop.drop.drop)
end Go.Proofs.YtfgbbckfikiomaaGreatDoor
/- Chapter 18: BookingCodes. Condition: bounds on lengths. -/
namespace Go.Proofs.YtfgbbckfikiomaaGreatDoor
set_option linter.unusedVariables false
open Go Go.VC
open scoped Classical
variable {R : Cx} {Hs Rest : List HP} {w : World}
noncomputable def encC (c : Cm) : List Int × Int := if RightC c then (cmB c, 0) else ([], 1)
theorem encC_len {c : Cm} (hf : FltC c) : (encC c).1.length ≤ 9223372036854775807 := by
  unfold encC
  split
  · rename_i h; exact cmB_bd h hf
  · simp
theorem benc_spec' {c : Cm} {sg sp : Sl} (hf : FltC c) (hg : RoI R sg c.grps) (hgl : c.grps.length ≤ 100000) (hp : SlR R.m sp (flts c.parts)) (hpl : c.parts.length ≤ 100000) (hw : Sat R Hs w) :
    Gets Tryz.prog 29 #[.agg #[.int .i64 c.kind, .string c.pnr, .int .i64 c.flt, .int .i64 c.cls, .int .i64 c.many, .int .i64 c.time, .float .f64 c.sc, .string c.lab, .int .i64 c.rows, .slice sg.a sg.len sg.cap, .slice sp.a sp.len sp.cap]] w fun v w' =>
      ∃ t : Sl, v = .tuple #[.slice t.a t.len t.cap, .int .i64 (encC c).2] ∧ Sat R (Own t 5 (b8 (encC c).1) :: Hs) w' := by
  refine (benc_spec hf hg hgl hp hpl hw).mono ?_
  rintro _ w (⟨h, rfl, hw⟩ | ⟨h, t, rfl, hw⟩)
  · unfold encC; rw [if_neg h]; exact ⟨nilSl, rfl, Own.nil hw⟩
  · unfold encC; rw [if_pos h]; exact ⟨t, rfl, hw⟩
theorem r18enc_spec' {c : Cm} {sg sp : Sl} (hf : FltC c) (hg : RoI R sg c.grps) (hgl : c.grps.length ≤ 100000) (hp : SlR R.m sp (flts c.parts)) (hpl : c.parts.length ≤ 100000) (hw : Sat R Hs w) :
    Gets Tryz.prog 30 #[.agg #[.int .i64 c.kind, .string c.pnr, .int .i64 c.flt, .int .i64 c.cls, .int .i64 c.many, .int .i64 c.time, .float .f64 c.sc, .string c.lab, .int .i64 c.rows, .slice sg.a sg.len sg.cap, .slice sp.a sp.len sp.cap]] w fun v w' =>
      ∃ t : Sl, v = .tuple #[.slice t.a t.len t.cap, .int .i64 (encC c).2] ∧ Sat R (Own t 5 (b8 (encC c).1) :: Hs) w' := by
  refine (r18enc_spec hf hg hgl hp hpl hw).mono ?_
  rintro _ w (⟨h, rfl, hw⟩ | ⟨h, t, rfl, hw⟩)
  · unfold encC; rw [if_neg h]; exact ⟨nilSl, rfl, Own.nil hw⟩
  · unfold encC; rw [if_pos h]; exact ⟨t, rfl, hw⟩
theorem cmDec_ok {bs : List Int} (hb : Bytes bs) : FltC (cmDec bs).1 ∧ (cmDec bs).1.grps.length ≤ 16 ∧ (cmDec bs).1.parts.length ≤ 16 := by
  unfold cmDec
  split
  · rename_i h
    refine ⟨?_, h.2.gl, h.2.pl⟩
    have b1 := rdNum_bd (most := 9) (rd := ⟨bs, false⟩) hb
    have b2 := strRd_bd (most := 16) b1
    have b3 := hd2_bd b2
    have b4 := fltRd_bd b3
    have b5 := strRd_bd (most := 16) b4
    have b6 := rdNum_bd (most := 9999) b5
    have b7 := rdNum_bd (most := 16) b6
    have b8 := (rdEach_inv (one := rdNum 9999) (P := fun r => Bytes r.bs) (Q := fun _ => True) (fun r hr => ⟨trivial, rdNum_bd hr⟩) (rdNum 16 (rdNum 9999 (strRd 16 (fltRd (hd2 (strRd 16 (rdNum 9 ⟨bs, false⟩).2).2).2).2).2).2).1.toNat b7).2
    have b9 := rdNum_bd (most := 16) b8
    rw [cmRd_hd]
    exact ⟨fltRd_lt b3, (rdEach_inv (one := fltRd) (P := fun r => Bytes r.bs) (Q := fun x => x < 18446744073709551616) (fun r hr => ⟨fltRd_lt hr, fltRd_bd hr⟩) _ b9).1⟩
  · exact ⟨⟨by show 0 < 18446744073709551616; omega, fun x hx => by cases hx⟩, by show 0 ≤ 16; omega, by show 0 ≤ 16; omega⟩
set_option maxHeartbeats 1000000 in
theorem bcodes_lspec {c : Cm} {sg sp s : Sl} {bs : List Int} (hf : FltC c) (hg : RoI R sg c.grps) (hp : SlR R.m sp (flts c.parts)) (hs : SlR R.m s (b8 bs)) (hb : Bytes bs) (hw : Sat R Hs w) :
    Gets Tryz.prog 8 #[.agg #[.int .i64 c.kind, .string c.pnr, .int .i64 c.flt, .int .i64 c.cls, .int .i64 c.many, .int .i64 c.time, .float .f64 c.sc, .string c.lab, .int .i64 c.rows, .slice sg.a sg.len sg.cap, .slice sp.a sp.len sp.cap], .slice s.a s.len s.cap] w fun v w' => v = .bool true ∧ Sat R Hs w' := by
  have hplen : sp.len = c.parts.length := by have := hp.len; simpa using this
  have hglen := hg.len
  have hslen : s.len = bs.length := by have := hs.len; simpa using this
  apply call8
  suffices H : ∀ K : Value → World → Prop, (∀ w', Sat R Hs w' → K (.bool true) w') → B8 c.kind c.pnr c.flt c.cls c.many c.time c.sc c.lab c.rows sg sp s K w from H _ fun w' h => ⟨rfl, h⟩
  intro K hK
  refine new_rule hw fun b2 w hw => ?_
  have hw : Sat R (cmC b2 c sg sp :: Hs) w := hw
  refine (aw18_spec hw).use ?_
  clear hw
  rintro _ w ⟨rfl, hw⟩
  refine ⟨_, rfl, c.kind, c.pnr, c.flt, c.cls, c.many, c.time, c.sc, c.lab, c.rows, sg, sp, At.own (eqS hw) (by exact ⟨rfl, rfl, rfl, rfl, rfl, rfl, rfl, rfl, rfl, rfl, rfl, trivial⟩), ?_⟩
  refine new_rule hw fun b18 w hw => ?_
  have hw : Sat R (pts b18 (.cells ((([(c, sg, sp)] : List CmS).map cmRow).flatten ++ []).toArray 38 (0, 0)) :: cmC b2 c sg sp :: Hs) w := hw
  have hw : Sat R (OwnN 11 ⟨some ⟨b18, 0, none⟩, 1, 1⟩ 38 (([(c, sg, sp)] : List CmS).map cmRow) :: cmC b2 c sg sp :: Hs) w := OwnN.of_pts (cap := 1) (Wid.one rfl) rfl hw (.inl rfl)
  refine (much_spec (l := ⟨some ⟨b18, 0, none⟩, 1, 1⟩) (cs := [(c, sg, sp)]) (fun S hS => OwnN.reads hw hS) hw).use ?_
  clear hw
  rintro _ w ⟨bm, rfl, hm, hw⟩
  have hw := hw.drop
  refine ⟨_, rfl, fun w => (bm = false ∧ s.len ≤ 20000) ∧ Sat R (cmC b2 c sg sp :: Hs) w, Br.f rfl (Br.mk (fun _ => hK _ hw.drop) (fun h1 => Br.d (fun _ => hK _ hw.drop) (fun h2 => ⟨⟨h1, by omega⟩, hw⟩))), ?_⟩
  clear hw
  rintro _ w ⟨⟨hbm, h20⟩, hw⟩
  have hmu := hm hbm (c, sg, sp) (by simp)
  unfold Much at hmu
  dsimp only at hmu
  have hgl : c.grps.length ≤ 100000 := by omega
  have hpl : c.parts.length ≤ 100000 := by omega
  refine ⟨c.kind, c.pnr, c.flt, c.cls, c.many, c.time, c.sc, c.lab, c.rows, sg, sp, At.own (eqS hw) (by exact ⟨rfl, rfl, rfl, rfl, rfl, rfl, rfl, rfl, rfl, rfl, rfl, trivial⟩), ?_⟩
  refine (benc_spec' hf hg hgl hp hpl hw).use ?_
  clear hw
  rintro _ w ⟨t1, rfl, hw⟩
  refine ⟨t1, _, rfl, ?_⟩
  refine ⟨c.kind, c.pnr, c.flt, c.cls, c.many, c.time, c.sc, c.lab, c.rows, sg, sp, At.own (eqS hw) (by exact ⟨rfl, rfl, rfl, rfl, rfl, rfl, rfl, rfl, rfl, rfl, rfl, trivial⟩), ?_⟩
  refine (r18enc_spec' hf hg hgl hp hpl hw).use ?_
  clear hw
  rintro _ w ⟨t2, rfl, hw⟩
  refine ⟨t2, _, rfl, ?_⟩
  refine (bdec_spec hb (by omega) (hs.ro (by rw [List.length_map]; omega)) hw).use ?_
  clear hw
  rintro _ w ⟨g1, p1, rfl, hw⟩
  obtain ⟨fC, gC, pC⟩ := cmDec_ok hb
  have hr18 := fun {Hs : List HP} {w : World} (hw : Sat R Hs w) => r18dec_spec hb (by omega) hs hw
  generalize (cmDec bs).1 = C at *
  generalize (cmDec bs).2 = e at *
  refine ⟨C.kind, C.pnr, C.flt, C.cls, C.many, C.time, C.sc, C.lab, C.rows, g1, p1, e, rfl, ?_⟩
  refine new_rule hw fun y w hw => ?_
  refine store_rule hw (by kernel_rfl) rfl (by simp [Value.cells]) fun w hw => ?_
  have hw := hw.re (cmC y C g1 p1)
  refine (hr18 hw).use ?_
  clear hw
  rintro _ w ⟨g2, p2, rfl, hw⟩
  refine ⟨C.kind, C.pnr, C.flt, C.cls, C.many, C.time, C.sc, C.lab, C.rows, g2, p2, e, rfl, ?_⟩
  refine new_rule hw fun z w hw => ?_
  refine store_rule hw (by kernel_rfl) rfl (by simp [Value.cells]) fun w hw => ?_
  have hw := hw.re (cmC z C g2 p2)
  refine ⟨C.kind, C.pnr, C.flt, C.cls, C.many, C.time, C.sc, C.lab, C.rows, g1, p1, At.own (eqS hw) (by exact ⟨rfl, rfl, rfl, rfl, rfl, rfl, rfl, rfl, rfl, rfl, rfl, trivial⟩), ?_⟩
  refine ⟨C.kind, C.pnr, C.flt, C.cls, C.many, C.time, C.sc, C.lab, C.rows, g2, p2, At.own (eqS hw) (by exact ⟨rfl, rfl, rfl, rfl, rfl, rfl, rfl, rfl, rfl, rfl, rfl, trivial⟩), ?_⟩
  have hw : Sat R (Own g1 3 (intsI C.grps) :: Own p1 33 (flts C.parts) :: Own g2 3 (intsI C.grps) :: Own p2 33 (flts C.parts) :: Own t2 5 (b8 (encC c).1) :: Own t1 5 (b8 (encC c).1) :: cmC z C g2 p2 :: cmC y C g1 p1 :: cmC b2 c sg sp :: Hs) w := hw.arr
  obtain ⟨R1, e1, r1, hw⟩ := Own.leak hw
  obtain ⟨R2, e2, r2, hw⟩ := Own.leak hw
  obtain ⟨R3, e3, r3, hw⟩ := Own.leak hw
  obtain ⟨R4, e4, r4, hw⟩ := Own.leak hw
  refine (samec_spec fC (by omega) (by omega) (e4.ro (e3.ro (e2.ro (r1.ro (by rw [List.length_map]; omega))))) (e4.slR (e3.slR r2)) (e4.ro (r3.ro (by rw [List.length_map]; omega))) r4 hw).use ?_
  clear hw
  rintro _ w ⟨rfl, hw⟩
  refine ⟨_, rfl, ?_⟩
  have hl := encC_len hf
  obtain ⟨_, q1, _, hw1, _⟩ := Own.lend hw (by rw [List.length_map]; exact hl)
  obtain ⟨_, q2, _, hw2, _⟩ := Own.lend hw1 (by rw [List.length_map]; exact hl)
  refine ⟨_, fun w' e => by rw [show w' = w from e]; exact convS_ro Tryz.underlying42 Tryz.underlying5 Tryz.underlying9 hw2 q2, _, fun w' e => by rw [show w' = w from e]; exact convS_ro Tryz.underlying42 Tryz.underlying5 Tryz.underlying9 hw1 q1, ?_⟩
  refine Br.se (fun _ => Br.e (fun _ => Br.t rfl ?_) (fun h => absurd rfl h)) (fun h => absurd rfl h)
  rw [beq_self_eq_true]
  exact hK _ (e1.back (e2.back (e3.back (e4.back hw.drop.drop.drop.drop.drop))))
end Go.Proofs.YtfgbbckfikiomaaGreatDoor

/- ROW: from a reading of an argument to what the contracts ask; from a walk's end to 'Below'. No condition. -/
namespace Go.VC
set_option linter.unusedVariables false
open Go.ChangeShapes Go.WideShapes Go.ChangeAt Go.RowKit
theorem below_of {W W' : World} {Hs : List HP} (h : Sat (Cx.of W) Hs W') : Below W.heap.size W W' := by
  obtain ⟨h1, h2, h3⟩ := h.streams
  have hb : ∀ k, k < W.heap.size → W'.heap[k]? = W.heap[k]? := fun k hk => by
    have : (Cx.of W).m k = some W.heap[k] := by simp [Cx.of, hk]
    rw [h.of_ro this]; simp [hk]
  refine ⟨h1, h2, h3, ?_, hb⟩
  rcases Nat.lt_or_ge W'.heap.size W.heap.size with hl | hl
  · have := hb W'.heap.size hl
    rw [Array.getElem?_eq_none (Nat.le_refl _)] at this
    simp [hl] at this
  · exact hl
theorem block_of_cell {w : World} {a : Addr} {v : Value} (h : w.cell? a = some v) : a.spot = none ∧ ∃ l T fr, w.heap[a.block]? = some (.cells l T fr) ∧ l[a.off]? = some v := by
  unfold World.cell? at h
  split at h
  · rename_i c T fr hb
    split at h
    · cases h
    · rename_i hs
      exact ⟨by simpa using hs, c, T, fr, hb, h⟩
  · cases h
section
variable {H : Type} {enc : TypeId × Value → H} {P : Program} {W : World} {base : Nat} {spare : Nat → Bool} {held : Bool}
end
end Go.VC

/- ROW, part 3: arguments of any plain type (integers, bools, floats, strings, slices, structs, arrays of such), read as trees. No condition. -/
namespace Go.VC
set_option linter.unusedVariables false
open Go.ChangeShapes Go.WideShapes Go.ChangeAt Go.RowKit
inductive Tr where
  | int (k : IntKind) (n : Int) | bool (b : Bool) | flt (n : Nat) | str (s : ByteArray) | sl (s : Sl) (xs : List Tr) | st (xs : List Tr)
mutual
def Tr.cells : Tr → List Value
  | .int k n => [.int k n]
  | .bool b => [.bool b]
  | .flt n => [.float .f64 n]
  | .str s => [.string s]
  | .sl s _ => [.slice s.a s.len s.cap]
  | .st xs => Tr.cellsL xs
def Tr.cellsL : List Tr → List Value
  | [] => []
  | x :: xs => x.cells ++ Tr.cellsL xs
end
inductive U where
  | int (k : IntKind) | bool | flt | str | sl (u : U) | st (us : List U)
mutual
def U.size : U → Nat
  | .st us => U.sizeL us
  | _ => 1
def U.sizeL : List U → Nat
  | [] => 0
  | u :: us => u.size + U.sizeL us
end
mutual
def Tr.Ok (R : Cx) : U → Tr → Prop
  | .int k, .int k' n => k' = k ∧ (Lit.int k n).wf = true
  | .bool, .bool _ => True
  | .flt, .flt n => (Lit.float .f64 n).wf = true
  | .str, .str s => s.size ≤ maxLen
  | .sl u, .sl s xs => (RoN u.size R s (xs.map Tr.cells) ∧ s.len ≤ s.cap) ∧ xs.length ≤ maxLen ∧ Tr.OkA R u xs
  | .st us, .st xs => Tr.OkL R us xs
  | _, _ => False
def Tr.OkA (R : Cx) (u : U) : List Tr → Prop
  | [] => True
  | x :: xs => Tr.Ok R u x ∧ Tr.OkA R u xs
def Tr.OkL (R : Cx) : List U → List Tr → Prop
  | [], [] => True
  | u :: us, x :: xs => Tr.Ok R u x ∧ Tr.OkL R us xs
  | _, _ => False
end
theorem Tr.okA {R : Cx} {u : U} : ∀ {xs : List Tr}, Tr.OkA R u xs → ∀ x ∈ xs, Tr.Ok R u x
  | [], _, x, hx => by cases hx
  | y :: ys, h, x, hx => by
    unfold Tr.OkA at h
    rcases List.mem_cons.1 hx with rfl | hx
    · exact h.1
    · exact Tr.okA h.2 x hx
theorem Tr.okA_mk {R : Cx} {u : U} : ∀ {xs : List Tr}, (∀ x ∈ xs, Tr.Ok R u x) → Tr.OkA R u xs
  | [], _ => by unfold Tr.OkA; trivial
  | y :: ys, h => by
    unfold Tr.OkA
    exact ⟨h y List.mem_cons_self, Tr.okA_mk fun x hx => h x (List.mem_cons_of_mem _ hx)⟩
def fieldsU (P : Program) (f : TypeId → Option U) : Nat → List Field → Option (List U)
  | _, [] => some []
  | off, x :: xs => match Nat.beq x.offset off with
    | false => none
    | true => match f x.type with
      | none => none
      | some u => match Nat.beq (P.cellsOf x.type) u.size with
        | false => none
        | true => match fieldsU P f (off + u.size) xs with
          | none => none
          | some us => some (u :: us)
def uOf (P : Program) : Nat → TypeId → Option U
  | 0, _ => none
  | d + 1, t => match P.underlying t with
    | some (.int k) => some (.int k)
    | some .bool => some .bool
    | some (.float .f64) => some .flt
    | some .string => some .str
    | some (.slice e) => match uOf P d e with
      | some u => (match Nat.beq (P.cellsOf e) u.size && Nat.blt 0 u.size with | true => some (.sl u) | false => none)
      | none => none
    | some (.struct fs) => match fieldsU P (uOf P d) 0 fs.toList with
      | some us => (match Nat.beq (P.cellsOf t) (U.sizeL us) with | true => some (.st us) | false => none)
      | none => none
    | some (.array n e) => match uOf P d e with
      | some u => (match Nat.beq (P.cellsOf e) u.size && Nat.beq (P.cellsOf t) (n * u.size) with | true => some (.st (List.replicate n u)) | false => none)
      | none => none
    | _ => none
section
variable {H : Type} {enc : TypeId × Value → H} {P : Program} {W : World} {base : Nat} {spare : Nat → Bool} {held : Bool}
def IsTr (R : Cx) (u : U) (cs : List Value) : Prop := ∃ x : Tr, x.cells = cs ∧ x.Ok R u
theorem cells?_cell {w : World} {base : Nat} {a : Addr} {n : Nat} {cs : List Value} (h : w.cells? base a n = some cs) : cs.length = n ∧ ∀ i, i < n → w.cell? (a.add i) = cs[i]? := by
  unfold World.cells? at h
  split at h
  · refine ⟨by have := mapM_some_length h; simpa using this, fun i hi => mapM_some_get h i i (by simp [hi])⟩
  · cases h
theorem add_add (a : Addr) (i j : Nat) (hs : a.spot = none) : (a.add i).add j = ⟨a.block, a.off + (i + j), none⟩ := by
  obtain ⟨b, o, s⟩ := a
  simp only at hs
  subst hs
  rw [add_off, add_off, Nat.add_assoc]
theorem fields_read {d : Nat} (ih : ∀ {fuel : Nat} {t : TypeId} {cs : List Value} {y : DataW H × List MemPlace} {u : U}, uOf P d t = some u → DataW.trod enc P W base spare held fuel t cs = some y → IsTr (Cx.of W) u cs) {n : Nat} {cs : List Value} {xs : List (DataW H × List MemPlace)} :
    ∀ (fs : List Field) (off : Nat) (us : List U), fieldsU P (uOf P d) off fs = some us → (∀ (i : Nat) (f : Field), fs[i]? = some f → ∃ y, DataW.trod enc P W base spare held n f.type ((cs.drop f.offset).take (P.cellsOf f.type)) = some y) →
      off + U.sizeL us ≤ cs.length → ∃ ts : List Tr, Tr.cellsL ts = (cs.drop off).take (U.sizeL us) ∧ Tr.OkL (Cx.of W) us ts
  | [], off, us, h, _, _ => by
    simp only [fieldsU, Option.some.injEq] at h
    subst h
    exact ⟨[], by simp [Tr.cellsL, U.sizeL], by unfold Tr.OkL; trivial⟩
  | f :: fs, off, us, h, hf, hl => by
    unfold fieldsU at h
    split at h
    · cases h
    rename_i hoff
    have hoff := Nat.eq_of_beq_eq_true hoff
    split at h
    · cases h
    rename_i u hu
    split at h
    · cases h
    rename_i hc
    have hc := Nat.eq_of_beq_eq_true hc
    split at h
    · cases h
    rename_i us' hus
    cases h
    simp only [U.sizeL] at hl ⊢
    obtain ⟨y, hy⟩ := hf 0 f rfl
    obtain ⟨x, hx, hxo⟩ := ih hu hy
    obtain ⟨ts, hts, htso⟩ := fields_read ih (n := n) (xs := xs) fs (off + u.size) us' hus (fun i g hg => hf (i + 1) g (by simpa using hg)) (by omega)
    refine ⟨x :: ts, ?_, by unfold Tr.OkL; exact ⟨hxo, htso⟩⟩
    simp only [Tr.cellsL]
    rw [hx, hts, hoff, hc, List.take_add, List.drop_drop]
theorem reps_read {u : U} {n s : Nat} : ∀ {m : Nat} {cs : List Value}, cs.length = m * s → u.size = s → (∀ i, i < m → IsTr (Cx.of W) u ((cs.drop (i * s)).take s)) → ∃ ts : List Tr, Tr.cellsL ts = cs ∧ Tr.OkL (Cx.of W) (List.replicate m u) ts
  | 0, cs, hl, _, _ => by
    have : cs = [] := List.length_eq_zero_iff.1 (by simpa using hl)
    subst this
    exact ⟨[], rfl, by unfold Tr.OkL; trivial⟩
  | m + 1, cs, hl, hs, h => by
    obtain ⟨x, hx, hxo⟩ := h 0 (by omega)
    obtain ⟨ts, hts, htso⟩ := reps_read (n := n) (m := m) (cs := cs.drop s) (by rw [List.length_drop, hl, Nat.add_mul]; omega) hs (fun i hi => by
      have := h (i + 1) (by omega)
      rw [Nat.add_mul, Nat.one_mul, Nat.add_comm, ← List.drop_drop] at this
      exact this)
    refine ⟨x :: ts, ?_, by rw [List.replicate_succ]; unfold Tr.OkL; exact ⟨hxo, htso⟩⟩
    simp only [Tr.cellsL]
    rw [hx, hts]
    simp
theorem choose_list {α β : Type} {p : Nat → α → Prop} : ∀ {n : Nat}, (∀ i, i < n → ∃ x : α, p i x) → ∃ xs : List α, xs.length = n ∧ ∀ i (hi : i < xs.length), p i xs[i]
  | 0, _ => ⟨[], rfl, fun i hi => by simp at hi⟩
  | n + 1, h => by
    obtain ⟨xs, hl, hp⟩ := choose_list (β := β) (n := n) fun i hi => h i (by omega)
    obtain ⟨x, hx⟩ := h n (by omega)
    refine ⟨xs ++ [x], by simp [hl], fun i hi => ?_⟩
    by_cases h2 : i < xs.length
    · rw [List.getElem_append_left h2]; exact hp i h2
    · have : i = n := by simp at hi; omega
      subst this
      rw [List.getElem_append_right (by omega)]
      simpa using hx
theorem trod_f64 {fuel : Nat} {t : TypeId} {cs : List Value} {x : DataW H × List MemPlace} (ht : P.underlying t = some (.float .f64)) (h : DataW.trod enc P W base spare held fuel t cs = some x) : ∃ n, cs = [.float .f64 n] ∧ (Lit.float .f64 n).wf = true := by
  cases fuel with
  | zero => simp [DataW.trod] at h
  | succ n =>
    unfold DataW.trod at h
    rw [ht] at h
    split at h <;> simp_all
theorem tr_read : ∀ {d fuel : Nat} {t : TypeId} {cs : List Value} {y : DataW H × List MemPlace} {u : U}, uOf P d t = some u → DataW.trod enc P W base spare held fuel t cs = some y → IsTr (Cx.of W) u cs
  | 0, _, _, _, _, _, h, _ => by cases h
  | d + 1, fuel, t, cs, y, u, h, hy => by
    unfold uOf at h
    split at h
    · rename_i k ht
      cases h
      obtain ⟨n, rfl, _, hw⟩ := DataW.trod_int ht hy
      exact ⟨.int k n, rfl, rfl, hw⟩
    · rename_i ht
      cases h
      obtain ⟨b, rfl, _⟩ := DataW.trod_bool ht hy
      exact ⟨.bool b, rfl, by unfold Tr.Ok; trivial⟩
    · rename_i ht
      cases h
      obtain ⟨n, rfl, hn⟩ := trod_f64 ht hy
      exact ⟨.flt n, rfl, by unfold Tr.Ok; exact hn⟩
    · rename_i ht
      cases h
      obtain ⟨s, rfl, _, hs⟩ := DataW.trod_string ht hy
      exact ⟨.str s, rfl, hs⟩
    · rename_i e ht
      split at h
      case h_2 => cases h
      rename_i ue hue
      split at h
      case h_2 => cases h
      rename_i hc
      simp only [Bool.and_eq_true] at hc
      have hpos : 0 < ue.size := Nat.blt_eq.mp hc.2
      have hc := Nat.eq_of_beq_eq_true hc.1
      cases h
      rcases DataW.trod_slice ht hy with ⟨rfl, _⟩ | ⟨a, len, cap, elems, rest, n, _, rfl, _, _, hlc, hcm, hel, helem, _, _⟩
      · refine ⟨.sl ⟨none, 0, 0⟩ [], rfl, ?_⟩
        unfold Tr.Ok
        exact ⟨⟨⟨Wid.nil, rfl, fun h => absurd rfl h⟩, Nat.le_refl _⟩, Nat.zero_le _, by unfold Tr.OkA; trivial⟩
      · obtain ⟨xs, hxl, hxs⟩ := choose_list (β := Unit) (p := fun i (x : Tr) => W.cells? base (a.add (i * P.cellsOf e)) (P.cellsOf e) = some x.cells ∧ x.Ok (Cx.of W) ue) (n := len) fun i hi => by
          have h1 := helem i hi
          rw [List.getElem?_eq_getElem (by omega)] at h1
          obtain ⟨ce, hce, hte⟩ := Option.bind_eq_some_iff.1 h1
          obtain ⟨x, rfl, hx⟩ := tr_read hue hte
          exact ⟨x, hce, hx⟩
        refine ⟨.sl ⟨some a, len, cap⟩ xs, rfl, ?_⟩
        unfold Tr.Ok
        have hwid : Wid ue.size (xs.map Tr.cells) := fun r hr => by
          obtain ⟨x, hx, rfl⟩ := List.mem_map.1 hr
          obtain ⟨i, hi, rfl⟩ := List.getElem_of_mem hx
          have := (cells?_cell (hxs i hi).1).1
          rw [this, hc]
        refine ⟨⟨⟨hwid, by simp [hxl], fun hne => ?_⟩, hlc⟩, by omega, Tr.okA_mk fun x hx => by obtain ⟨i, hi, rfl⟩ := List.getElem_of_mem hx; exact (hxs i hi).2⟩
        -- the block
        have h0 : 0 < xs.length := by
          have : 0 < (xs.map Tr.cells).length := List.length_pos_iff.2 hne
          simpa using this
        have hcell : ∀ i (hi : i < xs.length) j, j < ue.size → W.cell? ((a.add (i * ue.size)).add j) = (xs[i].cells)[j]? := fun i hi j hj => by
          have := (cells?_cell (hxs i hi).1).2 j (by rw [hc]; exact hj)
          rw [hc] at this; exact this
        have hxl0 : ∀ i (hi : i < xs.length), (xs[i].cells).length = ue.size := fun i hi => by rw [(cells?_cell (hxs i hi).1).1, hc]
        have hc0 := hcell 0 h0 0 (by omega)
        rw [List.getElem?_eq_getElem (by rw [hxl0 0 h0]; omega)] at hc0
        have hz0 : (a.add (0 * ue.size)).add 0 = a := by rw [Nat.zero_mul]; simp [Addr.add]
        rw [hz0] at hc0
        obtain ⟨hs, l, T, fr, hl, _⟩ := block_of_cell hc0
        refine ⟨a.block, a.off, l, T, fr, by cases a; simp_all, hl, fun i v hv => ?_⟩
        -- which row, which place
        have hlen := hwid.len
        rw [List.length_map] at hlen
        have hi : i < (xs.map Tr.cells).flatten.length := (List.getElem?_eq_some_iff.1 hv).1
        have hq : i / ue.size < xs.length := by
          rw [hlen] at hi; exact Nat.div_lt_of_lt_mul (by rwa [Nat.mul_comm])
        have hm : i % ue.size < ue.size := Nat.mod_lt _ (by omega)
        have hcc := hcell (i / ue.size) hq (i % ue.size) hm
        rw [add_add a _ _ hs, show i / ue.size * ue.size + i % ue.size = i by rw [Nat.mul_comm]; exact Nat.div_add_mod _ _] at hcc
        have e1 : (xs.map Tr.cells).flatten[i]? = (xs[i / ue.size].cells)[i % ue.size]? := by
          have h1 : i = i / ue.size * ue.size + i % ue.size := by rw [Nat.mul_comm]; exact (Nat.div_add_mod _ _).symm
          conv => lhs; rw [h1]
          rw [← List.getElem?_drop, hwid.drop_flat, List.drop_eq_getElem_cons (by simpa using hq), List.flatten_cons, List.getElem?_append_left (by rw [List.getElem_map, hxl0 _ hq]; exact hm), List.getElem_map]
        rw [← e1, hv] at hcc
        simp only [World.cell?, hl, Option.isSome_none, Bool.false_eq_true, if_false] at hcc
        exact hcc
    · rename_i fs ht
      split at h
      case h_2 => cases h
      rename_i us hus
      split at h
      case h_2 => cases h
      rename_i hc
      have hc := Nat.eq_of_beq_eq_true hc
      cases h
      obtain ⟨xs, n, _, _, hl, hxl, hf⟩ := DataW.trod_struct ht hy
      obtain ⟨ts, hts, hto⟩ := fields_read (d := d) (fun h h2 => tr_read h h2) (n := n) (cs := cs) (xs := xs) fs.toList 0 us hus (fun i f hfi => by
        have hfi2 : fs[i]? = some f := by simpa using hfi
        have hlt : i < xs.length := by rw [hxl]; exact (Array.getElem?_eq_some_iff.1 hfi2).1
        exact ⟨xs[i], by rw [hf i f hfi2]; exact List.getElem?_eq_getElem hlt⟩) (by omega)
      refine ⟨.st ts, ?_, by unfold Tr.Ok; exact hto⟩
      unfold Tr.cells
      rw [hts, List.drop_zero, List.take_of_length_le (by omega)]
    · rename_i m e ht
      split at h
      case h_2 => cases h
      rename_i ue hue
      split at h
      case h_2 => cases h
      rename_i hc
      simp only [Bool.and_eq_true] at hc
      have hc1 := Nat.eq_of_beq_eq_true hc.1
      have hc2 := Nat.eq_of_beq_eq_true hc.2
      cases h
      obtain ⟨xs, n, _, _, hl, hxl, hf⟩ := DataW.trod_array ht hy
      obtain ⟨ts, hts, hto⟩ := reps_read (n := n) (u := ue) (s := ue.size) (m := m) (cs := cs) (by rw [hl, hc2]) rfl (fun i hi => by
        have := hf i hi
        rw [hc1, List.getElem?_eq_getElem (by omega)] at this
        exact tr_read hue this)
      exact ⟨.st ts, by unfold Tr.cells; exact hts, by unfold Tr.Ok; exact hto⟩
    · cases h
theorem tr_arg {d : Nat} {t : TypeId} {v : Value} {dt : DataW H} {p : List MemPlace} {u : U} (hu : uOf P d t = some u) (h : DataW.Trod enc P W base spare held t v dt p) : IsTr (Cx.of W) u v.cells.toList := by
  obtain ⟨fuel, hf⟩ := h
  exact tr_read hu hf
theorem sl_form {α : Type} {R : Cx} {u : U} {s : Sl} {xs : List Tr} (g : α → List Value) (Q : α → Prop) (ho : Tr.Ok R (.sl u) (.sl s xs)) (h : ∀ x : Tr, x.Ok R u → ∃ e : α, x.cells = g e ∧ Q e) :
    ∃ es : List α, RoN u.size R s (es.map g) ∧ es.length ≤ maxLen ∧ ∀ e ∈ es, Q e := by
  unfold Tr.Ok at ho
  obtain ⟨⟨h1, _⟩, h2, h3⟩ := ho
  have key : ∀ l : List Tr, (∀ x ∈ l, x.Ok R u) → ∃ es : List α, l.map Tr.cells = es.map g ∧ es.length = l.length ∧ ∀ e ∈ es, Q e := fun l => by
    induction l with
    | nil => exact fun _ => ⟨[], rfl, rfl, fun _ h => by cases h⟩
    | cons x l ih =>
      intro hl
      obtain ⟨es, h1, h2, h3⟩ := ih fun y hy => hl y (List.mem_cons_of_mem _ hy)
      obtain ⟨e, he, hq⟩ := h x (hl x List.mem_cons_self)
      exact ⟨e :: es, by rw [List.map_cons, List.map_cons, he, h1], by simp [h2], fun y hy => by
        rcases List.mem_cons.1 hy with rfl | hy
        · exact hq
        · exact h3 y hy⟩
  obtain ⟨es, e1, e2, e3⟩ := key xs (Tr.okA h3)
  rw [e1] at h1
  exact ⟨es, h1, by omega, e3⟩
theorem sl_cap {R : Cx} {u : U} {s : Sl} {xs : List Tr} (ho : Tr.Ok R (.sl u) (.sl s xs)) : s.len ≤ s.cap := by
  unfold Tr.Ok at ho
  exact ho.1.2
theorem RoN.one {R : Cx} {s : Sl} {vs : List Value} (h : RoN 1 R s (vs.map fun v => [v])) (hb : vs.length ≤ maxLen) : Ro R s vs := by
  refine ⟨by have := h.len; simpa using this, by unfold maxLen at hb; omega, fun hne => ?_⟩
  obtain ⟨b, off, l, T, fr, h1, h2, h3⟩ := h.mem (by simpa using hne)
  refine ⟨b, off, l, T, fr, h1, h2, fun i v hv => h3 i v ?_⟩
  have : (vs.map fun v => [v]).flatten = vs := by
    clear h3 h hb hne hv
    induction vs with
    | nil => rfl
    | cons v vs ih => simp [ih]
  rw [this]; exact hv
theorem ints_form {R : Cx} {k : IntKind} {s : Sl} {xs : List Tr} (ho : Tr.Ok R (.sl (.int k)) (.sl s xs)) : ∃ zs : List Int, Ro R s (zs.map (Value.int k)) ∧ zs.length ≤ maxLen ∧ ∀ z ∈ zs, (Lit.int k z).wf = true := by
  obtain ⟨zs, h1, h2, h3⟩ := sl_form (fun z : Int => [Value.int k z]) (fun z => (Lit.int k z).wf = true) ho fun x hx => by
    cases x <;> simp only [Tr.Ok] at hx
    rename_i k' z
    obtain ⟨rfl, hw⟩ := hx
    exact ⟨z, rfl, hw⟩
  refine ⟨zs, RoN.one ?_ (by simpa using h2), h2, h3⟩
  rw [List.map_map]
  exact h1
theorem flts_form2 {R : Cx} {s : Sl} {xs : List Tr} (ho : Tr.Ok R (.sl .flt) (.sl s xs)) : ∃ zs : List Nat, Ro R s (zs.map (Value.float .f64)) ∧ zs.length ≤ maxLen ∧ s.len ≤ s.cap ∧ ∀ z ∈ zs, z < 18446744073709551616 := by
  obtain ⟨zs, h1, h2, h3⟩ := sl_form (fun z : Nat => [Value.float .f64 z]) (fun z => z < 18446744073709551616) ho fun x hx => by
    cases x <;> simp only [Tr.Ok] at hx
    rename_i z
    exact ⟨z, rfl, of_decide_eq_true hx⟩
  refine ⟨zs, RoN.one ?_ (by simpa using h2), h2, sl_cap ho, h3⟩
  rw [List.map_map]
  exact h1
end
end Go.VC
/- The arguments of chapter 18's laws. No condition. -/
namespace Go.Proofs.YtfgbbckfikiomaaGreatDoor
set_option linter.unusedVariables false
open Go Go.VC Go.ChangeShapes Go.WideShapes Go.ChangeAt Go.RowKit
variable {H : Type} {enc : TypeId × Value → H} {W : World} {r : Reach} {b0 : Nat} {v : Value} {d : DataW H} {p : List MemPlace}
set_option maxRecDepth 100000 in
theorem bytes18_in (hv : Value.okWide Tryz.prog W r b0 42 v) (h : DataW.Trod enc Tryz.prog W 0 (fun _ => true) true 42 v d p) :
    ∃ (s : Sl) (bs : List Int), v = .slice s.a s.len s.cap ∧ SlR (Cx.of W).m s (b8 bs) ∧ Bytes bs := by
  obtain ⟨a, n, c, rfl⟩ := okWide_slice Tryz.underlying42 hv
  obtain ⟨x, hx, ho⟩ := tr_arg (d := 6) (u := .sl (.int .u8)) (by kernel_rfl) h
  cases x <;> simp only [Tr.Ok] at ho
  rename_i s xs
  have ho : Tr.Ok (Cx.of W) (.sl (.int .u8)) (.sl s xs) := by unfold Tr.Ok; exact ho
  obtain ⟨bs, h1, h2, h3⟩ := ints_form ho
  have e : [Value.slice s.a s.len s.cap] = [Value.slice a n c] := by simpa [Tr.cells, Value.cells] using hx
  have e := (List.cons.inj e).1
  simp only [Value.slice.injEq] at e
  obtain ⟨rfl, rfl, rfl⟩ := e
  refine ⟨s, bs, rfl, ⟨h1.len, sl_cap ho, h1.mem⟩, fun z hz => ?_⟩
  have := h3 z hz
  simp [Lit.wf, IntKind.min, IntKind.max, IntKind.bits, IntKind.signed] at this
  omega
abbrev cmdU : U := .st [.int .i64, .str, .int .i64, .int .i64, .int .i64, .int .i64, .flt, .str, .st [.int .i64, .sl (.int .i64)], .sl .flt]
theorem cmd_form {R : Cx} {x : Tr} (ho : x.Ok R cmdU) : ∃ (c : Cm) (sg sp : Sl), x.cells = cmV c sg sp ∧ FltC c ∧ RoI R sg c.grps ∧ SlR R.m sp (flts c.parts) := by
  cases x <;> simp only [Tr.Ok] at ho
  rename_i xs
  match xs, ho with
  | [x0, x1, x2, x3, x4, x5, x6, x7, x8, x9], ho =>
    simp only [Tr.OkL, and_true] at ho
    obtain ⟨h0, h1, h2, h3, h4, h5, h6, h7, h8, h9⟩ := ho
    cases x0 <;> simp only [Tr.Ok] at h0
    rename_i k0 n0
    obtain ⟨rfl, _⟩ := h0
    cases x1 <;> simp only [Tr.Ok] at h1
    rename_i n1
    cases x2 <;> simp only [Tr.Ok] at h2
    rename_i k2 n2
    obtain ⟨rfl, _⟩ := h2
    cases x3 <;> simp only [Tr.Ok] at h3
    rename_i k3 n3
    obtain ⟨rfl, _⟩ := h3
    cases x4 <;> simp only [Tr.Ok] at h4
    rename_i k4 n4
    obtain ⟨rfl, _⟩ := h4
    cases x5 <;> simp only [Tr.Ok] at h5
    rename_i k5 n5
    obtain ⟨rfl, _⟩ := h5
    cases x6 <;> simp only [Tr.Ok] at h6
    rename_i n6
    cases x7 <;> simp only [Tr.Ok] at h7
    rename_i n7
    cases x9 <;> simp only [Tr.Ok] at h9
    rename_i sp px
    have h9 : Tr.Ok R (.sl .flt) (.sl sp px) := by unfold Tr.Ok; exact h9
    cases x8 <;> simp only [Tr.Ok] at h8
    rename_i ys
    match ys, h8 with
    | [y0, y1], h8 =>
      simp only [Tr.OkL, and_true] at h8
      obtain ⟨g0, g1⟩ := h8
      cases y0 <;> simp only [Tr.Ok] at g0
      rename_i k8 rows
      obtain ⟨rfl, _⟩ := g0
      cases y1 <;> simp only [Tr.Ok] at g1
      rename_i sg gx
      have g1 : Tr.Ok R (.sl (.int .i64)) (.sl sg gx) := by unfold Tr.Ok; exact g1
      obtain ⟨grps, a1, _, _⟩ := ints_form g1
      obtain ⟨parts, b1, _, b3, b4⟩ := flts_form2 h9
      exact ⟨⟨n0, n1, n2, n3, n4, n5, n6, n7, rows, grps, parts⟩, sg, sp, rfl, ⟨of_decide_eq_true h6, b4⟩, a1, ⟨b1.len, b3, b1.mem⟩⟩
set_option maxRecDepth 100000 in
theorem cmd_in (hv : Value.okWide Tryz.prog W r b0 38 v) (h : DataW.Trod enc Tryz.prog W 0 (fun _ => true) true 38 v d p) :
    ∃ (c : Cm) (sg sp : Sl), v = .agg (cmV c sg sp).toArray ∧ FltC c ∧ RoI (Cx.of W) sg c.grps ∧ SlR (Cx.of W).m sp (flts c.parts) := by
  obtain ⟨x, hx, ho⟩ := tr_arg (d := 6) (u := cmdU) (by kernel_rfl) h
  obtain ⟨c, sg, sp, e, h1, h2, h3⟩ := cmd_form ho
  simp only [Value.okWide, Tryz.underlying38 ] at hv
  obtain ⟨cs, rfl, _⟩ := hv
  refine ⟨c, sg, sp, ?_, h1, h2, h3⟩
  have : cs.toList = cmV c sg sp := by rw [show cs.toList = (Value.agg cs).cells.toList from rfl, ← hx, e]
  congr 1
  exact Array.ext' this
end Go.Proofs.YtfgbbckfikiomaaGreatDoor
