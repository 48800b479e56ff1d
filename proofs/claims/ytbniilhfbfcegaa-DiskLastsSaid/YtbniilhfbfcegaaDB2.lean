/- The formulas of functions of this seat's translation, printed by a program of mine off the translation; each is proved equal to 'fnF' of the function's body, so it is enough for the call. No condition. -/
import Derived.Test.YtbniilhfbfcegaaDB1
namespace Go.Proofs.Ytbniilhfbfcegaa
open Go Go.VC
set_option linter.unusedVariables false
/-- jetway/jetwaylaw04.DiskArms. -/
def B5 (n0 : Int) (name1 : ByteArray) (K : Value → World → Prop) (w : World) : Prop :=
  Calls Try.prog 10 #[.int .i64 10000] w fun e w_1 =>
  ∃ t15 : Option Addr, ∃ t15_1 : Int, (e = .returned (.tuple #[.pointer t15, .int .i64 t15_1])) ∧
  ∃ (J : World → Prop), (Br (t15_1 != 0)
     (K (.bool false) w_1)
     (Br t15.isNone
       (K (.bool false) w_1)
       (J  w_1))) ∧
  ∀ (z : Env)  (w_2 : World), J  w_2 →
  New (.cells #[.int .u8 1] 5 (0, 0)) (fun b_t26 w_3 =>
  Calls Try.prog 12 #[.pointer t15, .string name1, .slice ((some ⟨b_t26, 0, none⟩)) 1 1] w_3 fun e_1 w_4 =>
  ∃ t27 : Int, (e_1 = .returned (.int .i64 t27)) ∧
  Calls Try.prog 15 #[.pointer t15, .string name1] w_4 fun e_2 w_5 =>
  ∃ t30 : Int, (e_2 = .returned (.int .i64 t30)) ∧
  ∃ (J_1 : World → Prop), (Br (t27 != 0)
     (Br (t27 != 0)
       (K (.bool true) w_5)
       (Br (decide (n0 < 0))
         (K (.bool true) w_5)
         (K (.bool (decide (n0 > 100))) w_5)))
     (Br (t30 != 0)
       (Br (t27 != 0)
         (K (.bool true) w_5)
         (Br (decide (n0 < 0))
           (K (.bool true) w_5)
           (K (.bool (decide (n0 > 100))) w_5)))
       (Br (decide (n0 < 0))
         (Br (t27 != 0)
           (K (.bool true) w_5)
           (Br (decide (n0 < 0))
             (K (.bool true) w_5)
             (K (.bool (decide (n0 > 100))) w_5)))
         (Br (decide (n0 > 100))
           (Br (t27 != 0)
             (K (.bool true) w_5)
             (Br (decide (n0 < 0))
               (K (.bool true) w_5)
               (K (.bool (decide (n0 > 100))) w_5)))
           (J_1  w_5))))) ∧
  ∀ (z_1 : Env)  (w_6 : World), J_1  w_6 →
  Calls Try.prog 16 #[.pointer t15, .int .i64 n0] w_6 fun e_3 w_7 =>
  ∃ t57 : Int, (e_3 = .returned (.int .i64 t57)) ∧
  ∃ (I : Int → World → Prop) (μ : Int → World → Nat), (I 0 w_7) ∧ ∀ (z_2 : Env) (i9 : Int) (w_8 : World), I i9 w_8 →
  Br (decide (i9 < IntKind.i64.wrap (n0 + 3)))
   (New (.cells #[.int .u8 2] 5 (0, 0)) (fun b_t66 w_9 =>
    Calls Try.prog 12 #[.pointer t15, .string name1, .slice ((some ⟨b_t66, 0, none⟩)) 1 1] w_9 fun e_4 w_10 =>
    ∃ t67 : Int, (e_4 = .returned (.int .i64 t67)) ∧
    Br (!(t67 == 5) == decide (i9 ≥ n0))
     (K (.bool false) w_10)
     (Calls Try.prog 17 #[.pointer t15] w_10 fun e_5 w_11 =>
      ∃ t76 : Bool, (e_5 = .returned (.bool t76)) ∧
      Br (!t76 == decide (i9 ≥ n0))
       (K (.bool false) w_11)
       ((I (IntKind.i64.wrap (i9 + 1)) w_11) ∧ μ (IntKind.i64.wrap (i9 + 1)) w_11 < μ i9 w_8))) w_8)
   (Calls Try.prog 18 #[.pointer t15, .string name1] w_8 fun e_6 w_12 =>
    ∃ t85 : Sl, ∃ t85_1 : Int, (e_6 = .returned (.tuple #[.slice t85.a t85.len t85.cap, .int .i64 t85_1])) ∧
    Calls Try.prog 19 #[.pointer t15, .slice none 0 0] w_12 fun e_7 w_13 =>
    (e_7 = .returned (.tuple #[])) ∧
    Calls Try.prog 18 #[.pointer t15, .string name1] w_13 fun e_8 w_14 =>
    ∃ t93 : Sl, ∃ t93_1 : Int, (e_8 = .returned (.tuple #[.slice t93.a t93.len t93.cap, .int .i64 t93_1])) ∧
    Br (t85_1 == 5)
     (Br (t93_1 == 0)
       (∃ t104 : ByteArray, (∀ w', (fun w' => w' = w_14) w' → ((convert 31 9 (.slice t93.a t93.len t93.cap))).run Try.prog w' = .ok (.string t104) w') ∧
        Br (t104.toList == (ByteArray.mk #[1]).toList)
         (Calls Try.prog 17 #[.pointer t15] w_14 fun e_9 w_15 =>
          ∃ t109 : Bool, (e_9 = .returned (.bool t109)) ∧
          K (.bool (!t109)) w_15)
         (K (.bool false) w_14))
       (K (.bool false) w_14))
     (K (.bool false) w_14))) w_2

def sk5 : Sk := (.seq .leaf (.seq .leaf (.cut [] [] [4, 18, 19, 20, 21, 22, 23] .leaf (.seq .leaf (.seq .leaf (.cut [] [] [4, 31, 32, 33, 34, 35, 36, 37, 38, 39, 40, 41, 42, 43, 44, 45, 46, 47, 48, 49, 50, 51, 52, 53, 54] .leaf (.seq .leaf (.seq (.seq .leaf (.block (.loop [9] [(.int .i64)] [4, 7, 9, 58, 59, 60, 61, 62, 63, 64, 65, 66, 67, 68, 69, 70, 71, 72, 73, 74, 75, 76, 77, 78, 79, 80, 81] .leaf))) .leaf))))))))
theorem ok5 : fnOk Try.prog Try.f5.ntmps Try.f5 sk5 = true := by kernel_rfl
theorem eq5 (n0 : Int) (name1 : ByteArray) (K : Value → World → Prop) (w : World) : fnF Try.prog cl Try.f5 sk5 [.int .i64 n0, .string name1] K w = B5 n0 name1 K w := by kernel_rfl
theorem call5 (n0 : Int) (name1 : ByteArray) (K : Value → World → Prop) (w : World) (h : B5 n0 name1 K w) : Gets Try.prog 5 #[.int .i64 n0, .string name1] w K :=
  calls_of (sk := sk5) cl_ok mixed Try.func5 ok5 (args := [.int .i64 n0, .string name1]) (Nat.le_of_ble_eq_true (by kernel_rfl)) (by rw [eq5]; exact h)

/-- jetway/jetwaylaw04.DiskLasts. -/
def B6 (l0 : Sl) (x1_0 : Int) (x1_1 : ByteArray) (x1_2 : ByteArray) (x1_3 : Int) (x1_4 : Sl) (x1_5 : Sl) (K : Value → World → Prop) (w : World) : Prop :=
  New (.cells #[.int .i64 x1_0, .string x1_1, .string x1_2, .int .i64 x1_3, .slice x1_4.a x1_4.len x1_4.cap, .slice x1_5.a x1_5.len x1_5.cap] 43 (0, 0)) (fun b_x3 w_1 =>
  ∃ t24 : ByteArray, (At (fun w' => w' = w_1) ⟨b_x3, 0 + 1, none⟩ [.string t24]) ∧
  ∃ t26 : Sl, (At (fun w' => w' = w_1) ⟨b_x3, 0 + 4, none⟩ [.slice t26.a t26.len t26.cap]) ∧
  ∃ t28 : Sl, (At (fun w' => w' = w_1) ⟨b_x3, 0 + 5, none⟩ [.slice t28.a t28.len t28.cap]) ∧
  Calls Try.prog 10 #[.int .i64 100000] w_1 fun e w_2 =>
  ∃ t30 : Option Addr, ∃ t30_1 : Int, (e = .returned (.tuple #[.pointer t30, .int .i64 t30_1])) ∧
  Calls Try.prog 20 #[.slice l0.a l0.len l0.cap] w_2 fun e_1 w_3 =>
  ∃ t34 : Bool, (e_1 = .returned (.bool t34)) ∧
  ∃ (J : World → Prop), (Br (t30_1 != 0)
     (K (.bool false) w_3)
     (Br t30.isNone
       (K (.bool false) w_3)
       (J  w_3))) ∧
  ∀ (z : Env)  (w_4 : World), J  w_4 →
  ∃ (J_1 : World → Prop), (Br t34
     (K (.bool true) w_4)
     (Br (decide ((↑t26.len : Int) > 10000))
       (K (.bool true) w_4)
       (J_1  w_4))) ∧
  ∀ (z_1 : Env)  (w_5 : World), J_1  w_5 →
  Calls Try.prog 11 #[.int .i64 100000] w_5 fun e_2 w_6 =>
  ∃ t48 : Option Addr, ∃ t48_1 : Int, (e_2 = .returned (.tuple #[.pointer t48, .int .i64 t48_1])) ∧
  ∃ (J_2 : World → Prop), (∃ (I : Int → World → Prop) (μ : Int → World → Nat), (I 0 w_6) ∧ ∀ (z_2 : Env) (i13 : Int) (w_7 : World), I i13 w_7 →
    Br (decide (i13 < (↑l0.len : Int)))
     (Br (decide (i13 < 300))
       (Rng i13 l0.len (NilP l0.a fun a_t65 =>
        ∃ t66 : Int, ∃ t66_1 : ByteArray, ∃ t66_2 : ByteArray, ∃ t66_3 : Int, ∃ t66_4 : Sl, ∃ t66_5 : Sl, (At (fun w' => w' = w_7) (Addr.add a_t65 (mulS i13.toNat 6)) [.int .i64 t66, .string t66_1, .string t66_2, .int .i64 t66_3, .slice t66_4.a t66_4.len t66_4.cap, .slice t66_5.a t66_5.len t66_5.cap]) ∧
        Calls Try.prog 21 #[.pointer t30, .pointer t48, .agg #[.int .i64 t66, .string t66_1, .string t66_2, .int .i64 t66_3, .slice t66_4.a t66_4.len t66_4.cap, .slice t66_5.a t66_5.len t66_5.cap]] w_7 fun e_3 w_8 =>
        ∃ t67 : Bool, (e_3 = .returned (.bool t67)) ∧
        (I (IntKind.i64.wrap (i13 + 1)) w_8) ∧ μ (IntKind.i64.wrap (i13 + 1)) w_8 < μ i13 w_7))
       (J_2  w_7))
     (J_2  w_7)) ∧
  ∀ (z_3 : Env)  (w_9 : World), J_2  w_9 →
  Calls Try.prog 19 #[.pointer t30, .slice none 0 0] w_9 fun e_4 w_10 =>
  (e_4 = .returned (.tuple #[])) ∧
  Calls Try.prog 12 #[.pointer t30, .string t24, .slice none 0 0] w_10 fun e_5 w_11 =>
  ∃ t72 : Int, (e_5 = .returned (.int .i64 t72)) ∧
  Br (t72 != 0)
   (Br (t72 == 1)
     (K (.bool true) w_11)
     (K (.bool (t72 == 3)) w_11))
   (Calls Try.prog 15 #[.pointer t30, .string t24] w_11 fun e_6 w_12 =>
    ∃ t83 : Int, (e_6 = .returned (.int .i64 t83)) ∧
    Calls Try.prog 18 #[.pointer t30, .string t24] w_12 fun e_7 w_13 =>
    ∃ t87 : Sl, ∃ t87_1 : Int, (e_7 = .returned (.tuple #[.slice t87.a t87.len t87.cap, .int .i64 t87_1])) ∧
    ∃ (J_3 : World → Prop), (Br (t83 != 0)
       (K (.bool false) w_13)
       (Br (t87_1 != 0)
         (K (.bool false) w_13)
         (J_3  w_13))) ∧
    ∀ (z_4 : Env)  (w_14 : World), J_3  w_14 →
    Calls Try.prog 12 #[.pointer t30, .string t24, .slice t26.a t26.len t26.cap] w_14 fun e_8 w_15 =>
    ∃ t99 : Int, (e_8 = .returned (.int .i64 t99)) ∧
    Calls Try.prog 18 #[.pointer t30, .string t24] w_15 fun e_9 w_16 =>
    ∃ t103 : Sl, ∃ t103_1 : Int, (e_9 = .returned (.tuple #[.slice t103.a t103.len t103.cap, .int .i64 t103_1])) ∧
    Calls Try.prog 19 #[.pointer t30, .slice t28.a t28.len t28.cap] w_16 fun e_10 w_17 =>
    (e_10 = .returned (.tuple #[])) ∧
    Calls Try.prog 18 #[.pointer t30, .string t24] w_17 fun e_11 w_18 =>
    ∃ t112 : Sl, ∃ t112_1 : Int, (e_11 = .returned (.tuple #[.slice t112.a t112.len t112.cap, .int .i64 t112_1])) ∧
    ∃ (J_4 : World → Prop), (Br (t103_1 != 0)
       (K (.bool false) w_18)
       (Br (t112_1 != 0)
         (K (.bool false) w_18)
         (Br (t99 != 0)
           (Br (t99 != 3)
             (K (.bool false) w_18)
             (J_4  w_18))
           (J_4  w_18)))) ∧
    ∀ (z_5 : Env)  (w_19 : World), J_4  w_19 →
    Drw w_19 fun S w_20 =>
    Br (decide ((↑t112.len : Int) ≥ (↑t87.len : Int)))
     (Br (decide ((↑t112.len : Int) ≤ (↑t103.len : Int)))
       (((0 : Int) ≤ (↑t87.len : Int)) ∧
        (((↑t87.len : Int) : Int) ≤ (↑t112.cap : Int)) ∧
        ∃ t146 : ByteArray, (∀ w', S w' → ((convert 31 9 (.slice t112.a ((↑t87.len : Int).toNat) t112.cap))).run Try.prog w' = .ok (.string t146) w') ∧
        ∃ t148 : ByteArray, (∀ w', S w' → ((convert 31 9 (.slice t87.a t87.len t87.cap))).run Try.prog w' = .ok (.string t148) w') ∧
        Br (t146.toList == t148.toList)
         (∃ t153 : ByteArray, (∀ w', S w' → ((convert 31 9 (.slice t112.a t112.len t112.cap))).run Try.prog w' = .ok (.string t153) w') ∧
          ((0 : Int) ≤ (↑t112.len : Int)) ∧
          (((↑t112.len : Int) : Int) ≤ (↑t103.cap : Int)) ∧
          ∃ t158 : ByteArray, (∀ w', S w' → ((convert 31 9 (.slice t103.a ((↑t112.len : Int).toNat) t103.cap))).run Try.prog w' = .ok (.string t158) w') ∧
          K (.bool (t153.toList == t158.toList)) w_20)
         (K (.bool false) w_20))
       (K (.bool false) w_20))
     (K (.bool false) w_20))) w

def sk6 : Sk := (.seq .leaf (.seq .leaf (.seq .leaf (.seq .leaf (.seq .leaf (.seq .leaf (.cut [] [] [4, 35, 36, 37, 38, 39, 40] .leaf (.cut [] [] [4, 41, 42, 43, 44, 45, 46] .leaf (.seq .leaf (.cut [] [] [13, 51, 52, 53, 54, 55, 56, 57, 58, 59, 60, 61, 62, 63, 64, 65, 66, 67] (.seq .leaf (.block (.loop [13] [(.int .i64)] [13, 51, 52, 53, 54, 55, 56, 57, 58, 59, 60, 61, 62, 63, 64, 65, 66, 67] .leaf))) (.seq .leaf (.seq .leaf (.seq .leaf (.seq .leaf (.seq .leaf (.cut [] [] [4, 90, 91, 92, 93, 94, 95] .leaf (.seq .leaf (.seq .leaf (.seq .leaf (.seq .leaf (.cut [] [] [4, 115, 116, 117, 118, 119, 120, 121, 122, 123, 124, 125, 126, 127, 128] .leaf .leaf)))))))))))))))))))))
theorem ok6 : fnOk Try.prog Try.f6.ntmps Try.f6 sk6 = true := by kernel_rfl
theorem eq6 (l0 : Sl) (x1_0 : Int) (x1_1 : ByteArray) (x1_2 : ByteArray) (x1_3 : Int) (x1_4 : Sl) (x1_5 : Sl) (K : Value → World → Prop) (w : World) : fnF Try.prog cl Try.f6 sk6 [.slice l0.a l0.len l0.cap, .agg #[.int .i64 x1_0, .string x1_1, .string x1_2, .int .i64 x1_3, .slice x1_4.a x1_4.len x1_4.cap, .slice x1_5.a x1_5.len x1_5.cap]] K w = B6 l0 x1_0 x1_1 x1_2 x1_3 x1_4 x1_5 K w := by kernel_rfl
theorem call6 (l0 : Sl) (x1_0 : Int) (x1_1 : ByteArray) (x1_2 : ByteArray) (x1_3 : Int) (x1_4 : Sl) (x1_5 : Sl) (K : Value → World → Prop) (w : World) (h : B6 l0 x1_0 x1_1 x1_2 x1_3 x1_4 x1_5 K w) : Gets Try.prog 6 #[.slice l0.a l0.len l0.cap, .agg #[.int .i64 x1_0, .string x1_1, .string x1_2, .int .i64 x1_3, .slice x1_4.a x1_4.len x1_4.cap, .slice x1_5.a x1_5.len x1_5.cap]] w K :=
  calls_of (sk := sk6) cl_ok mixed Try.func6 ok6 (args := [.slice l0.a l0.len l0.cap, .agg #[.int .i64 x1_0, .string x1_1, .string x1_2, .int .i64 x1_3, .slice x1_4.a x1_4.len x1_4.cap, .slice x1_5.a x1_5.len x1_5.cap]]) (Nat.le_of_ble_eq_true (by kernel_rfl)) (by rw [eq6]; exact h)

/-- jetway/jetwaylaw04.DiskRoom. -/
def B7 (room0 : Int) (l1 : Sl) (K : Value → World → Prop) (w : World) : Prop :=
  Calls Try.prog 10 #[.int .i64 room0] w fun e w_1 =>
  ∃ t20 : Option Addr, ∃ t20_1 : Int, (e = .returned (.tuple #[.pointer t20, .int .i64 t20_1])) ∧
  Calls Try.prog 20 #[.slice l1.a l1.len l1.cap] w_1 fun e_1 w_2 =>
  ∃ t24 : Bool, (e_1 = .returned (.bool t24)) ∧
  ∃ (J : World → Prop), (∃ (J_1 : Bool → World → Prop), (Br (t20_1 != 0)
       (J_1 true w_2)
       (Br t20.isNone
         (J_1 true w_2)
         (J_1 t24 w_2))) ∧
    ∀ (z : Env) (t33 : Bool) (w_3 : World), J_1 t33 w_3 →
    Br t33
     (Br (t20_1 == 1)
       (Br (decide (room0 < 1))
         (K (.bool true) w_3)
         (Br (decide (room0 > 16777216))
           (K (.bool true) w_3)
           (Br t24
             (K (.bool (!t20.isNone)) w_3)
             (K (.bool false) w_3))))
       (Br t24
         (K (.bool (!t20.isNone)) w_3)
         (K (.bool false) w_3)))
     (J  w_3)) ∧
  ∀ (z_1 : Env)  (w_4 : World), J  w_4 →
  ∃ (I : Int → World → Prop) (μ : Int → World → Nat), (I 0 w_4) ∧ ∀ (z_2 : Env) (i8 : Int) (w_5 : World), I i8 w_5 →
  ∃ (J_2 : World → Prop), (Br (decide (i8 < (↑l1.len : Int)))
     (Br (decide (i8 < 300))
       (J_2  w_5)
       (K (.bool true) w_5))
     (K (.bool true) w_5)) ∧
  ∀ (z_3 : Env)  (w_6 : World), J_2  w_6 →
  Rng i8 l1.len (NilP l1.a fun a_t63 =>
  ∃ t64 : Int, ∃ t64_1 : ByteArray, ∃ t64_2 : ByteArray, ∃ t64_3 : Int, ∃ t64_4 : Sl, ∃ t64_5 : Sl, (At (fun w' => w' = w_6) (Addr.add a_t63 (mulS i8.toNat 6)) [.int .i64 t64, .string t64_1, .string t64_2, .int .i64 t64_3, .slice t64_4.a t64_4.len t64_4.cap, .slice t64_5.a t64_5.len t64_5.cap]) ∧
  New (.cells #[.int .i64 0, .string (ByteArray.mk #[]), .string (ByteArray.mk #[]), .int .i64 0, .slice none 0 0, .slice none 0 0] 43 (0, 0)) (fun b_a9 w_7 =>
  ∃ w_8 : World, ((Instr.storeAt 43 (.pointer ((some ⟨b_a9, 0, none⟩))) (.agg #[.int .i64 t64, .string t64_1, .string t64_2, .int .i64 t64_3, .slice t64_4.a t64_4.len t64_4.cap, .slice t64_5.a t64_5.len t64_5.cap])).run Try.prog w_7 = .ok () w_8) ∧
  Calls Try.prog 14 #[.pointer t20] w_8 fun e_2 w_9 =>
  ∃ t66 : Int, (e_2 = .returned (.int .i64 t66)) ∧
  ∃ t70 : ByteArray, (At (fun w' => w' = w_9) ⟨b_a9, 0 + 1, none⟩ [.string t70]) ∧
  Calls Try.prog 18 #[.pointer t20, .string t70] w_9 fun e_3 w_10 =>
  ∃ t71 : Sl, ∃ t71_1 : Int, (e_3 = .returned (.tuple #[.slice t71.a t71.len t71.cap, .int .i64 t71_1])) ∧
  ∃ t75 : Int, (At (fun w' => w' = w_10) ⟨b_a9, 0, none⟩ [.int .i64 t75]) ∧
  Br (t75 == 0)
   (∃ t79 : ByteArray, (At (fun w' => w' = w_10) ⟨b_a9, 0 + 1, none⟩ [.string t79]) ∧
    ∃ t81 : Sl, (At (fun w' => w' = w_10) ⟨b_a9, 0 + 4, none⟩ [.slice t81.a t81.len t81.cap]) ∧
    Calls Try.prog 12 #[.pointer t20, .string t79, .slice t81.a t81.len t81.cap] w_10 fun e_4 w_11 =>
    ∃ t82 : Int, (e_4 = .returned (.int .i64 t82)) ∧
    ∃ t86 : ByteArray, (At (fun w' => w' = w_11) ⟨b_a9, 0 + 1, none⟩ [.string t86]) ∧
    Calls Try.prog 18 #[.pointer t20, .string t86] w_11 fun e_5 w_12 =>
    ∃ t87 : Sl, ∃ t87_1 : Int, (e_5 = .returned (.tuple #[.slice t87.a t87.len t87.cap, .int .i64 t87_1])) ∧
    ∃ (J_3 : World → Prop), (Drw w_12 fun S w_13 =>
      Br (t82 == 0)
       (Br (t87_1 != 0)
         (K (.bool false) w_13)
         (∃ t100 : Sl, (At S ⟨b_a9, 0 + 4, none⟩ [.slice t100.a t100.len t100.cap]) ∧
          Calls Try.prog 14 #[.pointer t20] w_13 fun e_6 w_14 =>
          ∃ t97 : Int, (e_6 = .returned (.int .i64 t97)) ∧
          (S w_14) ∧
          Br (t97 != IntKind.i64.wrap (t66 + (↑t100.len : Int)))
           (K (.bool false) w_14)
           (∃ t107 : ByteArray, (∀ w', S w' → ((convert 31 9 (.slice t87.a t87.len t87.cap))).run Try.prog w' = .ok (.string t107) w') ∧
            ∃ t109 : ByteArray, (∀ w', S w' → ((convert 31 9 (.slice t71.a t71.len t71.cap))).run Try.prog w' = .ok (.string t109) w') ∧
            ∃ t111 : Sl, (At S ⟨b_a9, 0 + 4, none⟩ [.slice t111.a t111.len t111.cap]) ∧
            ∃ t112 : ByteArray, (∀ w', S w' → ((convert 31 9 (.slice t111.a t111.len t111.cap))).run Try.prog w' = .ok (.string t112) w') ∧
            (((↑(t109.size + t112.size) : Int) : Int) ≤ 9223372036854775807) ∧
            Br (!t107.toList == (t109 ++ t112).toList)
             (K (.bool false) w_14)
             (J_3  w_14))))
       (J_3  w_13)) ∧
    ∀ (z_4 : Env)  (w_15 : World), J_3  w_15 →
    Br (t82 != 0)
     (Br (t82 != 5)
       (Br (t87_1 != t71_1)
         (K (.bool false) w_15)
         (∃ t129 : ByteArray, (∀ w', (fun w' => w' = w_15) w' → ((convert 31 9 (.slice t87.a t87.len t87.cap))).run Try.prog w' = .ok (.string t129) w') ∧
          ∃ t131 : ByteArray, (∀ w', (fun w' => w' = w_15) w' → ((convert 31 9 (.slice t71.a t71.len t71.cap))).run Try.prog w' = .ok (.string t131) w') ∧
          Br (!t129.toList == t131.toList)
           (K (.bool false) w_15)
           (Calls Try.prog 14 #[.pointer t20] w_15 fun e_7 w_16 =>
            ∃ t136 : Int, (e_7 = .returned (.int .i64 t136)) ∧
            Br (t136 != t66)
             (K (.bool false) w_16)
             (Calls Try.prog 14 #[.pointer t20] w_16 fun e_8 w_17 =>
              ∃ t151 : Int, (e_8 = .returned (.int .i64 t151)) ∧
              Br (decide (t151 > room0))
               (K (.bool false) w_17)
               (Calls Try.prog 14 #[.pointer t20] w_17 fun e_9 w_18 =>
                ∃ t156 : Int, (e_9 = .returned (.int .i64 t156)) ∧
                Br (decide (t156 < 0))
                 (K (.bool false) w_18)
                 ((I (IntKind.i64.wrap (i8 + 1)) w_18) ∧ μ (IntKind.i64.wrap (i8 + 1)) w_18 < μ i8 w_5))))))
       (Calls Try.prog 14 #[.pointer t20] w_15 fun e_10 w_19 =>
        ∃ t151_1 : Int, (e_10 = .returned (.int .i64 t151_1)) ∧
        Br (decide (t151_1 > room0))
         (K (.bool false) w_19)
         (Calls Try.prog 14 #[.pointer t20] w_19 fun e_11 w_20 =>
          ∃ t156_1 : Int, (e_11 = .returned (.int .i64 t156_1)) ∧
          Br (decide (t156_1 < 0))
           (K (.bool false) w_20)
           ((I (IntKind.i64.wrap (i8 + 1)) w_20) ∧ μ (IntKind.i64.wrap (i8 + 1)) w_20 < μ i8 w_5))))
     (Calls Try.prog 14 #[.pointer t20] w_15 fun e_12 w_21 =>
      ∃ t151_2 : Int, (e_12 = .returned (.int .i64 t151_2)) ∧
      Br (decide (t151_2 > room0))
       (K (.bool false) w_21)
       (Calls Try.prog 14 #[.pointer t20] w_21 fun e_13 w_22 =>
        ∃ t156_2 : Int, (e_13 = .returned (.int .i64 t156_2)) ∧
        Br (decide (t156_2 < 0))
         (K (.bool false) w_22)
         ((I (IntKind.i64.wrap (i8 + 1)) w_22) ∧ μ (IntKind.i64.wrap (i8 + 1)) w_22 < μ i8 w_5))))
   (Calls Try.prog 11 #[.int .i64 room0] w_10 fun e_14 w_23 =>
    ∃ t143 : Option Addr, ∃ t143_1 : Int, (e_14 = .returned (.tuple #[.pointer t143, .int .i64 t143_1])) ∧
    ∃ t148 : Int, ∃ t148_1 : ByteArray, ∃ t148_2 : ByteArray, ∃ t148_3 : Int, ∃ t148_4 : Sl, ∃ t148_5 : Sl, (At (fun w' => w' = w_23) ⟨b_a9, 0, none⟩ [.int .i64 t148, .string t148_1, .string t148_2, .int .i64 t148_3, .slice t148_4.a t148_4.len t148_4.cap, .slice t148_5.a t148_5.len t148_5.cap]) ∧
    Calls Try.prog 21 #[.pointer t20, .pointer t143, .agg #[.int .i64 t148, .string t148_1, .string t148_2, .int .i64 t148_3, .slice t148_4.a t148_4.len t148_4.cap, .slice t148_5.a t148_5.len t148_5.cap]] w_23 fun e_15 w_24 =>
    ∃ t149 : Bool, (e_15 = .returned (.bool t149)) ∧
    Calls Try.prog 14 #[.pointer t20] w_24 fun e_16 w_25 =>
    ∃ t151_3 : Int, (e_16 = .returned (.int .i64 t151_3)) ∧
    Br (decide (t151_3 > room0))
     (K (.bool false) w_25)
     (Calls Try.prog 14 #[.pointer t20] w_25 fun e_17 w_26 =>
      ∃ t156_3 : Int, (e_17 = .returned (.int .i64 t156_3)) ∧
      Br (decide (t156_3 < 0))
       (K (.bool false) w_26)
       ((I (IntKind.i64.wrap (i8 + 1)) w_26) ∧ μ (IntKind.i64.wrap (i8 + 1)) w_26 < μ i8 w_5)))) w_6)

def sk7 : Sk := (.seq .leaf (.seq .leaf (.seq .leaf (.cut [] [] [4, 25, 26, 27, 28, 29, 30, 31, 32, 33, 34, 35, 36, 37, 38, 39, 40, 41, 42, 43, 44, 45, 46, 47, 48, 49, 50] (.cut [33] [.bool] [25, 26, 27, 28, 29, 30, 31, 32, 33] .leaf .leaf) (.seq (.seq .leaf (.block (.loop [8] [(.int .i64)] [4, 8, 9, 10, 11, 12, 13, 14, 15, 16, 17, 51, 52, 53, 54, 55, 56, 57, 58, 59, 60, 61, 62, 63, 64, 65, 66, 67, 68, 69, 70, 71, 72, 73, 74, 75, 76, 77, 78, 79, 80, 81, 82, 83, 84, 85, 86, 87, 88, 89, 90, 91, 92, 93, 94, 95, 96, 97, 98, 99, 100, 101, 102, 103, 104, 105, 106, 107, 108, 109, 110, 111, 112, 113, 114, 115, 116, 117, 118, 119, 120, 121, 122, 123, 124, 125, 126, 127, 128, 129, 130, 131, 132, 133, 134, 135, 136, 137, 138, 139, 140, 141, 142, 143, 144, 145, 146, 147, 148, 149, 150, 151, 152, 153, 154, 155, 156, 157, 158] (.cut [] [] [51, 52, 53, 54, 55, 56, 57, 58] .leaf (.seq (.block (.seq .leaf (.seq .leaf (.seq .leaf (.seq (.seq .leaf (.cond (.seq .leaf (.seq .leaf (.cut [] [] [4, 90, 91, 92, 93, 94, 95, 96, 97, 98, 99, 100, 101, 102, 103, 104, 105, 106, 107, 108, 109, 110, 111, 112, 113, 114, 115, 116] .leaf .leaf))) .leaf)) .leaf))))) .leaf))))) .leaf)))))
theorem ok7 : fnOk Try.prog Try.f7.ntmps Try.f7 sk7 = true := by kernel_rfl
theorem eq7 (room0 : Int) (l1 : Sl) (K : Value → World → Prop) (w : World) : fnF Try.prog cl Try.f7 sk7 [.int .i64 room0, .slice l1.a l1.len l1.cap] K w = B7 room0 l1 K w := by kernel_rfl
theorem call7 (room0 : Int) (l1 : Sl) (K : Value → World → Prop) (w : World) (h : B7 room0 l1 K w) : Gets Try.prog 7 #[.int .i64 room0, .slice l1.a l1.len l1.cap] w K :=
  calls_of (sk := sk7) cl_ok mixed Try.func7 ok7 (args := [.int .i64 room0, .slice l1.a l1.len l1.cap]) (Nat.le_of_ble_eq_true (by kernel_rfl)) (by rw [eq7]; exact h)

/-- jetway/jetwaylaw04.DiskNames. -/
def B8 (l0 : Sl) (K : Value → World → Prop) (w : World) : Prop :=
  Calls Try.prog 10 #[.int .i64 100000] w fun e w_1 =>
  ∃ t15 : Option Addr, ∃ t15_1 : Int, (e = .returned (.tuple #[.pointer t15, .int .i64 t15_1])) ∧
  Calls Try.prog 11 #[.int .i64 100000] w_1 fun e_1 w_2 =>
  ∃ t19 : Option Addr, ∃ t19_1 : Int, (e_1 = .returned (.tuple #[.pointer t19, .int .i64 t19_1])) ∧
  Calls Try.prog 20 #[.slice l0.a l0.len l0.cap] w_2 fun e_2 w_3 =>
  ∃ t23 : Bool, (e_2 = .returned (.bool t23)) ∧
  ∃ (J : World → Prop), (Br (t15_1 != 0)
     (Br (t15_1 == 0)
       (K (.bool (!t15.isNone)) w_3)
       (K (.bool false) w_3))
     (Br t15.isNone
       (Br (t15_1 == 0)
         (K (.bool (!t15.isNone)) w_3)
         (K (.bool false) w_3))
       (Br t23
         (Br (t15_1 == 0)
           (K (.bool (!t15.isNone)) w_3)
           (K (.bool false) w_3))
         (J  w_3)))) ∧
  ∀ (z : Env)  (w_4 : World), J  w_4 →
  ∃ (J_1 : World → Prop), (∃ (I : Int → World → Prop) (μ : Int → World → Nat), (I 0 w_4) ∧ ∀ (z_1 : Env) (i8 : Int) (w_5 : World), I i8 w_5 →
    Br (decide (i8 < (↑l0.len : Int)))
     (Br (decide (i8 < 200))
       (Rng i8 l0.len (NilP l0.a fun a_t53 =>
        ∃ t54 : Int, ∃ t54_1 : ByteArray, ∃ t54_2 : ByteArray, ∃ t54_3 : Int, ∃ t54_4 : Sl, ∃ t54_5 : Sl, (At (fun w' => w' = w_5) (Addr.add a_t53 (mulS i8.toNat 6)) [.int .i64 t54, .string t54_1, .string t54_2, .int .i64 t54_3, .slice t54_4.a t54_4.len t54_4.cap, .slice t54_5.a t54_5.len t54_5.cap]) ∧
        Calls Try.prog 21 #[.pointer t15, .pointer t19, .agg #[.int .i64 t54, .string t54_1, .string t54_2, .int .i64 t54_3, .slice t54_4.a t54_4.len t54_4.cap, .slice t54_5.a t54_5.len t54_5.cap]] w_5 fun e_3 w_6 =>
        ∃ t55 : Bool, (e_3 = .returned (.bool t55)) ∧
        (I (IntKind.i64.wrap (i8 + 1)) w_6) ∧ μ (IntKind.i64.wrap (i8 + 1)) w_6 < μ i8 w_5))
       (J_1  w_5))
     (J_1  w_5)) ∧
  ∀ (z_2 : Env)  (w_7 : World), J_1  w_7 →
  Calls Try.prog 19 #[.pointer t15, .slice none 0 0] w_7 fun e_4 w_8 =>
  (e_4 = .returned (.tuple #[])) ∧
  Calls Try.prog 22 #[.pointer t15] w_8 fun e_5 w_9 =>
  ∃ t59 : Sl, (e_5 = .returned (.slice t59.a t59.len t59.cap)) ∧
  ∃ (I_1 : Int → Int → World → Prop) (μ_1 : Int → Int → World → Nat), (I_1 0 0 w_9) ∧ ∀ (z_3 : Env) (size10 : Int) (i11 : Int) (w_10 : World), I_1 size10 i11 w_10 →
  Br (decide (i11 < (↑t59.len : Int)))
   (Rng i11 t59.len (NilP t59.a fun a_t70 =>
    ∃ t71 : ByteArray, (At (fun w' => w' = w_10) (Addr.add a_t70 i11.toNat) [.string t71]) ∧
    Calls Try.prog 18 #[.pointer t15, .string t71] w_10 fun e_6 w_11 =>
    ∃ t72 : Sl, ∃ t72_1 : Int, (e_6 = .returned (.tuple #[.slice t72.a t72.len t72.cap, .int .i64 t72_1])) ∧
    Drw w_11 fun S w_12 =>
    Br (t72_1 != 0)
     (K (.bool false) w_12)
     (Br (decide (i11 > 0))
       (Rng i11 t59.len (NilP t59.a fun a_t83 =>
        ∃ t84 : ByteArray, (At S (Addr.add a_t83 i11.toNat) [.string t84]) ∧
        Rng (IntKind.i64.wrap (i11 - 1)) t59.len (NilP t59.a fun a_t88 =>
        ∃ t89 : ByteArray, (At S (Addr.add a_t88 ((IntKind.i64.wrap (i11 - 1)).toNat)) [.string t89]) ∧
        Br (Op.bytesLess t84.toList t89.toList || t84.toList == t89.toList)
         (K (.bool false) w_12)
         ((I_1 (IntKind.i64.wrap (size10 + (↑t72.len : Int))) (IntKind.i64.wrap (i11 + 1)) w_12) ∧ μ_1 (IntKind.i64.wrap (size10 + (↑t72.len : Int))) (IntKind.i64.wrap (i11 + 1)) w_12 < μ_1 size10 i11 w_10))))
       ((I_1 (IntKind.i64.wrap (size10 + (↑t72.len : Int))) (IntKind.i64.wrap (i11 + 1)) w_12) ∧ μ_1 (IntKind.i64.wrap (size10 + (↑t72.len : Int))) (IntKind.i64.wrap (i11 + 1)) w_12 < μ_1 size10 i11 w_10))))
   (Calls Try.prog 14 #[.pointer t15] w_10 fun e_7 w_13 =>
    ∃ t99 : Int, (e_7 = .returned (.int .i64 t99)) ∧
    K (.bool (size10 == t99)) w_13)

def sk8 : Sk := (.seq .leaf (.seq .leaf (.seq .leaf (.seq .leaf (.cut [] [] [2, 24, 25, 26, 27, 28, 29, 30, 31, 32, 33, 34, 35, 36, 37, 38] .leaf (.cut [] [] [8, 39, 40, 41, 42, 43, 44, 45, 46, 47, 48, 49, 50, 51, 52, 53, 54, 55] (.seq .leaf (.block (.loop [8] [(.int .i64)] [8, 39, 40, 41, 42, 43, 44, 45, 46, 47, 48, 49, 50, 51, 52, 53, 54, 55] .leaf))) (.seq .leaf (.seq .leaf (.seq .leaf (.seq (.seq .leaf (.block (.loop [10, 11] [(.int .i64), (.int .i64)] [2, 10, 11, 12, 13, 60, 61, 62, 63, 64, 65, 66, 67, 68, 69, 70, 71, 72, 73, 74, 75, 76, 77, 78, 79, 80, 81, 82, 83, 84, 85, 86, 87, 88, 89, 90, 91, 92, 93, 94, 95, 96] .leaf))) .leaf))))))))))
theorem ok8 : fnOk Try.prog Try.f8.ntmps Try.f8 sk8 = true := by kernel_rfl
theorem eq8 (l0 : Sl) (K : Value → World → Prop) (w : World) : fnF Try.prog cl Try.f8 sk8 [.slice l0.a l0.len l0.cap] K w = B8 l0 K w := by kernel_rfl
theorem call8 (l0 : Sl) (K : Value → World → Prop) (w : World) (h : B8 l0 K w) : Gets Try.prog 8 #[.slice l0.a l0.len l0.cap] w K :=
  calls_of (sk := sk8) cl_ok mixed Try.func8 ok8 (args := [.slice l0.a l0.len l0.cap]) (Nat.le_of_ble_eq_true (by kernel_rfl)) (by rw [eq8]; exact h)

/-- jetway/jetwaylaw04.DiskScripts. -/
def B9 (room0 : Int) (l1 : Sl) (K : Value → World → Prop) (w : World) : Prop :=
  Calls Try.prog 10 #[.int .i64 room0] w fun e w_1 =>
  ∃ t15 : Option Addr, ∃ t15_1 : Int, (e = .returned (.tuple #[.pointer t15, .int .i64 t15_1])) ∧
  Calls Try.prog 11 #[.int .i64 room0] w_1 fun e_1 w_2 =>
  ∃ t20 : Option Addr, ∃ t20_1 : Int, (e_1 = .returned (.tuple #[.pointer t20, .int .i64 t20_1])) ∧
  Calls Try.prog 20 #[.slice l1.a l1.len l1.cap] w_2 fun e_2 w_3 =>
  ∃ t24 : Bool, (e_2 = .returned (.bool t24)) ∧
  ∃ (J : World → Prop), (Br (t15_1 != t20_1)
     (K (.bool false) w_3)
     (Br (!t15.isNone == t20.isNone)
       (K (.bool false) w_3)
       (J  w_3))) ∧
  ∀ (z : Env)  (w_4 : World), J  w_4 →
  ∃ (J_1 : World → Prop), (Br t15.isNone
     (K (.bool true) w_4)
     (Br t24
       (K (.bool true) w_4)
       (J_1  w_4))) ∧
  ∀ (z_1 : Env)  (w_5 : World), J_1  w_5 →
  ∃ (I : Int → World → Prop) (μ : Int → World → Nat), (I 0 w_5) ∧ ∀ (z_2 : Env) (i10 : Int) (w_6 : World), I i10 w_6 →
  ∃ (J_2 : World → Prop), (Br (decide (i10 < (↑l1.len : Int)))
     (Br (decide (i10 < 300))
       (J_2  w_6)
       (K (.bool true) w_6))
     (K (.bool true) w_6)) ∧
  ∀ (z_3 : Env)  (w_7 : World), J_2  w_7 →
  Rng i10 l1.len (NilP l1.a fun a_t54 =>
  ∃ t55 : Int, ∃ t55_1 : ByteArray, ∃ t55_2 : ByteArray, ∃ t55_3 : Int, ∃ t55_4 : Sl, ∃ t55_5 : Sl, (At (fun w' => w' = w_7) (Addr.add a_t54 (mulS i10.toNat 6)) [.int .i64 t55, .string t55_1, .string t55_2, .int .i64 t55_3, .slice t55_4.a t55_4.len t55_4.cap, .slice t55_5.a t55_5.len t55_5.cap]) ∧
  Calls Try.prog 21 #[.pointer t15, .pointer t20, .agg #[.int .i64 t55, .string t55_1, .string t55_2, .int .i64 t55_3, .slice t55_4.a t55_4.len t55_4.cap, .slice t55_5.a t55_5.len t55_5.cap]] w_7 fun e_3 w_8 =>
  ∃ t56 : Bool, (e_3 = .returned (.bool t56)) ∧
  Calls Try.prog 23 #[.pointer t15, .pointer t20] w_8 fun e_4 w_9 =>
  ∃ t59 : Bool, (e_4 = .returned (.bool t59)) ∧
  Br (!t56)
   (K (.bool false) w_9)
   (Br (!t59)
     (K (.bool false) w_9)
     ((I (IntKind.i64.wrap (i10 + 1)) w_9) ∧ μ (IntKind.i64.wrap (i10 + 1)) w_9 < μ i10 w_6)))

def sk9 : Sk := (.seq .leaf (.seq .leaf (.seq .leaf (.seq .leaf (.cut [] [] [4, 25, 26, 27, 28, 29, 30, 31, 32, 33, 34] .leaf (.cut [] [] [4, 35, 36, 37, 38, 39] .leaf (.seq (.seq .leaf (.block (.loop [10] [(.int .i64)] [4, 10, 11, 12, 40, 41, 42, 43, 44, 45, 46, 47, 48, 49, 50, 51, 52, 53, 54, 55, 56, 57, 58, 59, 60, 61, 62, 63, 64, 65] (.cut [] [] [40, 41, 42, 43, 44, 45, 46, 47] .leaf .leaf)))) .leaf)))))))
theorem ok9 : fnOk Try.prog Try.f9.ntmps Try.f9 sk9 = true := by kernel_rfl
theorem eq9 (room0 : Int) (l1 : Sl) (K : Value → World → Prop) (w : World) : fnF Try.prog cl Try.f9 sk9 [.int .i64 room0, .slice l1.a l1.len l1.cap] K w = B9 room0 l1 K w := by kernel_rfl
theorem call9 (room0 : Int) (l1 : Sl) (K : Value → World → Prop) (w : World) (h : B9 room0 l1 K w) : Gets Try.prog 9 #[.int .i64 room0, .slice l1.a l1.len l1.cap] w K :=
  calls_of (sk := sk9) cl_ok mixed Try.func9 ok9 (args := [.int .i64 room0, .slice l1.a l1.len l1.cap]) (Nat.le_of_ble_eq_true (by kernel_rfl)) (by rw [eq9]; exact h)

/-- jetway/jetwaylaw04.much. -/
def B20 (l0 : Sl) (K : Value → World → Prop) (w : World) : Prop :=
  ∃ (I : Int → Int → World → Prop) (μ : Int → Int → World → Nat), (I 0 0 w) ∧ ∀ (z : Env) (n3 : Int) (i4 : Int) (w_1 : World), I n3 i4 w_1 →
  ∃ (J : World → Prop), (Br (decide (i4 < (↑l0.len : Int)))
     (Br (decide (i4 < 300))
       (J  w_1)
       (K (.bool false) w_1))
     (K (.bool false) w_1)) ∧
  ∀ (z_1 : Env)  (w_2 : World), J  w_2 →
  ∃ (J_1 : World → Prop), (Rng i4 l0.len (NilP l0.a fun a_t17 =>
    ∃ t19 : Sl, (At (fun w' => w' = w_2) ⟨(a_t17.add (mulS i4.toNat 6)).block, (a_t17.add (mulS i4.toNat 6)).off + 4, none⟩ [.slice t19.a t19.len t19.cap]) ∧
    Br (decide ((↑t19.len : Int) > 100000))
     (K (.bool true) w_2)
     (Rng i4 l0.len (NilP l0.a fun a_t25 =>
      ∃ t27 : ByteArray, (At (fun w' => w' = w_2) ⟨(a_t25.add (mulS i4.toNat 6)).block, (a_t25.add (mulS i4.toNat 6)).off + 1, none⟩ [.string t27]) ∧
      Br (decide ((↑t27.size : Int) > 1000))
       (K (.bool true) w_2)
       (Rng i4 l0.len (NilP l0.a fun a_t34 =>
        ∃ t36 : ByteArray, (At (fun w' => w' = w_2) ⟨(a_t34.add (mulS i4.toNat 6)).block, (a_t34.add (mulS i4.toNat 6)).off + 2, none⟩ [.string t36]) ∧
        Br (decide ((↑t36.size : Int) > 1000))
         (K (.bool true) w_2)
         (J_1  w_2))))))) ∧
  ∀ (z_2 : Env)  (w_3 : World), J_1  w_3 →
  Rng i4 l0.len (NilP l0.a fun a_t43 =>
  ∃ t45 : Sl, (At (fun w' => w' = w_3) ⟨(a_t43.add (mulS i4.toNat 6)).block, (a_t43.add (mulS i4.toNat 6)).off + 4, none⟩ [.slice t45.a t45.len t45.cap]) ∧
  Br (decide (IntKind.i64.wrap (n3 + (↑t45.len : Int)) > 200000))
   (K (.bool true) w_3)
   ((I (IntKind.i64.wrap (n3 + (↑t45.len : Int))) (IntKind.i64.wrap (i4 + 1)) w_3) ∧ μ (IntKind.i64.wrap (n3 + (↑t45.len : Int))) (IntKind.i64.wrap (i4 + 1)) w_3 < μ n3 i4 w_1))

def sk20 : Sk := (.seq .leaf (.seq .leaf (.seq (.seq .leaf (.block (.loop [3, 4] [(.int .i64), (.int .i64)] [2, 3, 4, 5, 6, 7, 8, 9, 10, 11, 12, 13, 14, 15, 16, 17, 18, 19, 20, 21, 22, 23, 24, 25, 26, 27, 28, 29, 30, 31, 32, 33, 34, 35, 36, 37, 38, 39, 40, 41, 42, 43, 44, 45, 46, 47, 48, 49] (.cut [] [] [5, 6, 7, 8, 9, 10, 11, 12] .leaf (.seq (.block (.cut [] [] [2, 15, 16, 17, 18, 19, 20, 21, 22, 23, 24, 25, 26, 27, 28, 29, 30, 31, 32, 33, 34, 35, 36, 37, 38, 39] .leaf .leaf)) .leaf))))) .leaf)))
theorem ok20 : fnOk Try.prog Try.f20.ntmps Try.f20 sk20 = true := by kernel_rfl
theorem eq20 (l0 : Sl) (K : Value → World → Prop) (w : World) : fnF Try.prog cl Try.f20 sk20 [.slice l0.a l0.len l0.cap] K w = B20 l0 K w := by kernel_rfl
theorem call20 (l0 : Sl) (K : Value → World → Prop) (w : World) (h : B20 l0 K w) : Gets Try.prog 20 #[.slice l0.a l0.len l0.cap] w K :=
  calls_of (sk := sk20) cl_ok mixed Try.func20 ok20 (args := [.slice l0.a l0.len l0.cap]) (Nat.le_of_ble_eq_true (by kernel_rfl)) (by rw [eq20]; exact h)

/-- jetway/jetwaylaw04.does. -/
def B21 (d0 : Option Addr) (r1 : Option Addr) (a2_0 : Int) (a2_1 : ByteArray) (a2_2 : ByteArray) (a2_3 : Int) (a2_4 : Sl) (a2_5 : Sl) (K : Value → World → Prop) (w : World) : Prop :=
  New (.cells #[.int .i64 a2_0, .string a2_1, .string a2_2, .int .i64 a2_3, .slice a2_4.a a2_4.len a2_4.cap, .slice a2_5.a a2_5.len a2_5.cap] 43 (0, 0)) (fun b_a5 w_1 =>
  ∃ t24 : Int, (At (fun w' => w' = w_1) ⟨b_a5, 0, none⟩ [.int .i64 t24]) ∧
  Br (t24 == 0)
   (∃ t29 : ByteArray, (At (fun w' => w' = w_1) ⟨b_a5, 0 + 1, none⟩ [.string t29]) ∧
    ∃ t31 : Sl, (At (fun w' => w' = w_1) ⟨b_a5, 0 + 4, none⟩ [.slice t31.a t31.len t31.cap]) ∧
    Calls Try.prog 12 #[.pointer d0, .string t29, .slice t31.a t31.len t31.cap] w_1 fun e w_2 =>
    ∃ t32 : Int, (e = .returned (.int .i64 t32)) ∧
    ∃ t35 : ByteArray, (At (fun w' => w' = w_2) ⟨b_a5, 0 + 1, none⟩ [.string t35]) ∧
    ∃ t37 : Sl, (At (fun w' => w' = w_2) ⟨b_a5, 0 + 4, none⟩ [.slice t37.a t37.len t37.cap]) ∧
    Calls Try.prog 31 #[.pointer r1, .string t35, .slice t37.a t37.len t37.cap] w_2 fun e_1 w_3 =>
    ∃ t38 : Int, (e_1 = .returned (.int .i64 t38)) ∧
    K (.bool (t32 == t38)) w_3)
   (Br (t24 == 1)
     (∃ t46 : ByteArray, (At (fun w' => w' = w_1) ⟨b_a5, 0 + 1, none⟩ [.string t46]) ∧
      Calls Try.prog 15 #[.pointer d0, .string t46] w_1 fun e_2 w_4 =>
      ∃ t47 : Int, (e_2 = .returned (.int .i64 t47)) ∧
      ∃ t50 : ByteArray, (At (fun w' => w' = w_4) ⟨b_a5, 0 + 1, none⟩ [.string t50]) ∧
      Calls Try.prog 32 #[.pointer r1, .string t50] w_4 fun e_3 w_5 =>
      ∃ t51 : Int, (e_3 = .returned (.int .i64 t51)) ∧
      K (.bool (t47 == t51)) w_5)
     (Br (t24 == 2)
       (∃ t59 : ByteArray, (At (fun w' => w' = w_1) ⟨b_a5, 0 + 1, none⟩ [.string t59]) ∧
        ∃ t61 : ByteArray, (At (fun w' => w' = w_1) ⟨b_a5, 0 + 2, none⟩ [.string t61]) ∧
        Calls Try.prog 33 #[.pointer d0, .string t59, .string t61] w_1 fun e_4 w_6 =>
        ∃ t62 : Int, (e_4 = .returned (.int .i64 t62)) ∧
        ∃ t65 : ByteArray, (At (fun w' => w' = w_6) ⟨b_a5, 0 + 1, none⟩ [.string t65]) ∧
        ∃ t67 : ByteArray, (At (fun w' => w' = w_6) ⟨b_a5, 0 + 2, none⟩ [.string t67]) ∧
        Calls Try.prog 34 #[.pointer r1, .string t65, .string t67] w_6 fun e_5 w_7 =>
        ∃ t68 : Int, (e_5 = .returned (.int .i64 t68)) ∧
        K (.bool (t62 == t68)) w_7)
       (Br (t24 == 3)
         (∃ t76 : ByteArray, (At (fun w' => w' = w_1) ⟨b_a5, 0 + 1, none⟩ [.string t76]) ∧
          Calls Try.prog 35 #[.pointer d0, .string t76] w_1 fun e_6 w_8 =>
          ∃ t77 : Int, (e_6 = .returned (.int .i64 t77)) ∧
          ∃ t80 : ByteArray, (At (fun w' => w' = w_8) ⟨b_a5, 0 + 1, none⟩ [.string t80]) ∧
          Calls Try.prog 36 #[.pointer r1, .string t80] w_8 fun e_7 w_9 =>
          ∃ t81 : Int, (e_7 = .returned (.int .i64 t81)) ∧
          K (.bool (t77 == t81)) w_9)
         (Br (t24 == 4)
           (∃ t90 : ByteArray, (At (fun w' => w' = w_1) ⟨b_a5, 0 + 1, none⟩ [.string t90]) ∧
            Calls Try.prog 18 #[.pointer d0, .string t90] w_1 fun e_8 w_10 =>
            ∃ t91 : Sl, ∃ t91_1 : Int, (e_8 = .returned (.tuple #[.slice t91.a t91.len t91.cap, .int .i64 t91_1])) ∧
            ∃ t97 : ByteArray, (At (fun w' => w' = w_10) ⟨b_a5, 0 + 1, none⟩ [.string t97]) ∧
            Calls Try.prog 37 #[.pointer r1, .string t97] w_10 fun e_9 w_11 =>
            ∃ t98 : Sl, ∃ t98_1 : Int, (e_9 = .returned (.tuple #[.slice t98.a t98.len t98.cap, .int .i64 t98_1])) ∧
            ∃ t102 : ByteArray, (∀ w', (fun w' => w' = w_11) w' → ((convert 31 9 (.slice t91.a t91.len t91.cap))).run Try.prog w' = .ok (.string t102) w') ∧
            ∃ t104 : ByteArray, (∀ w', (fun w' => w' = w_11) w' → ((convert 31 9 (.slice t98.a t98.len t98.cap))).run Try.prog w' = .ok (.string t104) w') ∧
            Br (t102.toList == t104.toList)
             (K (.bool (t91_1 == t98_1)) w_11)
             (K (.bool false) w_11))
           (Br (t24 == 5)
             (∃ t115 : Int, (At (fun w' => w' = w_1) ⟨b_a5, 0 + 3, none⟩ [.int .i64 t115]) ∧
              Calls Try.prog 13 #[.pointer d0, .int .i64 t115] w_1 fun e_10 w_12 =>
              ∃ t116 : Int, (e_10 = .returned (.int .i64 t116)) ∧
              ∃ t119 : Int, (At (fun w' => w' = w_12) ⟨b_a5, 0 + 3, none⟩ [.int .i64 t119]) ∧
              Calls Try.prog 38 #[.pointer r1, .int .i64 t119] w_12 fun e_11 w_13 =>
              ∃ t120 : Int, (e_11 = .returned (.int .i64 t120)) ∧
              K (.bool (t116 == t120)) w_13)
             (Br (t24 == 6)
               (∃ t128 : Int, (At (fun w' => w' = w_1) ⟨b_a5, 0 + 3, none⟩ [.int .i64 t128]) ∧
                Calls Try.prog 16 #[.pointer d0, .int .i64 t128] w_1 fun e_12 w_14 =>
                ∃ t129 : Int, (e_12 = .returned (.int .i64 t129)) ∧
                ∃ t132 : Int, (At (fun w' => w' = w_14) ⟨b_a5, 0 + 3, none⟩ [.int .i64 t132]) ∧
                Calls Try.prog 39 #[.pointer r1, .int .i64 t132] w_14 fun e_13 w_15 =>
                ∃ t133 : Int, (e_13 = .returned (.int .i64 t133)) ∧
                K (.bool (t129 == t133)) w_15)
               (Br (t24 == 7)
                 (∃ t141 : Sl, (At (fun w' => w' = w_1) ⟨b_a5, 0 + 5, none⟩ [.slice t141.a t141.len t141.cap]) ∧
                  Calls Try.prog 19 #[.pointer d0, .slice t141.a t141.len t141.cap] w_1 fun e_14 w_16 =>
                  (e_14 = .returned (.tuple #[])) ∧
                  ∃ t145 : Sl, (At (fun w' => w' = w_16) ⟨b_a5, 0 + 5, none⟩ [.slice t145.a t145.len t145.cap]) ∧
                  Calls Try.prog 40 #[.pointer r1, .slice t145.a t145.len t145.cap] w_16 fun e_15 w_17 =>
                  (e_15 = .returned (.tuple #[])) ∧
                  K (.bool true) w_17)
                 (K (.bool true) w_1))))))))) w

def sk21 : Sk := .leaf
theorem ok21 : fnOk Try.prog Try.f21.ntmps Try.f21 sk21 = true := by kernel_rfl
theorem eq21 (d0 : Option Addr) (r1 : Option Addr) (a2_0 : Int) (a2_1 : ByteArray) (a2_2 : ByteArray) (a2_3 : Int) (a2_4 : Sl) (a2_5 : Sl) (K : Value → World → Prop) (w : World) : fnF Try.prog cl Try.f21 sk21 [.pointer d0, .pointer r1, .agg #[.int .i64 a2_0, .string a2_1, .string a2_2, .int .i64 a2_3, .slice a2_4.a a2_4.len a2_4.cap, .slice a2_5.a a2_5.len a2_5.cap]] K w = B21 d0 r1 a2_0 a2_1 a2_2 a2_3 a2_4 a2_5 K w := by kernel_rfl
theorem call21 (d0 : Option Addr) (r1 : Option Addr) (a2_0 : Int) (a2_1 : ByteArray) (a2_2 : ByteArray) (a2_3 : Int) (a2_4 : Sl) (a2_5 : Sl) (K : Value → World → Prop) (w : World) (h : B21 d0 r1 a2_0 a2_1 a2_2 a2_3 a2_4 a2_5 K w) : Gets Try.prog 21 #[.pointer d0, .pointer r1, .agg #[.int .i64 a2_0, .string a2_1, .string a2_2, .int .i64 a2_3, .slice a2_4.a a2_4.len a2_4.cap, .slice a2_5.a a2_5.len a2_5.cap]] w K :=
  calls_of (sk := sk21) cl_ok mixed Try.func21 ok21 (args := [.pointer d0, .pointer r1, .agg #[.int .i64 a2_0, .string a2_1, .string a2_2, .int .i64 a2_3, .slice a2_4.a a2_4.len a2_4.cap, .slice a2_5.a a2_5.len a2_5.cap]]) (Nat.le_of_ble_eq_true (by kernel_rfl)) (by rw [eq21]; exact h)

/-- jetway/jetwaylaw04.alike. -/
def B23 (d0 : Option Addr) (r1 : Option Addr) (K : Value → World → Prop) (w : World) : Prop :=
  Calls Try.prog 22 #[.pointer d0] w fun e w_1 =>
  ∃ t13 : Sl, (e = .returned (.slice t13.a t13.len t13.cap)) ∧
  Calls Try.prog 43 #[.pointer r1] w_1 fun e_1 w_2 =>
  ∃ t15 : Sl, (e_1 = .returned (.slice t15.a t15.len t15.cap)) ∧
  ∃ (J : World → Prop), (Drw w_2 fun S w_3 =>
    Br ((↑t13.len : Int) != (↑t15.len : Int))
     (K (.bool false) w_3)
     (Calls Try.prog 14 #[.pointer d0] w_3 fun e_2 w_4 =>
      ∃ t23 : Int, (e_2 = .returned (.int .i64 t23)) ∧
      (S w_4) ∧
      Calls Try.prog 44 #[.pointer r1] w_4 fun e_3 w_5 =>
      ∃ t25 : Int, (e_3 = .returned (.int .i64 t25)) ∧
      (S w_5) ∧
      Br (t23 != t25)
       (K (.bool false) w_5)
       (NilP r1 fun a_t32 =>
        ∃ t34 : Bool, (At S ⟨a_t32.block, a_t32.off + 4, none⟩ [.bool t34]) ∧
        Calls Try.prog 17 #[.pointer d0] w_5 fun e_4 w_6 =>
        ∃ t30 : Bool, (e_4 = .returned (.bool t30)) ∧
        (S w_6) ∧
        Br (!t30 == t34)
         (K (.bool false) w_6)
         (J  w_6)))) ∧
  ∀ (z : Env)  (w_7 : World), J  w_7 →
  ∃ (I : Int → World → Prop) (μ : Int → World → Nat), (I 0 w_7) ∧ ∀ (z_1 : Env) (i7 : Int) (w_8 : World), I i7 w_8 →
  Br (decide (i7 < (↑t13.len : Int)))
   (Rng i7 t15.len (NilP t15.a fun a_t47 =>
    ∃ t48 : ByteArray, (At (fun w' => w' = w_8) (Addr.add a_t47 i7.toNat) [.string t48]) ∧
    Calls Try.prog 18 #[.pointer d0, .string t48] w_8 fun e_5 w_9 =>
    ∃ t49 : Sl, ∃ t49_1 : Int, (e_5 = .returned (.tuple #[.slice t49.a t49.len t49.cap, .int .i64 t49_1])) ∧
    Rng i7 t15.len (NilP t15.a fun a_t56 =>
    ∃ t57 : ByteArray, (At (fun w' => w' = w_9) (Addr.add a_t56 i7.toNat) [.string t57]) ∧
    Calls Try.prog 37 #[.pointer r1, .string t57] w_9 fun e_6 w_10 =>
    ∃ t58 : Sl, ∃ t58_1 : Int, (e_6 = .returned (.tuple #[.slice t58.a t58.len t58.cap, .int .i64 t58_1])) ∧
    Drw w_10 fun S_1 w_11 =>
    Rng i7 t13.len (NilP t13.a fun a_t63 =>
    ∃ t64 : ByteArray, (At S_1 (Addr.add a_t63 i7.toNat) [.string t64]) ∧
    Rng i7 t15.len (NilP t15.a fun a_t67 =>
    ∃ t68 : ByteArray, (At S_1 (Addr.add a_t67 i7.toNat) [.string t68]) ∧
    Br (!t64.toList == t68.toList)
     (K (.bool false) w_11)
     (∃ t72 : ByteArray, (∀ w', S_1 w' → ((convert 31 9 (.slice t49.a t49.len t49.cap))).run Try.prog w' = .ok (.string t72) w') ∧
      ∃ t74 : ByteArray, (∀ w', S_1 w' → ((convert 31 9 (.slice t58.a t58.len t58.cap))).run Try.prog w' = .ok (.string t74) w') ∧
      Br (!t72.toList == t74.toList)
       (K (.bool false) w_11)
       (Br (t49_1 != t58_1)
         (K (.bool false) w_11)
         ((I (IntKind.i64.wrap (i7 + 1)) w_11) ∧ μ (IntKind.i64.wrap (i7 + 1)) w_11 < μ i7 w_8))))))))
   (K (.bool true) w_8)

def sk23 : Sk := (.seq .leaf (.seq .leaf (.seq .leaf (.cut [] [] [4, 16, 17, 18, 19, 20, 21, 22, 23, 24, 25, 26, 27, 28, 29, 30, 31, 32, 33, 34, 35, 36] .leaf (.seq (.seq .leaf (.block (.loop [7] [(.int .i64)] [4, 7, 8, 9, 10, 11, 37, 38, 39, 40, 41, 42, 43, 44, 45, 46, 47, 48, 49, 50, 51, 52, 53, 54, 55, 56, 57, 58, 59, 60, 61, 62, 63, 64, 65, 66, 67, 68, 69, 70, 71, 72, 73, 74, 75, 76, 77, 78, 79, 80, 81] .leaf))) .leaf)))))
theorem ok23 : fnOk Try.prog Try.f23.ntmps Try.f23 sk23 = true := by kernel_rfl
theorem eq23 (d0 : Option Addr) (r1 : Option Addr) (K : Value → World → Prop) (w : World) : fnF Try.prog cl Try.f23 sk23 [.pointer d0, .pointer r1] K w = B23 d0 r1 K w := by kernel_rfl
theorem call23 (d0 : Option Addr) (r1 : Option Addr) (K : Value → World → Prop) (w : World) (h : B23 d0 r1 K w) : Gets Try.prog 23 #[.pointer d0, .pointer r1] w K :=
  calls_of (sk := sk23) cl_ok mixed Try.func23 ok23 (args := [.pointer d0, .pointer r1]) (Nat.le_of_ble_eq_true (by kernel_rfl)) (by rw [eq23]; exact h)

/-- (*jetway/jetwayref04.Disk).Append. -/
def B31 (d0 : Option Addr) (name1 : ByteArray) (b2 : Sl) (K : Value → World → Prop) (w : World) : Prop :=
  Calls Try.prog 47 #[.pointer d0, .string name1, .string name1] w fun e w_1 =>
  ∃ t12 : Int, (e = .returned (.int .i64 t12)) ∧
  Br (t12 != 0)
   (K (.int .i64 t12) w_1)
   (Drw w_1 fun S w_2 =>
    NilP d0 fun a_t22 =>
    ∃ t24 : Int, (At S (Addr.add a_t22 0) [.int .i64 t24]) ∧
    Calls Try.prog 44 #[.pointer d0] w_2 fun e_1 w_3 =>
    ∃ t17 : Int, (e_1 = .returned (.int .i64 t17)) ∧
    (S w_3) ∧
    Br (decide (IntKind.i64.wrap (t17 + (↑b2.len : Int)) > t24))
     (K (.int .i64 3) w_3)
     (∃ (J : World → Prop), (Calls Try.prog 48 #[.pointer d0, .string name1] w_3 fun e_2 w_4 =>
        ∃ t28 : Int, (e_2 = .returned (.int .i64 t28)) ∧
        Br (decide (t28 < 0))
         (Calls Try.prog 49 #[.pointer d0, .agg #[.string name1, .slice none 0 0, .int .i64 0]] w_4 fun e_3 w_5 =>
          (e_3 = .returned (.tuple #[])) ∧
          J  w_5)
         (J  w_4)) ∧
      ∀ (z : Env)  (w_6 : World), J  w_6 →
      Calls Try.prog 48 #[.pointer d0, .string name1] w_6 fun e_4 w_7 =>
      ∃ t36 : Int, (e_4 = .returned (.int .i64 t36)) ∧
      Drw w_7 fun S_1 w_8 =>
      NilP d0 fun a_t38 =>
      ∃ t40 : Sl, (At S_1 ⟨a_t38.block, a_t38.off + 1, none⟩ [.slice t40.a t40.len t40.cap]) ∧
      NilP d0 fun a_t44 =>
      ∃ t46 : Sl, (At S_1 ⟨a_t44.block, a_t44.off + 1, none⟩ [.slice t46.a t46.len t46.cap]) ∧
      Rng t36 t46.len (NilP t46.a fun a_t48 =>
      ∃ t50 : Sl, (At S_1 ⟨(a_t48.add (mulS t36.toNat 3)).block, (a_t48.add (mulS t36.toNat 3)).off + 1, none⟩ [.slice t50.a t50.len t50.cap]) ∧
      New (.cells #[] 5 (0, 0)) (fun b_t42 w_9 =>
      (S_1 w_9) ∧
      ∃ w_10 : World, ∃ t51 : Sl, ((Builtin.append_ #[31, 31] 31 #[.slice ((some ⟨b_t42, 0, none⟩)) 0 0, .slice t50.a t50.len t50.cap]).run Try.prog w_9 = .ok (.slice t51.a t51.len t51.cap) w_10) ∧
      (S_1 w_10) ∧
      ∃ w_11 : World, ∃ t53 : Sl, ((Builtin.append_ #[31, 31] 31 #[.slice t51.a t51.len t51.cap, .slice b2.a b2.len b2.cap]).run Try.prog w_10 = .ok (.slice t53.a t53.len t53.cap) w_11) ∧
      (S_1 w_11) ∧
      Rng t36 t40.len (NilP t40.a fun a_t54 =>
      ∃ w_12 : World, ((Instr.storeAt 31 (.pointer ((some ⟨(a_t54.add (mulS t36.toNat 3)).block, (a_t54.add (mulS t36.toNat 3)).off + 1, none⟩))) (.slice t53.a t53.len t53.cap)).run Try.prog w_11 = .ok () w_12) ∧
      K (.int .i64 0) w_12)) w_8)))

def sk31 : Sk := (.seq .leaf (.seq .leaf (.seq .leaf (.seq .leaf (.cut [] [] [26, 27, 28, 29, 30, 31, 32, 33] .leaf .leaf)))))
theorem ok31 : fnOk Try.prog Try.f31.ntmps Try.f31 sk31 = true := by kernel_rfl
theorem eq31 (d0 : Option Addr) (name1 : ByteArray) (b2 : Sl) (K : Value → World → Prop) (w : World) : fnF Try.prog cl Try.f31 sk31 [.pointer d0, .string name1, .slice b2.a b2.len b2.cap] K w = B31 d0 name1 b2 K w := by kernel_rfl
theorem call31 (d0 : Option Addr) (name1 : ByteArray) (b2 : Sl) (K : Value → World → Prop) (w : World) (h : B31 d0 name1 b2 K w) : Gets Try.prog 31 #[.pointer d0, .string name1, .slice b2.a b2.len b2.cap] w K :=
  calls_of (sk := sk31) cl_ok mixed Try.func31 ok31 (args := [.pointer d0, .string name1, .slice b2.a b2.len b2.cap]) (Nat.le_of_ble_eq_true (by kernel_rfl)) (by rw [eq31]; exact h)

/-- (*jetway/jetwayref04.Disk).Sync. -/
def B32 (d0 : Option Addr) (name1 : ByteArray) (K : Value → World → Prop) (w : World) : Prop :=
  Calls Try.prog 47 #[.pointer d0, .string name1, .string name1] w fun e w_1 =>
  ∃ t10 : Int, (e = .returned (.int .i64 t10)) ∧
  Br (t10 != 0)
   (K (.int .i64 t10) w_1)
   (Calls Try.prog 48 #[.pointer d0, .string name1] w_1 fun e_1 w_2 =>
    ∃ t16 : Int, (e_1 = .returned (.int .i64 t16)) ∧
    Br (decide (t16 < 0))
     (K (.int .i64 2) w_2)
     (Drw w_2 fun S w_3 =>
      NilP d0 fun a_t20 =>
      ∃ t22 : Sl, (At S ⟨a_t20.block, a_t20.off + 1, none⟩ [.slice t22.a t22.len t22.cap]) ∧
      NilP d0 fun a_t25 =>
      ∃ t27 : Sl, (At S ⟨a_t25.block, a_t25.off + 1, none⟩ [.slice t27.a t27.len t27.cap]) ∧
      Rng t16 t27.len (NilP t27.a fun a_t29 =>
      ∃ t31 : Sl, (At S ⟨(a_t29.add (mulS t16.toNat 3)).block, (a_t29.add (mulS t16.toNat 3)).off + 1, none⟩ [.slice t31.a t31.len t31.cap]) ∧
      Rng t16 t22.len (NilP t22.a fun a_t33 =>
      ∃ w_4 : World, ((Instr.storeAt 3 (.pointer ((some ⟨(a_t33.add (mulS t16.toNat 3)).block, (a_t33.add (mulS t16.toNat 3)).off + 2, none⟩))) (.int .i64 ((↑t31.len : Int)))).run Try.prog w_3 = .ok () w_4) ∧
      K (.int .i64 0) w_4))))

def sk32 : Sk := .leaf
theorem ok32 : fnOk Try.prog Try.f32.ntmps Try.f32 sk32 = true := by kernel_rfl
theorem eq32 (d0 : Option Addr) (name1 : ByteArray) (K : Value → World → Prop) (w : World) : fnF Try.prog cl Try.f32 sk32 [.pointer d0, .string name1] K w = B32 d0 name1 K w := by kernel_rfl
theorem call32 (d0 : Option Addr) (name1 : ByteArray) (K : Value → World → Prop) (w : World) (h : B32 d0 name1 K w) : Gets Try.prog 32 #[.pointer d0, .string name1] w K :=
  calls_of (sk := sk32) cl_ok mixed Try.func32 ok32 (args := [.pointer d0, .string name1]) (Nat.le_of_ble_eq_true (by kernel_rfl)) (by rw [eq32]; exact h)

/-- (*jetway/disk.Disk).Rename. -/
def B33 (d0 : Option Addr) (from1 : ByteArray) (to2 : ByteArray) (K : Value → World → Prop) (w : World) : Prop :=
  New (.cells #[.pointer d0] 22 (0, 0)) (fun b_d3 w_1 =>
  New (.cells #[.string from1] 9 (0, 0)) (fun b_from4 w_2 =>
  New (.cells #[.string to2] 9 (0, 0)) (fun b_to5 w_3 =>
  Drw w_3 fun S w_4 =>
  ∃ t7 : Option Addr, (At S ⟨b_d3, 0, none⟩ [.pointer t7]) ∧
  ∃ t8 : Option Addr, (At S ⟨b_d3, 0, none⟩ [.pointer t8]) ∧
  ∃ t9 : ByteArray, (At S ⟨b_from4, 0, none⟩ [.string t9]) ∧
  ∃ t12 : ByteArray, (At S ⟨b_from4, 0, none⟩ [.string t12]) ∧
  ∃ t13 : ByteArray, (At S ⟨b_to5, 0, none⟩ [.string t13]) ∧
  (Calls Try.prog 27 #[.pointer t8, .string t9, .func (.func 50) #[] #[.pointer ((some ⟨b_from4, 0, none⟩)), .pointer ((some ⟨b_to5, 0, none⟩)), .pointer ((some ⟨b_d3, 0, none⟩))]] w_4 fun e w_5 =>
  ∃ t11 : Value, (e = .returned (t11)) ∧
  (S w_5) ∧
  New (.cells #[.string t12, .string t13] 9 (0, 0)) (fun b_t14 w_6 =>
  (S w_6) ∧
  Calls Try.prog 24 #[.pointer t7, t11, .slice ((some ⟨b_t14, 0, none⟩)) 2 2] w_6 fun e_1 w_7 =>
  ∃ t15 : Int, (e_1 = .returned (.int .i64 t15)) ∧
  (S w_7) ∧
  K (.int .i64 t15) w_7) w_5) ∧
  New (.cells #[.string t12, .string t13] 9 (0, 0)) (fun b_t14_1 w_8 =>
  (S w_8) ∧
  Calls Try.prog 27 #[.pointer t8, .string t9, .func (.func 50) #[] #[.pointer ((some ⟨b_from4, 0, none⟩)), .pointer ((some ⟨b_to5, 0, none⟩)), .pointer ((some ⟨b_d3, 0, none⟩))]] w_8 fun e_2 w_9 =>
  ∃ t11_1 : Value, (e_2 = .returned (t11_1)) ∧
  (S w_9) ∧
  Calls Try.prog 24 #[.pointer t7, t11_1, .slice ((some ⟨b_t14_1, 0, none⟩)) 2 2] w_9 fun e_3 w_10 =>
  ∃ t15_1 : Int, (e_3 = .returned (.int .i64 t15_1)) ∧
  (S w_10) ∧
  K (.int .i64 t15_1) w_10) w_4) w_2) w_1) w

def sk33 : Sk := .leaf
theorem ok33 : fnOk Try.prog Try.f33.ntmps Try.f33 sk33 = true := by kernel_rfl
theorem eq33 (d0 : Option Addr) (from1 : ByteArray) (to2 : ByteArray) (K : Value → World → Prop) (w : World) : fnF Try.prog cl Try.f33 sk33 [.pointer d0, .string from1, .string to2] K w = B33 d0 from1 to2 K w := by kernel_rfl
theorem call33 (d0 : Option Addr) (from1 : ByteArray) (to2 : ByteArray) (K : Value → World → Prop) (w : World) (h : B33 d0 from1 to2 K w) : Gets Try.prog 33 #[.pointer d0, .string from1, .string to2] w K :=
  calls_of (sk := sk33) cl_ok mixed Try.func33 ok33 (args := [.pointer d0, .string from1, .string to2]) (Nat.le_of_ble_eq_true (by kernel_rfl)) (by rw [eq33]; exact h)

/-- (*jetway/jetwayref04.Disk).Rename. -/
def B34 (d0 : Option Addr) (from1 : ByteArray) (to2 : ByteArray) (K : Value → World → Prop) (w : World) : Prop :=
  Calls Try.prog 47 #[.pointer d0, .string from1, .string to2] w fun e w_1 =>
  ∃ t14 : Int, (e = .returned (.int .i64 t14)) ∧
  Br (t14 != 0)
   (K (.int .i64 t14) w_1)
   (Calls Try.prog 48 #[.pointer d0, .string from1] w_1 fun e_1 w_2 =>
    ∃ t20 : Int, (e_1 = .returned (.int .i64 t20)) ∧
    Br (decide (t20 < 0))
     (K (.int .i64 2) w_2)
     (Br (from1.toList == to2.toList)
       (K (.int .i64 0) w_2)
       (NilP d0 fun a_t27 =>
        ∃ t29 : Sl, (At (fun w' => w' = w_2) ⟨a_t27.block, a_t27.off + 1, none⟩ [.slice t29.a t29.len t29.cap]) ∧
        Rng t20 t29.len (NilP t29.a fun a_t31 =>
        ∃ t32 : ByteArray, ∃ t32_1 : Sl, ∃ t32_2 : Int, (At (fun w' => w' = w_2) (Addr.add a_t31 (mulS t20.toNat 3)) [.string t32, .slice t32_1.a t32_1.len t32_1.cap, .int .i64 t32_2]) ∧
        New (.cells #[.string (ByteArray.mk #[]), .slice none 0 0, .int .i64 0] 78 (0, 0)) (fun b_f9 w_3 =>
        ∃ w_4 : World, ((Instr.storeAt 78 (.pointer ((some ⟨b_f9, 0, none⟩))) (.agg #[.string t32, .slice t32_1.a t32_1.len t32_1.cap, .int .i64 t32_2])).run Try.prog w_3 = .ok () w_4) ∧
        Calls Try.prog 52 #[.pointer d0, .int .i64 t20] w_4 fun e_2 w_5 =>
        (e_2 = .returned (.tuple #[])) ∧
        Calls Try.prog 48 #[.pointer d0, .string to2] w_5 fun e_3 w_6 =>
        ∃ t38 : Int, (e_3 = .returned (.int .i64 t38)) ∧
        Br (decide (t38 ≥ 0))
         (Calls Try.prog 52 #[.pointer d0, .int .i64 t38] w_6 fun e_4 w_7 =>
          (e_4 = .returned (.tuple #[])) ∧
          ∃ w_8 : World, ((Instr.storeAt 9 (.pointer ((some ⟨b_f9, 0, none⟩))) (.string to2)).run Try.prog w_7 = .ok () w_8) ∧
          ∃ t47 : ByteArray, ∃ t47_1 : Sl, ∃ t47_2 : Int, (At (fun w' => w' = w_8) ⟨b_f9, 0, none⟩ [.string t47, .slice t47_1.a t47_1.len t47_1.cap, .int .i64 t47_2]) ∧
          Calls Try.prog 49 #[.pointer d0, .agg #[.string t47, .slice t47_1.a t47_1.len t47_1.cap, .int .i64 t47_2]] w_8 fun e_5 w_9 =>
          (e_5 = .returned (.tuple #[])) ∧
          K (.int .i64 0) w_9)
         (∃ w_10 : World, ((Instr.storeAt 9 (.pointer ((some ⟨b_f9, 0, none⟩))) (.string to2)).run Try.prog w_6 = .ok () w_10) ∧
          ∃ t47_3 : ByteArray, ∃ t47_4 : Sl, ∃ t47_5 : Int, (At (fun w' => w' = w_10) ⟨b_f9, 0, none⟩ [.string t47_3, .slice t47_4.a t47_4.len t47_4.cap, .int .i64 t47_5]) ∧
          Calls Try.prog 49 #[.pointer d0, .agg #[.string t47_3, .slice t47_4.a t47_4.len t47_4.cap, .int .i64 t47_5]] w_10 fun e_6 w_11 =>
          (e_6 = .returned (.tuple #[])) ∧
          K (.int .i64 0) w_11)) w_2))))

def sk34 : Sk := .leaf
theorem ok34 : fnOk Try.prog Try.f34.ntmps Try.f34 sk34 = true := by kernel_rfl
theorem eq34 (d0 : Option Addr) (from1 : ByteArray) (to2 : ByteArray) (K : Value → World → Prop) (w : World) : fnF Try.prog cl Try.f34 sk34 [.pointer d0, .string from1, .string to2] K w = B34 d0 from1 to2 K w := by kernel_rfl
theorem call34 (d0 : Option Addr) (from1 : ByteArray) (to2 : ByteArray) (K : Value → World → Prop) (w : World) (h : B34 d0 from1 to2 K w) : Gets Try.prog 34 #[.pointer d0, .string from1, .string to2] w K :=
  calls_of (sk := sk34) cl_ok mixed Try.func34 ok34 (args := [.pointer d0, .string from1, .string to2]) (Nat.le_of_ble_eq_true (by kernel_rfl)) (by rw [eq34]; exact h)

/-- (*jetway/disk.Disk).Unlink. -/
def B35 (d0 : Option Addr) (name1 : ByteArray) (K : Value → World → Prop) (w : World) : Prop :=
  New (.cells #[.pointer d0] 22 (0, 0)) (fun b_d2 w_1 =>
  New (.cells #[.string name1] 9 (0, 0)) (fun b_name3 w_2 =>
  Drw w_2 fun S w_3 =>
  ∃ t5 : Option Addr, (At S ⟨b_d2, 0, none⟩ [.pointer t5]) ∧
  ∃ t6 : Option Addr, (At S ⟨b_d2, 0, none⟩ [.pointer t6]) ∧
  ∃ t7 : ByteArray, (At S ⟨b_name3, 0, none⟩ [.string t7]) ∧
  ∃ t10 : ByteArray, (At S ⟨b_name3, 0, none⟩ [.string t10]) ∧
  (Calls Try.prog 27 #[.pointer t6, .string t7, .func (.func 53) #[] #[.pointer ((some ⟨b_d2, 0, none⟩)), .pointer ((some ⟨b_name3, 0, none⟩))]] w_3 fun e w_4 =>
  ∃ t9 : Value, (e = .returned (t9)) ∧
  (S w_4) ∧
  New (.cells #[.string t10] 9 (0, 0)) (fun b_t11 w_5 =>
  (S w_5) ∧
  Calls Try.prog 24 #[.pointer t5, t9, .slice ((some ⟨b_t11, 0, none⟩)) 1 1] w_5 fun e_1 w_6 =>
  ∃ t12 : Int, (e_1 = .returned (.int .i64 t12)) ∧
  (S w_6) ∧
  K (.int .i64 t12) w_6) w_4) ∧
  New (.cells #[.string t10] 9 (0, 0)) (fun b_t11_1 w_7 =>
  (S w_7) ∧
  Calls Try.prog 27 #[.pointer t6, .string t7, .func (.func 53) #[] #[.pointer ((some ⟨b_d2, 0, none⟩)), .pointer ((some ⟨b_name3, 0, none⟩))]] w_7 fun e_2 w_8 =>
  ∃ t9_1 : Value, (e_2 = .returned (t9_1)) ∧
  (S w_8) ∧
  Calls Try.prog 24 #[.pointer t5, t9_1, .slice ((some ⟨b_t11_1, 0, none⟩)) 1 1] w_8 fun e_3 w_9 =>
  ∃ t12_1 : Int, (e_3 = .returned (.int .i64 t12_1)) ∧
  (S w_9) ∧
  K (.int .i64 t12_1) w_9) w_3) w_1) w

def sk35 : Sk := .leaf
theorem ok35 : fnOk Try.prog Try.f35.ntmps Try.f35 sk35 = true := by kernel_rfl
theorem eq35 (d0 : Option Addr) (name1 : ByteArray) (K : Value → World → Prop) (w : World) : fnF Try.prog cl Try.f35 sk35 [.pointer d0, .string name1] K w = B35 d0 name1 K w := by kernel_rfl
theorem call35 (d0 : Option Addr) (name1 : ByteArray) (K : Value → World → Prop) (w : World) (h : B35 d0 name1 K w) : Gets Try.prog 35 #[.pointer d0, .string name1] w K :=
  calls_of (sk := sk35) cl_ok mixed Try.func35 ok35 (args := [.pointer d0, .string name1]) (Nat.le_of_ble_eq_true (by kernel_rfl)) (by rw [eq35]; exact h)

/-- (*jetway/jetwayref04.Disk).Unlink. -/
def B36 (d0 : Option Addr) (name1 : ByteArray) (K : Value → World → Prop) (w : World) : Prop :=
  Calls Try.prog 47 #[.pointer d0, .string name1, .string name1] w fun e w_1 =>
  ∃ t10 : Int, (e = .returned (.int .i64 t10)) ∧
  Br (t10 != 0)
   (K (.int .i64 t10) w_1)
   (Calls Try.prog 48 #[.pointer d0, .string name1] w_1 fun e_1 w_2 =>
    ∃ t16 : Int, (e_1 = .returned (.int .i64 t16)) ∧
    Br (decide (t16 < 0))
     (K (.int .i64 2) w_2)
     (Calls Try.prog 52 #[.pointer d0, .int .i64 t16] w_2 fun e_2 w_3 =>
      (e_2 = .returned (.tuple #[])) ∧
      K (.int .i64 0) w_3))

def sk36 : Sk := .leaf
theorem ok36 : fnOk Try.prog Try.f36.ntmps Try.f36 sk36 = true := by kernel_rfl
theorem eq36 (d0 : Option Addr) (name1 : ByteArray) (K : Value → World → Prop) (w : World) : fnF Try.prog cl Try.f36 sk36 [.pointer d0, .string name1] K w = B36 d0 name1 K w := by kernel_rfl
theorem call36 (d0 : Option Addr) (name1 : ByteArray) (K : Value → World → Prop) (w : World) (h : B36 d0 name1 K w) : Gets Try.prog 36 #[.pointer d0, .string name1] w K :=
  calls_of (sk := sk36) cl_ok mixed Try.func36 ok36 (args := [.pointer d0, .string name1]) (Nat.le_of_ble_eq_true (by kernel_rfl)) (by rw [eq36]; exact h)

/-- (*jetway/jetwayref04.Disk).Read. -/
def B37 (d0 : Option Addr) (name1 : ByteArray) (K : Value → World → Prop) (w : World) : Prop :=
  Calls Try.prog 54 #[.string name1] w fun e w_1 =>
  ∃ t9 : Bool, (e = .returned (.bool t9)) ∧
  NilP d0 fun a_t11 =>
  ∃ t13 : Bool, (At (fun w' => w' = w_1) ⟨a_t11.block, a_t11.off + 4, none⟩ [.bool t13]) ∧
  Br t13
   (K (.tuple #[.slice none 0 0, .int .i64 5]) w_1)
   (Br (!t9)
     (K (.tuple #[.slice none 0 0, .int .i64 1]) w_1)
     (Calls Try.prog 48 #[.pointer d0, .string name1] w_1 fun e_1 w_2 =>
      ∃ t18 : Int, (e_1 = .returned (.int .i64 t18)) ∧
      Br (decide (t18 < 0))
       (K (.tuple #[.slice none 0 0, .int .i64 2]) w_2)
       (New (.cells #[] 5 (0, 0)) (fun b_t21 w_3 =>
        NilP d0 fun a_t23 =>
        ∃ t25 : Sl, (At (fun w' => w' = w_3) ⟨a_t23.block, a_t23.off + 1, none⟩ [.slice t25.a t25.len t25.cap]) ∧
        Rng t18 t25.len (NilP t25.a fun a_t27 =>
        ∃ t29 : Sl, (At (fun w' => w' = w_3) ⟨(a_t27.add (mulS t18.toNat 3)).block, (a_t27.add (mulS t18.toNat 3)).off + 1, none⟩ [.slice t29.a t29.len t29.cap]) ∧
        ∃ w_4 : World, ∃ t30 : Sl, ((Builtin.append_ #[31, 31] 31 #[.slice ((some ⟨b_t21, 0, none⟩)) 0 0, .slice t29.a t29.len t29.cap]).run Try.prog w_3 = .ok (.slice t30.a t30.len t30.cap) w_4) ∧
        K (.tuple #[.slice t30.a t30.len t30.cap, .int .i64 0]) w_4)) w_2)))

def sk37 : Sk := .leaf
theorem ok37 : fnOk Try.prog Try.f37.ntmps Try.f37 sk37 = true := by kernel_rfl
theorem eq37 (d0 : Option Addr) (name1 : ByteArray) (K : Value → World → Prop) (w : World) : fnF Try.prog cl Try.f37 sk37 [.pointer d0, .string name1] K w = B37 d0 name1 K w := by kernel_rfl
theorem call37 (d0 : Option Addr) (name1 : ByteArray) (K : Value → World → Prop) (w : World) (h : B37 d0 name1 K w) : Gets Try.prog 37 #[.pointer d0, .string name1] w K :=
  calls_of (sk := sk37) cl_ok mixed Try.func37 ok37 (args := [.pointer d0, .string name1]) (Nat.le_of_ble_eq_true (by kernel_rfl)) (by rw [eq37]; exact h)

/-- (*jetway/jetwayref04.Disk).Fail. -/
def B38 (d0 : Option Addr) (n1 : Int) (K : Value → World → Prop) (w : World) : Prop :=
  Br (decide (n1 < 0))
   (K (.int .i64 1) w)
   (NilP d0 fun a_t9 =>
    ∃ w_1 : World, ((Instr.storeAt 3 (.pointer ((some ⟨a_t9.block, a_t9.off + 2, none⟩))) (.int .i64 n1)).run Try.prog w = .ok () w_1) ∧
    K (.int .i64 0) w_1)

def sk38 : Sk := .leaf
theorem ok38 : fnOk Try.prog Try.f38.ntmps Try.f38 sk38 = true := by kernel_rfl
theorem eq38 (d0 : Option Addr) (n1 : Int) (K : Value → World → Prop) (w : World) : fnF Try.prog cl Try.f38 sk38 [.pointer d0, .int .i64 n1] K w = B38 d0 n1 K w := by kernel_rfl
theorem call38 (d0 : Option Addr) (n1 : Int) (K : Value → World → Prop) (w : World) (h : B38 d0 n1 K w) : Gets Try.prog 38 #[.pointer d0, .int .i64 n1] w K :=
  calls_of (sk := sk38) cl_ok mixed Try.func38 ok38 (args := [.pointer d0, .int .i64 n1]) (Nat.le_of_ble_eq_true (by kernel_rfl)) (by rw [eq38]; exact h)

/-- (*jetway/jetwayref04.Disk).Arm. -/
def B39 (d0 : Option Addr) (n1 : Int) (K : Value → World → Prop) (w : World) : Prop :=
  Br (decide (n1 < 0))
   (K (.int .i64 1) w)
   (NilP d0 fun a_t9 =>
    ∃ w_1 : World, ((Instr.storeAt 3 (.pointer ((some ⟨a_t9.block, a_t9.off + 3, none⟩))) (.int .i64 n1)).run Try.prog w = .ok () w_1) ∧
    K (.int .i64 0) w_1)

def sk39 : Sk := .leaf
theorem ok39 : fnOk Try.prog Try.f39.ntmps Try.f39 sk39 = true := by kernel_rfl
theorem eq39 (d0 : Option Addr) (n1 : Int) (K : Value → World → Prop) (w : World) : fnF Try.prog cl Try.f39 sk39 [.pointer d0, .int .i64 n1] K w = B39 d0 n1 K w := by kernel_rfl
theorem call39 (d0 : Option Addr) (n1 : Int) (K : Value → World → Prop) (w : World) (h : B39 d0 n1 K w) : Gets Try.prog 39 #[.pointer d0, .int .i64 n1] w K :=
  calls_of (sk := sk39) cl_ok mixed Try.func39 ok39 (args := [.pointer d0, .int .i64 n1]) (Nat.le_of_ble_eq_true (by kernel_rfl)) (by rw [eq39]; exact h)

/-- (*jetway/jetwayref04.Disk).Crash. -/
def B40 (d0 : Option Addr) (keep1 : Sl) (K : Value → World → Prop) (w : World) : Prop :=
  ∃ (I : Int → World → Prop) (μ : Int → World → Nat), (I 0 w) ∧ ∀ (z : Env) (i4 : Int) (w_1 : World), I i4 w_1 →
  NilP d0 fun a_t8 =>
  ∃ t10 : Sl, (At (fun w' => w' = w_1) ⟨a_t8.block, a_t8.off + 1, none⟩ [.slice t10.a t10.len t10.cap]) ∧
  Br (decide (i4 < (↑t10.len : Int)))
   (∃ (J : Int → World → Prop), (Br (decide (i4 < (↑keep1.len : Int)))
       (Drw w_1 fun S w_2 =>
        Rng i4 keep1.len (NilP keep1.a fun a_t21 =>
        ∃ t22 : Int, (At S (Addr.add a_t21 i4.toNat) [.int .i64 t22]) ∧
        NilP d0 fun a_t24 =>
        ∃ t26 : Sl, (At S ⟨a_t24.block, a_t24.off + 1, none⟩ [.slice t26.a t26.len t26.cap]) ∧
        Rng i4 t26.len (NilP t26.a fun a_t28 =>
        ∃ t30 : Sl, (At S ⟨(a_t28.add (mulS i4.toNat 3)).block, (a_t28.add (mulS i4.toNat 3)).off + 1, none⟩ [.slice t30.a t30.len t30.cap]) ∧
        NilP d0 fun a_t33 =>
        ∃ t35 : Sl, (At S ⟨a_t33.block, a_t33.off + 1, none⟩ [.slice t35.a t35.len t35.cap]) ∧
        Rng i4 t35.len (NilP t35.a fun a_t37 =>
        ∃ t39 : Int, (At S ⟨(a_t37.add (mulS i4.toNat 3)).block, (a_t37.add (mulS i4.toNat 3)).off + 2, none⟩ [.int .i64 t39]) ∧
        J (if (if IntKind.i64.wrap ((↑t30.len : Int) - t39) < t22 then IntKind.i64.wrap ((↑t30.len : Int) - t39) else t22) > 0 then if IntKind.i64.wrap ((↑t30.len : Int) - t39) < t22 then IntKind.i64.wrap ((↑t30.len : Int) - t39) else t22 else 0) w_2))))
       (J 0 w_1)) ∧
    ∀ (z_1 : Env) (n5 : Int) (w_3 : World), J n5 w_3 →
    Drw w_3 fun S_1 w_4 =>
    NilP d0 fun a_t44 =>
    ∃ t46 : Sl, (At S_1 ⟨a_t44.block, a_t44.off + 1, none⟩ [.slice t46.a t46.len t46.cap]) ∧
    NilP d0 fun a_t49 =>
    ∃ t51 : Sl, (At S_1 ⟨a_t49.block, a_t49.off + 1, none⟩ [.slice t51.a t51.len t51.cap]) ∧
    Rng i4 t51.len (NilP t51.a fun a_t53 =>
    ∃ t55 : Sl, (At S_1 ⟨(a_t53.add (mulS i4.toNat 3)).block, (a_t53.add (mulS i4.toNat 3)).off + 1, none⟩ [.slice t55.a t55.len t55.cap]) ∧
    NilP d0 fun a_t57 =>
    ∃ t59 : Sl, (At S_1 ⟨a_t57.block, a_t57.off + 1, none⟩ [.slice t59.a t59.len t59.cap]) ∧
    Rng i4 t59.len (NilP t59.a fun a_t61 =>
    ∃ t63 : Int, (At S_1 ⟨(a_t61.add (mulS i4.toNat 3)).block, (a_t61.add (mulS i4.toNat 3)).off + 2, none⟩ [.int .i64 t63]) ∧
    ((0 : Int) ≤ IntKind.i64.wrap (t63 + n5)) ∧
    ((IntKind.i64.wrap (t63 + n5) : Int) ≤ (↑t55.cap : Int)) ∧
    Rng i4 t46.len (NilP t46.a fun a_t67 =>
    ∃ w_5 : World, ((Instr.storeAt 31 (.pointer ((some ⟨(a_t67.add (mulS i4.toNat 3)).block, (a_t67.add (mulS i4.toNat 3)).off + 1, none⟩))) (.slice t55.a ((IntKind.i64.wrap (t63 + n5)).toNat) t55.cap)).run Try.prog w_4 = .ok () w_5) ∧
    Drw w_5 fun S_2 w_6 =>
    NilP d0 fun a_t70 =>
    ∃ t72 : Sl, (At S_2 ⟨a_t70.block, a_t70.off + 1, none⟩ [.slice t72.a t72.len t72.cap]) ∧
    NilP d0 fun a_t75 =>
    ∃ t77 : Sl, (At S_2 ⟨a_t75.block, a_t75.off + 1, none⟩ [.slice t77.a t77.len t77.cap]) ∧
    Rng i4 t77.len (NilP t77.a fun a_t79 =>
    ∃ t81 : Sl, (At S_2 ⟨(a_t79.add (mulS i4.toNat 3)).block, (a_t79.add (mulS i4.toNat 3)).off + 1, none⟩ [.slice t81.a t81.len t81.cap]) ∧
    Rng i4 t72.len (NilP t72.a fun a_t83 =>
    ∃ w_7 : World, ((Instr.storeAt 3 (.pointer ((some ⟨(a_t83.add (mulS i4.toNat 3)).block, (a_t83.add (mulS i4.toNat 3)).off + 2, none⟩))) (.int .i64 ((↑t81.len : Int)))).run Try.prog w_6 = .ok () w_7) ∧
    (I (IntKind.i64.wrap (i4 + 1)) w_7) ∧ μ (IntKind.i64.wrap (i4 + 1)) w_7 < μ i4 w_1))))))
   (NilP d0 fun a_t86 =>
    ∃ w_8 : World, ((Instr.storeAt 4 (.pointer ((some ⟨a_t86.block, a_t86.off + 4, none⟩))) (.bool false)).run Try.prog w_1 = .ok () w_8) ∧
    NilP d0 fun a_t89 =>
    ∃ w_9 : World, ((Instr.storeAt 3 (.pointer ((some ⟨a_t89.block, a_t89.off + 2, none⟩))) (.int .i64 ((-1)))).run Try.prog w_8 = .ok () w_9) ∧
    NilP d0 fun a_t92 =>
    ∃ w_10 : World, ((Instr.storeAt 3 (.pointer ((some ⟨a_t92.block, a_t92.off + 3, none⟩))) (.int .i64 ((-1)))).run Try.prog w_9 = .ok () w_10) ∧
    K (.tuple #[]) w_10)

def sk40 : Sk := (.seq (.seq .leaf (.block (.loop [4] [(.int .i64)] [4, 5, 6, 7, 8, 9, 10, 11, 12, 13, 14, 15, 16, 17, 18, 19, 20, 21, 22, 23, 24, 25, 26, 27, 28, 29, 30, 31, 32, 33, 34, 35, 36, 37, 38, 39, 40, 41, 42, 43, 44, 45, 46, 47, 48, 49, 50, 51, 52, 53, 54, 55, 56, 57, 58, 59, 60, 61, 62, 63, 64, 65, 66, 67, 68, 69, 70, 71, 72, 73, 74, 75, 76, 77, 78, 79, 80, 81, 82, 83, 84] (.seq .leaf (.seq (.block (.seq .leaf (.cut [5] [(.int .i64)] [5, 15, 16, 17, 18, 19, 20, 21, 22, 23, 24, 25, 26, 27, 28, 29, 30, 31, 32, 33, 34, 35, 36, 37, 38, 39, 40, 41, 42] .leaf .leaf))) .leaf))))) .leaf)
theorem ok40 : fnOk Try.prog Try.f40.ntmps Try.f40 sk40 = true := by kernel_rfl
theorem eq40 (d0 : Option Addr) (keep1 : Sl) (K : Value → World → Prop) (w : World) : fnF Try.prog cl Try.f40 sk40 [.pointer d0, .slice keep1.a keep1.len keep1.cap] K w = B40 d0 keep1 K w := by kernel_rfl
theorem call40 (d0 : Option Addr) (keep1 : Sl) (K : Value → World → Prop) (w : World) (h : B40 d0 keep1 K w) : Gets Try.prog 40 #[.pointer d0, .slice keep1.a keep1.len keep1.cap] w K :=
  calls_of (sk := sk40) cl_ok mixed Try.func40 ok40 (args := [.pointer d0, .slice keep1.a keep1.len keep1.cap]) (Nat.le_of_ble_eq_true (by kernel_rfl)) (by rw [eq40]; exact h)

/-- (*jetway/jetwayref04.Disk).Names. -/
def B43 (d0 : Option Addr) (K : Value → World → Prop) (w : World) : Prop :=
  ∃ (I : Sl → Int → World → Prop) (μ : Sl → Int → World → Nat), (I ⟨none, 0, 0⟩ 0 w) ∧ ∀ (z : Env) (out3 : Sl) (i4 : Int) (w_1 : World), I out3 i4 w_1 →
  NilP d0 fun a_t7 =>
  ∃ t9 : Sl, (At (fun w' => w' = w_1) ⟨a_t7.block, a_t7.off + 1, none⟩ [.slice t9.a t9.len t9.cap]) ∧
  Br (decide (i4 < (↑t9.len : Int)))
   (NilP d0 fun a_t16 =>
    ∃ t18 : Sl, (At (fun w' => w' = w_1) ⟨a_t16.block, a_t16.off + 1, none⟩ [.slice t18.a t18.len t18.cap]) ∧
    Rng i4 t18.len (NilP t18.a fun a_t20 =>
    ∃ t22 : ByteArray, (At (fun w' => w' = w_1) (Addr.add (Addr.add a_t20 (mulS i4.toNat 3)) 0) [.string t22]) ∧
    New (.cells #[.string t22] 9 (0, 0)) (fun b_t23 w_2 =>
    ∃ w_3 : World, ∃ t24 : Sl, ((Builtin.append_ #[48, 48] 48 #[.slice out3.a out3.len out3.cap, .slice ((some ⟨b_t23, 0, none⟩)) 1 1]).run Try.prog w_2 = .ok (.slice t24.a t24.len t24.cap) w_3) ∧
    (I t24 (IntKind.i64.wrap (i4 + 1)) w_3) ∧ μ t24 (IntKind.i64.wrap (i4 + 1)) w_3 < μ out3 i4 w_1) w_1))
   (K (.slice out3.a out3.len out3.cap) w_1)

def sk43 : Sk := (.seq .leaf (.seq .leaf (.seq (.seq .leaf (.block (.loop [3, 4] [.sl, (.int .i64)] [3, 4, 5, 6, 7, 8, 9, 10, 11, 12, 13, 14, 15, 16, 17, 18, 19, 20, 21, 22, 23, 24] .leaf))) .leaf)))
theorem ok43 : fnOk Try.prog Try.f43.ntmps Try.f43 sk43 = true := by kernel_rfl
theorem eq43 (d0 : Option Addr) (K : Value → World → Prop) (w : World) : fnF Try.prog cl Try.f43 sk43 [.pointer d0] K w = B43 d0 K w := by kernel_rfl
theorem call43 (d0 : Option Addr) (K : Value → World → Prop) (w : World) (h : B43 d0 K w) : Gets Try.prog 43 #[.pointer d0] w K :=
  calls_of (sk := sk43) cl_ok mixed Try.func43 ok43 (args := [.pointer d0]) (Nat.le_of_ble_eq_true (by kernel_rfl)) (by rw [eq43]; exact h)

/-- (*jetway/jetwayref04.Disk).Size. -/
def B44 (d0 : Option Addr) (K : Value → World → Prop) (w : World) : Prop :=
  ∃ (I : Int → Int → World → Prop) (μ : Int → Int → World → Nat), (I 0 0 w) ∧ ∀ (z : Env) (n3 : Int) (i4 : Int) (w_1 : World), I n3 i4 w_1 →
  NilP d0 fun a_t7 =>
  ∃ t9 : Sl, (At (fun w' => w' = w_1) ⟨a_t7.block, a_t7.off + 1, none⟩ [.slice t9.a t9.len t9.cap]) ∧
  Br (decide (i4 < (↑t9.len : Int)))
   (NilP d0 fun a_t16 =>
    ∃ t18 : Sl, (At (fun w' => w' = w_1) ⟨a_t16.block, a_t16.off + 1, none⟩ [.slice t18.a t18.len t18.cap]) ∧
    Rng i4 t18.len (NilP t18.a fun a_t20 =>
    ∃ t22 : Sl, (At (fun w' => w' = w_1) ⟨(a_t20.add (mulS i4.toNat 3)).block, (a_t20.add (mulS i4.toNat 3)).off + 1, none⟩ [.slice t22.a t22.len t22.cap]) ∧
    (I (IntKind.i64.wrap (n3 + (↑t22.len : Int))) (IntKind.i64.wrap (i4 + 1)) w_1) ∧ μ (IntKind.i64.wrap (n3 + (↑t22.len : Int))) (IntKind.i64.wrap (i4 + 1)) w_1 < μ n3 i4 w_1))
   (K (.int .i64 n3) w_1)

def sk44 : Sk := (.seq .leaf (.seq .leaf (.seq (.seq .leaf (.block (.loop [3, 4] [(.int .i64), (.int .i64)] [3, 4, 5, 6, 7, 8, 9, 10, 11, 12, 13, 14, 15, 16, 17, 18, 19, 20, 21, 22, 23, 24] .leaf))) .leaf)))
theorem ok44 : fnOk Try.prog Try.f44.ntmps Try.f44 sk44 = true := by kernel_rfl
theorem eq44 (d0 : Option Addr) (K : Value → World → Prop) (w : World) : fnF Try.prog cl Try.f44 sk44 [.pointer d0] K w = B44 d0 K w := by kernel_rfl
theorem call44 (d0 : Option Addr) (K : Value → World → Prop) (w : World) (h : B44 d0 K w) : Gets Try.prog 44 #[.pointer d0] w K :=
  calls_of (sk := sk44) cl_ok mixed Try.func44 ok44 (args := [.pointer d0]) (Nat.le_of_ble_eq_true (by kernel_rfl)) (by rw [eq44]; exact h)

/-- (*jetway/jetwayref04.Disk).change. -/
def B47 (d0 : Option Addr) (name1 : ByteArray) (other2 : ByteArray) (K : Value → World → Prop) (w : World) : Prop :=
  Calls Try.prog 54 #[.string name1] w fun e w_1 =>
  ∃ t10 : Bool, (e = .returned (.bool t10)) ∧
  Calls Try.prog 54 #[.string other2] w_1 fun e_1 w_2 =>
  ∃ t12 : Bool, (e_1 = .returned (.bool t12)) ∧
  ∃ (J : World → Prop), (Br (!t10)
     (K (.int .i64 1) w_2)
     (Br (!t12)
       (K (.int .i64 1) w_2)
       (J  w_2))) ∧
  ∀ (z : Env)  (w_3 : World), J  w_3 →
  NilP d0 fun a_t20 =>
  ∃ t22 : Bool, (At (fun w' => w' = w_3) ⟨a_t20.block, a_t20.off + 4, none⟩ [.bool t22]) ∧
  Br t22
   (K (.int .i64 5) w_3)
   (NilP d0 fun a_t24 =>
    ∃ t26 : Int, (At (fun w' => w' = w_3) ⟨a_t24.block, a_t24.off + 3, none⟩ [.int .i64 t26]) ∧
    Br (t26 == 0)
     (NilP d0 fun a_t29 =>
      ∃ w_4 : World, ((Instr.storeAt 3 (.pointer ((some ⟨a_t29.block, a_t29.off + 3, none⟩))) (.int .i64 ((-1)))).run Try.prog w_3 = .ok () w_4) ∧
      NilP d0 fun a_t32 =>
      ∃ w_5 : World, ((Instr.storeAt 4 (.pointer ((some ⟨a_t32.block, a_t32.off + 4, none⟩))) (.bool true)).run Try.prog w_4 = .ok () w_5) ∧
      K (.int .i64 5) w_5)
     (∃ (J_1 : World → Prop), (NilP d0 fun a_t35 =>
        ∃ t37 : Int, (At (fun w' => w' = w_3) ⟨a_t35.block, a_t35.off + 3, none⟩ [.int .i64 t37]) ∧
        Br (decide (t37 > 0))
         (NilP d0 fun a_t40 =>
          ∃ t42 : Int, (At (fun w' => w' = w_3) ⟨a_t40.block, a_t40.off + 3, none⟩ [.int .i64 t42]) ∧
          NilP d0 fun a_t44 =>
          ∃ w_6 : World, ((Instr.storeAt 3 (.pointer ((some ⟨a_t44.block, a_t44.off + 3, none⟩))) (.int .i64 (IntKind.i64.wrap (t42 - 1)))).run Try.prog w_3 = .ok () w_6) ∧
          J_1  w_6)
         (J_1  w_3)) ∧
      ∀ (z_1 : Env)  (w_7 : World), J_1  w_7 →
      NilP d0 fun a_t47 =>
      ∃ t49 : Int, (At (fun w' => w' = w_7) ⟨a_t47.block, a_t47.off + 2, none⟩ [.int .i64 t49]) ∧
      Br (t49 == 0)
       (NilP d0 fun a_t52 =>
        ∃ w_8 : World, ((Instr.storeAt 3 (.pointer ((some ⟨a_t52.block, a_t52.off + 2, none⟩))) (.int .i64 ((-1)))).run Try.prog w_7 = .ok () w_8) ∧
        K (.int .i64 4) w_8)
       (NilP d0 fun a_t55 =>
        ∃ t57 : Int, (At (fun w' => w' = w_7) ⟨a_t55.block, a_t55.off + 2, none⟩ [.int .i64 t57]) ∧
        Br (decide (t57 > 0))
         (NilP d0 fun a_t60 =>
          ∃ t62 : Int, (At (fun w' => w' = w_7) ⟨a_t60.block, a_t60.off + 2, none⟩ [.int .i64 t62]) ∧
          NilP d0 fun a_t64 =>
          ∃ w_9 : World, ((Instr.storeAt 3 (.pointer ((some ⟨a_t64.block, a_t64.off + 2, none⟩))) (.int .i64 (IntKind.i64.wrap (t62 - 1)))).run Try.prog w_7 = .ok () w_9) ∧
          K (.int .i64 0) w_9)
         (K (.int .i64 0) w_7))))

def sk47 : Sk := (.seq .leaf (.seq .leaf (.seq .leaf (.cut [] [] [6, 13, 14, 15, 16, 17, 18] .leaf (.seq .leaf (.seq .leaf (.cut [] [] [34, 35, 36, 37, 38, 39, 40, 41, 42, 43, 44, 45] .leaf .leaf)))))))
theorem ok47 : fnOk Try.prog Try.f47.ntmps Try.f47 sk47 = true := by kernel_rfl
theorem eq47 (d0 : Option Addr) (name1 : ByteArray) (other2 : ByteArray) (K : Value → World → Prop) (w : World) : fnF Try.prog cl Try.f47 sk47 [.pointer d0, .string name1, .string other2] K w = B47 d0 name1 other2 K w := by kernel_rfl
theorem call47 (d0 : Option Addr) (name1 : ByteArray) (other2 : ByteArray) (K : Value → World → Prop) (w : World) (h : B47 d0 name1 other2 K w) : Gets Try.prog 47 #[.pointer d0, .string name1, .string other2] w K :=
  calls_of (sk := sk47) cl_ok mixed Try.func47 ok47 (args := [.pointer d0, .string name1, .string other2]) (Nat.le_of_ble_eq_true (by kernel_rfl)) (by rw [eq47]; exact h)

/-- (*jetway/jetwayref04.Disk).place. -/
def B48 (d0 : Option Addr) (name1 : ByteArray) (K : Value → World → Prop) (w : World) : Prop :=
  ∃ (I : Int → World → Prop) (μ : Int → World → Nat), (I 0 w) ∧ ∀ (z : Env) (i5 : Int) (w_1 : World), I i5 w_1 →
  NilP d0 fun a_t8 =>
  ∃ t10 : Sl, (At (fun w' => w' = w_1) ⟨a_t8.block, a_t8.off + 1, none⟩ [.slice t10.a t10.len t10.cap]) ∧
  Br (decide (i5 < (↑t10.len : Int)))
   (NilP d0 fun a_t16 =>
    ∃ t18 : Sl, (At (fun w' => w' = w_1) ⟨a_t16.block, a_t16.off + 1, none⟩ [.slice t18.a t18.len t18.cap]) ∧
    Rng i5 t18.len (NilP t18.a fun a_t20 =>
    ∃ t22 : ByteArray, (At (fun w' => w' = w_1) (Addr.add (Addr.add a_t20 (mulS i5.toNat 3)) 0) [.string t22]) ∧
    Br (t22.toList == name1.toList)
     (K (.int .i64 i5) w_1)
     ((I (IntKind.i64.wrap (i5 + 1)) w_1) ∧ μ (IntKind.i64.wrap (i5 + 1)) w_1 < μ i5 w_1)))
   (K (.int .i64 ((-1))) w_1)

def sk48 : Sk := (.seq .leaf (.seq (.seq .leaf (.block (.loop [5] [(.int .i64)] [4, 5, 6, 7, 8, 9, 10, 11, 12, 13, 14, 15, 16, 17, 18, 19, 20, 21, 22, 23, 24, 25] .leaf))) .leaf))
theorem ok48 : fnOk Try.prog Try.f48.ntmps Try.f48 sk48 = true := by kernel_rfl
theorem eq48 (d0 : Option Addr) (name1 : ByteArray) (K : Value → World → Prop) (w : World) : fnF Try.prog cl Try.f48 sk48 [.pointer d0, .string name1] K w = B48 d0 name1 K w := by kernel_rfl
theorem call48 (d0 : Option Addr) (name1 : ByteArray) (K : Value → World → Prop) (w : World) (h : B48 d0 name1 K w) : Gets Try.prog 48 #[.pointer d0, .string name1] w K :=
  calls_of (sk := sk48) cl_ok mixed Try.func48 ok48 (args := [.pointer d0, .string name1]) (Nat.le_of_ble_eq_true (by kernel_rfl)) (by rw [eq48]; exact h)

/-- (*jetway/jetwayref04.Disk).put. -/
def B49 (d0 : Option Addr) (f1_0 : ByteArray) (f1_1 : Sl) (f1_2 : Int) (K : Value → World → Prop) (w : World) : Prop :=
  New (.cells #[.string f1_0, .slice f1_1.a f1_1.len f1_1.cap, .int .i64 f1_2] 78 (0, 0)) (fun b_f3 w_1 =>
  ∃ (J : Int → World → Prop), (∃ (I : Int → World → Prop) (μ : Int → World → Nat), (I 0 w_1) ∧ ∀ (z : Env) (at4 : Int) (w_2 : World), I at4 w_2 →
    Drw w_2 fun S w_3 =>
    NilP d0 fun a_t8 =>
    ∃ t10 : Sl, (At S ⟨a_t8.block, a_t8.off + 1, none⟩ [.slice t10.a t10.len t10.cap]) ∧
    Br (decide (at4 < (↑t10.len : Int)))
     (NilP d0 fun a_t15 =>
      ∃ t17 : Sl, (At S ⟨a_t15.block, a_t15.off + 1, none⟩ [.slice t17.a t17.len t17.cap]) ∧
      Rng at4 t17.len (NilP t17.a fun a_t19 =>
      ∃ t21 : ByteArray, (At S (Addr.add (Addr.add a_t19 (mulS at4.toNat 3)) 0) [.string t21]) ∧
      ∃ t23 : ByteArray, (At S ⟨b_f3, 0, none⟩ [.string t23]) ∧
      Br (Op.bytesLess t21.toList t23.toList)
       ((I (IntKind.i64.wrap (at4 + 1)) w_3) ∧ μ (IntKind.i64.wrap (at4 + 1)) w_3 < μ at4 w_2)
       (J at4 w_3)))
     (J at4 w_3)) ∧
  ∀ (z_1 : Env) (at4_1 : Int) (w_4 : World), J at4_1 w_4 →
  New (.cells #[] 78 (0, 0)) (fun b_t28 w_5 =>
  NilP d0 fun a_t30 =>
  ∃ t32 : Sl, (At (fun w' => w' = w_5) ⟨a_t30.block, a_t30.off + 1, none⟩ [.slice t32.a t32.len t32.cap]) ∧
  ((0 : Int) ≤ at4_1) ∧
  ((at4_1 : Int) ≤ (↑t32.cap : Int)) ∧
  ∃ w_6 : World, ∃ t35 : Sl, ((Builtin.append_ #[54, 54] 54 #[.slice ((some ⟨b_t28, 0, none⟩)) 0 0, .slice t32.a at4_1.toNat t32.cap]).run Try.prog w_5 = .ok (.slice t35.a t35.len t35.cap) w_6) ∧
  ∃ t37 : ByteArray, ∃ t37_1 : Sl, ∃ t37_2 : Int, (At (fun w' => w' = w_6) ⟨b_f3, 0, none⟩ [.string t37, .slice t37_1.a t37_1.len t37_1.cap, .int .i64 t37_2]) ∧
  New (.cells #[.string t37, .slice t37_1.a t37_1.len t37_1.cap, .int .i64 t37_2] 78 (0, 0)) (fun b_t38 w_7 =>
  ∃ w_8 : World, ∃ t39 : Sl, ((Builtin.append_ #[54, 54] 54 #[.slice t35.a t35.len t35.cap, .slice ((some ⟨b_t38, 0, none⟩)) 1 1]).run Try.prog w_7 = .ok (.slice t39.a t39.len t39.cap) w_8) ∧
  NilP d0 fun a_t43 =>
  ∃ t45 : Sl, (At (fun w' => w' = w_8) ⟨a_t43.block, a_t43.off + 1, none⟩ [.slice t45.a t45.len t45.cap]) ∧
  ((0 : Int) ≤ at4_1) ∧
  ((at4_1 : Int) ≤ (↑t45.len : Int)) ∧
  ∃ w_9 : World, ∃ t48 : Sl, ((Builtin.append_ #[54, 54] 54 #[.slice t39.a t39.len t39.cap, .slice (cutA t45.a at4_1.toNat t45.cap 3) (t45.len - at4_1.toNat) (t45.cap - at4_1.toNat)]).run Try.prog w_8 = .ok (.slice t48.a t48.len t48.cap) w_9) ∧
  NilP d0 fun a_t49 =>
  ∃ w_10 : World, ((Instr.storeAt 54 (.pointer ((some ⟨a_t49.block, a_t49.off + 1, none⟩))) (.slice t48.a t48.len t48.cap)).run Try.prog w_9 = .ok () w_10) ∧
  K (.tuple #[]) w_10) w_6) w_4) w

def sk49 : Sk := (.seq .leaf (.seq .leaf (.cut [4] [(.int .i64)] [4, 6, 7, 8, 9, 10, 11, 12, 13, 14, 15, 16, 17, 18, 19, 20, 21, 22, 23, 24, 25, 26, 27] (.block (.loop [4] [(.int .i64)] [4, 6, 7, 8, 9, 10, 11, 12, 13, 14, 15, 16, 17, 18, 19, 20, 21, 22, 23, 24, 25, 26, 27] .leaf)) .leaf)))
theorem ok49 : fnOk Try.prog Try.f49.ntmps Try.f49 sk49 = true := by kernel_rfl
theorem eq49 (d0 : Option Addr) (f1_0 : ByteArray) (f1_1 : Sl) (f1_2 : Int) (K : Value → World → Prop) (w : World) : fnF Try.prog cl Try.f49 sk49 [.pointer d0, .agg #[.string f1_0, .slice f1_1.a f1_1.len f1_1.cap, .int .i64 f1_2]] K w = B49 d0 f1_0 f1_1 f1_2 K w := by kernel_rfl
theorem call49 (d0 : Option Addr) (f1_0 : ByteArray) (f1_1 : Sl) (f1_2 : Int) (K : Value → World → Prop) (w : World) (h : B49 d0 f1_0 f1_1 f1_2 K w) : Gets Try.prog 49 #[.pointer d0, .agg #[.string f1_0, .slice f1_1.a f1_1.len f1_1.cap, .int .i64 f1_2]] w K :=
  calls_of (sk := sk49) cl_ok mixed Try.func49 ok49 (args := [.pointer d0, .agg #[.string f1_0, .slice f1_1.a f1_1.len f1_1.cap, .int .i64 f1_2]]) (Nat.le_of_ble_eq_true (by kernel_rfl)) (by rw [eq49]; exact h)

/-- (*jetway/disk.Disk).Rename$1. -/
def B50 (f0 : Option Addr) (c1 : Option Addr) (c2 : Option Addr) (c3 : Option Addr) (K : Value → World → Prop) (w : World) : Prop :=
  NilP c1 fun a_t5 =>
  ∃ t5 : ByteArray, (At (fun w' => w' = w) a_t5 [.string t5]) ∧
  NilP c2 fun a_t6 =>
  ∃ t6 : ByteArray, (At (fun w' => w' = w) a_t6 [.string t6]) ∧
  Br (t5.toList == t6.toList)
   (K (.tuple #[]) w)
   (NilP c3 fun a_t8 =>
    ∃ t8 : Option Addr, (At (fun w' => w' = w) a_t8 [.pointer t8]) ∧
    NilP c2 fun a_t9 =>
    ∃ t9 : ByteArray, (At (fun w' => w' = w) a_t9 [.string t9]) ∧
    Calls Try.prog 51 #[.pointer t8, .string t9] w fun e w_1 =>
    (e = .returned (.tuple #[])) ∧
    Drw w_1 fun S w_2 =>
    NilP c3 fun a_t11 =>
    ∃ t11 : Option Addr, (At S a_t11 [.pointer t11]) ∧
    NilP t11 fun a_t12 =>
    ∃ t14 : Option Nat, (At S ⟨a_t12.block, a_t12.off + 2, none⟩ [.map t14]) ∧
    NilP c1 fun a_t15 =>
    ∃ t15 : ByteArray, (At S a_t15 [.string t15]) ∧
    ∃ w_3 : World, ((Builtin.delete_ #[51, 9] 0 #[.map t14, .string t15]).run Try.prog w_2 = .ok (.tuple #[]) w_3) ∧
    (S w_3) ∧
    Drw w_3 fun S_1 w_4 =>
    NilP c3 fun a_t16 =>
    ∃ t16 : Option Addr, (At S_1 a_t16 [.pointer t16]) ∧
    NilP t16 fun a_t17 =>
    ∃ t19 : Option Nat, (At S_1 ⟨a_t17.block, a_t17.off + 2, none⟩ [.map t19]) ∧
    NilP c2 fun a_t20 =>
    ∃ t20 : ByteArray, (At S_1 a_t20 [.string t20]) ∧
    ∃ w_5 : World, ((Instr.mapUpdate 51 (.map t19) (.string t20) (.pointer f0)).run Try.prog w_4 = .ok () w_5) ∧
    K (.tuple #[]) w_5)

def sk50 : Sk := .leaf
theorem ok50 : fnOk Try.prog Try.f50.ntmps Try.f50 sk50 = true := by kernel_rfl
theorem eq50 (f0 : Option Addr) (c1 : Option Addr) (c2 : Option Addr) (c3 : Option Addr) (K : Value → World → Prop) (w : World) : fnF Try.prog cl Try.f50 sk50 [.pointer f0, .pointer c1, .pointer c2, .pointer c3] K w = B50 f0 c1 c2 c3 K w := by kernel_rfl
theorem call50 (f0 : Option Addr) (c1 : Option Addr) (c2 : Option Addr) (c3 : Option Addr) (K : Value → World → Prop) (w : World) (h : B50 f0 c1 c2 c3 K w) : Gets Try.prog 50 #[.pointer f0, .pointer c1, .pointer c2, .pointer c3] w K :=
  calls_of (sk := sk50) cl_ok mixed Try.func50 ok50 (args := [.pointer f0, .pointer c1, .pointer c2, .pointer c3]) (Nat.le_of_ble_eq_true (by kernel_rfl)) (by rw [eq50]; exact h)

/-- (*jetway/disk.Disk).gone. -/
def B51 (d0 : Option Addr) (name1 : ByteArray) (K : Value → World → Prop) (w : World) : Prop :=
  NilP d0 fun a_t8 =>
  ∃ t10 : Option Nat, (At (fun w' => w' = w) ⟨a_t8.block, a_t8.off + 2, none⟩ [.map t10]) ∧
  ∃ t12 : Option Addr, ∃ t12_1 : Bool, (∀ w', (fun w' => w' = w) w' → ((Instr.lookup 51 (.map t10) (.string name1) true)).run Try.prog w' = .ok (.tuple #[.pointer t12, .bool t12_1]) w') ∧
  Br t12_1
   (Drw w fun S w_1 =>
    NilP d0 fun a_t17 =>
    ∃ t19 : Int, (At S ⟨a_t17.block, a_t17.off + 1, none⟩ [.int .i64 t19]) ∧
    NilP t12 fun a_t21 =>
    ∃ t23 : Sl, (At S (Addr.add a_t21 0) [.slice t23.a t23.len t23.cap]) ∧
    NilP d0 fun a_t26 =>
    ∃ w_2 : World, ((Instr.storeAt 3 (.pointer ((some ⟨a_t26.block, a_t26.off + 1, none⟩))) (.int .i64 (IntKind.i64.wrap (t19 - (↑t23.len : Int))))).run Try.prog w_1 = .ok () w_2) ∧
    NilP d0 fun a_t29 =>
    ∃ t31 : Option Nat, (At (fun w' => w' = w_2) ⟨a_t29.block, a_t29.off + 2, none⟩ [.map t31]) ∧
    ∃ w_3 : World, ((Builtin.delete_ #[51, 9] 0 #[.map t31, .string name1]).run Try.prog w_2 = .ok (.tuple #[]) w_3) ∧
    K (.tuple #[]) w_3)
   (K (.tuple #[]) w)

def sk51 : Sk := .leaf
theorem ok51 : fnOk Try.prog Try.f51.ntmps Try.f51 sk51 = true := by kernel_rfl
theorem eq51 (d0 : Option Addr) (name1 : ByteArray) (K : Value → World → Prop) (w : World) : fnF Try.prog cl Try.f51 sk51 [.pointer d0, .string name1] K w = B51 d0 name1 K w := by kernel_rfl
theorem call51 (d0 : Option Addr) (name1 : ByteArray) (K : Value → World → Prop) (w : World) (h : B51 d0 name1 K w) : Gets Try.prog 51 #[.pointer d0, .string name1] w K :=
  calls_of (sk := sk51) cl_ok mixed Try.func51 ok51 (args := [.pointer d0, .string name1]) (Nat.le_of_ble_eq_true (by kernel_rfl)) (by rw [eq51]; exact h)

/-- (*jetway/jetwayref04.Disk).out. -/
def B52 (d0 : Option Addr) (i1 : Int) (K : Value → World → Prop) (w : World) : Prop :=
  New (.cells #[] 78 (0, 0)) (fun b_t5 w_1 =>
  NilP d0 fun a_t7 =>
  ∃ t9 : Sl, (At (fun w' => w' = w_1) ⟨a_t7.block, a_t7.off + 1, none⟩ [.slice t9.a t9.len t9.cap]) ∧
  ((0 : Int) ≤ i1) ∧
  ((i1 : Int) ≤ (↑t9.cap : Int)) ∧
  ∃ w_2 : World, ∃ t12 : Sl, ((Builtin.append_ #[54, 54] 54 #[.slice ((some ⟨b_t5, 0, none⟩)) 0 0, .slice t9.a i1.toNat t9.cap]).run Try.prog w_1 = .ok (.slice t12.a t12.len t12.cap) w_2) ∧
  NilP d0 fun a_t16 =>
  ∃ t18 : Sl, (At (fun w' => w' = w_2) ⟨a_t16.block, a_t16.off + 1, none⟩ [.slice t18.a t18.len t18.cap]) ∧
  ((0 : Int) ≤ IntKind.i64.wrap (i1 + 1)) ∧
  ((IntKind.i64.wrap (i1 + 1) : Int) ≤ (↑t18.len : Int)) ∧
  ∃ w_3 : World, ∃ t22 : Sl, ((Builtin.append_ #[54, 54] 54 #[.slice t12.a t12.len t12.cap, .slice (cutA t18.a (IntKind.i64.wrap (i1 + 1)).toNat t18.cap 3) (t18.len - (IntKind.i64.wrap (i1 + 1)).toNat) (t18.cap - (IntKind.i64.wrap (i1 + 1)).toNat)]).run Try.prog w_2 = .ok (.slice t22.a t22.len t22.cap) w_3) ∧
  NilP d0 fun a_t23 =>
  ∃ w_4 : World, ((Instr.storeAt 54 (.pointer ((some ⟨a_t23.block, a_t23.off + 1, none⟩))) (.slice t22.a t22.len t22.cap)).run Try.prog w_3 = .ok () w_4) ∧
  K (.tuple #[]) w_4) w

def sk52 : Sk := .leaf
theorem ok52 : fnOk Try.prog Try.f52.ntmps Try.f52 sk52 = true := by kernel_rfl
theorem eq52 (d0 : Option Addr) (i1 : Int) (K : Value → World → Prop) (w : World) : fnF Try.prog cl Try.f52 sk52 [.pointer d0, .int .i64 i1] K w = B52 d0 i1 K w := by kernel_rfl
theorem call52 (d0 : Option Addr) (i1 : Int) (K : Value → World → Prop) (w : World) (h : B52 d0 i1 K w) : Gets Try.prog 52 #[.pointer d0, .int .i64 i1] w K :=
  calls_of (sk := sk52) cl_ok mixed Try.func52 ok52 (args := [.pointer d0, .int .i64 i1]) (Nat.le_of_ble_eq_true (by kernel_rfl)) (by rw [eq52]; exact h)

/-- (*jetway/disk.Disk).Unlink$1. -/
def B53 (p0 : Option Addr) (c1 : Option Addr) (c2 : Option Addr) (K : Value → World → Prop) (w : World) : Prop :=
  NilP c1 fun a_t4 =>
  ∃ t4 : Option Addr, (At (fun w' => w' = w) a_t4 [.pointer t4]) ∧
  NilP c2 fun a_t5 =>
  ∃ t5 : ByteArray, (At (fun w' => w' = w) a_t5 [.string t5]) ∧
  Calls Try.prog 51 #[.pointer t4, .string t5] w fun e w_1 =>
  (e = .returned (.tuple #[])) ∧
  K (.tuple #[]) w_1

def sk53 : Sk := .leaf
theorem ok53 : fnOk Try.prog Try.f53.ntmps Try.f53 sk53 = true := by kernel_rfl
theorem eq53 (p0 : Option Addr) (c1 : Option Addr) (c2 : Option Addr) (K : Value → World → Prop) (w : World) : fnF Try.prog cl Try.f53 sk53 [.pointer p0, .pointer c1, .pointer c2] K w = B53 p0 c1 c2 K w := by kernel_rfl
theorem call53 (p0 : Option Addr) (c1 : Option Addr) (c2 : Option Addr) (K : Value → World → Prop) (w : World) (h : B53 p0 c1 c2 K w) : Gets Try.prog 53 #[.pointer p0, .pointer c1, .pointer c2] w K :=
  calls_of (sk := sk53) cl_ok mixed Try.func53 ok53 (args := [.pointer p0, .pointer c1, .pointer c2]) (Nat.le_of_ble_eq_true (by kernel_rfl)) (by rw [eq53]; exact h)

/-- jetway/jetwayref04.IsName. -/
def B54 (s0 : ByteArray) (K : Value → World → Prop) (w : World) : Prop :=
  ∃ (I : Int → World → Prop) (μ : Int → World → Nat), (I 0 w) ∧ ∀ (z : Env) (i3 : Int) (w_1 : World), I i3 w_1 →
  Br (decide (i3 < (↑s0.size : Int)))
   (∃ t13 : UInt8, ((0 : Int) ≤ i3) ∧
    (s0[i3.toNat]? = some t13) ∧
    Br (decide ((↑t13.toNat : Int) ≥ 97))
     (Br (decide ((↑t13.toNat : Int) ≤ 122))
       ((I (IntKind.i64.wrap (i3 + 1)) w_1) ∧ μ (IntKind.i64.wrap (i3 + 1)) w_1 < μ i3 w_1)
       (Br (decide ((↑t13.toNat : Int) ≥ 48))
         (Br (decide ((↑t13.toNat : Int) ≤ 57))
           ((I (IntKind.i64.wrap (i3 + 1)) w_1) ∧ μ (IntKind.i64.wrap (i3 + 1)) w_1 < μ i3 w_1)
           (Br ((↑t13.toNat : Int) == 46)
             ((I (IntKind.i64.wrap (i3 + 1)) w_1) ∧ μ (IntKind.i64.wrap (i3 + 1)) w_1 < μ i3 w_1)
             (Br (!(↑t13.toNat : Int) == 45)
               (K (.bool false) w_1)
               ((I (IntKind.i64.wrap (i3 + 1)) w_1) ∧ μ (IntKind.i64.wrap (i3 + 1)) w_1 < μ i3 w_1))))
         (Br ((↑t13.toNat : Int) == 46)
           ((I (IntKind.i64.wrap (i3 + 1)) w_1) ∧ μ (IntKind.i64.wrap (i3 + 1)) w_1 < μ i3 w_1)
           (Br (!(↑t13.toNat : Int) == 45)
             (K (.bool false) w_1)
             ((I (IntKind.i64.wrap (i3 + 1)) w_1) ∧ μ (IntKind.i64.wrap (i3 + 1)) w_1 < μ i3 w_1)))))
     (Br (decide ((↑t13.toNat : Int) ≥ 48))
       (Br (decide ((↑t13.toNat : Int) ≤ 57))
         ((I (IntKind.i64.wrap (i3 + 1)) w_1) ∧ μ (IntKind.i64.wrap (i3 + 1)) w_1 < μ i3 w_1)
         (Br ((↑t13.toNat : Int) == 46)
           ((I (IntKind.i64.wrap (i3 + 1)) w_1) ∧ μ (IntKind.i64.wrap (i3 + 1)) w_1 < μ i3 w_1)
           (Br (!(↑t13.toNat : Int) == 45)
             (K (.bool false) w_1)
             ((I (IntKind.i64.wrap (i3 + 1)) w_1) ∧ μ (IntKind.i64.wrap (i3 + 1)) w_1 < μ i3 w_1))))
       (Br ((↑t13.toNat : Int) == 46)
         ((I (IntKind.i64.wrap (i3 + 1)) w_1) ∧ μ (IntKind.i64.wrap (i3 + 1)) w_1 < μ i3 w_1)
         (Br (!(↑t13.toNat : Int) == 45)
           (K (.bool false) w_1)
           ((I (IntKind.i64.wrap (i3 + 1)) w_1) ∧ μ (IntKind.i64.wrap (i3 + 1)) w_1 < μ i3 w_1)))))
   (Br (decide ((↑s0.size : Int) ≥ 1))
     (K (.bool (decide ((↑s0.size : Int) ≤ 64))) w_1)
     (K (.bool false) w_1))

def sk54 : Sk := (.seq .leaf (.seq (.seq .leaf (.block (.loop [3] [(.int .i64)] [2, 3, 4, 5, 6, 7, 8, 9, 10, 11, 12, 13, 14, 15, 16, 17, 18, 19, 20, 21, 22, 23, 24, 25, 26, 27, 28, 29, 30, 31, 32, 33, 34, 35, 36] .leaf))) .leaf))
theorem ok54 : fnOk Try.prog Try.f54.ntmps Try.f54 sk54 = true := by kernel_rfl
theorem eq54 (s0 : ByteArray) (K : Value → World → Prop) (w : World) : fnF Try.prog cl Try.f54 sk54 [.string s0] K w = B54 s0 K w := by kernel_rfl
theorem call54 (s0 : ByteArray) (K : Value → World → Prop) (w : World) (h : B54 s0 K w) : Gets Try.prog 54 #[.string s0] w K :=
  calls_of (sk := sk54) cl_ok mixed Try.func54 ok54 (args := [.string s0]) (Nat.le_of_ble_eq_true (by kernel_rfl)) (by rw [eq54]; exact h)

end Go.Proofs.Ytbniilhfbfcegaa
