/- The formulas of functions of this seat's translation, printed by a program of mine off the translation; each is proved equal to 'fnF' of the function's body, so it is enough for the call. No condition. -/
import Derived.Test.YtaacfjdknlglhaaGreatDoorB2
namespace Go.Proofs.YtaacfjdknlglhaaGreatDoor
open Go Go.VC
set_option linter.unusedVariables false
/-- jetway/flight.New. -/
def B51 (number0 : Int) (l1_0 : Int) (l1_1 : Sl) (parts2 : Sl) (K : Value → World → Prop) (w : World) : Prop :=
  New (.cells #[.int .i64 l1_0, .slice l1_1.a l1_1.len l1_1.cap] 35 (0, 0)) (fun b_l4 w_1 =>
  ∃ t11 : Int, ∃ t11_1 : Sl, (At (fun w' => w' = w_1) ⟨b_l4, 0, none⟩ [.int .i64 t11, .slice t11_1.a t11_1.len t11_1.cap]) ∧
  Calls Tryz.prog 37 #[.agg #[.int .i64 t11, .slice t11_1.a t11_1.len t11_1.cap]] w_1 fun e w_2 =>
  ∃ t12 : Int, (e = .returned (.int .i64 t12)) ∧
  Calls Tryz.prog 95 #[.int .i64 t12, .slice parts2.a parts2.len parts2.cap] w_2 fun e_1 w_3 =>
  ∃ t14 : Sl, ∃ t14_1 : Int, (e_1 = .returned (.tuple #[.slice t14.a t14.len t14.cap, .int .i64 t14_1])) ∧
  Br (decide (number0 < 1))
   (K (.tuple #[.pointer none, .int .i64 1]) w_3)
   (Br (decide (number0 > 9999))
     (K (.tuple #[.pointer none, .int .i64 1]) w_3)
     (∃ t24 : Int, ∃ t24_1 : Sl, (At (fun w' => w' = w_3) ⟨b_l4, 0, none⟩ [.int .i64 t24, .slice t24_1.a t24_1.len t24_1.cap]) ∧
      Calls Tryz.prog 35 #[.agg #[.int .i64 t24, .slice t24_1.a t24_1.len t24_1.cap]] w_3 fun e_2 w_4 =>
      ∃ t25 : Bool, (e_2 = .returned (.bool t25)) ∧
      Br (!t25)
       (K (.tuple #[.pointer none, .int .i64 1]) w_4)
       (Br (t14_1 != 0)
         (K (.tuple #[.pointer none, .int .i64 1]) w_4)
         (∃ t33 : Sl, (At (fun w' => w' = w_4) ⟨b_l4, 0 + 1, none⟩ [.slice t33.a t33.len t33.cap]) ∧
          Calls Tryz.prog 59 #[.slice t33.a t33.len t33.cap] w_4 fun e_3 w_5 =>
          ∃ t34 : Sl, (e_3 = .returned (.slice t34.a t34.len t34.cap)) ∧
          ∃ w_6 : World, ((Instr.storeAt 33 (.pointer ((some ⟨b_l4, 0 + 1, none⟩))) (.slice t34.a t34.len t34.cap)).run Tryz.prog w_5 = .ok () w_6) ∧
          ∃ t37 : Int, ∃ t37_1 : Sl, (At (fun w' => w' = w_6) ⟨b_l4, 0, none⟩ [.int .i64 t37, .slice t37_1.a t37_1.len t37_1.cap]) ∧
          Calls Tryz.prog 34 #[.int .i64 number0, .agg #[.int .i64 t37, .slice t37_1.a t37_1.len t37_1.cap], .slice t14.a t14.len t14.cap] w_6 fun e_4 w_7 =>
          ∃ t39 : Option Addr, (e_4 = .returned (.pointer t39)) ∧
          K (.tuple #[.pointer t39, .int .i64 0]) w_7))))) w

def sk51 : Sk := .leaf
theorem ok51 : fnOk Tryz.prog Tryz.f51.ntmps Tryz.f51 sk51 = true := by kernel_rfl
theorem eq51 (number0 : Int) (l1_0 : Int) (l1_1 : Sl) (parts2 : Sl) (K : Value → World → Prop) (w : World) : fnF Tryz.prog cl Tryz.f51 sk51 [.int .i64 number0, .agg #[.int .i64 l1_0, .slice l1_1.a l1_1.len l1_1.cap], .slice parts2.a parts2.len parts2.cap] K w = B51 number0 l1_0 l1_1 parts2 K w := by kernel_rfl
theorem call51 (number0 : Int) (l1_0 : Int) (l1_1 : Sl) (parts2 : Sl) (K : Value → World → Prop) (w : World) (h : B51 number0 l1_0 l1_1 parts2 K w) : Gets Tryz.prog 51 #[.int .i64 number0, .agg #[.int .i64 l1_0, .slice l1_1.a l1_1.len l1_1.cap], .slice parts2.a parts2.len parts2.cap] w K :=
  calls_of (sk := sk51) cl_ok mixed Tryz.func51 ok51 (args := [.int .i64 number0, .agg #[.int .i64 l1_0, .slice l1_1.a l1_1.len l1_1.cap], .slice parts2.a parts2.len parts2.cap]) (Nat.le_of_ble_eq_true (by kernel_rfl)) (by rw [eq51]; exact h)

/-- jetway/flight.empty. -/
def B34 (number0 : Int) (l1_0 : Int) (l1_1 : Sl) (limits2 : Sl) (K : Value → World → Prop) (w : World) : Prop :=
  New (.cells #[.int .i64 l1_0, .slice l1_1.a l1_1.len l1_1.cap] 35 (0, 0)) (fun b_l4 w_1 =>
  Drw w_1 fun S w_2 =>
  ∃ t8 : Int, ∃ t8_1 : Sl, (At S ⟨b_l4, 0, none⟩ [.int .i64 t8, .slice t8_1.a t8_1.len t8_1.cap]) ∧
  (∃ w_3 : World, ∃ t12 : Sl, ((Instr.makeSlice 33 (.int .i64 ((↑limits2.len : Int))) (.int .i64 ((↑limits2.len : Int)))).run Tryz.prog w_2 = .ok (.slice t12.a t12.len t12.cap) w_3) ∧
  (S w_3) ∧
  (New (.map #[] 0) (fun b_t13 w_4 =>
  (S w_4) ∧
  New (.map #[] 0) (fun b_t14 w_5 =>
  (S w_5) ∧
  New (.cells #[.int .i64 number0, .int .i64 t8, .slice t8_1.a t8_1.len t8_1.cap, .slice limits2.a limits2.len limits2.cap, .slice t12.a t12.len t12.cap, .map ((some b_t13)), .map ((some b_t14))] 78 (0, 0)) (fun b_t16 w_6 =>
  (S w_6) ∧
  K (.pointer ((some ⟨b_t16, 0, none⟩))) w_6) w_5) w_4) w_3) ∧
  New (.map #[] 0) (fun b_t14_1 w_7 =>
  (S w_7) ∧
  New (.map #[] 0) (fun b_t13_1 w_8 =>
  (S w_8) ∧
  New (.cells #[.int .i64 number0, .int .i64 t8, .slice t8_1.a t8_1.len t8_1.cap, .slice limits2.a limits2.len limits2.cap, .slice t12.a t12.len t12.cap, .map ((some b_t13_1)), .map ((some b_t14_1))] 78 (0, 0)) (fun b_t16_1 w_9 =>
  (S w_9) ∧
  K (.pointer ((some ⟨b_t16_1, 0, none⟩))) w_9) w_8) w_7) w_3) ∧
  (New (.map #[] 0) (fun b_t13_2 w_10 =>
  (S w_10) ∧
  (∃ w_11 : World, ∃ t12_1 : Sl, ((Instr.makeSlice 33 (.int .i64 ((↑limits2.len : Int))) (.int .i64 ((↑limits2.len : Int)))).run Tryz.prog w_10 = .ok (.slice t12_1.a t12_1.len t12_1.cap) w_11) ∧
  (S w_11) ∧
  New (.map #[] 0) (fun b_t14_2 w_12 =>
  (S w_12) ∧
  New (.cells #[.int .i64 number0, .int .i64 t8, .slice t8_1.a t8_1.len t8_1.cap, .slice limits2.a limits2.len limits2.cap, .slice t12_1.a t12_1.len t12_1.cap, .map ((some b_t13_2)), .map ((some b_t14_2))] 78 (0, 0)) (fun b_t16_2 w_13 =>
  (S w_13) ∧
  K (.pointer ((some ⟨b_t16_2, 0, none⟩))) w_13) w_12) w_11) ∧
  New (.map #[] 0) (fun b_t14_3 w_14 =>
  (S w_14) ∧
  ∃ w_15 : World, ∃ t12_2 : Sl, ((Instr.makeSlice 33 (.int .i64 ((↑limits2.len : Int))) (.int .i64 ((↑limits2.len : Int)))).run Tryz.prog w_14 = .ok (.slice t12_2.a t12_2.len t12_2.cap) w_15) ∧
  (S w_15) ∧
  New (.cells #[.int .i64 number0, .int .i64 t8, .slice t8_1.a t8_1.len t8_1.cap, .slice limits2.a limits2.len limits2.cap, .slice t12_2.a t12_2.len t12_2.cap, .map ((some b_t13_2)), .map ((some b_t14_3))] 78 (0, 0)) (fun b_t16_3 w_16 =>
  (S w_16) ∧
  K (.pointer ((some ⟨b_t16_3, 0, none⟩))) w_16) w_15) w_10) w_2) ∧
  New (.map #[] 0) (fun b_t14_4 w_17 =>
  (S w_17) ∧
  (∃ w_18 : World, ∃ t12_3 : Sl, ((Instr.makeSlice 33 (.int .i64 ((↑limits2.len : Int))) (.int .i64 ((↑limits2.len : Int)))).run Tryz.prog w_17 = .ok (.slice t12_3.a t12_3.len t12_3.cap) w_18) ∧
  (S w_18) ∧
  New (.map #[] 0) (fun b_t13_3 w_19 =>
  (S w_19) ∧
  New (.cells #[.int .i64 number0, .int .i64 t8, .slice t8_1.a t8_1.len t8_1.cap, .slice limits2.a limits2.len limits2.cap, .slice t12_3.a t12_3.len t12_3.cap, .map ((some b_t13_3)), .map ((some b_t14_4))] 78 (0, 0)) (fun b_t16_4 w_20 =>
  (S w_20) ∧
  K (.pointer ((some ⟨b_t16_4, 0, none⟩))) w_20) w_19) w_18) ∧
  New (.map #[] 0) (fun b_t13_4 w_21 =>
  (S w_21) ∧
  ∃ w_22 : World, ∃ t12_4 : Sl, ((Instr.makeSlice 33 (.int .i64 ((↑limits2.len : Int))) (.int .i64 ((↑limits2.len : Int)))).run Tryz.prog w_21 = .ok (.slice t12_4.a t12_4.len t12_4.cap) w_22) ∧
  (S w_22) ∧
  New (.cells #[.int .i64 number0, .int .i64 t8, .slice t8_1.a t8_1.len t8_1.cap, .slice limits2.a limits2.len limits2.cap, .slice t12_4.a t12_4.len t12_4.cap, .map ((some b_t13_4)), .map ((some b_t14_4))] 78 (0, 0)) (fun b_t16_5 w_23 =>
  (S w_23) ∧
  K (.pointer ((some ⟨b_t16_5, 0, none⟩))) w_23) w_22) w_17) w_2) w

def sk34 : Sk := .leaf
theorem ok34 : fnOk Tryz.prog Tryz.f34.ntmps Tryz.f34 sk34 = true := by kernel_rfl
theorem eq34 (number0 : Int) (l1_0 : Int) (l1_1 : Sl) (limits2 : Sl) (K : Value → World → Prop) (w : World) : fnF Tryz.prog cl Tryz.f34 sk34 [.int .i64 number0, .agg #[.int .i64 l1_0, .slice l1_1.a l1_1.len l1_1.cap], .slice limits2.a limits2.len limits2.cap] K w = B34 number0 l1_0 l1_1 limits2 K w := by kernel_rfl
theorem call34 (number0 : Int) (l1_0 : Int) (l1_1 : Sl) (limits2 : Sl) (K : Value → World → Prop) (w : World) (h : B34 number0 l1_0 l1_1 limits2 K w) : Gets Tryz.prog 34 #[.int .i64 number0, .agg #[.int .i64 l1_0, .slice l1_1.a l1_1.len l1_1.cap], .slice limits2.a limits2.len limits2.cap] w K :=
  calls_of (sk := sk34) cl_ok mixed Tryz.func34 ok34 (args := [.int .i64 number0, .agg #[.int .i64 l1_0, .slice l1_1.a l1_1.len l1_1.cap], .slice limits2.a limits2.len limits2.cap]) (Nat.le_of_ble_eq_true (by kernel_rfl)) (by rw [eq34]; exact h)

/-- (*jetway/flight.Flight).Take. -/
def B26 (f0 : Option Addr) (owner1 : Int) (class2 : Int) (many3 : Int) (K : Value → World → Prop) (w : World) : Prop :=
  NilP f0 fun a_t15 =>
  ∃ t17 : Option Nat, (At (fun w' => w' = w) ⟨a_t15.block, a_t15.off + 5, none⟩ [.map t17]) ∧
  ∃ t19 : Option Addr, ∃ t19_1 : Bool, (∀ w', (fun w' => w' = w) w' → ((Instr.lookup 75 (.map t17) (.int .i64 owner1) true)).run Tryz.prog w' = .ok (.tuple #[.pointer t19, .bool t19_1]) w') ∧
  ∃ (J : World → Prop), (Br (decide (owner1 < 1))
     (K (.int .i64 1) w)
     (Br (decide (owner1 > 28629151))
       (K (.int .i64 1) w)
       (Br t19_1
         (K (.int .i64 7) w)
         (J  w)))) ∧
  ∀ (z : Env)  (w_1 : World), J  w_1 →
  Drw w_1 fun S w_2 =>
  NilP f0 fun a_t33 =>
  ∃ t35 : Sl, (At S ⟨a_t33.block, a_t33.off + 3, none⟩ [.slice t35.a t35.len t35.cap]) ∧
  NilP f0 fun a_t37 =>
  ∃ t39 : Sl, (At S ⟨a_t37.block, a_t37.off + 4, none⟩ [.slice t39.a t39.len t39.cap]) ∧
  Calls Tryz.prog 77 #[.slice t35.a t35.len t35.cap, .slice t39.a t39.len t39.cap, .int .i64 class2, .int .i64 many3] w_2 fun e w_3 =>
  ∃ t42 : Sl, ∃ t42_1 : Int, (e = .returned (.tuple #[.slice t42.a t42.len t42.cap, .int .i64 t42_1])) ∧
  Br (t42_1 == 0)
   (NilP f0 fun a_t49 =>
    ∃ w_4 : World, ((Instr.storeAt 33 (.pointer ((some ⟨a_t49.block, a_t49.off + 4, none⟩))) (.slice t42.a t42.len t42.cap)).run Tryz.prog w_3 = .ok () w_4) ∧
    NilP f0 fun a_t52 =>
    ∃ t54 : Option Nat, (At (fun w' => w' = w_4) ⟨a_t52.block, a_t52.off + 5, none⟩ [.map t54]) ∧
    New (.cells #[.int .i64 owner1, .int .i64 class2, .int .i64 many3, .slice none 0 0] 51 (0, 0)) (fun b_t60 w_5 =>
    ∃ w_6 : World, ((Instr.mapUpdate 75 (.map t54) (.int .i64 owner1) (.pointer ((some ⟨b_t60, 0, none⟩)))).run Tryz.prog w_5 = .ok () w_6) ∧
    K (.int .i64 t42_1) w_6) w_4)
   (K (.int .i64 t42_1) w_3)

def sk26 : Sk := (.seq .leaf (.seq .leaf (.cut [] [] [8, 22, 23, 24, 25, 26, 27, 28, 29, 30] .leaf .leaf)))
theorem ok26 : fnOk Tryz.prog Tryz.f26.ntmps Tryz.f26 sk26 = true := by kernel_rfl
theorem eq26 (f0 : Option Addr) (owner1 : Int) (class2 : Int) (many3 : Int) (K : Value → World → Prop) (w : World) : fnF Tryz.prog cl Tryz.f26 sk26 [.pointer f0, .int .i64 owner1, .int .i64 class2, .int .i64 many3] K w = B26 f0 owner1 class2 many3 K w := by kernel_rfl
theorem call26 (f0 : Option Addr) (owner1 : Int) (class2 : Int) (many3 : Int) (K : Value → World → Prop) (w : World) (h : B26 f0 owner1 class2 many3 K w) : Gets Tryz.prog 26 #[.pointer f0, .int .i64 owner1, .int .i64 class2, .int .i64 many3] w K :=
  calls_of (sk := sk26) cl_ok mixed Tryz.func26 ok26 (args := [.pointer f0, .int .i64 owner1, .int .i64 class2, .int .i64 many3]) (Nat.le_of_ble_eq_true (by kernel_rfl)) (by rw [eq26]; exact h)

/-- (*jetway/flight.Flight).Give. -/
def B27 (f0 : Option Addr) (owner1 : Int) (K : Value → World → Prop) (w : World) : Prop :=
  NilP f0 fun a_t11 =>
  ∃ t13 : Option Nat, (At (fun w' => w' = w) ⟨a_t11.block, a_t11.off + 5, none⟩ [.map t13]) ∧
  ∃ t15 : Option Addr, ∃ t15_1 : Bool, (∀ w', (fun w' => w' = w) w' → ((Instr.lookup 75 (.map t13) (.int .i64 owner1) true)).run Tryz.prog w' = .ok (.tuple #[.pointer t15, .bool t15_1]) w') ∧
  Br (!t15_1)
   (K (.int .i64 2) w)
   (NilP t15 fun a_t21 =>
    ∃ t23 : Sl, (At (fun w' => w' = w) ⟨a_t21.block, a_t21.off + 3, none⟩ [.slice t23.a t23.len t23.cap]) ∧
    ∃ (I : Int → World → Prop) (μ : Int → World → Nat), (I 0 w) ∧ ∀ (z : Env) (t25 : Int) (w_1 : World), I t25 w_1 →
    Br (decide (t25 < (↑t23.len : Int)))
     (Rng t25 t23.len (NilP t23.a fun a_t27 =>
      ∃ t28 : Int, (At (fun w' => w' = w_1) (Addr.add a_t27 t25.toNat) [.int .i64 t28]) ∧
      NilP f0 fun a_t30 =>
      ∃ t32 : Option Nat, (At (fun w' => w' = w_1) ⟨a_t30.block, a_t30.off + 6, none⟩ [.map t32]) ∧
      ∃ w_2 : World, ((Builtin.delete_ #[76, 3] 0 #[.map t32, .int .i64 t28]).run Tryz.prog w_1 = .ok (.tuple #[]) w_2) ∧
      (I (IntKind.i64.wrap (t25 + 1)) w_2) ∧ μ (IntKind.i64.wrap (t25 + 1)) w_2 < μ t25 w_1))
     (Drw w_1 fun S w_3 =>
      NilP f0 fun a_t38 =>
      ∃ t40 : Sl, (At S ⟨a_t38.block, a_t38.off + 3, none⟩ [.slice t40.a t40.len t40.cap]) ∧
      NilP f0 fun a_t42 =>
      ∃ t44 : Sl, (At S ⟨a_t42.block, a_t42.off + 4, none⟩ [.slice t44.a t44.len t44.cap]) ∧
      NilP t15 fun a_t46 =>
      ∃ t48 : Int, (At S ⟨a_t46.block, a_t46.off + 1, none⟩ [.int .i64 t48]) ∧
      NilP t15 fun a_t50 =>
      ∃ t52 : Int, (At S ⟨a_t50.block, a_t50.off + 2, none⟩ [.int .i64 t52]) ∧
      Calls Tryz.prog 78 #[.slice t40.a t40.len t40.cap, .slice t44.a t44.len t44.cap, .int .i64 t48, .int .i64 t52] w_3 fun e w_4 =>
      ∃ t53 : Sl, ∃ t53_1 : Int, (e = .returned (.tuple #[.slice t53.a t53.len t53.cap, .int .i64 t53_1])) ∧
      NilP f0 fun a_t56 =>
      ∃ w_5 : World, ((Instr.storeAt 33 (.pointer ((some ⟨a_t56.block, a_t56.off + 4, none⟩))) (.slice t53.a t53.len t53.cap)).run Tryz.prog w_4 = .ok () w_5) ∧
      NilP f0 fun a_t59 =>
      ∃ t61 : Option Nat, (At (fun w' => w' = w_5) ⟨a_t59.block, a_t59.off + 5, none⟩ [.map t61]) ∧
      ∃ w_6 : World, ((Builtin.delete_ #[75, 3] 0 #[.map t61, .int .i64 owner1]).run Tryz.prog w_5 = .ok (.tuple #[]) w_6) ∧
      K (.int .i64 0) w_6))

def sk27 : Sk := (.seq .leaf (.seq .leaf (.seq .leaf (.seq (.seq .leaf (.block (.loop [25] [(.int .i64)] [8, 25, 26, 27, 28, 29, 30, 31, 32, 33, 34] .leaf))) .leaf))))
theorem ok27 : fnOk Tryz.prog Tryz.f27.ntmps Tryz.f27 sk27 = true := by kernel_rfl
theorem eq27 (f0 : Option Addr) (owner1 : Int) (K : Value → World → Prop) (w : World) : fnF Tryz.prog cl Tryz.f27 sk27 [.pointer f0, .int .i64 owner1] K w = B27 f0 owner1 K w := by kernel_rfl
theorem call27 (f0 : Option Addr) (owner1 : Int) (K : Value → World → Prop) (w : World) (h : B27 f0 owner1 K w) : Gets Tryz.prog 27 #[.pointer f0, .int .i64 owner1] w K :=
  calls_of (sk := sk27) cl_ok mixed Tryz.func27 ok27 (args := [.pointer f0, .int .i64 owner1]) (Nat.le_of_ble_eq_true (by kernel_rfl)) (by rw [eq27]; exact h)

/-- (*jetway/flight.Flight).both. -/
def B74 (f0 : Option Addr) (owner1 : Int) (label2 : ByteArray) (K : Value → World → Prop) (w : World) : Prop :=
  NilP f0 fun a_t15 =>
  ∃ t17 : Option Nat, (At (fun w' => w' = w) ⟨a_t15.block, a_t15.off + 5, none⟩ [.map t17]) ∧
  ∃ t19 : Option Addr, ∃ t19_1 : Bool, (∀ w', (fun w' => w' = w) w' → ((Instr.lookup 75 (.map t17) (.int .i64 owner1) true)).run Tryz.prog w' = .ok (.tuple #[.pointer t19, .bool t19_1]) w') ∧
  NilP f0 fun a_t24 =>
  ∃ t26 : Int, ∃ t26_1 : Sl, (At (fun w' => w' = w) ⟨a_t24.block, a_t24.off + 1, none⟩ [.int .i64 t26, .slice t26_1.a t26_1.len t26_1.cap]) ∧
  Calls Tryz.prog 112 #[.agg #[.int .i64 t26, .slice t26_1.a t26_1.len t26_1.cap], .string label2] w fun e w_1 =>
  ∃ t28 : Int, ∃ t28_1 : Int, (e = .returned (.tuple #[.int .i64 t28, .int .i64 t28_1])) ∧
  Br t19_1
   (K (.tuple #[.pointer t19, .int .i64 t28, .bool (t28_1 == 0)]) w_1)
   (K (.tuple #[.pointer t19, .int .i64 t28, .bool false]) w_1)

def sk74 : Sk := .leaf
theorem ok74 : fnOk Tryz.prog Tryz.f74.ntmps Tryz.f74 sk74 = true := by kernel_rfl
theorem eq74 (f0 : Option Addr) (owner1 : Int) (label2 : ByteArray) (K : Value → World → Prop) (w : World) : fnF Tryz.prog cl Tryz.f74 sk74 [.pointer f0, .int .i64 owner1, .string label2] K w = B74 f0 owner1 label2 K w := by kernel_rfl
theorem call74 (f0 : Option Addr) (owner1 : Int) (label2 : ByteArray) (K : Value → World → Prop) (w : World) (h : B74 f0 owner1 label2 K w) : Gets Tryz.prog 74 #[.pointer f0, .int .i64 owner1, .string label2] w K :=
  calls_of (sk := sk74) cl_ok mixed Tryz.func74 ok74 (args := [.pointer f0, .int .i64 owner1, .string label2]) (Nat.le_of_ble_eq_true (by kernel_rfl)) (by rw [eq74]; exact h)

/-- (*jetway/flight.Flight).tell. -/
def B65 (f0 : Option Addr) (h1 : Option Addr) (n2 : Int) (K : Value → World → Prop) (w : World) : Prop :=
  NilP h1 fun a_t10 =>
  ∃ t12 : Sl, (At (fun w' => w' = w) ⟨a_t10.block, a_t10.off + 3, none⟩ [.slice t12.a t12.len t12.cap]) ∧
  Calls Tryz.prog 106 #[.slice t12.a t12.len t12.cap, .int .i64 n2] w fun e w_1 =>
  ∃ t14 : Int, ∃ t14_1 : Bool, (e = .returned (.tuple #[.int .i64 t14, .bool t14_1])) ∧
  NilP h1 fun a_t19 =>
  ∃ t21 : Sl, (At (fun w' => w' = w_1) ⟨a_t19.block, a_t19.off + 3, none⟩ [.slice t21.a t21.len t21.cap]) ∧
  New (.cells #[.int .i64 n2] 3 (0, 0)) (fun b_t24 w_2 =>
  Calls Tryz.prog 107 #[.slice t21.a t21.len t21.cap, .int .i64 t14, .slice ((some ⟨b_t24, 0, none⟩)) 1 1] w_2 fun e_1 w_3 =>
  ∃ t25 : Sl, (e_1 = .returned (.slice t25.a t25.len t25.cap)) ∧
  NilP h1 fun a_t26 =>
  ∃ w_4 : World, ((Instr.storeAt 33 (.pointer ((some ⟨a_t26.block, a_t26.off + 3, none⟩))) (.slice t25.a t25.len t25.cap)).run Tryz.prog w_3 = .ok () w_4) ∧
  Drw w_4 fun S w_5 =>
  NilP f0 fun a_t29 =>
  ∃ t31 : Option Nat, (At S ⟨a_t29.block, a_t29.off + 6, none⟩ [.map t31]) ∧
  NilP h1 fun a_t34 =>
  ∃ t36 : Int, (At S (Addr.add a_t34 0) [.int .i64 t36]) ∧
  ∃ w_6 : World, ((Instr.mapUpdate 76 (.map t31) (.int .i64 n2) (.int .i64 t36)).run Tryz.prog w_5 = .ok () w_6) ∧
  K (.tuple #[]) w_6) w_1

def sk65 : Sk := .leaf
theorem ok65 : fnOk Tryz.prog Tryz.f65.ntmps Tryz.f65 sk65 = true := by kernel_rfl
theorem eq65 (f0 : Option Addr) (h1 : Option Addr) (n2 : Int) (K : Value → World → Prop) (w : World) : fnF Tryz.prog cl Tryz.f65 sk65 [.pointer f0, .pointer h1, .int .i64 n2] K w = B65 f0 h1 n2 K w := by kernel_rfl
theorem call65 (f0 : Option Addr) (h1 : Option Addr) (n2 : Int) (K : Value → World → Prop) (w : World) (h : B65 f0 h1 n2 K w) : Gets Tryz.prog 65 #[.pointer f0, .pointer h1, .int .i64 n2] w K :=
  calls_of (sk := sk65) cl_ok mixed Tryz.func65 ok65 (args := [.pointer f0, .pointer h1, .int .i64 n2]) (Nat.le_of_ble_eq_true (by kernel_rfl)) (by rw [eq65]; exact h)

/-- (*jetway/flight.Flight).Seat. -/
def B24 (f0 : Option Addr) (owner1 : Int) (label2 : ByteArray) (K : Value → World → Prop) (w : World) : Prop :=
  Calls Tryz.prog 74 #[.pointer f0, .int .i64 owner1, .string label2] w fun e w_1 =>
  ∃ t16 : Option Addr, ∃ t16_1 : Int, ∃ t16_2 : Bool, (e = .returned (.tuple #[.pointer t16, .int .i64 t16_1, .bool t16_2])) ∧
  NilP f0 fun a_t22 =>
  ∃ t24 : Option Nat, (At (fun w' => w' = w_1) ⟨a_t22.block, a_t22.off + 6, none⟩ [.map t24]) ∧
  ∃ t26 : Int, ∃ t26_1 : Bool, (∀ w', (fun w' => w' = w_1) w' → ((Instr.lookup 76 (.map t24) (.int .i64 t16_1) true)).run Tryz.prog w' = .ok (.tuple #[.int .i64 t26, .bool t26_1]) w') ∧
  Br (!t16_2)
   (K (.int .i64 2) w_1)
   (Drw w_1 fun S w_2 =>
    NilP t16 fun a_t34 =>
    ∃ t36 : Sl, (At S ⟨a_t34.block, a_t34.off + 3, none⟩ [.slice t36.a t36.len t36.cap]) ∧
    NilP t16 fun a_t39 =>
    ∃ t41 : Int, (At S ⟨a_t39.block, a_t39.off + 2, none⟩ [.int .i64 t41]) ∧
    Br (decide ((↑t36.len : Int) ≥ t41))
     (K (.int .i64 7) w_2)
     (Br t26_1
       (K (.int .i64 3) w_2)
       (Calls Tryz.prog 65 #[.pointer f0, .pointer t16, .int .i64 t16_1] w_2 fun e_1 w_3 =>
        (e_1 = .returned (.tuple #[])) ∧
        K (.int .i64 0) w_3)))

def sk24 : Sk := .leaf
theorem ok24 : fnOk Tryz.prog Tryz.f24.ntmps Tryz.f24 sk24 = true := by kernel_rfl
theorem eq24 (f0 : Option Addr) (owner1 : Int) (label2 : ByteArray) (K : Value → World → Prop) (w : World) : fnF Tryz.prog cl Tryz.f24 sk24 [.pointer f0, .int .i64 owner1, .string label2] K w = B24 f0 owner1 label2 K w := by kernel_rfl
theorem call24 (f0 : Option Addr) (owner1 : Int) (label2 : ByteArray) (K : Value → World → Prop) (w : World) (h : B24 f0 owner1 label2 K w) : Gets Tryz.prog 24 #[.pointer f0, .int .i64 owner1, .string label2] w K :=
  calls_of (sk := sk24) cl_ok mixed Tryz.func24 ok24 (args := [.pointer f0, .int .i64 owner1, .string label2]) (Nat.le_of_ble_eq_true (by kernel_rfl)) (by rw [eq24]; exact h)

/-- (*jetway/flight.Flight).Unseat. -/
def B25 (f0 : Option Addr) (owner1 : Int) (label2 : ByteArray) (K : Value → World → Prop) (w : World) : Prop :=
  Calls Tryz.prog 74 #[.pointer f0, .int .i64 owner1, .string label2] w fun e w_1 =>
  ∃ t14 : Option Addr, ∃ t14_1 : Int, ∃ t14_2 : Bool, (e = .returned (.tuple #[.pointer t14, .int .i64 t14_1, .bool t14_2])) ∧
  New (.cells #[.int .i64 0] 3 (0, 0)) (fun b_n8 w_2 =>
  ∃ w_3 : World, ((Instr.storeAt 3 (.pointer ((some ⟨b_n8, 0, none⟩))) (.int .i64 t14_1)).run Tryz.prog w_2 = .ok () w_3) ∧
  ∃ (J : World → Prop), (Drw w_3 fun S w_4 =>
    Br (!t14_2)
     (K (.int .i64 2) w_4)
     (NilP f0 fun a_t22 =>
      ∃ t24 : Option Nat, (At S ⟨a_t22.block, a_t22.off + 6, none⟩ [.map t24]) ∧
      ∃ t25 : Int, (At S ⟨b_n8, 0, none⟩ [.int .i64 t25]) ∧
      ∃ t26 : Int, (∀ w', S w' → ((Instr.lookup 76 (.map t24) (.int .i64 t25) false)).run Tryz.prog w' = .ok (.int .i64 t26) w') ∧
      Br (t26 != owner1)
       (K (.int .i64 2) w_4)
       (J  w_4))) ∧
  ∀ (z : Env)  (w_5 : World), J  w_5 →
  NilP t14 fun a_t32 =>
  ∃ t34 : Sl, (At (fun w' => w' = w_5) ⟨a_t32.block, a_t32.off + 3, none⟩ [.slice t34.a t34.len t34.cap]) ∧
  Calls Tryz.prog 75 #[.slice t34.a t34.len t34.cap, .func (.func 76) #[] #[.pointer ((some ⟨b_n8, 0, none⟩))]] w_5 fun e_1 w_6 =>
  ∃ t36 : Sl, (e_1 = .returned (.slice t36.a t36.len t36.cap)) ∧
  NilP t14 fun a_t37 =>
  ∃ w_7 : World, ((Instr.storeAt 33 (.pointer ((some ⟨a_t37.block, a_t37.off + 3, none⟩))) (.slice t36.a t36.len t36.cap)).run Tryz.prog w_6 = .ok () w_7) ∧
  Drw w_7 fun S_1 w_8 =>
  NilP f0 fun a_t40 =>
  ∃ t42 : Option Nat, (At S_1 ⟨a_t40.block, a_t40.off + 6, none⟩ [.map t42]) ∧
  ∃ t43 : Int, (At S_1 ⟨b_n8, 0, none⟩ [.int .i64 t43]) ∧
  ∃ w_9 : World, ((Builtin.delete_ #[76, 3] 0 #[.map t42, .int .i64 t43]).run Tryz.prog w_8 = .ok (.tuple #[]) w_9) ∧
  K (.int .i64 0) w_9) w_1

def sk25 : Sk := (.seq .leaf (.seq .leaf (.cut [] [] [6, 18, 19, 20, 21, 22, 23, 24, 25, 26, 27, 28, 29] .leaf .leaf)))
theorem ok25 : fnOk Tryz.prog Tryz.f25.ntmps Tryz.f25 sk25 = true := by kernel_rfl
theorem eq25 (f0 : Option Addr) (owner1 : Int) (label2 : ByteArray) (K : Value → World → Prop) (w : World) : fnF Tryz.prog cl Tryz.f25 sk25 [.pointer f0, .int .i64 owner1, .string label2] K w = B25 f0 owner1 label2 K w := by kernel_rfl
theorem call25 (f0 : Option Addr) (owner1 : Int) (label2 : ByteArray) (K : Value → World → Prop) (w : World) (h : B25 f0 owner1 label2 K w) : Gets Tryz.prog 25 #[.pointer f0, .int .i64 owner1, .string label2] w K :=
  calls_of (sk := sk25) cl_ok mixed Tryz.func25 ok25 (args := [.pointer f0, .int .i64 owner1, .string label2]) (Nat.le_of_ble_eq_true (by kernel_rfl)) (by rw [eq25]; exact h)

/-- (*jetway/flight.Flight).Unseat$1. -/
def B76 (k0 : Int) (c1 : Option Addr) (K : Value → World → Prop) (w : World) : Prop :=
  NilP c1 fun a_t5 =>
  ∃ t5 : Int, (At (fun w' => w' = w) a_t5 [.int .i64 t5]) ∧
  K (.bool (k0 == t5)) w

def sk76 : Sk := .leaf
theorem ok76 : fnOk Tryz.prog Tryz.f76.ntmps Tryz.f76 sk76 = true := by kernel_rfl
theorem eq76 (k0 : Int) (c1 : Option Addr) (K : Value → World → Prop) (w : World) : fnF Tryz.prog cl Tryz.f76 sk76 [.int .i64 k0, .pointer c1] K w = B76 k0 c1 K w := by kernel_rfl
theorem call76 (k0 : Int) (c1 : Option Addr) (K : Value → World → Prop) (w : World) (h : B76 k0 c1 K w) : Gets Tryz.prog 76 #[.int .i64 k0, .pointer c1] w K :=
  calls_of (sk := sk76) cl_ok mixed Tryz.func76 ok76 (args := [.int .i64 k0, .pointer c1]) (Nat.le_of_ble_eq_true (by kernel_rfl)) (by rw [eq76]; exact h)

/-- (*jetway/flight.Flight).Auto. -/
def B19 (f0 : Option Addr) (owner1 : Int) (K : Value → World → Prop) (w : World) : Prop :=
  NilP f0 fun a_t14 =>
  ∃ t16 : Option Nat, (At (fun w' => w' = w) ⟨a_t14.block, a_t14.off + 5, none⟩ [.map t16]) ∧
  ∃ t18 : Option Addr, ∃ t18_1 : Bool, (∀ w', (fun w' => w' = w) w' → ((Instr.lookup 75 (.map t16) (.int .i64 owner1) true)).run Tryz.prog w' = .ok (.tuple #[.pointer t18, .bool t18_1]) w') ∧
  Br (!t18_1)
   (K (.tuple #[.slice none 0 0, .int .i64 2]) w)
   (NilP t18 fun a_t26 =>
    ∃ t28 : Sl, (At (fun w' => w' = w) ⟨a_t26.block, a_t26.off + 3, none⟩ [.slice t28.a t28.len t28.cap]) ∧
    Br (decide ((↑t28.len : Int) > 0))
     (K (.tuple #[.slice none 0 0, .int .i64 7]) w)
     (Drw w fun S w_1 =>
      NilP f0 fun a_t33 =>
      ∃ t35 : Int, ∃ t35_1 : Sl, (At S ⟨a_t33.block, a_t33.off + 1, none⟩ [.int .i64 t35, .slice t35_1.a t35_1.len t35_1.cap]) ∧
      NilP f0 fun a_t37 =>
      ∃ t39 : Option Nat, (At S ⟨a_t37.block, a_t37.off + 6, none⟩ [.map t39]) ∧
      NilP t18 fun a_t43 =>
      ∃ t45 : Int, (At S ⟨a_t43.block, a_t43.off + 2, none⟩ [.int .i64 t45]) ∧
      Calls Tryz.prog 64 #[.map t39] w_1 fun e w_2 =>
      ∃ t40 : Value, (e = .returned (t40)) ∧
      (S w_2) ∧
      Calls Tryz.prog 63 #[t40] w_2 fun e_1 w_3 =>
      ∃ t41 : Sl, (e_1 = .returned (.slice t41.a t41.len t41.cap)) ∧
      (S w_3) ∧
      Calls Tryz.prog 62 #[.agg #[.int .i64 t35, .slice t35_1.a t35_1.len t35_1.cap], .slice t41.a t41.len t41.cap, .int .i64 t45] w_3 fun e_2 w_4 =>
      ∃ t46 : Sl, ∃ t46_1 : Int, (e_2 = .returned (.tuple #[.slice t46.a t46.len t46.cap, .int .i64 t46_1])) ∧
      (S w_4) ∧
      ∃ (I : Int → World → Prop) (μ : Int → World → Nat), (I 0 w_4) ∧ ∀ (z : Env) (t51 : Int) (w_5 : World), I t51 w_5 →
      Br (decide (t51 < (↑t46.len : Int)))
       (Rng t51 t46.len (NilP t46.a fun a_t53 =>
        ∃ t54 : Int, (At (fun w' => w' = w_5) (Addr.add a_t53 t51.toNat) [.int .i64 t54]) ∧
        Calls Tryz.prog 65 #[.pointer f0, .pointer t18, .int .i64 t54] w_5 fun e_3 w_6 =>
        (e_3 = .returned (.tuple #[])) ∧
        (I (IntKind.i64.wrap (t51 + 1)) w_6) ∧ μ (IntKind.i64.wrap (t51 + 1)) w_6 < μ t51 w_5))
       (Calls Tryz.prog 66 #[.pointer f0, .slice t46.a t46.len t46.cap] w_5 fun e_4 w_7 =>
        ∃ t62 : Sl, (e_4 = .returned (.slice t62.a t62.len t62.cap)) ∧
        K (.tuple #[.slice t62.a t62.len t62.cap, .int .i64 t46_1]) w_7)))

def sk19 : Sk := (.seq .leaf (.seq .leaf (.seq .leaf (.seq .leaf (.seq (.seq .leaf (.block (.loop [51] [(.int .i64)] [11, 51, 52, 53, 54, 55, 56, 57, 58, 59] .leaf))) .leaf)))))
theorem ok19 : fnOk Tryz.prog Tryz.f19.ntmps Tryz.f19 sk19 = true := by kernel_rfl
theorem eq19 (f0 : Option Addr) (owner1 : Int) (K : Value → World → Prop) (w : World) : fnF Tryz.prog cl Tryz.f19 sk19 [.pointer f0, .int .i64 owner1] K w = B19 f0 owner1 K w := by kernel_rfl
theorem call19 (f0 : Option Addr) (owner1 : Int) (K : Value → World → Prop) (w : World) (h : B19 f0 owner1 K w) : Gets Tryz.prog 19 #[.pointer f0, .int .i64 owner1] w K :=
  calls_of (sk := sk19) cl_ok mixed Tryz.func19 ok19 (args := [.pointer f0, .int .i64 owner1]) (Nat.le_of_ble_eq_true (by kernel_rfl)) (by rw [eq19]; exact h)

/-- (*jetway/flight.Flight).Number. -/
def B49 (f0 : Option Addr) (K : Value → World → Prop) (w : World) : Prop :=
  NilP f0 fun a_t4 =>
  ∃ t6 : Int, (At (fun w' => w' = w) (Addr.add a_t4 0) [.int .i64 t6]) ∧
  K (.int .i64 t6) w

def sk49 : Sk := .leaf
theorem ok49 : fnOk Tryz.prog Tryz.f49.ntmps Tryz.f49 sk49 = true := by kernel_rfl
theorem eq49 (f0 : Option Addr) (K : Value → World → Prop) (w : World) : fnF Tryz.prog cl Tryz.f49 sk49 [.pointer f0] K w = B49 f0 K w := by kernel_rfl
theorem call49 (f0 : Option Addr) (K : Value → World → Prop) (w : World) (h : B49 f0 K w) : Gets Tryz.prog 49 #[.pointer f0] w K :=
  calls_of (sk := sk49) cl_ok mixed Tryz.func49 ok49 (args := [.pointer f0]) (Nat.le_of_ble_eq_true (by kernel_rfl)) (by rw [eq49]; exact h)

/-- (*jetway/flight.Flight).Left. -/
def B29 (f0 : Option Addr) (K : Value → World → Prop) (w : World) : Prop :=
  NilP f0 fun a_t6 =>
  ∃ t8 : Sl, (At (fun w' => w' = w) ⟨a_t6.block, a_t6.off + 3, none⟩ [.slice t8.a t8.len t8.cap]) ∧
  ∃ w_1 : World, ∃ t10 : Sl, ((Instr.makeSlice 33 (.int .i64 ((↑t8.len : Int))) (.int .i64 ((↑t8.len : Int)))).run Tryz.prog w = .ok (.slice t10.a t10.len t10.cap) w_1) ∧
  ∃ (I : Int → World → Prop) (μ : Int → World → Nat), (I 0 w_1) ∧ ∀ (z : Env) (t13 : Int) (w_2 : World), I t13 w_2 →
  Br (decide (t13 < (↑t10.len : Int)))
   (Drw w_2 fun S w_3 =>
    NilP f0 fun a_t20 =>
    ∃ t22 : Sl, (At S ⟨a_t20.block, a_t20.off + 3, none⟩ [.slice t22.a t22.len t22.cap]) ∧
    NilP f0 fun a_t24 =>
    ∃ t26 : Sl, (At S ⟨a_t24.block, a_t24.off + 4, none⟩ [.slice t26.a t26.len t26.cap]) ∧
    Calls Tryz.prog 79 #[.slice t22.a t22.len t22.cap, .slice t26.a t26.len t26.cap, .int .i64 t13] w_3 fun e w_4 =>
    ∃ t28 : Int, ∃ t28_1 : Int, (e = .returned (.tuple #[.int .i64 t28, .int .i64 t28_1])) ∧
    Rng t13 t10.len (NilP t10.a fun a_t31 =>
    ∃ w_5 : World, ((Instr.storeAt 3 (.pointer ((some (Addr.add a_t31 t13.toNat)))) (.int .i64 t28)).run Tryz.prog w_4 = .ok () w_5) ∧
    (I (IntKind.i64.wrap (t13 + 1)) w_5) ∧ μ (IntKind.i64.wrap (t13 + 1)) w_5 < μ t13 w_2))
   (K (.slice t10.a t10.len t10.cap) w_2)

def sk29 : Sk := (.seq .leaf (.seq .leaf (.seq (.seq .leaf (.block (.loop [13] [(.int .i64)] [4, 13, 14, 15, 16, 17, 18, 19, 20, 21, 22, 23, 24, 25, 26, 27, 28, 29, 30, 31, 32] .leaf))) .leaf)))
theorem ok29 : fnOk Tryz.prog Tryz.f29.ntmps Tryz.f29 sk29 = true := by kernel_rfl
theorem eq29 (f0 : Option Addr) (K : Value → World → Prop) (w : World) : fnF Tryz.prog cl Tryz.f29 sk29 [.pointer f0] K w = B29 f0 K w := by kernel_rfl
theorem call29 (f0 : Option Addr) (K : Value → World → Prop) (w : World) (h : B29 f0 K w) : Gets Tryz.prog 29 #[.pointer f0] w K :=
  calls_of (sk := sk29) cl_ok mixed Tryz.func29 ok29 (args := [.pointer f0]) (Nat.le_of_ble_eq_true (by kernel_rfl)) (by rw [eq29]; exact h)

/-- (*jetway/flight.Flight).Sold. -/
def B46 (f0 : Option Addr) (K : Value → World → Prop) (w : World) : Prop :=
  NilP f0 fun a_t4 =>
  ∃ t6 : Sl, (At (fun w' => w' = w) ⟨a_t4.block, a_t4.off + 4, none⟩ [.slice t6.a t6.len t6.cap]) ∧
  Calls Tryz.prog 59 #[.slice t6.a t6.len t6.cap] w fun e w_1 =>
  ∃ t7 : Sl, (e = .returned (.slice t7.a t7.len t7.cap)) ∧
  K (.slice t7.a t7.len t7.cap) w_1

def sk46 : Sk := .leaf
theorem ok46 : fnOk Tryz.prog Tryz.f46.ntmps Tryz.f46 sk46 = true := by kernel_rfl
theorem eq46 (f0 : Option Addr) (K : Value → World → Prop) (w : World) : fnF Tryz.prog cl Tryz.f46 sk46 [.pointer f0] K w = B46 f0 K w := by kernel_rfl
theorem call46 (f0 : Option Addr) (K : Value → World → Prop) (w : World) (h : B46 f0 K w) : Gets Tryz.prog 46 #[.pointer f0] w K :=
  calls_of (sk := sk46) cl_ok mixed Tryz.func46 ok46 (args := [.pointer f0]) (Nat.le_of_ble_eq_true (by kernel_rfl)) (by rw [eq46]; exact h)

/-- (*jetway/flight.Flight).Holds. -/
def B16 (f0 : Option Addr) (K : Value → World → Prop) (w : World) : Prop :=
  NilP f0 fun a_t8 =>
  ∃ t10 : Option Nat, (At (fun w' => w' = w) ⟨a_t8.block, a_t8.off + 5, none⟩ [.map t10]) ∧
  Calls Tryz.prog 58 #[.map t10] w fun e w_1 =>
  ∃ t11 : Value, (e = .returned (t11)) ∧
  Calls Tryz.prog 57 #[t11] w_1 fun e_1 w_2 =>
  ∃ t12 : Sl, (e_1 = .returned (.slice t12.a t12.len t12.cap)) ∧
  ∃ (I : Sl → Int → World → Prop) (μ : Sl → Int → World → Nat), (I ⟨none, 0, 0⟩ 0 w_2) ∧ ∀ (z : Env) (out3 : Sl) (t14 : Int) (w_3 : World), I out3 t14 w_3 →
  Br (decide (t14 < (↑t12.len : Int)))
   (Rng t14 t12.len (NilP t12.a fun a_t16 =>
    ∃ t17 : Int, (At (fun w' => w' = w_3) (Addr.add a_t16 t14.toNat) [.int .i64 t17]) ∧
    NilP f0 fun a_t19 =>
    ∃ t21 : Option Nat, (At (fun w' => w' = w_3) ⟨a_t19.block, a_t19.off + 5, none⟩ [.map t21]) ∧
    ∃ t23 : Option Addr, (∀ w', (fun w' => w' = w_3) w' → ((Instr.lookup 75 (.map t21) (.int .i64 t17) false)).run Tryz.prog w' = .ok (.pointer t23) w') ∧
    NilP t23 fun a_t24 =>
    ∃ t25 : Int, ∃ t25_1 : Int, ∃ t25_2 : Int, ∃ t25_3 : Sl, (At (fun w' => w' = w_3) a_t24 [.int .i64 t25, .int .i64 t25_1, .int .i64 t25_2, .slice t25_3.a t25_3.len t25_3.cap]) ∧
    New (.cells #[.int .i64 0, .int .i64 0, .int .i64 0, .slice none 0 0] 51 (0, 0)) (fun b_h6 w_4 =>
    ∃ w_5 : World, ((Instr.storeAt 51 (.pointer ((some ⟨b_h6, 0, none⟩))) (.agg #[.int .i64 t25, .int .i64 t25_1, .int .i64 t25_2, .slice t25_3.a t25_3.len t25_3.cap])).run Tryz.prog w_4 = .ok () w_5) ∧
    ∃ t27 : Sl, (At (fun w' => w' = w_5) ⟨b_h6, 0 + 3, none⟩ [.slice t27.a t27.len t27.cap]) ∧
    Calls Tryz.prog 59 #[.slice t27.a t27.len t27.cap] w_5 fun e_2 w_6 =>
    ∃ t28 : Sl, (e_2 = .returned (.slice t28.a t28.len t28.cap)) ∧
    ∃ w_7 : World, ((Instr.storeAt 33 (.pointer ((some ⟨b_h6, 0 + 3, none⟩))) (.slice t28.a t28.len t28.cap)).run Tryz.prog w_6 = .ok () w_7) ∧
    ∃ t31 : Int, ∃ t31_1 : Int, ∃ t31_2 : Int, ∃ t31_3 : Sl, (At (fun w' => w' = w_7) ⟨b_h6, 0, none⟩ [.int .i64 t31, .int .i64 t31_1, .int .i64 t31_2, .slice t31_3.a t31_3.len t31_3.cap]) ∧
    New (.cells #[.int .i64 t31, .int .i64 t31_1, .int .i64 t31_2, .slice t31_3.a t31_3.len t31_3.cap] 51 (0, 0)) (fun b_t32 w_8 =>
    ∃ w_9 : World, ∃ t33 : Sl, ((Builtin.append_ #[46, 46] 46 #[.slice out3.a out3.len out3.cap, .slice ((some ⟨b_t32, 0, none⟩)) 1 1]).run Tryz.prog w_8 = .ok (.slice t33.a t33.len t33.cap) w_9) ∧
    (I t33 (IntKind.i64.wrap (t14 + 1)) w_9) ∧ μ t33 (IntKind.i64.wrap (t14 + 1)) w_9 < μ out3 t14 w_3) w_7) w_3))
   (K (.slice out3.a out3.len out3.cap) w_3)

def sk16 : Sk := (.seq .leaf (.seq .leaf (.seq (.seq .leaf (.block (.loop [3, 14] [.sl, (.int .i64)] [3, 5, 6, 14, 15, 16, 17, 18, 19, 20, 21, 22, 23, 24, 25, 26, 27, 28, 29, 30, 31, 32, 33, 34] .leaf))) .leaf)))
theorem ok16 : fnOk Tryz.prog Tryz.f16.ntmps Tryz.f16 sk16 = true := by kernel_rfl
theorem eq16 (f0 : Option Addr) (K : Value → World → Prop) (w : World) : fnF Tryz.prog cl Tryz.f16 sk16 [.pointer f0] K w = B16 f0 K w := by kernel_rfl
theorem call16 (f0 : Option Addr) (K : Value → World → Prop) (w : World) (h : B16 f0 K w) : Gets Tryz.prog 16 #[.pointer f0] w K :=
  calls_of (sk := sk16) cl_ok mixed Tryz.func16 ok16 (args := [.pointer f0]) (Nat.le_of_ble_eq_true (by kernel_rfl)) (by rw [eq16]; exact h)

/-- (*jetway/flight.Flight).Labels. -/
def B22 (f0 : Option Addr) (owner1 : Int) (K : Value → World → Prop) (w : World) : Prop :=
  NilP f0 fun a_t9 =>
  ∃ t11 : Option Nat, (At (fun w' => w' = w) ⟨a_t9.block, a_t9.off + 5, none⟩ [.map t11]) ∧
  ∃ t13 : Option Addr, ∃ t13_1 : Bool, (∀ w', (fun w' => w' = w) w' → ((Instr.lookup 75 (.map t11) (.int .i64 owner1) true)).run Tryz.prog w' = .ok (.tuple #[.pointer t13, .bool t13_1]) w') ∧
  Br (!t13_1)
   (K (.slice none 0 0) w)
   (NilP t13 fun a_t20 =>
    ∃ t22 : Sl, (At (fun w' => w' = w) ⟨a_t20.block, a_t20.off + 3, none⟩ [.slice t22.a t22.len t22.cap]) ∧
    Calls Tryz.prog 66 #[.pointer f0, .slice t22.a t22.len t22.cap] w fun e w_1 =>
    ∃ t23 : Sl, (e = .returned (.slice t23.a t23.len t23.cap)) ∧
    K (.slice t23.a t23.len t23.cap) w_1)

def sk22 : Sk := .leaf
theorem ok22 : fnOk Tryz.prog Tryz.f22.ntmps Tryz.f22 sk22 = true := by kernel_rfl
theorem eq22 (f0 : Option Addr) (owner1 : Int) (K : Value → World → Prop) (w : World) : fnF Tryz.prog cl Tryz.f22 sk22 [.pointer f0, .int .i64 owner1] K w = B22 f0 owner1 K w := by kernel_rfl
theorem call22 (f0 : Option Addr) (owner1 : Int) (K : Value → World → Prop) (w : World) (h : B22 f0 owner1 K w) : Gets Tryz.prog 22 #[.pointer f0, .int .i64 owner1] w K :=
  calls_of (sk := sk22) cl_ok mixed Tryz.func22 ok22 (args := [.pointer f0, .int .i64 owner1]) (Nat.le_of_ble_eq_true (by kernel_rfl)) (by rw [eq22]; exact h)

/-- (*jetway/flight.Flight).labels. -/
def B66 (f0 : Option Addr) (l1 : Sl) (K : Value → World → Prop) (w : World) : Prop :=
  ∃ (I : Sl → Int → World → Prop) (μ : Sl → Int → World → Nat), (I ⟨none, 0, 0⟩ 0 w) ∧ ∀ (z : Env) (out5 : Sl) (t12 : Int) (w_1 : World), I out5 t12 w_1 →
  Br (decide (t12 < (↑l1.len : Int)))
   (Rng t12 l1.len (NilP l1.a fun a_t14 =>
    ∃ t15 : Int, (At (fun w' => w' = w_1) (Addr.add a_t14 t12.toNat) [.int .i64 t15]) ∧
    NilP f0 fun a_t18 =>
    ∃ t20 : Int, ∃ t20_1 : Sl, (At (fun w' => w' = w_1) ⟨a_t18.block, a_t18.off + 1, none⟩ [.int .i64 t20, .slice t20_1.a t20_1.len t20_1.cap]) ∧
    Calls Tryz.prog 108 #[.agg #[.int .i64 t20, .slice t20_1.a t20_1.len t20_1.cap], .int .i64 t15] w_1 fun e w_2 =>
    ∃ t22 : ByteArray, ∃ t22_1 : Int, (e = .returned (.tuple #[.string t22, .int .i64 t22_1])) ∧
    New (.cells #[.string t22] 9 (0, 0)) (fun b_t27 w_3 =>
    ∃ w_4 : World, ∃ t28 : Sl, ((Builtin.append_ #[54, 54] 54 #[.slice out5.a out5.len out5.cap, .slice ((some ⟨b_t27, 0, none⟩)) 1 1]).run Tryz.prog w_3 = .ok (.slice t28.a t28.len t28.cap) w_4) ∧
    (I t28 (IntKind.i64.wrap (t12 + 1)) w_4) ∧ μ t28 (IntKind.i64.wrap (t12 + 1)) w_4 < μ out5 t12 w_1) w_2))
   (K (.slice out5.a out5.len out5.cap) w_1)

def sk66 : Sk := (.seq .leaf (.seq .leaf (.seq (.seq .leaf (.block (.loop [5, 12] [.sl, (.int .i64)] [5, 7, 8, 9, 12, 13, 14, 15, 16, 17, 18, 19, 20, 21, 22, 23, 24, 25, 26, 27, 28, 29] .leaf))) .leaf)))
theorem ok66 : fnOk Tryz.prog Tryz.f66.ntmps Tryz.f66 sk66 = true := by kernel_rfl
theorem eq66 (f0 : Option Addr) (l1 : Sl) (K : Value → World → Prop) (w : World) : fnF Tryz.prog cl Tryz.f66 sk66 [.pointer f0, .slice l1.a l1.len l1.cap] K w = B66 f0 l1 K w := by kernel_rfl
theorem call66 (f0 : Option Addr) (l1 : Sl) (K : Value → World → Prop) (w : World) (h : B66 f0 l1 K w) : Gets Tryz.prog 66 #[.pointer f0, .slice l1.a l1.len l1.cap] w K :=
  calls_of (sk := sk66) cl_ok mixed Tryz.func66 ok66 (args := [.pointer f0, .slice l1.a l1.len l1.cap]) (Nat.le_of_ble_eq_true (by kernel_rfl)) (by rw [eq66]; exact h)

/-- (*jetway/flight.Flight).Encode. -/
def B23 (f0 : Option Addr) (K : Value → World → Prop) (w : World) : Prop :=
  New (.cells #[.slice none 0 0] 22 (0, 0)) (fun b_b3 w_1 =>
  New (.cells #[.nilFunc] 106 (0, 0)) (fun b_put4 w_2 =>
  ∃ w_3 : World, ((Instr.storeAt 106 (.pointer ((some ⟨b_put4, 0, none⟩))) (.func (.func 71) #[] #[.pointer ((some ⟨b_b3, 0, none⟩))])).run Tryz.prog w_2 = .ok () w_3) ∧
  Drw w_3 fun S w_4 =>
  ∃ t10 : Value, (At S ⟨b_put4, 0, none⟩ [t10]) ∧
  NilP f0 fun a_t12 =>
  ∃ t14 : Int, (At S (Addr.add a_t12 0) [.int .i64 t14]) ∧
  NilP f0 fun a_t16 =>
  ∃ t19 : Int, (At S ⟨a_t16.block, a_t16.off + 1, none⟩ [.int .i64 t19]) ∧
  New (.cells #[.int .i64 t14, .int .i64 t19] 3 (0, 0)) (fun b_t20 w_5 =>
  (S w_5) ∧
  CalW Tryz.prog cl t10 [.slice ((some ⟨b_t20, 0, none⟩)) 2 2] w_5 fun e w_6 =>
  (e = .returned (.tuple #[])) ∧
  (S w_6) ∧
  NilP f0 fun a_t24 =>
  ∃ t27 : Sl, (At (fun w' => w' = w_6) ⟨a_t24.block, a_t24.off + 1 + 1, none⟩ [.slice t27.a t27.len t27.cap]) ∧
  Calls Tryz.prog 73 #[.slice t27.a t27.len t27.cap, .pointer ((some ⟨b_put4, 0, none⟩))] w_6 fun e_1 w_7 =>
  (e_1 = .returned (.tuple #[])) ∧
  NilP f0 fun a_t31 =>
  ∃ t33 : Sl, (At (fun w' => w' = w_7) ⟨a_t31.block, a_t31.off + 3, none⟩ [.slice t33.a t33.len t33.cap]) ∧
  Calls Tryz.prog 73 #[.slice t33.a t33.len t33.cap, .pointer ((some ⟨b_put4, 0, none⟩))] w_7 fun e_2 w_8 =>
  (e_2 = .returned (.tuple #[])) ∧
  Drw w_8 fun S_1 w_9 =>
  ∃ t35 : Value, (At S_1 ⟨b_put4, 0, none⟩ [t35]) ∧
  NilP f0 fun a_t37 =>
  ∃ t39 : Option Nat, (At S_1 ⟨a_t37.block, a_t37.off + 5, none⟩ [.map t39]) ∧
  ∃ t40 : Int, (∀ w', S_1 w' → ((Builtin.len_ #[75] 3 #[.map t39])).run Tryz.prog w' = .ok (.int .i64 t40) w') ∧
  New (.cells #[.int .i64 t40] 3 (0, 0)) (fun b_t41 w_10 =>
  (S_1 w_10) ∧
  CalW Tryz.prog cl t35 [.slice ((some ⟨b_t41, 0, none⟩)) 1 1] w_10 fun e_3 w_11 =>
  (e_3 = .returned (.tuple #[])) ∧
  (S_1 w_11) ∧
  Calls Tryz.prog 16 #[.pointer f0] w_11 fun e_4 w_12 =>
  ∃ t44 : Sl, (e_4 = .returned (.slice t44.a t44.len t44.cap)) ∧
  ∃ (I : Int → World → Prop) (μ : Int → World → Nat), (I 0 w_12) ∧ ∀ (z : Env) (t46 : Int) (w_13 : World), I t46 w_13 →
  Br (decide (t46 < (↑t44.len : Int)))
   (Rng t46 t44.len (NilP t44.a fun a_t48 =>
    ∃ t49 : Int, ∃ t49_1 : Int, ∃ t49_2 : Int, ∃ t49_3 : Sl, (At (fun w' => w' = w_13) (Addr.add a_t48 (mulS t46.toNat 4)) [.int .i64 t49, .int .i64 t49_1, .int .i64 t49_2, .slice t49_3.a t49_3.len t49_3.cap]) ∧
    New (.cells #[.int .i64 0, .int .i64 0, .int .i64 0, .slice none 0 0] 51 (0, 0)) (fun b_h7 w_14 =>
    ∃ w_15 : World, ((Instr.storeAt 51 (.pointer ((some ⟨b_h7, 0, none⟩))) (.agg #[.int .i64 t49, .int .i64 t49_1, .int .i64 t49_2, .slice t49_3.a t49_3.len t49_3.cap])).run Tryz.prog w_14 = .ok () w_15) ∧
    ∃ t50 : Value, (At (fun w' => w' = w_15) ⟨b_put4, 0, none⟩ [t50]) ∧
    ∃ t52 : Int, (At (fun w' => w' = w_15) ⟨b_h7, 0, none⟩ [.int .i64 t52]) ∧
    ∃ t54 : Int, (At (fun w' => w' = w_15) ⟨b_h7, 0 + 1, none⟩ [.int .i64 t54]) ∧
    ∃ t56 : Int, (At (fun w' => w' = w_15) ⟨b_h7, 0 + 2, none⟩ [.int .i64 t56]) ∧
    New (.cells #[.int .i64 t52, .int .i64 t54, .int .i64 t56] 3 (0, 0)) (fun b_t57 w_16 =>
    CalW Tryz.prog cl t50 [.slice ((some ⟨b_t57, 0, none⟩)) 3 3] w_16 fun e_5 w_17 =>
    (e_5 = .returned (.tuple #[])) ∧
    ∃ t61 : Sl, (At (fun w' => w' = w_17) ⟨b_h7, 0 + 3, none⟩ [.slice t61.a t61.len t61.cap]) ∧
    Calls Tryz.prog 73 #[.slice t61.a t61.len t61.cap, .pointer ((some ⟨b_put4, 0, none⟩))] w_17 fun e_6 w_18 =>
    (e_6 = .returned (.tuple #[])) ∧
    (I (IntKind.i64.wrap (t46 + 1)) w_18) ∧ μ (IntKind.i64.wrap (t46 + 1)) w_18 < μ t46 w_13) w_15) w_13))
   (∃ t64 : Sl, (At (fun w' => w' = w_13) ⟨b_b3, 0, none⟩ [.slice t64.a t64.len t64.cap]) ∧
    K (.slice t64.a t64.len t64.cap) w_13)) w_9) w_4) w_1) w

def sk23 : Sk := (.seq .leaf (.seq .leaf (.seq .leaf (.seq .leaf (.seq .leaf (.seq .leaf (.seq .leaf (.seq .leaf (.seq (.seq .leaf (.block (.loop [46] [(.int .i64)] [7, 46, 47, 48, 49, 50, 51, 52, 53, 54, 55, 56, 57, 58, 59, 60, 61, 62, 63] .leaf))) .leaf)))))))))
theorem ok23 : fnOk Tryz.prog Tryz.f23.ntmps Tryz.f23 sk23 = true := by kernel_rfl
theorem eq23 (f0 : Option Addr) (K : Value → World → Prop) (w : World) : fnF Tryz.prog cl Tryz.f23 sk23 [.pointer f0] K w = B23 f0 K w := by kernel_rfl
theorem call23 (f0 : Option Addr) (K : Value → World → Prop) (w : World) (h : B23 f0 K w) : Gets Tryz.prog 23 #[.pointer f0] w K :=
  calls_of (sk := sk23) cl_ok mixed Tryz.func23 ok23 (args := [.pointer f0]) (Nat.le_of_ble_eq_true (by kernel_rfl)) (by rw [eq23]; exact h)

/-- (*jetway/flight.Flight).Encode$1. -/
def B71 (l0 : Sl) (c1 : Option Addr) (K : Value → World → Prop) (w : World) : Prop :=
  ∃ (I : Int → World → Prop) (μ : Int → World → Nat), (I 0 w) ∧ ∀ (z : Env) (t7 : Int) (w_1 : World), I t7 w_1 →
  Br (decide (t7 < (↑l0.len : Int)))
   (Rng t7 l0.len (NilP l0.a fun a_t9 =>
    ∃ t10 : Int, (At (fun w' => w' = w_1) (Addr.add a_t9 t7.toNat) [.int .i64 t10]) ∧
    Drw w_1 fun S w_2 =>
    NilP c1 fun a_t11 =>
    ∃ t11 : Sl, (At S a_t11 [.slice t11.a t11.len t11.cap]) ∧
    Calls Tryz.prog 72 #[.int .u64 (IntKind.u64.wrap t10)] w_2 fun e w_3 =>
    ∃ t14 : Sl, (e = .returned (.slice t14.a t14.len t14.cap)) ∧
    (S w_3) ∧
    ∃ w_4 : World, ∃ t15 : Sl, ((Builtin.append_ #[22, 22] 22 #[.slice t11.a t11.len t11.cap, .slice t14.a t14.len t14.cap]).run Tryz.prog w_3 = .ok (.slice t15.a t15.len t15.cap) w_4) ∧
    ∃ w_5 : World, ((Instr.storeAt 22 (.pointer c1) (.slice t15.a t15.len t15.cap)).run Tryz.prog w_4 = .ok () w_5) ∧
    (I (IntKind.i64.wrap (t7 + 1)) w_5) ∧ μ (IntKind.i64.wrap (t7 + 1)) w_5 < μ t7 w_1))
   (K (.tuple #[]) w_1)

def sk71 : Sk := (.seq .leaf (.block (.loop [7] [(.int .i64)] [4, 7, 8, 9, 10, 11, 12, 13, 14, 15, 16] .leaf)))
theorem ok71 : fnOk Tryz.prog Tryz.f71.ntmps Tryz.f71 sk71 = true := by kernel_rfl
theorem eq71 (l0 : Sl) (c1 : Option Addr) (K : Value → World → Prop) (w : World) : fnF Tryz.prog cl Tryz.f71 sk71 [.slice l0.a l0.len l0.cap, .pointer c1] K w = B71 l0 c1 K w := by kernel_rfl
theorem call71 (l0 : Sl) (c1 : Option Addr) (K : Value → World → Prop) (w : World) (h : B71 l0 c1 K w) : Gets Tryz.prog 71 #[.slice l0.a l0.len l0.cap, .pointer c1] w K :=
  calls_of (sk := sk71) cl_ok mixed Tryz.func71 ok71 (args := [.slice l0.a l0.len l0.cap, .pointer c1]) (Nat.le_of_ble_eq_true (by kernel_rfl)) (by rw [eq71]; exact h)

/-- (*jetway/flight.Flight).Encode$2. -/
def B73 (l0 : Sl) (c1 : Option Addr) (K : Value → World → Prop) (w : World) : Prop :=
  NilP c1 fun a_t3 =>
  ∃ t3 : Value, (At (fun w' => w' = w) a_t3 [t3]) ∧
  New (.cells #[.int .i64 ((↑l0.len : Int))] 3 (0, 0)) (fun b_t6 w_1 =>
  CalW Tryz.prog cl t3 [.slice ((some ⟨b_t6, 0, none⟩)) 1 1] w_1 fun e w_2 =>
  (e = .returned (.tuple #[])) ∧
  NilP c1 fun a_t8 =>
  ∃ t8 : Value, (At (fun w' => w' = w_2) a_t8 [t8]) ∧
  CalW Tryz.prog cl t8 [.slice l0.a l0.len l0.cap] w_2 fun e_1 w_3 =>
  (e_1 = .returned (.tuple #[])) ∧
  K (.tuple #[]) w_3) w

def sk73 : Sk := .leaf
theorem ok73 : fnOk Tryz.prog Tryz.f73.ntmps Tryz.f73 sk73 = true := by kernel_rfl
theorem eq73 (l0 : Sl) (c1 : Option Addr) (K : Value → World → Prop) (w : World) : fnF Tryz.prog cl Tryz.f73 sk73 [.slice l0.a l0.len l0.cap, .pointer c1] K w = B73 l0 c1 K w := by kernel_rfl
theorem call73 (l0 : Sl) (c1 : Option Addr) (K : Value → World → Prop) (w : World) (h : B73 l0 c1 K w) : Gets Tryz.prog 73 #[.slice l0.a l0.len l0.cap, .pointer c1] w K :=
  calls_of (sk := sk73) cl_ok mixed Tryz.func73 ok73 (args := [.slice l0.a l0.len l0.cap, .pointer c1]) (Nat.le_of_ble_eq_true (by kernel_rfl)) (by rw [eq73]; exact h)

/-- jetway/flight.Decode. -/
def B10 (b0 : Sl) (K : Value → World → Prop) (w : World) : Prop :=
  Calls Tryz.prog 30 #[.slice b0.a b0.len b0.cap] w fun e w_1 =>
  ∃ t12 : Option Addr, (e = .returned (.pointer t12)) ∧
  New (.cells #[.pointer none] 68 (0, 0)) (fun b_r4 w_2 =>
  ∃ w_3 : World, ((Instr.storeAt 68 (.pointer ((some ⟨b_r4, 0, none⟩))) (.pointer t12)).run Tryz.prog w_2 = .ok () w_3) ∧
  New (.cells #[.nilFunc] 72 (0, 0)) (fun b_number5 w_4 =>
  ∃ w_5 : World, ((Instr.storeAt 72 (.pointer ((some ⟨b_number5, 0, none⟩))) (.func (.func 31) #[] #[.pointer ((some ⟨b_r4, 0, none⟩))])).run Tryz.prog w_4 = .ok () w_5) ∧
  Drw w_5 fun S w_6 =>
  ∃ t15 : Value, (At S ⟨b_number5, 0, none⟩ [t15]) ∧
  ∃ t17 : Value, (At S ⟨b_number5, 0, none⟩ [t17]) ∧
  CalW Tryz.prog cl t15 [.int .i64 9999] w_6 fun e_1 w_7 =>
  ∃ t16 : Int, (e_1 = .returned (.int .i64 t16)) ∧
  (S w_7) ∧
  CalW Tryz.prog cl t17 [.int .i64 60] w_7 fun e_2 w_8 =>
  ∃ t18 : Int, (e_2 = .returned (.int .i64 t18)) ∧
  (S w_8) ∧
  Calls Tryz.prog 34 #[.int .i64 t16, .agg #[.int .i64 t18, .slice none 0 0], .slice none 0 0] w_8 fun e_3 w_9 =>
  ∃ t20 : Option Addr, (e_3 = .returned (.pointer t20)) ∧
  (S w_9) ∧
  Calls Tryz.prog 33 #[.int .i64 4, .int .i64 10, .pointer ((some ⟨b_number5, 0, none⟩))] w_9 fun e_4 w_10 =>
  ∃ t23 : Sl, (e_4 = .returned (.slice t23.a t23.len t23.cap)) ∧
  NilP t20 fun a_t24 =>
  ∃ w_11 : World, ((Instr.storeAt 33 (.pointer ((some ⟨a_t24.block, a_t24.off + 1 + 1, none⟩))) (.slice t23.a t23.len t23.cap)).run Tryz.prog w_10 = .ok () w_11) ∧
  Calls Tryz.prog 33 #[.int .i64 8, .int .i64 10000, .pointer ((some ⟨b_number5, 0, none⟩))] w_11 fun e_5 w_12 =>
  ∃ t29 : Sl, (e_5 = .returned (.slice t29.a t29.len t29.cap)) ∧
  NilP t20 fun a_t30 =>
  ∃ w_13 : World, ((Instr.storeAt 33 (.pointer ((some ⟨a_t30.block, a_t30.off + 3, none⟩))) (.slice t29.a t29.len t29.cap)).run Tryz.prog w_12 = .ok () w_13) ∧
  NilP t20 fun a_t34 =>
  ∃ t36 : Sl, (At (fun w' => w' = w_13) ⟨a_t34.block, a_t34.off + 3, none⟩ [.slice t36.a t36.len t36.cap]) ∧
  ∃ w_14 : World, ∃ t38 : Sl, ((Instr.makeSlice 33 (.int .i64 ((↑t36.len : Int))) (.int .i64 ((↑t36.len : Int)))).run Tryz.prog w_13 = .ok (.slice t38.a t38.len t38.cap) w_14) ∧
  NilP t20 fun a_t39 =>
  ∃ w_15 : World, ((Instr.storeAt 33 (.pointer ((some ⟨a_t39.block, a_t39.off + 4, none⟩))) (.slice t38.a t38.len t38.cap)).run Tryz.prog w_14 = .ok () w_15) ∧
  ∃ (J : Bool → World → Prop), (Drw w_15 fun S_1 w_16 =>
    NilP t20 fun a_t42 =>
    ∃ t44 : Int, (At S_1 (Addr.add a_t42 0) [.int .i64 t44]) ∧
    Br (decide (t44 > 0))
     (NilP t20 fun a_t48 =>
      ∃ t50 : Int, ∃ t50_1 : Sl, (At S_1 ⟨a_t48.block, a_t48.off + 1, none⟩ [.int .i64 t50, .slice t50_1.a t50_1.len t50_1.cap]) ∧
      Calls Tryz.prog 35 #[.agg #[.int .i64 t50, .slice t50_1.a t50_1.len t50_1.cap]] w_16 fun e_6 w_17 =>
      ∃ t51 : Bool, (e_6 = .returned (.bool t51)) ∧
      (S_1 w_17) ∧
      Br t51
       (NilP t20 fun a_t55 =>
        ∃ t57 : Sl, (At S_1 ⟨a_t55.block, a_t55.off + 3, none⟩ [.slice t57.a t57.len t57.cap]) ∧
        NilP t20 fun a_t59 =>
        ∃ t61 : Sl, (At S_1 ⟨a_t59.block, a_t59.off + 4, none⟩ [.slice t61.a t61.len t61.cap]) ∧
        Calls Tryz.prog 36 #[.slice t57.a t57.len t57.cap, .slice t61.a t61.len t61.cap] w_17 fun e_7 w_18 =>
        ∃ t62 : Bool, (e_7 = .returned (.bool t62)) ∧
        (S_1 w_18) ∧
        Br t62
         (NilP t20 fun a_t66 =>
          ∃ t68 : Sl, (At S_1 ⟨a_t66.block, a_t66.off + 3, none⟩ [.slice t68.a t68.len t68.cap]) ∧
          Rng 0 t68.len (NilP t68.a fun a_t69 =>
          ∃ t70 : Int, (At S_1 (Addr.add a_t69 0) [.int .i64 t70]) ∧
          NilP t20 fun a_t72 =>
          ∃ t74 : Int, ∃ t74_1 : Sl, (At S_1 ⟨a_t72.block, a_t72.off + 1, none⟩ [.int .i64 t74, .slice t74_1.a t74_1.len t74_1.cap]) ∧
          Calls Tryz.prog 37 #[.agg #[.int .i64 t74, .slice t74_1.a t74_1.len t74_1.cap]] w_18 fun e_8 w_19 =>
          ∃ t75 : Int, (e_8 = .returned (.int .i64 t75)) ∧
          (S_1 w_19) ∧
          J (t70 == t75) w_19))
         (J false w_18))
       (J false w_17))
     (J false w_16)) ∧
  ∀ (z : Env) (fine8 : Bool) (w_20 : World), J fine8 w_20 →
  ∃ t78 : Value, (At (fun w' => w' = w_20) ⟨b_number5, 0, none⟩ [t78]) ∧
  CalW Tryz.prog cl t78 [.int .i64 600] w_20 fun e_9 w_21 =>
  ∃ t79 : Int, (e_9 = .returned (.int .i64 t79)) ∧
  ∃ (I : Bool → Int → Int → World → Prop) (μ : Bool → Int → Int → World → Nat), (I fine8 0 0 w_21) ∧ ∀ (z_1 : Env) (fine8_1 : Bool) (last9 : Int) (t80 : Int) (w_22 : World), I fine8_1 last9 t80 w_22 →
  Br (decide (t80 < t79))
   (∃ (J_1 : Option Addr → World → Prop), (Drw w_22 fun S_2 w_23 =>
      ∃ t82 : Value, (At S_2 ⟨b_number5, 0, none⟩ [t82]) ∧
      ∃ t84 : Value, (At S_2 ⟨b_number5, 0, none⟩ [t84]) ∧
      ∃ t86 : Value, (At S_2 ⟨b_number5, 0, none⟩ [t86]) ∧
      (CalW Tryz.prog cl t82 [.int .i64 28629151] w_23 fun e_10 w_24 =>
      ∃ t83 : Int, (e_10 = .returned (.int .i64 t83)) ∧
      (S_2 w_24) ∧
      (CalW Tryz.prog cl t84 [.int .i64 8] w_24 fun e_11 w_25 =>
      ∃ t85 : Int, (e_11 = .returned (.int .i64 t85)) ∧
      (S_2 w_25) ∧
      (CalW Tryz.prog cl t86 [.int .i64 600] w_25 fun e_12 w_26 =>
      ∃ t87 : Int, (e_12 = .returned (.int .i64 t87)) ∧
      (S_2 w_26) ∧
      New (.cells #[.int .i64 0, .int .i64 0, .int .i64 0, .slice none 0 0] 51 (0, 0)) (fun b_h10 w_27 =>
      (S_2 w_27) ∧
      ∃ w_28 : World, ((Instr.storeAt 51 (.pointer ((some ⟨b_h10, 0, none⟩))) (.agg #[.int .i64 t83, .int .i64 t85, .int .i64 t87, .slice none 0 0])).run Tryz.prog w_27 = .ok () w_28) ∧
      J_1 ((some ⟨b_h10, 0, none⟩)) w_28) w_26) ∧
      New (.cells #[.int .i64 0, .int .i64 0, .int .i64 0, .slice none 0 0] 51 (0, 0)) (fun b_h10_1 w_29 =>
      (S_2 w_29) ∧
      CalW Tryz.prog cl t86 [.int .i64 600] w_29 fun e_13 w_30 =>
      ∃ t87_1 : Int, (e_13 = .returned (.int .i64 t87_1)) ∧
      (S_2 w_30) ∧
      ∃ w_31 : World, ((Instr.storeAt 51 (.pointer ((some ⟨b_h10_1, 0, none⟩))) (.agg #[.int .i64 t83, .int .i64 t85, .int .i64 t87_1, .slice none 0 0])).run Tryz.prog w_30 = .ok () w_31) ∧
      J_1 ((some ⟨b_h10_1, 0, none⟩)) w_31) w_25) ∧
      New (.cells #[.int .i64 0, .int .i64 0, .int .i64 0, .slice none 0 0] 51 (0, 0)) (fun b_h10_2 w_32 =>
      (S_2 w_32) ∧
      CalW Tryz.prog cl t84 [.int .i64 8] w_32 fun e_14 w_33 =>
      ∃ t85_1 : Int, (e_14 = .returned (.int .i64 t85_1)) ∧
      (S_2 w_33) ∧
      CalW Tryz.prog cl t86 [.int .i64 600] w_33 fun e_15 w_34 =>
      ∃ t87_2 : Int, (e_15 = .returned (.int .i64 t87_2)) ∧
      (S_2 w_34) ∧
      ∃ w_35 : World, ((Instr.storeAt 51 (.pointer ((some ⟨b_h10_2, 0, none⟩))) (.agg #[.int .i64 t83, .int .i64 t85_1, .int .i64 t87_2, .slice none 0 0])).run Tryz.prog w_34 = .ok () w_35) ∧
      J_1 ((some ⟨b_h10_2, 0, none⟩)) w_35) w_24) ∧
      New (.cells #[.int .i64 0, .int .i64 0, .int .i64 0, .slice none 0 0] 51 (0, 0)) (fun b_h10_3 w_36 =>
      (S_2 w_36) ∧
      CalW Tryz.prog cl t82 [.int .i64 28629151] w_36 fun e_16 w_37 =>
      ∃ t83_1 : Int, (e_16 = .returned (.int .i64 t83_1)) ∧
      (S_2 w_37) ∧
      CalW Tryz.prog cl t84 [.int .i64 8] w_37 fun e_17 w_38 =>
      ∃ t85_2 : Int, (e_17 = .returned (.int .i64 t85_2)) ∧
      (S_2 w_38) ∧
      CalW Tryz.prog cl t86 [.int .i64 600] w_38 fun e_18 w_39 =>
      ∃ t87_3 : Int, (e_18 = .returned (.int .i64 t87_3)) ∧
      (S_2 w_39) ∧
      ∃ w_40 : World, ((Instr.storeAt 51 (.pointer ((some ⟨b_h10_3, 0, none⟩))) (.agg #[.int .i64 t83_1, .int .i64 t85_2, .int .i64 t87_3, .slice none 0 0])).run Tryz.prog w_39 = .ok () w_40) ∧
      J_1 ((some ⟨b_h10_3, 0, none⟩)) w_40) w_23) ∧
    ∀ (z_2 : Env) (h10 : Option Addr) (w_41 : World), J_1 h10 w_41 →
    Calls Tryz.prog 33 #[.int .i64 600, .int .i64 600, .pointer ((some ⟨b_number5, 0, none⟩))] w_41 fun e_19 w_42 =>
    ∃ t90 : Sl, (e_19 = .returned (.slice t90.a t90.len t90.cap)) ∧
    NilP h10 fun a_t91 =>
    ∃ w_43 : World, ((Instr.storeAt 33 (.pointer ((some ⟨a_t91.block, a_t91.off + 3, none⟩))) (.slice t90.a t90.len t90.cap)).run Tryz.prog w_42 = .ok () w_43) ∧
    Br fine8_1
     (NilP h10 fun a_t94 =>
      ∃ t95 : Int, (At (fun w' => w' = w_43) (Addr.add a_t94 0) [.int .i64 t95]) ∧
      Br (decide (t95 > last9))
       (NilP h10 fun a_t101 =>
        ∃ t101 : Int, ∃ t101_1 : Int, ∃ t101_2 : Int, ∃ t101_3 : Sl, (At (fun w' => w' = w_43) a_t101 [.int .i64 t101, .int .i64 t101_1, .int .i64 t101_2, .slice t101_3.a t101_3.len t101_3.cap]) ∧
        Calls Tryz.prog 38 #[.pointer t20, .agg #[.int .i64 t101, .int .i64 t101_1, .int .i64 t101_2, .slice t101_3.a t101_3.len t101_3.cap]] w_43 fun e_20 w_44 =>
        ∃ t102 : Bool, (e_20 = .returned (.bool t102)) ∧
        NilP h10 fun a_t104 =>
        ∃ t105 : Int, (At (fun w' => w' = w_44) (Addr.add a_t104 0) [.int .i64 t105]) ∧
        (I t102 t105 (IntKind.i64.wrap (t80 + 1)) w_44) ∧ μ t102 t105 (IntKind.i64.wrap (t80 + 1)) w_44 < μ fine8_1 last9 t80 w_22)
       (NilP h10 fun a_t104_1 =>
        ∃ t105_1 : Int, (At (fun w' => w' = w_43) (Addr.add a_t104_1 0) [.int .i64 t105_1]) ∧
        (I false t105_1 (IntKind.i64.wrap (t80 + 1)) w_43) ∧ μ false t105_1 (IntKind.i64.wrap (t80 + 1)) w_43 < μ fine8_1 last9 t80 w_22))
     (NilP h10 fun a_t104_2 =>
      ∃ t105_2 : Int, (At (fun w' => w' = w_43) (Addr.add a_t104_2 0) [.int .i64 t105_2]) ∧
      (I false t105_2 (IntKind.i64.wrap (t80 + 1)) w_43) ∧ μ false t105_2 (IntKind.i64.wrap (t80 + 1)) w_43 < μ fine8_1 last9 t80 w_22))
   (∃ t107 : Option Addr, (At (fun w' => w' = w_22) ⟨b_r4, 0, none⟩ [.pointer t107]) ∧
    Calls Tryz.prog 39 #[.pointer t107] w_22 fun e_21 w_45 =>
    ∃ t108 : Bool, (e_21 = .returned (.bool t108)) ∧
    Br (!t108)
     (K (.tuple #[.pointer none, .int .i64 6]) w_45)
     (Br (!fine8_1)
       (K (.tuple #[.pointer none, .int .i64 6]) w_45)
       (K (.tuple #[.pointer t20, .int .i64 0]) w_45)))) w_3) w_1

def sk10 : Sk := (.seq .leaf (.seq .leaf (.seq .leaf (.seq .leaf (.seq .leaf (.seq .leaf (.seq .leaf (.seq .leaf (.cut [8] [.bool] [8, 41, 42, 43, 44, 45, 46, 47, 48, 49, 50, 51, 52, 53, 54, 55, 56, 57, 58, 59, 60, 61, 62, 63, 64, 65, 66, 67, 68, 69, 70, 71, 72, 73, 74, 75, 76, 77] .leaf (.seq .leaf (.seq (.seq .leaf (.block (.loop [8, 9, 80] [.bool, (.int .i64), (.int .i64)] [8, 9, 10, 80, 81, 82, 83, 84, 85, 86, 87, 88, 89, 90, 91, 92, 93, 94, 95, 96, 97, 98, 99, 100, 101, 102, 103, 104, 105, 106] (.seq .leaf (.seq .leaf (.seq (.block (.cut [10] [.ptr] [10, 82, 83, 84, 85, 86, 87, 88] .leaf .leaf)) .leaf)))))) .leaf)))))))))))
theorem ok10 : fnOk Tryz.prog Tryz.f10.ntmps Tryz.f10 sk10 = true := by kernel_rfl
theorem eq10 (b0 : Sl) (K : Value → World → Prop) (w : World) : fnF Tryz.prog cl Tryz.f10 sk10 [.slice b0.a b0.len b0.cap] K w = B10 b0 K w := by kernel_rfl
theorem call10 (b0 : Sl) (K : Value → World → Prop) (w : World) (h : B10 b0 K w) : Gets Tryz.prog 10 #[.slice b0.a b0.len b0.cap] w K :=
  calls_of (sk := sk10) cl_ok mixed Tryz.func10 ok10 (args := [.slice b0.a b0.len b0.cap]) (Nat.le_of_ble_eq_true (by kernel_rfl)) (by rw [eq10]; exact h)

/-- jetway/flight.Decode$1. -/
def B31 (most0 : Int) (c1 : Option Addr) (K : Value → World → Prop) (w : World) : Prop :=
  NilP c1 fun a_t4 =>
  ∃ t4 : Option Addr, (At (fun w' => w' = w) a_t4 [.pointer t4]) ∧
  Calls Tryz.prog 32 #[.pointer t4, .int .u64 (IntKind.u64.wrap most0)] w fun e w_1 =>
  ∃ t7 : Int, (e = .returned (.int .u64 t7)) ∧
  K (.int .i64 (IntKind.i64.wrap t7)) w_1

def sk31 : Sk := .leaf
theorem ok31 : fnOk Tryz.prog Tryz.f31.ntmps Tryz.f31 sk31 = true := by kernel_rfl
theorem eq31 (most0 : Int) (c1 : Option Addr) (K : Value → World → Prop) (w : World) : fnF Tryz.prog cl Tryz.f31 sk31 [.int .i64 most0, .pointer c1] K w = B31 most0 c1 K w := by kernel_rfl
theorem call31 (most0 : Int) (c1 : Option Addr) (K : Value → World → Prop) (w : World) (h : B31 most0 c1 K w) : Gets Tryz.prog 31 #[.int .i64 most0, .pointer c1] w K :=
  calls_of (sk := sk31) cl_ok mixed Tryz.func31 ok31 (args := [.int .i64 most0, .pointer c1]) (Nat.le_of_ble_eq_true (by kernel_rfl)) (by rw [eq31]; exact h)

/-- jetway/flight.Decode$2. -/
def B33 (most0 : Int) (each1 : Int) (c2 : Option Addr) (K : Value → World → Prop) (w : World) : Prop :=
  NilP c2 fun a_t7 =>
  ∃ t7 : Value, (At (fun w' => w' = w) a_t7 [t7]) ∧
  CalW Tryz.prog cl t7 [.int .i64 most0] w fun e w_1 =>
  ∃ t9 : Int, (e = .returned (.int .i64 t9)) ∧
  ∃ (I : Sl → Int → World → Prop) (μ : Sl → Int → World → Nat), (I ⟨none, 0, 0⟩ 0 w_1) ∧ ∀ (z : Env) (out6 : Sl) (t10 : Int) (w_2 : World), I out6 t10 w_2 →
  Br (decide (t10 < t9))
   (NilP c2 fun a_t13 =>
    ∃ t13 : Value, (At (fun w' => w' = w_2) a_t13 [t13]) ∧
    CalW Tryz.prog cl t13 [.int .i64 each1] w_2 fun e_1 w_3 =>
    ∃ t15 : Int, (e_1 = .returned (.int .i64 t15)) ∧
    New (.cells #[.int .i64 t15] 3 (0, 0)) (fun b_t16 w_4 =>
    ∃ w_5 : World, ∃ t17 : Sl, ((Builtin.append_ #[33, 33] 33 #[.slice out6.a out6.len out6.cap, .slice ((some ⟨b_t16, 0, none⟩)) 1 1]).run Tryz.prog w_4 = .ok (.slice t17.a t17.len t17.cap) w_5) ∧
    (I t17 (IntKind.i64.wrap (t10 + 1)) w_5) ∧ μ t17 (IntKind.i64.wrap (t10 + 1)) w_5 < μ out6 t10 w_2) w_3)
   (K (.slice out6.a out6.len out6.cap) w_2)

def sk33 : Sk := (.seq .leaf (.seq .leaf (.seq (.seq .leaf (.block (.loop [6, 10] [.sl, (.int .i64)] [6, 10, 11, 12, 13, 14, 15, 16, 17, 18] .leaf))) .leaf)))
theorem ok33 : fnOk Tryz.prog Tryz.f33.ntmps Tryz.f33 sk33 = true := by kernel_rfl
theorem eq33 (most0 : Int) (each1 : Int) (c2 : Option Addr) (K : Value → World → Prop) (w : World) : fnF Tryz.prog cl Tryz.f33 sk33 [.int .i64 most0, .int .i64 each1, .pointer c2] K w = B33 most0 each1 c2 K w := by kernel_rfl
theorem call33 (most0 : Int) (each1 : Int) (c2 : Option Addr) (K : Value → World → Prop) (w : World) (h : B33 most0 each1 c2 K w) : Gets Tryz.prog 33 #[.int .i64 most0, .int .i64 each1, .pointer c2] w K :=
  calls_of (sk := sk33) cl_ok mixed Tryz.func33 ok33 (args := [.int .i64 most0, .int .i64 each1, .pointer c2]) (Nat.le_of_ble_eq_true (by kernel_rfl)) (by rw [eq33]; exact h)

/-- (*jetway/flight.Flight).restore. -/
def B38 (f0 : Option Addr) (h1_0 : Int) (h1_1 : Int) (h1_2 : Int) (h1_3 : Sl) (K : Value → World → Prop) (w : World) : Prop :=
  New (.cells #[.int .i64 h1_0, .int .i64 h1_1, .int .i64 h1_2, .slice h1_3.a h1_3.len h1_3.cap] 51 (0, 0)) (fun b_h3 w_1 =>
  ∃ (J : World → Prop), (∃ t12 : Int, (At (fun w' => w' = w_1) ⟨b_h3, 0, none⟩ [.int .i64 t12]) ∧
    ∃ t14 : Int, (At (fun w' => w' = w_1) ⟨b_h3, 0 + 1, none⟩ [.int .i64 t14]) ∧
    ∃ t16 : Int, (At (fun w' => w' = w_1) ⟨b_h3, 0 + 2, none⟩ [.int .i64 t16]) ∧
    Calls Tryz.prog 26 #[.pointer f0, .int .i64 t12, .int .i64 t14, .int .i64 t16] w_1 fun e w_2 =>
    ∃ t17 : Int, (e = .returned (.int .i64 t17)) ∧
    Br (t17 != 0)
     (K (.bool false) w_2)
     (∃ t21 : Sl, (At (fun w' => w' = w_2) ⟨b_h3, 0 + 3, none⟩ [.slice t21.a t21.len t21.cap]) ∧
      ∃ t24 : Int, (At (fun w' => w' = w_2) ⟨b_h3, 0 + 2, none⟩ [.int .i64 t24]) ∧
      Br (decide ((↑t21.len : Int) > t24))
       (K (.bool false) w_2)
       (J  w_2))) ∧
  ∀ (z : Env)  (w_3 : World), J  w_3 →
  ∃ t28 : Sl, (At (fun w' => w' = w_3) ⟨b_h3, 0 + 3, none⟩ [.slice t28.a t28.len t28.cap]) ∧
  ∃ (I : Int → Int → World → Prop) (μ : Int → Int → World → Nat), (I ((-1)) 0 w_3) ∧ ∀ (z_1 : Env) (last5 : Int) (t30 : Int) (w_4 : World), I last5 t30 w_4 →
  Br (decide (t30 < (↑t28.len : Int)))
   (Rng t30 t28.len (NilP t28.a fun a_t32 =>
    ∃ t33 : Int, (At (fun w' => w' = w_4) (Addr.add a_t32 t30.toNat) [.int .i64 t33]) ∧
    ∃ (J_1 : World → Prop), (NilP f0 fun a_t36 =>
      ∃ t38 : Option Nat, (At (fun w' => w' = w_4) ⟨a_t36.block, a_t36.off + 6, none⟩ [.map t38]) ∧
      ∃ t40 : Int, ∃ t40_1 : Bool, (∀ w', (fun w' => w' = w_4) w' → ((Instr.lookup 76 (.map t38) (.int .i64 t33) true)).run Tryz.prog w' = .ok (.tuple #[.int .i64 t40, .bool t40_1]) w') ∧
      Br t40_1
       (K (.bool false) w_4)
       (Br (decide (t33 ≤ last5))
         (K (.bool false) w_4)
         (NilP f0 fun a_t52 =>
          ∃ t54 : Int, ∃ t54_1 : Sl, (At (fun w' => w' = w_4) ⟨a_t52.block, a_t52.off + 1, none⟩ [.int .i64 t54, .slice t54_1.a t54_1.len t54_1.cap]) ∧
          Calls Tryz.prog 37 #[.agg #[.int .i64 t54, .slice t54_1.a t54_1.len t54_1.cap]] w_4 fun e_1 w_5 =>
          ∃ t55 : Int, (e_1 = .returned (.int .i64 t55)) ∧
          Br (decide (t33 ≥ t55))
           (K (.bool false) w_5)
           (J_1  w_5)))) ∧
    ∀ (z_2 : Env)  (w_6 : World), J_1  w_6 →
    Drw w_6 fun S w_7 =>
    NilP f0 fun a_t60 =>
    ∃ t62 : Option Nat, (At S ⟨a_t60.block, a_t60.off + 5, none⟩ [.map t62]) ∧
    ∃ t64 : Int, (At S ⟨b_h3, 0, none⟩ [.int .i64 t64]) ∧
    ∃ t65 : Option Addr, (∀ w', S w' → ((Instr.lookup 75 (.map t62) (.int .i64 t64) false)).run Tryz.prog w' = .ok (.pointer t65) w') ∧
    Calls Tryz.prog 65 #[.pointer f0, .pointer t65, .int .i64 t33] w_7 fun e_2 w_8 =>
    (e_2 = .returned (.tuple #[])) ∧
    (S w_8) ∧
    (I t33 (IntKind.i64.wrap (t30 + 1)) w_8) ∧ μ t33 (IntKind.i64.wrap (t30 + 1)) w_8 < μ last5 t30 w_4))
   (K (.bool true) w_4)) w

def sk38 : Sk := (.seq .leaf (.cut [] [] [4, 10, 11, 12, 13, 14, 15, 16, 17, 18, 19, 20, 21, 22, 23, 24, 25, 26] .leaf (.seq .leaf (.seq (.seq .leaf (.block (.loop [5, 30] [(.int .i64), (.int .i64)] [4, 5, 7, 8, 9, 30, 31, 32, 33, 34, 35, 36, 37, 38, 39, 40, 41, 42, 43, 44, 45, 46, 47, 48, 49, 50, 51, 52, 53, 54, 55, 56, 57, 58, 59, 60, 61, 62, 63, 64, 65, 66, 67, 68, 69] (.seq .leaf (.seq .leaf (.seq (.block (.seq .leaf (.cut [] [] [4, 8, 9, 34, 35, 36, 37, 38, 39, 40, 41, 42, 43, 44, 45, 46, 47, 48, 49, 50, 51, 52, 53, 54, 55, 56, 57] .leaf .leaf))) .leaf)))))) .leaf))))
theorem ok38 : fnOk Tryz.prog Tryz.f38.ntmps Tryz.f38 sk38 = true := by kernel_rfl
theorem eq38 (f0 : Option Addr) (h1_0 : Int) (h1_1 : Int) (h1_2 : Int) (h1_3 : Sl) (K : Value → World → Prop) (w : World) : fnF Tryz.prog cl Tryz.f38 sk38 [.pointer f0, .agg #[.int .i64 h1_0, .int .i64 h1_1, .int .i64 h1_2, .slice h1_3.a h1_3.len h1_3.cap]] K w = B38 f0 h1_0 h1_1 h1_2 h1_3 K w := by kernel_rfl
theorem call38 (f0 : Option Addr) (h1_0 : Int) (h1_1 : Int) (h1_2 : Int) (h1_3 : Sl) (K : Value → World → Prop) (w : World) (h : B38 f0 h1_0 h1_1 h1_2 h1_3 K w) : Gets Tryz.prog 38 #[.pointer f0, .agg #[.int .i64 h1_0, .int .i64 h1_1, .int .i64 h1_2, .slice h1_3.a h1_3.len h1_3.cap]] w K :=
  calls_of (sk := sk38) cl_ok mixed Tryz.func38 ok38 (args := [.pointer f0, .agg #[.int .i64 h1_0, .int .i64 h1_1, .int .i64 h1_2, .slice h1_3.a h1_3.len h1_3.cap]]) (Nat.le_of_ble_eq_true (by kernel_rfl)) (by rw [eq38]; exact h)

end Go.Proofs.YtaacfjdknlglhaaGreatDoor
/- The formulas of functions of this seat's translation, printed by a program of mine off the translation; each is proved equal to 'fnF' of the function's body, so it is enough for the call. No condition. -/
namespace Go.Proofs.YtaacfjdknlglhaaGreatDoor
open Go Go.VC
set_option linter.unusedVariables false
/-- jetway/jetwayref13.across. -/
def B110 (l0_0 : Int) (l0_1 : Sl) (K : Value → World → Prop) (w : World) : Prop :=
  New (.cells #[.int .i64 l0_0, .slice l0_1.a l0_1.len l0_1.cap] 35 (0, 0)) (fun b_l1 w_1 =>
  ∃ (I : Int → Int → World → Prop) (μ : Int → Int → World → Nat), (I 0 0 w_1) ∧ ∀ (z : Env) (n3 : Int) (i4 : Int) (w_2 : World), I n3 i4 w_2 →
  ∃ t7 : Sl, (At (fun w' => w' = w_2) ⟨b_l1, 0 + 1, none⟩ [.slice t7.a t7.len t7.cap]) ∧
  Br (decide (i4 < (↑t7.len : Int)))
   (∃ t14 : Sl, (At (fun w' => w' = w_2) ⟨b_l1, 0 + 1, none⟩ [.slice t14.a t14.len t14.cap]) ∧
    Rng i4 t14.len (NilP t14.a fun a_t16 =>
    ∃ t17 : Int, (At (fun w' => w' = w_2) (Addr.add a_t16 i4.toNat) [.int .i64 t17]) ∧
    (I (IntKind.i64.wrap (n3 + t17)) (IntKind.i64.wrap (i4 + 1)) w_2) ∧ μ (IntKind.i64.wrap (n3 + t17)) (IntKind.i64.wrap (i4 + 1)) w_2 < μ n3 i4 w_2))
   (K (.int .i64 n3) w_2)) w

def sk110 : Sk := (.seq .leaf (.seq .leaf (.seq (.seq .leaf (.block (.loop [3, 4] [(.int .i64), (.int .i64)] [3, 4, 5, 6, 7, 8, 9, 10, 11, 12, 13, 14, 15, 16, 17, 18] .leaf))) .leaf)))
theorem ok110 : fnOk Tryz.prog Tryz.f110.ntmps Tryz.f110 sk110 = true := by kernel_rfl
theorem eq110 (l0_0 : Int) (l0_1 : Sl) (K : Value → World → Prop) (w : World) : fnF Tryz.prog cl Tryz.f110 sk110 [.agg #[.int .i64 l0_0, .slice l0_1.a l0_1.len l0_1.cap]] K w = B110 l0_0 l0_1 K w := by kernel_rfl
theorem call110 (l0_0 : Int) (l0_1 : Sl) (K : Value → World → Prop) (w : World) (h : B110 l0_0 l0_1 K w) : Gets Tryz.prog 110 #[.agg #[.int .i64 l0_0, .slice l0_1.a l0_1.len l0_1.cap]] w K :=
  calls_of (sk := sk110) cl_ok mixed Tryz.func110 ok110 (args := [.agg #[.int .i64 l0_0, .slice l0_1.a l0_1.len l0_1.cap]]) (Nat.le_of_ble_eq_true (by kernel_rfl)) (by rw [eq110]; exact h)

/-- jetway/jetwayref13.Right. -/
def B91 (l0_0 : Int) (l0_1 : Sl) (K : Value → World → Prop) (w : World) : Prop :=
  New (.cells #[.int .i64 l0_0, .slice l0_1.a l0_1.len l0_1.cap] 35 (0, 0)) (fun b_l1 w_1 =>
  ∃ (J : World → Prop), (∃ t5 : Int, (At (fun w' => w' = w_1) ⟨b_l1, 0, none⟩ [.int .i64 t5]) ∧
    Br (decide (t5 < 1))
     (K (.bool false) w_1)
     (∃ t9 : Int, (At (fun w' => w' = w_1) ⟨b_l1, 0, none⟩ [.int .i64 t9]) ∧
      Br (decide (t9 > 60))
       (K (.bool false) w_1)
       (∃ t14 : Sl, (At (fun w' => w' = w_1) ⟨b_l1, 0 + 1, none⟩ [.slice t14.a t14.len t14.cap]) ∧
        Br (decide ((↑t14.len : Int) < 1))
         (K (.bool false) w_1)
         (∃ t20 : Sl, (At (fun w' => w' = w_1) ⟨b_l1, 0 + 1, none⟩ [.slice t20.a t20.len t20.cap]) ∧
          Br (decide ((↑t20.len : Int) > 4))
           (K (.bool false) w_1)
           (J  w_1))))) ∧
  ∀ (z : Env)  (w_2 : World), J  w_2 →
  ∃ (I : Int → World → Prop) (μ : Int → World → Nat), (I 0 w_2) ∧ ∀ (z_1 : Env) (i3 : Int) (w_3 : World), I i3 w_3 →
  ∃ t26 : Sl, (At (fun w' => w' = w_3) ⟨b_l1, 0 + 1, none⟩ [.slice t26.a t26.len t26.cap]) ∧
  Br (decide (i3 < (↑t26.len : Int)))
   (∃ t32 : Sl, (At (fun w' => w' = w_3) ⟨b_l1, 0 + 1, none⟩ [.slice t32.a t32.len t32.cap]) ∧
    Rng i3 t32.len (NilP t32.a fun a_t34 =>
    ∃ t35 : Int, (At (fun w' => w' = w_3) (Addr.add a_t34 i3.toNat) [.int .i64 t35]) ∧
    Br (decide (t35 < 1))
     (K (.bool false) w_3)
     (∃ t39 : Sl, (At (fun w' => w' = w_3) ⟨b_l1, 0 + 1, none⟩ [.slice t39.a t39.len t39.cap]) ∧
      Rng i3 t39.len (NilP t39.a fun a_t41 =>
      ∃ t42 : Int, (At (fun w' => w' = w_3) (Addr.add a_t41 i3.toNat) [.int .i64 t42]) ∧
      Br (decide (t42 > 10))
       (K (.bool false) w_3)
       ((I (IntKind.i64.wrap (i3 + 1)) w_3) ∧ μ (IntKind.i64.wrap (i3 + 1)) w_3 < μ i3 w_3)))))
   (∃ t45 : Int, ∃ t45_1 : Sl, (At (fun w' => w' = w_3) ⟨b_l1, 0, none⟩ [.int .i64 t45, .slice t45_1.a t45_1.len t45_1.cap]) ∧
    Calls Tryz.prog 110 #[.agg #[.int .i64 t45, .slice t45_1.a t45_1.len t45_1.cap]] w_3 fun e w_4 =>
    ∃ t46 : Int, (e = .returned (.int .i64 t46)) ∧
    K (.bool (decide (t46 ≤ 10))) w_4)) w

def sk91 : Sk := (.seq .leaf (.cut [] [] [2, 4, 5, 6, 7, 8, 9, 10, 11, 12, 13, 14, 15, 16, 17, 18, 19, 20, 21, 22, 23] .leaf (.seq (.seq .leaf (.block (.loop [3] [(.int .i64)] [2, 3, 24, 25, 26, 27, 28, 29, 30, 31, 32, 33, 34, 35, 36, 37, 38, 39, 40, 41, 42, 43, 44] .leaf))) .leaf)))
theorem ok91 : fnOk Tryz.prog Tryz.f91.ntmps Tryz.f91 sk91 = true := by kernel_rfl
theorem eq91 (l0_0 : Int) (l0_1 : Sl) (K : Value → World → Prop) (w : World) : fnF Tryz.prog cl Tryz.f91 sk91 [.agg #[.int .i64 l0_0, .slice l0_1.a l0_1.len l0_1.cap]] K w = B91 l0_0 l0_1 K w := by kernel_rfl
theorem call91 (l0_0 : Int) (l0_1 : Sl) (K : Value → World → Prop) (w : World) (h : B91 l0_0 l0_1 K w) : Gets Tryz.prog 91 #[.agg #[.int .i64 l0_0, .slice l0_1.a l0_1.len l0_1.cap]] w K :=
  calls_of (sk := sk91) cl_ok mixed Tryz.func91 ok91 (args := [.agg #[.int .i64 l0_0, .slice l0_1.a l0_1.len l0_1.cap]]) (Nat.le_of_ble_eq_true (by kernel_rfl)) (by rw [eq91]; exact h)

/-- jetway/jetwayref13.Count. -/
def B92 (l0_0 : Int) (l0_1 : Sl) (K : Value → World → Prop) (w : World) : Prop :=
  New (.cells #[.int .i64 l0_0, .slice l0_1.a l0_1.len l0_1.cap] 35 (0, 0)) (fun b_l1 w_1 =>
  ∃ t4 : Int, ∃ t4_1 : Sl, (At (fun w' => w' = w_1) ⟨b_l1, 0, none⟩ [.int .i64 t4, .slice t4_1.a t4_1.len t4_1.cap]) ∧
  Calls Tryz.prog 91 #[.agg #[.int .i64 t4, .slice t4_1.a t4_1.len t4_1.cap]] w_1 fun e w_2 =>
  ∃ t5 : Bool, (e = .returned (.bool t5)) ∧
  Br (!t5)
   (K (.int .i64 0) w_2)
   (Drw w_2 fun S w_3 =>
    ∃ t9 : Int, (At S ⟨b_l1, 0, none⟩ [.int .i64 t9]) ∧
    ∃ t10 : Int, ∃ t10_1 : Sl, (At S ⟨b_l1, 0, none⟩ [.int .i64 t10, .slice t10_1.a t10_1.len t10_1.cap]) ∧
    Calls Tryz.prog 110 #[.agg #[.int .i64 t10, .slice t10_1.a t10_1.len t10_1.cap]] w_3 fun e_1 w_4 =>
    ∃ t11 : Int, (e_1 = .returned (.int .i64 t11)) ∧
    (S w_4) ∧
    K (.int .i64 (IntKind.i64.wrap (t9 * t11))) w_4)) w

def sk92 : Sk := .leaf
theorem ok92 : fnOk Tryz.prog Tryz.f92.ntmps Tryz.f92 sk92 = true := by kernel_rfl
theorem eq92 (l0_0 : Int) (l0_1 : Sl) (K : Value → World → Prop) (w : World) : fnF Tryz.prog cl Tryz.f92 sk92 [.agg #[.int .i64 l0_0, .slice l0_1.a l0_1.len l0_1.cap]] K w = B92 l0_0 l0_1 K w := by kernel_rfl
theorem call92 (l0_0 : Int) (l0_1 : Sl) (K : Value → World → Prop) (w : World) (h : B92 l0_0 l0_1 K w) : Gets Tryz.prog 92 #[.agg #[.int .i64 l0_0, .slice l0_1.a l0_1.len l0_1.cap]] w K :=
  calls_of (sk := sk92) cl_ok mixed Tryz.func92 ok92 (args := [.agg #[.int .i64 l0_0, .slice l0_1.a l0_1.len l0_1.cap]]) (Nat.le_of_ble_eq_true (by kernel_rfl)) (by rw [eq92]; exact h)

/-- jetway/jetwayref13.Label. -/
def B70 (l0_0 : Int) (l0_1 : Sl) (n1 : Int) (K : Value → World → Prop) (w : World) : Prop :=
  New (.cells #[.int .i64 l0_0, .slice l0_1.a l0_1.len l0_1.cap] 35 (0, 0)) (fun b_l2 w_1 =>
  ∃ (J : World → Prop), (Br (decide (n1 < 0))
     (K (.tuple #[.string (ByteArray.mk #[]), .int .i64 1]) w_1)
     (∃ t12 : Int, ∃ t12_1 : Sl, (At (fun w' => w' = w_1) ⟨b_l2, 0, none⟩ [.int .i64 t12, .slice t12_1.a t12_1.len t12_1.cap]) ∧
      Calls Tryz.prog 92 #[.agg #[.int .i64 t12, .slice t12_1.a t12_1.len t12_1.cap]] w_1 fun e w_2 =>
      ∃ t13 : Int, (e = .returned (.int .i64 t13)) ∧
      Br (decide (n1 ≥ t13))
       (K (.tuple #[.string (ByteArray.mk #[]), .int .i64 1]) w_2)
       (J  w_2))) ∧
  ∀ (z : Env)  (w_3 : World), J  w_3 →
  ∃ t17 : Int, ∃ t17_1 : Sl, (At (fun w' => w' = w_3) ⟨b_l2, 0, none⟩ [.int .i64 t17, .slice t17_1.a t17_1.len t17_1.cap]) ∧
  Calls Tryz.prog 110 #[.agg #[.int .i64 t17, .slice t17_1.a t17_1.len t17_1.cap]] w_3 fun e_1 w_4 =>
  ∃ t18 : Int, (e_1 = .returned (.int .i64 t18)) ∧
  Nz t18 (∃ (J_1 : Sl → World → Prop), (Br (decide (IntKind.i64.wrap (IntKind.i64.wrap (n1.tdiv t18) + 1) ≥ 10))
     (New (.cells #[.int .u8 (IntKind.u8.wrap (IntKind.i64.wrap (48 + IntKind.i64.wrap ((IntKind.i64.wrap (IntKind.i64.wrap (n1.tdiv t18) + 1)).tdiv 10))))] 5 (0, 0)) (fun b_t28 w_5 =>
      ∃ w_6 : World, ∃ t29 : Sl, ((Builtin.append_ #[22, 22] 22 #[.slice none 0 0, .slice ((some ⟨b_t28, 0, none⟩)) 1 1]).run Tryz.prog w_5 = .ok (.slice t29.a t29.len t29.cap) w_6) ∧
      J_1 t29 w_6) w_4)
     (J_1 ⟨none, 0, 0⟩ w_4)) ∧
  ∀ (z_1 : Env) (b7 : Sl) (w_7 : World), J_1 b7 w_7 →
  ∃ t36 : Int, ∃ t36_1 : Sl, (At (fun w' => w' = w_7) ⟨b_l2, 0, none⟩ [.int .i64 t36, .slice t36_1.a t36_1.len t36_1.cap]) ∧
  Calls Tryz.prog 110 #[.agg #[.int .i64 t36, .slice t36_1.a t36_1.len t36_1.cap]] w_7 fun e_2 w_8 =>
  ∃ t37 : Int, (e_2 = .returned (.int .i64 t37)) ∧
  Nz t37 (∃ t39 : UInt8, ((0 : Int) ≤ n1.tmod t37) ∧
  ((ByteArray.mk #[65, 66, 67, 68, 69, 70, 71, 72, 74, 75])[(n1.tmod t37).toNat]? = some t39) ∧
  New (.cells #[.int .u8 (IntKind.u8.wrap (IntKind.i64.wrap (48 + (IntKind.i64.wrap (IntKind.i64.wrap (n1.tdiv t18) + 1)).tmod 10))), .int .u8 ((↑t39.toNat : Int))] 5 (0, 0)) (fun b_t40 w_9 =>
  ∃ w_10 : World, ∃ t41 : Sl, ((Builtin.append_ #[22, 22] 22 #[.slice b7.a b7.len b7.cap, .slice ((some ⟨b_t40, 0, none⟩)) 2 2]).run Tryz.prog w_9 = .ok (.slice t41.a t41.len t41.cap) w_10) ∧
  ∃ t43 : ByteArray, (∀ w', (fun w' => w' = w_10) w' → ((convert 22 9 (.slice t41.a t41.len t41.cap))).run Tryz.prog w' = .ok (.string t43) w') ∧
  K (.tuple #[.string t43, .int .i64 0]) w_10) w_8))) w

def sk70 : Sk := (.seq .leaf (.cut [] [] [4, 5, 8, 9, 10, 11, 12, 13, 14, 15] .leaf (.seq .leaf (.seq .leaf (.cut [7] [.sl] [7, 21, 22, 23, 24, 25, 26, 27, 28, 29] .leaf .leaf)))))
theorem ok70 : fnOk Tryz.prog Tryz.f70.ntmps Tryz.f70 sk70 = true := by kernel_rfl
theorem eq70 (l0_0 : Int) (l0_1 : Sl) (n1 : Int) (K : Value → World → Prop) (w : World) : fnF Tryz.prog cl Tryz.f70 sk70 [.agg #[.int .i64 l0_0, .slice l0_1.a l0_1.len l0_1.cap], .int .i64 n1] K w = B70 l0_0 l0_1 n1 K w := by kernel_rfl
theorem call70 (l0_0 : Int) (l0_1 : Sl) (n1 : Int) (K : Value → World → Prop) (w : World) (h : B70 l0_0 l0_1 n1 K w) : Gets Tryz.prog 70 #[.agg #[.int .i64 l0_0, .slice l0_1.a l0_1.len l0_1.cap], .int .i64 n1] w K :=
  calls_of (sk := sk70) cl_ok mixed Tryz.func70 ok70 (args := [.agg #[.int .i64 l0_0, .slice l0_1.a l0_1.len l0_1.cap], .int .i64 n1]) (Nat.le_of_ble_eq_true (by kernel_rfl)) (by rw [eq70]; exact h)

/-- jetway/jetwayref13.Find. -/
def B98 (l0_0 : Int) (l0_1 : Sl) (label1 : ByteArray) (K : Value → World → Prop) (w : World) : Prop :=
  New (.cells #[.int .i64 l0_0, .slice l0_1.a l0_1.len l0_1.cap] 35 (0, 0)) (fun b_l2 w_1 =>
  ∃ t10 : Int, ∃ t10_1 : Sl, (At (fun w' => w' = w_1) ⟨b_l2, 0, none⟩ [.int .i64 t10, .slice t10_1.a t10_1.len t10_1.cap]) ∧
  Calls Tryz.prog 91 #[.agg #[.int .i64 t10, .slice t10_1.a t10_1.len t10_1.cap]] w_1 fun e w_2 =>
  ∃ t11 : Bool, (e = .returned (.bool t11)) ∧
  Br (!t11)
   (K (.tuple #[.int .i64 0, .int .i64 1]) w_2)
   (∃ (I : Int → World → Prop) (μ : Int → World → Nat), (I 0 w_2) ∧ ∀ (z : Env) (n7 : Int) (w_3 : World), I n7 w_3 →
    ∃ t15 : Int, ∃ t15_1 : Sl, (At (fun w' => w' = w_3) ⟨b_l2, 0, none⟩ [.int .i64 t15, .slice t15_1.a t15_1.len t15_1.cap]) ∧
    Calls Tryz.prog 92 #[.agg #[.int .i64 t15, .slice t15_1.a t15_1.len t15_1.cap]] w_3 fun e_1 w_4 =>
    ∃ t16 : Int, (e_1 = .returned (.int .i64 t16)) ∧
    Br (decide (n7 < t16))
     (∃ t21 : Int, ∃ t21_1 : Sl, (At (fun w' => w' = w_4) ⟨b_l2, 0, none⟩ [.int .i64 t21, .slice t21_1.a t21_1.len t21_1.cap]) ∧
      Calls Tryz.prog 70 #[.agg #[.int .i64 t21, .slice t21_1.a t21_1.len t21_1.cap], .int .i64 n7] w_4 fun e_2 w_5 =>
      ∃ t23 : ByteArray, ∃ t23_1 : Int, (e_2 = .returned (.tuple #[.string t23, .int .i64 t23_1])) ∧
      Br (t23.toList == label1.toList)
       (K (.tuple #[.int .i64 n7, .int .i64 0]) w_5)
       ((I (IntKind.i64.wrap (n7 + 1)) w_5) ∧ μ (IntKind.i64.wrap (n7 + 1)) w_5 < μ n7 w_3))
     (K (.tuple #[.int .i64 0, .int .i64 2]) w_4))) w

def sk98 : Sk := (.seq .leaf (.seq .leaf (.seq .leaf (.seq (.seq .leaf (.block (.loop [7] [(.int .i64)] [4, 5, 7, 8, 9, 14, 15, 16, 17, 18, 19, 20, 21, 22, 23, 24, 25, 26, 27, 28, 29] .leaf))) .leaf))))
theorem ok98 : fnOk Tryz.prog Tryz.f98.ntmps Tryz.f98 sk98 = true := by kernel_rfl
theorem eq98 (l0_0 : Int) (l0_1 : Sl) (label1 : ByteArray) (K : Value → World → Prop) (w : World) : fnF Tryz.prog cl Tryz.f98 sk98 [.agg #[.int .i64 l0_0, .slice l0_1.a l0_1.len l0_1.cap], .string label1] K w = B98 l0_0 l0_1 label1 K w := by kernel_rfl
theorem call98 (l0_0 : Int) (l0_1 : Sl) (label1 : ByteArray) (K : Value → World → Prop) (w : World) (h : B98 l0_0 l0_1 label1 K w) : Gets Tryz.prog 98 #[.agg #[.int .i64 l0_0, .slice l0_1.a l0_1.len l0_1.cap], .string label1] w K :=
  calls_of (sk := sk98) cl_ok mixed Tryz.func98 ok98 (args := [.agg #[.int .i64 l0_0, .slice l0_1.a l0_1.len l0_1.cap], .string label1]) (Nat.le_of_ble_eq_true (by kernel_rfl)) (by rw [eq98]; exact h)

/-- jetway/jetwayref13.group. -/
def B109 (l0_0 : Int) (l0_1 : Sl) (n1 : Int) (K : Value → World → Prop) (w : World) : Prop :=
  New (.cells #[.int .i64 l0_0, .slice l0_1.a l0_1.len l0_1.cap] 35 (0, 0)) (fun b_l2 w_1 =>
  ∃ t8 : Int, ∃ t8_1 : Sl, (At (fun w' => w' = w_1) ⟨b_l2, 0, none⟩ [.int .i64 t8, .slice t8_1.a t8_1.len t8_1.cap]) ∧
  Calls Tryz.prog 110 #[.agg #[.int .i64 t8, .slice t8_1.a t8_1.len t8_1.cap]] w_1 fun e w_2 =>
  ∃ t9 : Int, (e = .returned (.int .i64 t9)) ∧
  Nz t9 (∃ (I : Int → Int → World → Prop) (μ : Int → Int → World → Nat), (I (n1.tmod t9) 0 w_2) ∧ ∀ (z : Env) (at5 : Int) (k6 : Int) (w_3 : World), I at5 k6 w_3 →
  ∃ t13 : Sl, (At (fun w' => w' = w_3) ⟨b_l2, 0 + 1, none⟩ [.slice t13.a t13.len t13.cap]) ∧
  Rng k6 t13.len (NilP t13.a fun a_t15 =>
  ∃ t16 : Int, (At (fun w' => w' = w_3) (Addr.add a_t15 k6.toNat) [.int .i64 t16]) ∧
  Br (decide (at5 ≥ t16))
   (∃ t20 : Sl, (At (fun w' => w' = w_3) ⟨b_l2, 0 + 1, none⟩ [.slice t20.a t20.len t20.cap]) ∧
    Rng k6 t20.len (NilP t20.a fun a_t22 =>
    ∃ t23 : Int, (At (fun w' => w' = w_3) (Addr.add a_t22 k6.toNat) [.int .i64 t23]) ∧
    (I (IntKind.i64.wrap (at5 - t23)) (IntKind.i64.wrap (k6 + 1)) w_3) ∧ μ (IntKind.i64.wrap (at5 - t23)) (IntKind.i64.wrap (k6 + 1)) w_3 < μ at5 k6 w_3))
   (Drw w_3 fun S w_4 =>
    ∃ t28 : Int, ∃ t28_1 : Sl, (At S ⟨b_l2, 0, none⟩ [.int .i64 t28, .slice t28_1.a t28_1.len t28_1.cap]) ∧
    ∃ t32 : Sl, (At S ⟨b_l2, 0 + 1, none⟩ [.slice t32.a t32.len t32.cap]) ∧
    Calls Tryz.prog 110 #[.agg #[.int .i64 t28, .slice t28_1.a t28_1.len t28_1.cap]] w_4 fun e_1 w_5 =>
    ∃ t29 : Int, (e_1 = .returned (.int .i64 t29)) ∧
    (S w_5) ∧
    Nz t29 (K (.int .i64 (IntKind.i64.wrap (IntKind.i64.wrap (IntKind.i64.wrap (n1.tdiv t29) * (↑t32.len : Int)) + k6))) w_5))))) w

def sk109 : Sk := (.seq .leaf (.seq .leaf (.seq .leaf (.seq (.block (.loop [5, 6] [(.int .i64), (.int .i64)] [5, 6, 11, 12, 13, 14, 15, 16, 17, 18, 19, 20, 21, 22, 23, 24, 25, 26] .leaf)) .leaf))))
theorem ok109 : fnOk Tryz.prog Tryz.f109.ntmps Tryz.f109 sk109 = true := by kernel_rfl
theorem eq109 (l0_0 : Int) (l0_1 : Sl) (n1 : Int) (K : Value → World → Prop) (w : World) : fnF Tryz.prog cl Tryz.f109 sk109 [.agg #[.int .i64 l0_0, .slice l0_1.a l0_1.len l0_1.cap], .int .i64 n1] K w = B109 l0_0 l0_1 n1 K w := by kernel_rfl
theorem call109 (l0_0 : Int) (l0_1 : Sl) (n1 : Int) (K : Value → World → Prop) (w : World) (h : B109 l0_0 l0_1 n1 K w) : Gets Tryz.prog 109 #[.agg #[.int .i64 l0_0, .slice l0_1.a l0_1.len l0_1.cap], .int .i64 n1] w K :=
  calls_of (sk := sk109) cl_ok mixed Tryz.func109 ok109 (args := [.agg #[.int .i64 l0_0, .slice l0_1.a l0_1.len l0_1.cap], .int .i64 n1]) (Nat.le_of_ble_eq_true (by kernel_rfl)) (by rw [eq109]; exact h)

/-- jetway/jetwayref13.Best. -/
def B68 (l0_0 : Int) (l0_1 : Sl) (taken1 : Sl) (many2 : Int) (K : Value → World → Prop) (w : World) : Prop :=
  New (.cells #[.int .i64 l0_0, .slice l0_1.a l0_1.len l0_1.cap] 35 (0, 0)) (fun b_l3 w_1 =>
  ∃ (J : World → Prop), (Br (decide (many2 < 1))
     (K (.tuple #[.slice none 0 0, .int .i64 1]) w_1)
     (∃ t17 : Int, ∃ t17_1 : Sl, (At (fun w' => w' = w_1) ⟨b_l3, 0, none⟩ [.int .i64 t17, .slice t17_1.a t17_1.len t17_1.cap]) ∧
      Calls Tryz.prog 92 #[.agg #[.int .i64 t17, .slice t17_1.a t17_1.len t17_1.cap]] w_1 fun e w_2 =>
      ∃ t18 : Int, (e = .returned (.int .i64 t18)) ∧
      Br (decide (many2 > t18))
       (K (.tuple #[.slice none 0 0, .int .i64 1]) w_2)
       (J  w_2))) ∧
  ∀ (z : Env)  (w_3 : World), J  w_3 →
  ∃ (I : Sl → Int → World → Prop) (μ : Sl → Int → World → Nat), (I ⟨none, 0, 0⟩ 0 w_3) ∧ ∀ (z_1 : Env) (free8 : Sl) (n9 : Int) (w_4 : World), I free8 n9 w_4 →
  ∃ t22 : Int, ∃ t22_1 : Sl, (At (fun w' => w' = w_4) ⟨b_l3, 0, none⟩ [.int .i64 t22, .slice t22_1.a t22_1.len t22_1.cap]) ∧
  Calls Tryz.prog 92 #[.agg #[.int .i64 t22, .slice t22_1.a t22_1.len t22_1.cap]] w_4 fun e_1 w_5 =>
  ∃ t23 : Int, (e_1 = .returned (.int .i64 t23)) ∧
  Br (decide (n9 < t23))
   (Calls Tryz.prog 17 #[.slice taken1.a taken1.len taken1.cap, .int .i64 n9] w_5 fun e_2 w_6 =>
    ∃ t29 : Bool, (e_2 = .returned (.bool t29)) ∧
    Br (!t29)
     (New (.cells #[.int .i64 n9] 3 (0, 0)) (fun b_t34 w_7 =>
      ∃ w_8 : World, ∃ t35 : Sl, ((Builtin.append_ #[33, 33] 33 #[.slice free8.a free8.len free8.cap, .slice ((some ⟨b_t34, 0, none⟩)) 1 1]).run Tryz.prog w_7 = .ok (.slice t35.a t35.len t35.cap) w_8) ∧
      (I t35 (IntKind.i64.wrap (n9 + 1)) w_8) ∧ μ t35 (IntKind.i64.wrap (n9 + 1)) w_8 < μ free8 n9 w_4) w_6)
     ((I free8 (IntKind.i64.wrap (n9 + 1)) w_6) ∧ μ free8 (IntKind.i64.wrap (n9 + 1)) w_6 < μ free8 n9 w_4))
   (Br (decide ((↑free8.len : Int) < many2))
     (K (.tuple #[.slice none 0 0, .int .i64 3]) w_5)
     (∃ (I_1 : Int → World → Prop) (μ_1 : Int → World → Nat), (I_1 0 w_5) ∧ ∀ (z_2 : Env) (i11 : Int) (w_9 : World), I_1 i11 w_9 →
      Br (decide (IntKind.i64.wrap (i11 + many2) ≤ (↑free8.len : Int)))
       (Rng (IntKind.i64.wrap (IntKind.i64.wrap (i11 + many2) - 1)) free8.len (NilP free8.a fun a_t53 =>
        ∃ t54 : Int, (At (fun w' => w' = w_9) (Addr.add a_t53 ((IntKind.i64.wrap (IntKind.i64.wrap (i11 + many2) - 1)).toNat)) [.int .i64 t54]) ∧
        Drw w_9 fun S w_10 =>
        Rng i11 free8.len (NilP free8.a fun a_t58 =>
        ∃ t59 : Int, (At S (Addr.add a_t58 i11.toNat) [.int .i64 t59]) ∧
        Br (IntKind.i64.wrap (t54 - t59) == IntKind.i64.wrap (many2 - 1))
         (∃ t65 : Int, ∃ t65_1 : Sl, (At S ⟨b_l3, 0, none⟩ [.int .i64 t65, .slice t65_1.a t65_1.len t65_1.cap]) ∧
          Rng i11 free8.len (NilP free8.a fun a_t68 =>
          ∃ t69 : Int, (At S (Addr.add a_t68 i11.toNat) [.int .i64 t69]) ∧
          ∃ t71 : Int, ∃ t71_1 : Sl, (At S ⟨b_l3, 0, none⟩ [.int .i64 t71, .slice t71_1.a t71_1.len t71_1.cap]) ∧
          Calls Tryz.prog 109 #[.agg #[.int .i64 t65, .slice t65_1.a t65_1.len t65_1.cap], .int .i64 t69] w_10 fun e_3 w_11 =>
          ∃ t70 : Int, (e_3 = .returned (.int .i64 t70)) ∧
          (S w_11) ∧
          Calls Tryz.prog 109 #[.agg #[.int .i64 t71, .slice t71_1.a t71_1.len t71_1.cap], .int .i64 t54] w_11 fun e_4 w_12 =>
          ∃ t73 : Int, (e_4 = .returned (.int .i64 t73)) ∧
          (S w_12) ∧
          Br (t70 == t73)
           (((0 : Int) ≤ IntKind.i64.wrap (i11 + many2)) ∧
            ((IntKind.i64.wrap (i11 + many2) : Int) ≤ (↑free8.cap : Int)) ∧
            ((0 : Int) ≤ i11) ∧
            ((i11 : Int) ≤ (↑(IntKind.i64.wrap (i11 + many2)).toNat : Int)) ∧
            K (.tuple #[.slice (cutA free8.a i11.toNat free8.cap 1) ((IntKind.i64.wrap (i11 + many2)).toNat - i11.toNat) (free8.cap - i11.toNat), .int .i64 0]) w_12)
           ((I_1 (IntKind.i64.wrap (i11 + 1)) w_12) ∧ μ_1 (IntKind.i64.wrap (i11 + 1)) w_12 < μ_1 i11 w_9)))
         ((I_1 (IntKind.i64.wrap (i11 + 1)) w_10) ∧ μ_1 (IntKind.i64.wrap (i11 + 1)) w_10 < μ_1 i11 w_9))))
       (((0 : Int) ≤ many2) ∧
        ((many2 : Int) ≤ (↑free8.cap : Int)) ∧
        K (.tuple #[.slice free8.a many2.toNat free8.cap, .int .i64 0]) w_9)))) w

def sk68 : Sk := (.seq .leaf (.cut [] [] [6, 7, 13, 14, 15, 16, 17, 18, 19, 20] .leaf (.seq .leaf (.seq (.seq .leaf (.block (.loop [8, 9] [.sl, (.int .i64)] [8, 9, 10, 21, 22, 23, 24, 25, 26, 27, 28, 29, 30, 31, 32, 33, 34, 35] .leaf))) (.seq .leaf (.seq (.seq .leaf (.block (.loop [11] [(.int .i64)] [6, 7, 11, 12, 40, 41, 42, 43, 44, 45, 46, 47, 48, 49, 50, 51, 52, 53, 54, 55, 56, 57, 58, 59, 60, 61, 62, 63, 64, 65, 66, 67, 68, 69, 70, 71, 72, 73, 74, 75, 76, 77, 78, 79, 80, 81] .leaf))) .leaf))))))
theorem ok68 : fnOk Tryz.prog Tryz.f68.ntmps Tryz.f68 sk68 = true := by kernel_rfl
theorem eq68 (l0_0 : Int) (l0_1 : Sl) (taken1 : Sl) (many2 : Int) (K : Value → World → Prop) (w : World) : fnF Tryz.prog cl Tryz.f68 sk68 [.agg #[.int .i64 l0_0, .slice l0_1.a l0_1.len l0_1.cap], .slice taken1.a taken1.len taken1.cap, .int .i64 many2] K w = B68 l0_0 l0_1 taken1 many2 K w := by kernel_rfl
theorem call68 (l0_0 : Int) (l0_1 : Sl) (taken1 : Sl) (many2 : Int) (K : Value → World → Prop) (w : World) (h : B68 l0_0 l0_1 taken1 many2 K w) : Gets Tryz.prog 68 #[.agg #[.int .i64 l0_0, .slice l0_1.a l0_1.len l0_1.cap], .slice taken1.a taken1.len taken1.cap, .int .i64 many2] w K :=
  calls_of (sk := sk68) cl_ok mixed Tryz.func68 ok68 (args := [.agg #[.int .i64 l0_0, .slice l0_1.a l0_1.len l0_1.cap], .slice taken1.a taken1.len taken1.cap, .int .i64 many2]) (Nat.le_of_ble_eq_true (by kernel_rfl)) (by rw [eq68]; exact h)

/-- jetway/jetwayref14.RightLimits. -/
def B60 (l0 : Sl) (K : Value → World → Prop) (w : World) : Prop :=
  ∃ (J : World → Prop), (Br (decide ((↑l0.len : Int) < 1))
     (K (.bool false) w)
     (Br (decide ((↑l0.len : Int) > 8))
       (K (.bool false) w)
       (J  w))) ∧
  ∀ (z : Env)  (w_1 : World), J  w_1 →
  ∃ (I : Int → World → Prop) (μ : Int → World → Nat), (I 0 w_1) ∧ ∀ (z_1 : Env) (i3 : Int) (w_2 : World), I i3 w_2 →
  Br (decide (i3 < (↑l0.len : Int)))
   (Drw w_2 fun S w_3 =>
    Rng i3 l0.len (NilP l0.a fun a_t20 =>
    ∃ t21 : Int, (At S (Addr.add a_t20 i3.toNat) [.int .i64 t21]) ∧
    Br (decide (t21 < 0))
     (K (.bool false) w_3)
     (Rng i3 l0.len (NilP l0.a fun a_t26 =>
      ∃ t27 : Int, (At S (Addr.add a_t26 i3.toNat) [.int .i64 t27]) ∧
      Br (decide (t27 > 10000))
       (K (.bool false) w_3)
       (Br (decide (i3 > 0))
         (Rng i3 l0.len (NilP l0.a fun a_t36 =>
          ∃ t37 : Int, (At S (Addr.add a_t36 i3.toNat) [.int .i64 t37]) ∧
          Rng (IntKind.i64.wrap (i3 - 1)) l0.len (NilP l0.a fun a_t41 =>
          ∃ t42 : Int, (At S (Addr.add a_t41 ((IntKind.i64.wrap (i3 - 1)).toNat)) [.int .i64 t42]) ∧
          Br (decide (t37 > t42))
           (K (.bool false) w_3)
           ((I (IntKind.i64.wrap (i3 + 1)) w_3) ∧ μ (IntKind.i64.wrap (i3 + 1)) w_3 < μ i3 w_2))))
         ((I (IntKind.i64.wrap (i3 + 1)) w_3) ∧ μ (IntKind.i64.wrap (i3 + 1)) w_3 < μ i3 w_2))))))
   (K (.bool true) w_2)

def sk60 : Sk := (.seq .leaf (.cut [] [] [2, 4, 5, 6, 7, 8, 9, 10, 11] .leaf (.seq (.seq .leaf (.block (.loop [3] [(.int .i64)] [2, 3, 12, 13, 14, 15, 16, 17, 18, 19, 20, 21, 22, 23, 24, 25, 26, 27, 28, 29, 30, 31, 32, 33, 34, 35, 36, 37, 38, 39, 40, 41, 42, 43, 44, 45] .leaf))) .leaf)))
theorem ok60 : fnOk Tryz.prog Tryz.f60.ntmps Tryz.f60 sk60 = true := by kernel_rfl
theorem eq60 (l0 : Sl) (K : Value → World → Prop) (w : World) : fnF Tryz.prog cl Tryz.f60 sk60 [.slice l0.a l0.len l0.cap] K w = B60 l0 K w := by kernel_rfl
theorem call60 (l0 : Sl) (K : Value → World → Prop) (w : World) (h : B60 l0 K w) : Gets Tryz.prog 60 #[.slice l0.a l0.len l0.cap] w K :=
  calls_of (sk := sk60) cl_ok mixed Tryz.func60 ok60 (args := [.slice l0.a l0.len l0.cap]) (Nat.le_of_ble_eq_true (by kernel_rfl)) (by rw [eq60]; exact h)

/-- jetway/jetwayref14.from. -/
def B61 (sold0 : Sl) (k1 : Int) (K : Value → World → Prop) (w : World) : Prop :=
  ∃ (I : Int → Int → World → Prop) (μ : Int → Int → World → Nat), (I 0 k1 w) ∧ ∀ (z : Env) (n5 : Int) (i6 : Int) (w_1 : World), I n5 i6 w_1 →
  Br (decide (i6 < (↑sold0.len : Int)))
   (Rng i6 sold0.len (NilP sold0.a fun a_t17 =>
    ∃ t18 : Int, (At (fun w' => w' = w_1) (Addr.add a_t17 i6.toNat) [.int .i64 t18]) ∧
    (I (IntKind.i64.wrap (n5 + t18)) (IntKind.i64.wrap (i6 + 1)) w_1) ∧ μ (IntKind.i64.wrap (n5 + t18)) (IntKind.i64.wrap (i6 + 1)) w_1 < μ n5 i6 w_1))
   (K (.int .i64 n5) w_1)

def sk61 : Sk := (.seq .leaf (.seq .leaf (.seq (.seq .leaf (.block (.loop [5, 6] [(.int .i64), (.int .i64)] [5, 6, 8, 9, 10, 11, 12, 13, 14, 15, 16, 17, 18, 19] .leaf))) .leaf)))
theorem ok61 : fnOk Tryz.prog Tryz.f61.ntmps Tryz.f61 sk61 = true := by kernel_rfl
theorem eq61 (sold0 : Sl) (k1 : Int) (K : Value → World → Prop) (w : World) : fnF Tryz.prog cl Tryz.f61 sk61 [.slice sold0.a sold0.len sold0.cap, .int .i64 k1] K w = B61 sold0 k1 K w := by kernel_rfl
theorem call61 (sold0 : Sl) (k1 : Int) (K : Value → World → Prop) (w : World) (h : B61 sold0 k1 K w) : Gets Tryz.prog 61 #[.slice sold0.a sold0.len sold0.cap, .int .i64 k1] w K :=
  calls_of (sk := sk61) cl_ok mixed Tryz.func61 ok61 (args := [.slice sold0.a sold0.len sold0.cap, .int .i64 k1]) (Nat.le_of_ble_eq_true (by kernel_rfl)) (by rw [eq61]; exact h)

/-- jetway/jetwayref14.Limits. -/
def B96 (seats0 : Int) (parts1 : Sl) (K : Value → World → Prop) (w : World) : Prop :=
  ∃ (J : World → Prop), (Br (decide (seats0 < 0))
     (K (.tuple #[.slice none 0 0, .int .i64 1]) w)
     (Br (decide (seats0 > 10000))
       (K (.tuple #[.slice none 0 0, .int .i64 1]) w)
       (Br (decide ((↑parts1.len : Int) < 1))
         (K (.tuple #[.slice none 0 0, .int .i64 1]) w)
         (Br (decide ((↑parts1.len : Int) > 8))
           (K (.tuple #[.slice none 0 0, .int .i64 1]) w)
           (J  w))))) ∧
  ∀ (z : Env)  (w_1 : World), J  w_1 →
  New (.cells #[.int .i64 seats0] 3 (0, 0)) (fun b_t27 w_2 =>
  ∃ (I : Sl → Int → World → Prop) (μ : Sl → Int → World → Nat), (I ⟨(some ⟨b_t27, 0, none⟩), 1, 1⟩ 1 w_2) ∧ ∀ (z_1 : Env) (out6 : Sl) (i7 : Int) (w_3 : World), I out6 i7 w_3 →
  Br (decide (i7 < (↑parts1.len : Int)))
   (Rng i7 parts1.len (NilP parts1.a fun a_t37 =>
    ∃ t38 : Value, (At (fun w' => w' = w_3) (Addr.add a_t37 i7.toNat) [t38]) ∧
    Calls Tryz.prog 121 #[t38, .int .i64 seats0] w_3 fun e w_4 =>
    ∃ t40 : Int, ∃ t40_1 : Int, (e = .returned (.tuple #[.int .i64 t40, .int .i64 t40_1])) ∧
    Rng (IntKind.i64.wrap (i7 - 1)) out6.len (NilP out6.a fun a_t48 =>
    ∃ t49 : Int, (At (fun w' => w' = w_4) (Addr.add a_t48 ((IntKind.i64.wrap (i7 - 1)).toNat)) [.int .i64 t49]) ∧
    New (.cells #[.int .i64 (if t49 < t40 then t49 else t40)] 3 (0, 0)) (fun b_t51 w_5 =>
    ∃ w_6 : World, ∃ t52 : Sl, ((Builtin.append_ #[33, 33] 33 #[.slice out6.a out6.len out6.cap, .slice ((some ⟨b_t51, 0, none⟩)) 1 1]).run Tryz.prog w_5 = .ok (.slice t52.a t52.len t52.cap) w_6) ∧
    (I t52 (IntKind.i64.wrap (i7 + 1)) w_6) ∧ μ t52 (IntKind.i64.wrap (i7 + 1)) w_6 < μ out6 i7 w_3) w_4)))
   (K (.tuple #[.slice out6.a out6.len out6.cap, .int .i64 0]) w_3)) w_1

def sk96 : Sk := (.seq .leaf (.cut [] [] [4, 5, 10, 11, 12, 13, 14, 15, 16, 17, 18, 19, 20, 21, 22, 23, 24, 25] .leaf (.seq .leaf (.seq (.seq .leaf (.block (.loop [6, 7] [.sl, (.int .i64)] [6, 7, 8, 9, 28, 29, 30, 31, 32, 33, 34, 35, 36, 37, 38, 39, 40, 41, 42, 43, 44, 45, 46, 47, 48, 49, 50, 51, 52] .leaf))) .leaf))))
theorem ok96 : fnOk Tryz.prog Tryz.f96.ntmps Tryz.f96 sk96 = true := by kernel_rfl
theorem eq96 (seats0 : Int) (parts1 : Sl) (K : Value → World → Prop) (w : World) : fnF Tryz.prog cl Tryz.f96 sk96 [.int .i64 seats0, .slice parts1.a parts1.len parts1.cap] K w = B96 seats0 parts1 K w := by kernel_rfl
theorem call96 (seats0 : Int) (parts1 : Sl) (K : Value → World → Prop) (w : World) (h : B96 seats0 parts1 K w) : Gets Tryz.prog 96 #[.int .i64 seats0, .slice parts1.a parts1.len parts1.cap] w K :=
  calls_of (sk := sk96) cl_ok mixed Tryz.func96 ok96 (args := [.int .i64 seats0, .slice parts1.a parts1.len parts1.cap]) (Nat.le_of_ble_eq_true (by kernel_rfl)) (by rw [eq96]; exact h)

/-- jetway/jetwayref14.Right. -/
def B18 (limits0 : Sl) (sold1 : Sl) (K : Value → World → Prop) (w : World) : Prop :=
  Calls Tryz.prog 60 #[.slice limits0.a limits0.len limits0.cap] w fun e w_1 =>
  ∃ t9 : Bool, (e = .returned (.bool t9)) ∧
  ∃ (J : World → Prop), (Br (!t9)
     (K (.bool false) w_1)
     (Br ((↑sold1.len : Int) != (↑limits0.len : Int))
       (K (.bool false) w_1)
       (J  w_1))) ∧
  ∀ (z : Env)  (w_2 : World), J  w_2 →
  ∃ (I : Int → World → Prop) (μ : Int → World → Nat), (I 0 w_2) ∧ ∀ (z_1 : Env) (i6 : Int) (w_3 : World), I i6 w_3 →
  Br (decide (i6 < (↑sold1.len : Int)))
   (Rng i6 sold1.len (NilP sold1.a fun a_t27 =>
    ∃ t28 : Int, (At (fun w' => w' = w_3) (Addr.add a_t27 i6.toNat) [.int .i64 t28]) ∧
    Br (decide (t28 < 0))
     (K (.bool false) w_3)
     (Rng i6 sold1.len (NilP sold1.a fun a_t33 =>
      ∃ t34 : Int, (At (fun w' => w' = w_3) (Addr.add a_t33 i6.toNat) [.int .i64 t34]) ∧
      Br (decide (t34 > 10000))
       (K (.bool false) w_3)
       ((I (IntKind.i64.wrap (i6 + 1)) w_3) ∧ μ (IntKind.i64.wrap (i6 + 1)) w_3 < μ i6 w_3)))))
   (∃ (I_1 : Int → World → Prop) (μ_1 : Int → World → Nat), (I_1 0 w_3) ∧ ∀ (z_2 : Env) (k7 : Int) (w_4 : World), I_1 k7 w_4 →
    Br (decide (k7 < (↑limits0.len : Int)))
     (Drw w_4 fun S w_5 =>
      Rng k7 limits0.len (NilP limits0.a fun a_t48 =>
      ∃ t49 : Int, (At S (Addr.add a_t48 k7.toNat) [.int .i64 t49]) ∧
      Calls Tryz.prog 61 #[.slice sold1.a sold1.len sold1.cap, .int .i64 k7] w_5 fun e_1 w_6 =>
      ∃ t45 : Int, (e_1 = .returned (.int .i64 t45)) ∧
      (S w_6) ∧
      Br (decide (t45 > t49))
       (K (.bool false) w_6)
       ((I_1 (IntKind.i64.wrap (k7 + 1)) w_6) ∧ μ_1 (IntKind.i64.wrap (k7 + 1)) w_6 < μ_1 k7 w_4)))
     (K (.bool true) w_4))

def sk18 : Sk := (.seq .leaf (.seq .leaf (.cut [] [] [4, 10, 11, 12, 13, 14, 15, 16, 17, 18] .leaf (.seq (.seq .leaf (.block (.loop [6] [(.int .i64)] [4, 6, 19, 20, 21, 22, 23, 24, 25, 26, 27, 28, 29, 30, 31, 32, 33, 34, 35, 36] .leaf))) (.seq (.seq .leaf (.block (.loop [7] [(.int .i64)] [4, 7, 37, 38, 39, 40, 41, 42, 43, 44, 45, 46, 47, 48, 49, 50] .leaf))) .leaf)))))
theorem ok18 : fnOk Tryz.prog Tryz.f18.ntmps Tryz.f18 sk18 = true := by kernel_rfl
theorem eq18 (limits0 : Sl) (sold1 : Sl) (K : Value → World → Prop) (w : World) : fnF Tryz.prog cl Tryz.f18 sk18 [.slice limits0.a limits0.len limits0.cap, .slice sold1.a sold1.len sold1.cap] K w = B18 limits0 sold1 K w := by kernel_rfl
theorem call18 (limits0 : Sl) (sold1 : Sl) (K : Value → World → Prop) (w : World) (h : B18 limits0 sold1 K w) : Gets Tryz.prog 18 #[.slice limits0.a limits0.len limits0.cap, .slice sold1.a sold1.len sold1.cap] w K :=
  calls_of (sk := sk18) cl_ok mixed Tryz.func18 ok18 (args := [.slice limits0.a limits0.len limits0.cap, .slice sold1.a sold1.len sold1.cap]) (Nat.le_of_ble_eq_true (by kernel_rfl)) (by rw [eq18]; exact h)

/-- jetway/jetwayref14.Left. -/
def B93 (limits0 : Sl) (sold1 : Sl) (class2 : Int) (K : Value → World → Prop) (w : World) : Prop :=
  Calls Tryz.prog 18 #[.slice limits0.a limits0.len limits0.cap, .slice sold1.a sold1.len sold1.cap] w fun e w_1 =>
  ∃ t13 : Bool, (e = .returned (.bool t13)) ∧
  ∃ (J : World → Prop), (Br (!t13)
     (K (.tuple #[.int .i64 0, .int .i64 1]) w_1)
     (Br (decide (class2 < 0))
       (K (.tuple #[.int .i64 0, .int .i64 1]) w_1)
       (Br (decide (class2 ≥ (↑limits0.len : Int)))
         (K (.tuple #[.int .i64 0, .int .i64 1]) w_1)
         (J  w_1)))) ∧
  ∀ (z : Env)  (w_2 : World), J  w_2 →
  ∃ (I : Int → Int → World → Prop) (μ : Int → Int → World → Nat), (I 10000 0 w_2) ∧ ∀ (z_1 : Env) (least9 : Int) (k10 : Int) (w_3 : World), I least9 k10 w_3 →
  Br (decide (k10 ≤ class2))
   (Drw w_3 fun S w_4 =>
    Rng k10 limits0.len (NilP limits0.a fun a_t34 =>
    ∃ t35 : Int, (At S (Addr.add a_t34 k10.toNat) [.int .i64 t35]) ∧
    Calls Tryz.prog 61 #[.slice sold1.a sold1.len sold1.cap, .int .i64 k10] w_4 fun e_1 w_5 =>
    ∃ t38 : Int, (e_1 = .returned (.int .i64 t38)) ∧
    (S w_5) ∧
    (I (if IntKind.i64.wrap (t35 - t38) < least9 then IntKind.i64.wrap (t35 - t38) else least9) (IntKind.i64.wrap (k10 + 1)) w_5) ∧ μ (if IntKind.i64.wrap (t35 - t38) < least9 then IntKind.i64.wrap (t35 - t38) else least9) (IntKind.i64.wrap (k10 + 1)) w_5 < μ least9 k10 w_3))
   (K (.tuple #[.int .i64 least9, .int .i64 0]) w_3)

def sk93 : Sk := (.seq .leaf (.seq .leaf (.cut [] [] [6, 7, 14, 15, 16, 17, 18, 19, 20, 21, 22, 23, 24, 25] .leaf (.seq .leaf (.seq (.seq .leaf (.block (.loop [9, 10] [(.int .i64), (.int .i64)] [9, 10, 26, 27, 28, 29, 30, 31, 32, 33, 34, 35, 36, 37, 38, 39, 40] .leaf))) .leaf)))))
theorem ok93 : fnOk Tryz.prog Tryz.f93.ntmps Tryz.f93 sk93 = true := by kernel_rfl
theorem eq93 (limits0 : Sl) (sold1 : Sl) (class2 : Int) (K : Value → World → Prop) (w : World) : fnF Tryz.prog cl Tryz.f93 sk93 [.slice limits0.a limits0.len limits0.cap, .slice sold1.a sold1.len sold1.cap, .int .i64 class2] K w = B93 limits0 sold1 class2 K w := by kernel_rfl
theorem call93 (limits0 : Sl) (sold1 : Sl) (class2 : Int) (K : Value → World → Prop) (w : World) (h : B93 limits0 sold1 class2 K w) : Gets Tryz.prog 93 #[.slice limits0.a limits0.len limits0.cap, .slice sold1.a sold1.len sold1.cap, .int .i64 class2] w K :=
  calls_of (sk := sk93) cl_ok mixed Tryz.func93 ok93 (args := [.slice limits0.a limits0.len limits0.cap, .slice sold1.a sold1.len sold1.cap, .int .i64 class2]) (Nat.le_of_ble_eq_true (by kernel_rfl)) (by rw [eq93]; exact h)

/-- jetway/jetwayref14.Sell. -/
def B97 (limits0 : Sl) (sold1 : Sl) (class2 : Int) (many3 : Int) (K : Value → World → Prop) (w : World) : Prop :=
  Calls Tryz.prog 93 #[.slice limits0.a limits0.len limits0.cap, .slice sold1.a sold1.len sold1.cap, .int .i64 class2] w fun e w_1 =>
  ∃ t17 : Int, ∃ t17_1 : Int, (e = .returned (.tuple #[.int .i64 t17, .int .i64 t17_1])) ∧
  ∃ (J : World → Prop), (Br (t17_1 != 0)
     (K (.tuple #[.slice none 0 0, .int .i64 1]) w_1)
     (Br (decide (many3 < 1))
       (K (.tuple #[.slice none 0 0, .int .i64 1]) w_1)
       (Br (decide (many3 > 10000))
         (K (.tuple #[.slice none 0 0, .int .i64 1]) w_1)
         (J  w_1)))) ∧
  ∀ (z : Env)  (w_2 : World), J  w_2 →
  Br (decide (many3 > t17))
   (K (.tuple #[.slice none 0 0, .int .i64 3]) w_2)
   (New (.cells #[] 3 (0, 0)) (fun b_t33 w_3 =>
    ∃ w_4 : World, ∃ t35 : Sl, ((Builtin.append_ #[33, 33] 33 #[.slice ((some ⟨b_t33, 0, none⟩)) 0 0, .slice sold1.a sold1.len sold1.cap]).run Tryz.prog w_3 = .ok (.slice t35.a t35.len t35.cap) w_4) ∧
    Rng class2 t35.len (NilP t35.a fun a_t40 =>
    ∃ t41 : Int, (At (fun w' => w' = w_4) (Addr.add a_t40 class2.toNat) [.int .i64 t41]) ∧
    Rng class2 t35.len (NilP t35.a fun a_t44 =>
    ∃ w_5 : World, ((Instr.storeAt 3 (.pointer ((some (Addr.add a_t44 class2.toNat)))) (.int .i64 (IntKind.i64.wrap (t41 + many3)))).run Tryz.prog w_4 = .ok () w_5) ∧
    K (.tuple #[.slice t35.a t35.len t35.cap, .int .i64 0]) w_5))) w_2)

def sk97 : Sk := (.seq .leaf (.seq .leaf (.cut [] [] [8, 9, 20, 21, 22, 23, 24, 25, 26, 27, 28, 29] .leaf .leaf)))
theorem ok97 : fnOk Tryz.prog Tryz.f97.ntmps Tryz.f97 sk97 = true := by kernel_rfl
theorem eq97 (limits0 : Sl) (sold1 : Sl) (class2 : Int) (many3 : Int) (K : Value → World → Prop) (w : World) : fnF Tryz.prog cl Tryz.f97 sk97 [.slice limits0.a limits0.len limits0.cap, .slice sold1.a sold1.len sold1.cap, .int .i64 class2, .int .i64 many3] K w = B97 limits0 sold1 class2 many3 K w := by kernel_rfl
theorem call97 (limits0 : Sl) (sold1 : Sl) (class2 : Int) (many3 : Int) (K : Value → World → Prop) (w : World) (h : B97 limits0 sold1 class2 many3 K w) : Gets Tryz.prog 97 #[.slice limits0.a limits0.len limits0.cap, .slice sold1.a sold1.len sold1.cap, .int .i64 class2, .int .i64 many3] w K :=
  calls_of (sk := sk97) cl_ok mixed Tryz.func97 ok97 (args := [.slice limits0.a limits0.len limits0.cap, .slice sold1.a sold1.len sold1.cap, .int .i64 class2, .int .i64 many3]) (Nat.le_of_ble_eq_true (by kernel_rfl)) (by rw [eq97]; exact h)

/-- jetway/jetwayref03.Level. -/
def B121 (part0 : Value) (seats1 : Int) (K : Value → World → Prop) (w : World) : Prop :=
  ∃ (J : World → Prop), (Br (decide (seats1 < 0))
     (K (.tuple #[.int .i64 0, .int .i64 1]) w)
     (Br (decide (seats1 > 10000))
       (K (.tuple #[.int .i64 0, .int .i64 1]) w)
       (J  w))) ∧
  ∀ (z : Env)  (w_1 : World), J  w_1 →
  ∃ (J_1 : World → Prop), (∃ t16 : Bool, (∀ w', (fun w' => w' = w_1) w' → ((do eqGuard BinOp.neq 66 (Operand.tmp 14) (Operand.tmp 15) part0 part0; binOp BinOp.neq 66 part0 part0 : Sem Value)).run Tryz.prog w' = .ok (.bool t16) w') ∧
    Br t16
     (K (.tuple #[.int .i64 0, .int .i64 0]) w_1)
     (∃ t19 : Bool, (∀ w', (fun w' => w' = w_1) w' → ((do eqGuard BinOp.leq 66 (Operand.tmp 18) (Operand.const (Value.float FloatKind.f64 0)) part0 (Value.float FloatKind.f64 0); binOp BinOp.leq 66 part0 (Value.float FloatKind.f64 0) : Sem Value)).run Tryz.prog w' = .ok (.bool t19) w') ∧
      Br t19
       (K (.tuple #[.int .i64 0, .int .i64 0]) w_1)
       (J_1  w_1))) ∧
  ∀ (z_1 : Env)  (w_2 : World), J_1  w_2 →
  ∃ t22 : Bool, (∀ w', (fun w' => w' = w_2) w' → ((do eqGuard BinOp.geq 66 (Operand.tmp 21) (Operand.const (Value.float FloatKind.f64 4607182418800017408)) part0 (Value.float FloatKind.f64 4607182418800017408); binOp BinOp.geq 66 part0 (Value.float FloatKind.f64 4607182418800017408) : Sem Value)).run Tryz.prog w' = .ok (.bool t22) w') ∧
  Br t22
   (K (.tuple #[.int .i64 seats1, .int .i64 0]) w_2)
   (∃ w_3 : World, ∃ t26 : Value, ((convert 3 66 (.int .i64 seats1)).run Tryz.prog w_2 = .ok (t26) w_3) ∧
    ∃ t27 : Value, (∀ w', (fun w' => w' = w_3) w' → ((do eqGuard BinOp.mul 66 (Operand.tmp 24) (Operand.tmp 26) part0 t26; binOp BinOp.mul 66 part0 t26 : Sem Value)).run Tryz.prog w' = .ok (t27) w') ∧
    ∃ (I : Int → World → Prop) (μ : Int → World → Nat), (I 0 w_3) ∧ ∀ (z_2 : Env) (n7 : Int) (w_4 : World), I n7 w_4 →
    Br (decide (n7 < seats1))
     (∃ w_5 : World, ∃ t34 : Value, ((convert 3 66 (.int .i64 (IntKind.i64.wrap (n7 + 1)))).run Tryz.prog w_4 = .ok (t34) w_5) ∧
      ∃ t36 : Bool, (∀ w', (fun w' => w' = w_5) w' → ((do eqGuard BinOp.leq 66 (Operand.tmp 34) (Operand.tmp 35) t34 t27; binOp BinOp.leq 66 t34 t27 : Sem Value)).run Tryz.prog w' = .ok (.bool t36) w') ∧
      Br t36
       ((I (IntKind.i64.wrap (n7 + 1)) w_5) ∧ μ (IntKind.i64.wrap (n7 + 1)) w_5 < μ n7 w_4)
       (K (.tuple #[.int .i64 n7, .int .i64 0]) w_5))
     (K (.tuple #[.int .i64 n7, .int .i64 0]) w_4))

def sk121 : Sk := (.seq .leaf (.cut [] [] [4, 5, 8, 9, 10, 11, 12, 13] .leaf (.cut [] [] [4, 5, 14, 15, 16, 17, 18, 19, 20] .leaf (.seq .leaf (.seq .leaf (.seq .leaf (.seq (.block (.loop [7] [(.int .i64)] [7, 28, 29, 30, 31, 32, 33, 34, 35, 36, 37, 38, 39] .leaf)) .leaf)))))))
theorem ok121 : fnOk Tryz.prog Tryz.f121.ntmps Tryz.f121 sk121 = true := by kernel_rfl
theorem eq121 (part0 : Value) (seats1 : Int) (K : Value → World → Prop) (w : World) : fnF Tryz.prog cl Tryz.f121 sk121 [part0, .int .i64 seats1] K w = B121 part0 seats1 K w := by kernel_rfl
theorem call121 (part0 : Value) (seats1 : Int) (K : Value → World → Prop) (w : World) (h : B121 part0 seats1 K w) : Gets Tryz.prog 121 #[part0, .int .i64 seats1] w K :=
  calls_of (sk := sk121) cl_ok mixed Tryz.func121 ok121 (args := [part0, .int .i64 seats1]) (Nat.le_of_ble_eq_true (by kernel_rfl)) (by rw [eq121]; exact h)

/-- jetway/jetwayref07.Has. -/
def B17 (l0 : Sl) (n1 : Int) (K : Value → World → Prop) (w : World) : Prop :=
  ∃ (I : Int → World → Prop) (μ : Int → World → Nat), (I 0 w) ∧ ∀ (z : Env) (i5 : Int) (w_1 : World), I i5 w_1 →
  Br (decide (i5 < (↑l0.len : Int)))
   (Rng i5 l0.len (NilP l0.a fun a_t14 =>
    ∃ t15 : Int, (At (fun w' => w' = w_1) (Addr.add a_t14 i5.toNat) [.int .i64 t15]) ∧
    Br (t15 == n1)
     (K (.bool true) w_1)
     ((I (IntKind.i64.wrap (i5 + 1)) w_1) ∧ μ (IntKind.i64.wrap (i5 + 1)) w_1 < μ i5 w_1)))
   (K (.bool false) w_1)

def sk17 : Sk := (.seq .leaf (.seq (.seq .leaf (.block (.loop [5] [(.int .i64)] [4, 5, 6, 7, 8, 9, 10, 11, 12, 13, 14, 15, 16, 17] .leaf))) .leaf))
theorem ok17 : fnOk Tryz.prog Tryz.f17.ntmps Tryz.f17 sk17 = true := by kernel_rfl
theorem eq17 (l0 : Sl) (n1 : Int) (K : Value → World → Prop) (w : World) : fnF Tryz.prog cl Tryz.f17 sk17 [.slice l0.a l0.len l0.cap, .int .i64 n1] K w = B17 l0 n1 K w := by kernel_rfl
theorem call17 (l0 : Sl) (n1 : Int) (K : Value → World → Prop) (w : World) (h : B17 l0 n1 K w) : Gets Tryz.prog 17 #[.slice l0.a l0.len l0.cap, .int .i64 n1] w K :=
  calls_of (sk := sk17) cl_ok mixed Tryz.func17 ok17 (args := [.slice l0.a l0.len l0.cap, .int .i64 n1]) (Nat.le_of_ble_eq_true (by kernel_rfl)) (by rw [eq17]; exact h)

/-- jetway/jetwayref07.SameInts. -/
def B44 (a0 : Sl) (b1 : Sl) (K : Value → World → Prop) (w : World) : Prop :=
  Br ((↑a0.len : Int) != (↑b1.len : Int))
   (K (.bool false) w)
   (∃ (I : Int → World → Prop) (μ : Int → World → Nat), (I 0 w) ∧ ∀ (z : Env) (i5 : Int) (w_1 : World), I i5 w_1 →
    Br (decide (i5 < (↑a0.len : Int)))
     (Drw w_1 fun S w_2 =>
      Rng i5 a0.len (NilP a0.a fun a_t19 =>
      ∃ t20 : Int, (At S (Addr.add a_t19 i5.toNat) [.int .i64 t20]) ∧
      Rng i5 b1.len (NilP b1.a fun a_t23 =>
      ∃ t24 : Int, (At S (Addr.add a_t23 i5.toNat) [.int .i64 t24]) ∧
      Br (t20 != t24)
       (K (.bool false) w_2)
       ((I (IntKind.i64.wrap (i5 + 1)) w_2) ∧ μ (IntKind.i64.wrap (i5 + 1)) w_2 < μ i5 w_1))))
     (K (.bool true) w_1))

def sk44 : Sk := (.seq .leaf (.seq .leaf (.seq (.seq .leaf (.block (.loop [5] [(.int .i64)] [4, 5, 11, 12, 13, 14, 15, 16, 17, 18, 19, 20, 21, 22, 23, 24, 25] .leaf))) .leaf)))
theorem ok44 : fnOk Tryz.prog Tryz.f44.ntmps Tryz.f44 sk44 = true := by kernel_rfl
theorem eq44 (a0 : Sl) (b1 : Sl) (K : Value → World → Prop) (w : World) : fnF Tryz.prog cl Tryz.f44 sk44 [.slice a0.a a0.len a0.cap, .slice b1.a b1.len b1.cap] K w = B44 a0 b1 K w := by kernel_rfl
theorem call44 (a0 : Sl) (b1 : Sl) (K : Value → World → Prop) (w : World) (h : B44 a0 b1 K w) : Gets Tryz.prog 44 #[.slice a0.a a0.len a0.cap, .slice b1.a b1.len b1.cap] w K :=
  calls_of (sk := sk44) cl_ok mixed Tryz.func44 ok44 (args := [.slice a0.a a0.len a0.cap, .slice b1.a b1.len b1.cap]) (Nat.le_of_ble_eq_true (by kernel_rfl)) (by rw [eq44]; exact h)

/-- jetway/jetwayref02.Number. -/
def B119 (n0 : Int) (K : Value → World → Prop) (w : World) : Prop :=
  ∃ (I : Int → Sl → World → Prop) (μ : Int → Sl → World → Nat), (I n0 ⟨none, 0, 0⟩ w) ∧ ∀ (z : Env) (n0_1 : Int) (out3 : Sl) (w_1 : World), I n0_1 out3 w_1 →
  Br (decide (n0_1 > 0))
   (New (.cells #[.int .u8 (IntKind.u8.wrap (n0_1.tmod 256))] 5 (0, 0)) (fun b_t9 w_2 =>
    ∃ w_3 : World, ∃ t11 : Sl, ((Builtin.append_ #[22, 22] 22 #[.slice ((some ⟨b_t9, 0, none⟩)) 1 1, .slice out3.a out3.len out3.cap]).run Tryz.prog w_2 = .ok (.slice t11.a t11.len t11.cap) w_3) ∧
    (I (IntKind.u64.wrap (n0_1.tdiv 256)) t11 w_3) ∧ μ (IntKind.u64.wrap (n0_1.tdiv 256)) t11 w_3 < μ n0_1 out3 w_1) w_1)
   (New (.cells #[.int .u8 (IntKind.u8.wrap (↑out3.len : Int))] 5 (0, 0)) (fun b_t17 w_4 =>
    ∃ w_5 : World, ∃ t19 : Sl, ((Builtin.append_ #[22, 22] 22 #[.slice ((some ⟨b_t17, 0, none⟩)) 1 1, .slice out3.a out3.len out3.cap]).run Tryz.prog w_4 = .ok (.slice t19.a t19.len t19.cap) w_5) ∧
    K (.slice t19.a t19.len t19.cap) w_5) w_1)

def sk119 : Sk := (.seq .leaf (.seq .leaf (.seq (.block (.loop [0, 3] [(.int .u64), .sl] [0, 3, 4, 5, 6, 7, 8, 9, 10, 11, 12, 13] .leaf)) .leaf)))
theorem ok119 : fnOk Tryz.prog Tryz.f119.ntmps Tryz.f119 sk119 = true := by kernel_rfl
theorem eq119 (n0 : Int) (K : Value → World → Prop) (w : World) : fnF Tryz.prog cl Tryz.f119 sk119 [.int .u64 n0] K w = B119 n0 K w := by kernel_rfl
theorem call119 (n0 : Int) (K : Value → World → Prop) (w : World) (h : B119 n0 K w) : Gets Tryz.prog 119 #[.int .u64 n0] w K :=
  calls_of (sk := sk119) cl_ok mixed Tryz.func119 ok119 (args := [.int .u64 n0]) (Nat.le_of_ble_eq_true (by kernel_rfl)) (by rw [eq119]; exact h)

/-- (*jetway/jetwayref02.Reader).next. -/
def B90 (r0 : Option Addr) (K : Value → World → Prop) (w : World) : Prop :=
  ∃ (J : World → Prop), (Drw w fun S w_1 =>
    NilP r0 fun a_t10 =>
    ∃ t12 : Bool, (At S ⟨a_t10.block, a_t10.off + 2, none⟩ [.bool t12]) ∧
    Br t12
     (K (.tuple #[.int .u64 0, .bool false, .int .i64 0]) w_1)
     (NilP r0 fun a_t15 =>
      ∃ t17 : Int, (At S ⟨a_t15.block, a_t15.off + 1, none⟩ [.int .i64 t17]) ∧
      NilP r0 fun a_t19 =>
      ∃ t21 : Sl, (At S (Addr.add a_t19 0) [.slice t21.a t21.len t21.cap]) ∧
      Br (decide (t17 ≥ (↑t21.len : Int)))
       (K (.tuple #[.int .u64 0, .bool false, .int .i64 0]) w_1)
       (J  w_1))) ∧
  ∀ (z : Env)  (w_2 : World), J  w_2 →
  Drw w_2 fun S_1 w_3 =>
  NilP r0 fun a_t26 =>
  ∃ t28 : Sl, (At S_1 (Addr.add a_t26 0) [.slice t28.a t28.len t28.cap]) ∧
  NilP r0 fun a_t30 =>
  ∃ t32 : Int, (At S_1 ⟨a_t30.block, a_t30.off + 1, none⟩ [.int .i64 t32]) ∧
  Rng t32 t28.len (NilP t28.a fun a_t33 =>
  ∃ t34 : Int, (At S_1 (Addr.add a_t33 t32.toNat) [.int .u8 t34]) ∧
  ∃ (J_1 : Int → World → Prop), (Br (decide (IntKind.i64.wrap t34 ≥ 16))
     (J_1 (IntKind.i64.wrap (IntKind.i64.wrap t34 - 16)) w_3)
     (J_1 (IntKind.i64.wrap t34) w_3)) ∧
  ∀ (z_1 : Env) (k5 : Int) (w_4 : World), J_1 k5 w_4 →
  ∃ (J_2 : World → Prop), (Drw w_4 fun S_2 w_5 =>
    Br (decide (k5 > 8))
     (K (.tuple #[.int .u64 0, .bool false, .int .i64 0]) w_5)
     (NilP r0 fun a_t45 =>
      ∃ t47 : Int, (At S_2 ⟨a_t45.block, a_t45.off + 1, none⟩ [.int .i64 t47]) ∧
      NilP r0 fun a_t52 =>
      ∃ t54 : Sl, (At S_2 (Addr.add a_t52 0) [.slice t54.a t54.len t54.cap]) ∧
      Br (decide (IntKind.i64.wrap (IntKind.i64.wrap (t47 + 1) + k5) > (↑t54.len : Int)))
       (K (.tuple #[.int .u64 0, .bool false, .int .i64 0]) w_5)
       (Br (decide (IntKind.i64.wrap t34 ≥ 16))
         (Br (k5 == 0)
           (K (.tuple #[.int .u64 0, .bool false, .int .i64 0]) w_5)
           (Br (decide (k5 > 0))
             (NilP r0 fun a_t70 =>
              ∃ t72 : Sl, (At S_2 (Addr.add a_t70 0) [.slice t72.a t72.len t72.cap]) ∧
              NilP r0 fun a_t74 =>
              ∃ t76 : Int, (At S_2 ⟨a_t74.block, a_t74.off + 1, none⟩ [.int .i64 t76]) ∧
              Rng (IntKind.i64.wrap (t76 + 1)) t72.len (NilP t72.a fun a_t78 =>
              ∃ t79 : Int, (At S_2 (Addr.add a_t78 ((IntKind.i64.wrap (t76 + 1)).toNat)) [.int .u8 t79]) ∧
              Br (t79 == 0)
               (K (.tuple #[.int .u64 0, .bool false, .int .i64 0]) w_5)
               (J_2  w_5)))
             (J_2  w_5)))
         (Br (decide (k5 > 0))
           (NilP r0 fun a_t70_1 =>
            ∃ t72_1 : Sl, (At S_2 (Addr.add a_t70_1 0) [.slice t72_1.a t72_1.len t72_1.cap]) ∧
            NilP r0 fun a_t74_1 =>
            ∃ t76_1 : Int, (At S_2 ⟨a_t74_1.block, a_t74_1.off + 1, none⟩ [.int .i64 t76_1]) ∧
            Rng (IntKind.i64.wrap (t76_1 + 1)) t72_1.len (NilP t72_1.a fun a_t78_1 =>
            ∃ t79_1 : Int, (At S_2 (Addr.add a_t78_1 ((IntKind.i64.wrap (t76_1 + 1)).toNat)) [.int .u8 t79_1]) ∧
            Br (t79_1 == 0)
             (K (.tuple #[.int .u64 0, .bool false, .int .i64 0]) w_5)
             (J_2  w_5)))
           (J_2  w_5))))) ∧
  ∀ (z_2 : Env)  (w_6 : World), J_2  w_6 →
  ∃ (I : Int → Int → World → Prop) (μ : Int → Int → World → Nat), (I 0 0 w_6) ∧ ∀ (z_3 : Env) (n7 : Int) (i8 : Int) (w_7 : World), I n7 i8 w_7 →
  Br (decide (i8 < k5))
   (Drw w_7 fun S_3 w_8 =>
    NilP r0 fun a_t91 =>
    ∃ t93 : Sl, (At S_3 (Addr.add a_t91 0) [.slice t93.a t93.len t93.cap]) ∧
    NilP r0 fun a_t95 =>
    ∃ t97 : Int, (At S_3 ⟨a_t95.block, a_t95.off + 1, none⟩ [.int .i64 t97]) ∧
    Rng (IntKind.i64.wrap (IntKind.i64.wrap (t97 + 1) + i8)) t93.len (NilP t93.a fun a_t101 =>
    ∃ t102 : Int, (At S_3 (Addr.add a_t101 ((IntKind.i64.wrap (IntKind.i64.wrap (t97 + 1) + i8)).toNat)) [.int .u8 t102]) ∧
    (I (IntKind.u64.wrap (IntKind.u64.wrap (n7 * 256) + IntKind.u64.wrap t102)) (IntKind.i64.wrap (i8 + 1)) w_8) ∧ μ (IntKind.u64.wrap (IntKind.u64.wrap (n7 * 256) + IntKind.u64.wrap t102)) (IntKind.i64.wrap (i8 + 1)) w_8 < μ n7 i8 w_7))
   (K (.tuple #[.int .u64 n7, .bool (decide (IntKind.i64.wrap t34 ≥ 16)), .int .i64 (IntKind.i64.wrap (k5 + 1))]) w_7))

def sk90 : Sk := (.seq .leaf (.cut [] [] [2, 3, 4, 9, 10, 11, 12, 13, 14, 15, 16, 17, 18, 19, 20, 21, 22, 23, 24] .leaf (.seq .leaf (.seq .leaf (.cut [5] [(.int .i64)] [5, 38, 39, 40] .leaf (.cut [] [] [2, 3, 4, 41, 42, 43, 44, 45, 46, 47, 48, 49, 50, 51, 52, 53, 54, 55, 56, 57, 58, 59, 60, 61, 62, 63, 64, 65, 66, 67, 68, 69, 70, 71, 72, 73, 74, 75, 76, 77, 78, 79, 80, 81, 82] .leaf (.seq .leaf (.seq (.seq .leaf (.block (.loop [7, 8] [(.int .u64), (.int .i64)] [7, 8, 83, 84, 85, 86, 87, 88, 89, 90, 91, 92, 93, 94, 95, 96, 97, 98, 99, 100, 101, 102, 103, 104] .leaf))) .leaf))))))))
theorem ok90 : fnOk Tryz.prog Tryz.f90.ntmps Tryz.f90 sk90 = true := by kernel_rfl
theorem eq90 (r0 : Option Addr) (K : Value → World → Prop) (w : World) : fnF Tryz.prog cl Tryz.f90 sk90 [.pointer r0] K w = B90 r0 K w := by kernel_rfl
theorem call90 (r0 : Option Addr) (K : Value → World → Prop) (w : World) (h : B90 r0 K w) : Gets Tryz.prog 90 #[.pointer r0] w K :=
  calls_of (sk := sk90) cl_ok mixed Tryz.func90 ok90 (args := [.pointer r0]) (Nat.le_of_ble_eq_true (by kernel_rfl)) (by rw [eq90]; exact h)

/-- (*jetway/jetwayref02.Reader).Number. -/
def B40 (r0 : Option Addr) (most1 : Int) (K : Value → World → Prop) (w : World) : Prop :=
  Calls Tryz.prog 90 #[.pointer r0] w fun e w_1 =>
  ∃ t10 : Int, ∃ t10_1 : Bool, ∃ t10_2 : Int, (e = .returned (.tuple #[.int .u64 t10, .bool t10_1, .int .i64 t10_2])) ∧
  ∃ (J : World → Prop), (Br (t10_2 == 0)
     (NilP r0 fun a_t25 =>
      ∃ w_2 : World, ((Instr.storeAt 4 (.pointer ((some ⟨a_t25.block, a_t25.off + 2, none⟩))) (.bool true)).run Tryz.prog w_1 = .ok () w_2) ∧
      K (.int .u64 0) w_2)
     (Br t10_1
       (NilP r0 fun a_t25_1 =>
        ∃ w_3 : World, ((Instr.storeAt 4 (.pointer ((some ⟨a_t25_1.block, a_t25_1.off + 2, none⟩))) (.bool true)).run Tryz.prog w_1 = .ok () w_3) ∧
        K (.int .u64 0) w_3)
       (Br (decide (t10 > most1))
         (NilP r0 fun a_t25_2 =>
          ∃ w_4 : World, ((Instr.storeAt 4 (.pointer ((some ⟨a_t25_2.block, a_t25_2.off + 2, none⟩))) (.bool true)).run Tryz.prog w_1 = .ok () w_4) ∧
          K (.int .u64 0) w_4)
         (J  w_1)))) ∧
  ∀ (z : Env)  (w_5 : World), J  w_5 →
  NilP r0 fun a_t29 =>
  ∃ t31 : Int, (At (fun w' => w' = w_5) ⟨a_t29.block, a_t29.off + 1, none⟩ [.int .i64 t31]) ∧
  NilP r0 fun a_t34 =>
  ∃ w_6 : World, ((Instr.storeAt 3 (.pointer ((some ⟨a_t34.block, a_t34.off + 1, none⟩))) (.int .i64 (IntKind.i64.wrap (t31 + t10_2)))).run Tryz.prog w_5 = .ok () w_6) ∧
  K (.int .u64 t10) w_6

def sk40 : Sk := (.seq .leaf (.seq .leaf (.cut [] [] [4, 14, 15, 16, 17, 18, 19, 20, 21, 22, 23, 24, 25, 26] .leaf .leaf)))
theorem ok40 : fnOk Tryz.prog Tryz.f40.ntmps Tryz.f40 sk40 = true := by kernel_rfl
theorem eq40 (r0 : Option Addr) (most1 : Int) (K : Value → World → Prop) (w : World) : fnF Tryz.prog cl Tryz.f40 sk40 [.pointer r0, .int .u64 most1] K w = B40 r0 most1 K w := by kernel_rfl
theorem call40 (r0 : Option Addr) (most1 : Int) (K : Value → World → Prop) (w : World) (h : B40 r0 most1 K w) : Gets Tryz.prog 40 #[.pointer r0, .int .u64 most1] w K :=
  calls_of (sk := sk40) cl_ok mixed Tryz.func40 ok40 (args := [.pointer r0, .int .u64 most1]) (Nat.le_of_ble_eq_true (by kernel_rfl)) (by rw [eq40]; exact h)

/-- (*jetway/jetwayref02.Reader).Whole. -/
def B42 (r0 : Option Addr) (K : Value → World → Prop) (w : World) : Prop :=
  Drw w fun S w_1 =>
  NilP r0 fun a_t4 =>
  ∃ t6 : Bool, (At S ⟨a_t4.block, a_t4.off + 2, none⟩ [.bool t6]) ∧
  Br (!t6)
   (NilP r0 fun a_t10 =>
    ∃ t12 : Int, (At S ⟨a_t10.block, a_t10.off + 1, none⟩ [.int .i64 t12]) ∧
    NilP r0 fun a_t14 =>
    ∃ t16 : Sl, (At S (Addr.add a_t14 0) [.slice t16.a t16.len t16.cap]) ∧
    K (.bool (t12 == (↑t16.len : Int))) w_1)
   (K (.bool false) w_1)

def sk42 : Sk := .leaf
theorem ok42 : fnOk Tryz.prog Tryz.f42.ntmps Tryz.f42 sk42 = true := by kernel_rfl
theorem eq42 (r0 : Option Addr) (K : Value → World → Prop) (w : World) : fnF Tryz.prog cl Tryz.f42 sk42 [.pointer r0] K w = B42 r0 K w := by kernel_rfl
theorem call42 (r0 : Option Addr) (K : Value → World → Prop) (w : World) (h : B42 r0 K w) : Gets Tryz.prog 42 #[.pointer r0] w K :=
  calls_of (sk := sk42) cl_ok mixed Tryz.func42 ok42 (args := [.pointer r0]) (Nat.le_of_ble_eq_true (by kernel_rfl)) (by rw [eq42]; exact h)

end Go.Proofs.YtaacfjdknlglhaaGreatDoor
/- The formulas of functions of this seat's translation, printed by a program of mine off the translation; each is proved equal to 'fnF' of the function's body, so it is enough for the call. No condition. -/
namespace Go.Proofs.YtaacfjdknlglhaaGreatDoor
open Go Go.VC
set_option linter.unusedVariables false
/-- jetway/jetwayref15.New. -/
def B52 (number0 : Int) (l1_0 : Int) (l1_1 : Sl) (parts2 : Sl) (K : Value → World → Prop) (w : World) : Prop :=
  New (.cells #[.int .i64 l1_0, .slice l1_1.a l1_1.len l1_1.cap] 35 (0, 0)) (fun b_l4 w_1 =>
  ∃ t11 : Int, ∃ t11_1 : Sl, (At (fun w' => w' = w_1) ⟨b_l4, 0, none⟩ [.int .i64 t11, .slice t11_1.a t11_1.len t11_1.cap]) ∧
  Calls Tryz.prog 91 #[.agg #[.int .i64 t11, .slice t11_1.a t11_1.len t11_1.cap]] w_1 fun e w_2 =>
  ∃ t12 : Bool, (e = .returned (.bool t12)) ∧
  ∃ (J : World → Prop), (Br (decide (number0 < 1))
     (K (.tuple #[.pointer none, .int .i64 1]) w_2)
     (Br (decide (number0 > 9999))
       (K (.tuple #[.pointer none, .int .i64 1]) w_2)
       (Br (!t12)
         (K (.tuple #[.pointer none, .int .i64 1]) w_2)
         (J  w_2)))) ∧
  ∀ (z : Env)  (w_3 : World), J  w_3 →
  ∃ t24 : Int, ∃ t24_1 : Sl, (At (fun w' => w' = w_3) ⟨b_l4, 0, none⟩ [.int .i64 t24, .slice t24_1.a t24_1.len t24_1.cap]) ∧
  Calls Tryz.prog 92 #[.agg #[.int .i64 t24, .slice t24_1.a t24_1.len t24_1.cap]] w_3 fun e_1 w_4 =>
  ∃ t25 : Int, (e_1 = .returned (.int .i64 t25)) ∧
  Calls Tryz.prog 96 #[.int .i64 t25, .slice parts2.a parts2.len parts2.cap] w_4 fun e_2 w_5 =>
  ∃ t27 : Sl, ∃ t27_1 : Int, (e_2 = .returned (.tuple #[.slice t27.a t27.len t27.cap, .int .i64 t27_1])) ∧
  Br (t27_1 != 0)
   (K (.tuple #[.pointer none, .int .i64 1]) w_5)
   (New (.cells #[] 3 (0, 0)) (fun b_t32 w_6 =>
    ∃ t34 : Sl, (At (fun w' => w' = w_6) ⟨b_l4, 0 + 1, none⟩ [.slice t34.a t34.len t34.cap]) ∧
    ∃ w_7 : World, ∃ t35 : Sl, ((Builtin.append_ #[33, 33] 33 #[.slice ((some ⟨b_t32, 0, none⟩)) 0 0, .slice t34.a t34.len t34.cap]).run Tryz.prog w_6 = .ok (.slice t35.a t35.len t35.cap) w_7) ∧
    ∃ w_8 : World, ((Instr.storeAt 33 (.pointer ((some ⟨b_l4, 0 + 1, none⟩))) (.slice t35.a t35.len t35.cap)).run Tryz.prog w_7 = .ok () w_8) ∧
    ∃ t38 : Int, ∃ t38_1 : Sl, (At (fun w' => w' = w_8) ⟨b_l4, 0, none⟩ [.int .i64 t38, .slice t38_1.a t38_1.len t38_1.cap]) ∧
    New (.cells #[.int .i64 number0, .int .i64 t38, .slice t38_1.a t38_1.len t38_1.cap, .slice t27.a t27.len t27.cap, .slice none 0 0] 48 (0, 0)) (fun b_t41 w_9 =>
    K (.tuple #[.pointer ((some ⟨b_t41, 0, none⟩)), .int .i64 0]) w_9) w_8) w_5)) w

def sk52 : Sk := (.seq .leaf (.seq .leaf (.cut [] [] [6, 7, 13, 14, 15, 16, 17, 18, 19, 20, 21, 22] .leaf .leaf)))
theorem ok52 : fnOk Tryz.prog Tryz.f52.ntmps Tryz.f52 sk52 = true := by kernel_rfl
theorem eq52 (number0 : Int) (l1_0 : Int) (l1_1 : Sl) (parts2 : Sl) (K : Value → World → Prop) (w : World) : fnF Tryz.prog cl Tryz.f52 sk52 [.int .i64 number0, .agg #[.int .i64 l1_0, .slice l1_1.a l1_1.len l1_1.cap], .slice parts2.a parts2.len parts2.cap] K w = B52 number0 l1_0 l1_1 parts2 K w := by kernel_rfl
theorem call52 (number0 : Int) (l1_0 : Int) (l1_1 : Sl) (parts2 : Sl) (K : Value → World → Prop) (w : World) (h : B52 number0 l1_0 l1_1 parts2 K w) : Gets Tryz.prog 52 #[.int .i64 number0, .agg #[.int .i64 l1_0, .slice l1_1.a l1_1.len l1_1.cap], .slice parts2.a parts2.len parts2.cap] w K :=
  calls_of (sk := sk52) cl_ok mixed Tryz.func52 ok52 (args := [.int .i64 number0, .agg #[.int .i64 l1_0, .slice l1_1.a l1_1.len l1_1.cap], .slice parts2.a parts2.len parts2.cap]) (Nat.le_of_ble_eq_true (by kernel_rfl)) (by rw [eq52]; exact h)

/-- (*jetway/jetwayref15.Flight).Sold. -/
def B47 (f0 : Option Addr) (K : Value → World → Prop) (w : World) : Prop :=
  NilP f0 fun a_t6 =>
  ∃ t8 : Sl, (At (fun w' => w' = w) ⟨a_t6.block, a_t6.off + 3, none⟩ [.slice t8.a t8.len t8.cap]) ∧
  ∃ w_1 : World, ∃ t10 : Sl, ((Instr.makeSlice 33 (.int .i64 ((↑t8.len : Int))) (.int .i64 ((↑t8.len : Int)))).run Tryz.prog w = .ok (.slice t10.a t10.len t10.cap) w_1) ∧
  ∃ (I : Int → World → Prop) (μ : Int → World → Nat), (I 0 w_1) ∧ ∀ (z : Env) (i4 : Int) (w_2 : World), I i4 w_2 →
  NilP f0 fun a_t13 =>
  ∃ t15 : Sl, (At (fun w' => w' = w_2) ⟨a_t13.block, a_t13.off + 4, none⟩ [.slice t15.a t15.len t15.cap]) ∧
  Br (decide (i4 < (↑t15.len : Int)))
   (Drw w_2 fun S w_3 =>
    NilP f0 fun a_t22 =>
    ∃ t24 : Sl, (At S ⟨a_t22.block, a_t22.off + 4, none⟩ [.slice t24.a t24.len t24.cap]) ∧
    Rng i4 t24.len (NilP t24.a fun a_t26 =>
    ∃ t28 : Int, (At S ⟨(a_t26.add (mulS i4.toNat 4)).block, (a_t26.add (mulS i4.toNat 4)).off + 1, none⟩ [.int .i64 t28]) ∧
    NilP f0 fun a_t31 =>
    ∃ t33 : Sl, (At S ⟨a_t31.block, a_t31.off + 4, none⟩ [.slice t33.a t33.len t33.cap]) ∧
    Rng i4 t33.len (NilP t33.a fun a_t35 =>
    ∃ t37 : Int, (At S ⟨(a_t35.add (mulS i4.toNat 4)).block, (a_t35.add (mulS i4.toNat 4)).off + 1, none⟩ [.int .i64 t37]) ∧
    Rng t37 t10.len (NilP t10.a fun a_t38 =>
    ∃ t39 : Int, (At S (Addr.add a_t38 t37.toNat) [.int .i64 t39]) ∧
    NilP f0 fun a_t41 =>
    ∃ t43 : Sl, (At S ⟨a_t41.block, a_t41.off + 4, none⟩ [.slice t43.a t43.len t43.cap]) ∧
    Rng i4 t43.len (NilP t43.a fun a_t45 =>
    ∃ t47 : Int, (At S ⟨(a_t45.add (mulS i4.toNat 4)).block, (a_t45.add (mulS i4.toNat 4)).off + 2, none⟩ [.int .i64 t47]) ∧
    Rng t28 t10.len (NilP t10.a fun a_t49 =>
    ∃ w_4 : World, ((Instr.storeAt 3 (.pointer ((some (Addr.add a_t49 t28.toNat)))) (.int .i64 (IntKind.i64.wrap (t39 + t47)))).run Tryz.prog w_3 = .ok () w_4) ∧
    (I (IntKind.i64.wrap (i4 + 1)) w_4) ∧ μ (IntKind.i64.wrap (i4 + 1)) w_4 < μ i4 w_2))))))
   (K (.slice t10.a t10.len t10.cap) w_2)

def sk47 : Sk := (.seq .leaf (.seq .leaf (.seq (.seq .leaf (.block (.loop [4] [(.int .i64)] [4, 11, 12, 13, 14, 15, 16, 17, 18, 19, 20, 21, 22, 23, 24, 25, 26, 27, 28, 29, 30, 31, 32, 33, 34, 35, 36, 37, 38, 39, 40, 41, 42, 43, 44, 45, 46, 47, 48, 49] .leaf))) .leaf)))
theorem ok47 : fnOk Tryz.prog Tryz.f47.ntmps Tryz.f47 sk47 = true := by kernel_rfl
theorem eq47 (f0 : Option Addr) (K : Value → World → Prop) (w : World) : fnF Tryz.prog cl Tryz.f47 sk47 [.pointer f0] K w = B47 f0 K w := by kernel_rfl
theorem call47 (f0 : Option Addr) (K : Value → World → Prop) (w : World) (h : B47 f0 K w) : Gets Tryz.prog 47 #[.pointer f0] w K :=
  calls_of (sk := sk47) cl_ok mixed Tryz.func47 ok47 (args := [.pointer f0]) (Nat.le_of_ble_eq_true (by kernel_rfl)) (by rw [eq47]; exact h)

/-- (*jetway/jetwayref15.Flight).Left. -/
def B45 (f0 : Option Addr) (K : Value → World → Prop) (w : World) : Prop :=
  ∃ (I : Sl → Int → World → Prop) (μ : Sl → Int → World → Nat), (I ⟨none, 0, 0⟩ 0 w) ∧ ∀ (z : Env) (out3 : Sl) (k4 : Int) (w_1 : World), I out3 k4 w_1 →
  NilP f0 fun a_t9 =>
  ∃ t11 : Sl, (At (fun w' => w' = w_1) ⟨a_t9.block, a_t9.off + 3, none⟩ [.slice t11.a t11.len t11.cap]) ∧
  Br (decide (k4 < (↑t11.len : Int)))
   (Drw w_1 fun S w_2 =>
    NilP f0 fun a_t18 =>
    ∃ t20 : Sl, (At S ⟨a_t18.block, a_t18.off + 3, none⟩ [.slice t20.a t20.len t20.cap]) ∧
    Calls Tryz.prog 47 #[.pointer f0] w_2 fun e w_3 =>
    ∃ t22 : Sl, (e = .returned (.slice t22.a t22.len t22.cap)) ∧
    (S w_3) ∧
    Calls Tryz.prog 93 #[.slice t20.a t20.len t20.cap, .slice t22.a t22.len t22.cap, .int .i64 k4] w_3 fun e_1 w_4 =>
    ∃ t24 : Int, ∃ t24_1 : Int, (e_1 = .returned (.tuple #[.int .i64 t24, .int .i64 t24_1])) ∧
    New (.cells #[.int .i64 t24] 3 (0, 0)) (fun b_t29 w_5 =>
    ∃ w_6 : World, ∃ t30 : Sl, ((Builtin.append_ #[33, 33] 33 #[.slice out3.a out3.len out3.cap, .slice ((some ⟨b_t29, 0, none⟩)) 1 1]).run Tryz.prog w_5 = .ok (.slice t30.a t30.len t30.cap) w_6) ∧
    (I t30 (IntKind.i64.wrap (k4 + 1)) w_6) ∧ μ t30 (IntKind.i64.wrap (k4 + 1)) w_6 < μ out3 k4 w_1) w_4)
   (K (.slice out3.a out3.len out3.cap) w_1)

def sk45 : Sk := (.seq .leaf (.seq .leaf (.seq (.seq .leaf (.block (.loop [3, 4] [.sl, (.int .i64)] [3, 4, 5, 6, 7, 8, 9, 10, 11, 12, 13, 14, 15, 16, 17, 18, 19, 20, 21, 22, 23, 24, 25, 26, 27, 28, 29, 30] .leaf))) .leaf)))
theorem ok45 : fnOk Tryz.prog Tryz.f45.ntmps Tryz.f45 sk45 = true := by kernel_rfl
theorem eq45 (f0 : Option Addr) (K : Value → World → Prop) (w : World) : fnF Tryz.prog cl Tryz.f45 sk45 [.pointer f0] K w = B45 f0 K w := by kernel_rfl
theorem call45 (f0 : Option Addr) (K : Value → World → Prop) (w : World) (h : B45 f0 K w) : Gets Tryz.prog 45 #[.pointer f0] w K :=
  calls_of (sk := sk45) cl_ok mixed Tryz.func45 ok45 (args := [.pointer f0]) (Nat.le_of_ble_eq_true (by kernel_rfl)) (by rw [eq45]; exact h)

/-- (*jetway/jetwayref15.Flight).place. -/
def B67 (f0 : Option Addr) (owner1 : Int) (K : Value → World → Prop) (w : World) : Prop :=
  ∃ (I : Int → World → Prop) (μ : Int → World → Nat), (I 0 w) ∧ ∀ (z : Env) (i5 : Int) (w_1 : World), I i5 w_1 →
  NilP f0 fun a_t8 =>
  ∃ t10 : Sl, (At (fun w' => w' = w_1) ⟨a_t8.block, a_t8.off + 4, none⟩ [.slice t10.a t10.len t10.cap]) ∧
  Br (decide (i5 < (↑t10.len : Int)))
   (NilP f0 fun a_t16 =>
    ∃ t18 : Sl, (At (fun w' => w' = w_1) ⟨a_t16.block, a_t16.off + 4, none⟩ [.slice t18.a t18.len t18.cap]) ∧
    Rng i5 t18.len (NilP t18.a fun a_t20 =>
    ∃ t22 : Int, (At (fun w' => w' = w_1) (Addr.add (Addr.add a_t20 (mulS i5.toNat 4)) 0) [.int .i64 t22]) ∧
    Br (t22 == owner1)
     (K (.int .i64 i5) w_1)
     ((I (IntKind.i64.wrap (i5 + 1)) w_1) ∧ μ (IntKind.i64.wrap (i5 + 1)) w_1 < μ i5 w_1)))
   (K (.int .i64 ((-1))) w_1)

def sk67 : Sk := (.seq .leaf (.seq (.seq .leaf (.block (.loop [5] [(.int .i64)] [4, 5, 6, 7, 8, 9, 10, 11, 12, 13, 14, 15, 16, 17, 18, 19, 20, 21, 22, 23, 24, 25] .leaf))) .leaf))
theorem ok67 : fnOk Tryz.prog Tryz.f67.ntmps Tryz.f67 sk67 = true := by kernel_rfl
theorem eq67 (f0 : Option Addr) (owner1 : Int) (K : Value → World → Prop) (w : World) : fnF Tryz.prog cl Tryz.f67 sk67 [.pointer f0, .int .i64 owner1] K w = B67 f0 owner1 K w := by kernel_rfl
theorem call67 (f0 : Option Addr) (owner1 : Int) (K : Value → World → Prop) (w : World) (h : B67 f0 owner1 K w) : Gets Tryz.prog 67 #[.pointer f0, .int .i64 owner1] w K :=
  calls_of (sk := sk67) cl_ok mixed Tryz.func67 ok67 (args := [.pointer f0, .int .i64 owner1]) (Nat.le_of_ble_eq_true (by kernel_rfl)) (by rw [eq67]; exact h)

/-- (*jetway/jetwayref15.Flight).Take. -/
def B53 (f0 : Option Addr) (owner1 : Int) (class2 : Int) (many3 : Int) (K : Value → World → Prop) (w : World) : Prop :=
  ∃ (J : World → Prop), (Br (decide (owner1 < 1))
     (K (.int .i64 1) w)
     (Br (decide (owner1 > 28629151))
       (K (.int .i64 1) w)
       (J  w))) ∧
  ∀ (z : Env)  (w_1 : World), J  w_1 →
  Calls Tryz.prog 67 #[.pointer f0, .int .i64 owner1] w_1 fun e w_2 =>
  ∃ t21 : Int, (e = .returned (.int .i64 t21)) ∧
  Br (decide (t21 ≥ 0))
   (K (.int .i64 7) w_2)
   (Drw w_2 fun S w_3 =>
    NilP f0 fun a_t25 =>
    ∃ t27 : Sl, (At S ⟨a_t25.block, a_t25.off + 3, none⟩ [.slice t27.a t27.len t27.cap]) ∧
    Calls Tryz.prog 47 #[.pointer f0] w_3 fun e_1 w_4 =>
    ∃ t29 : Sl, (e_1 = .returned (.slice t29.a t29.len t29.cap)) ∧
    (S w_4) ∧
    Calls Tryz.prog 97 #[.slice t27.a t27.len t27.cap, .slice t29.a t29.len t29.cap, .int .i64 class2, .int .i64 many3] w_4 fun e_2 w_5 =>
    ∃ t32 : Sl, ∃ t32_1 : Int, (e_2 = .returned (.tuple #[.slice t32.a t32.len t32.cap, .int .i64 t32_1])) ∧
    Br (t32_1 != 0)
     (K (.int .i64 t32_1) w_5)
     (∃ (J_1 : Int → World → Prop), (∃ (I : Int → World → Prop) (μ : Int → World → Nat), (I 0 w_5) ∧ ∀ (z_1 : Env) (at11 : Int) (w_6 : World), I at11 w_6 →
        NilP f0 fun a_t40 =>
        ∃ t42 : Sl, (At (fun w' => w' = w_6) ⟨a_t40.block, a_t40.off + 4, none⟩ [.slice t42.a t42.len t42.cap]) ∧
        Br (decide (at11 < (↑t42.len : Int)))
         (NilP f0 fun a_t47 =>
          ∃ t49 : Sl, (At (fun w' => w' = w_6) ⟨a_t47.block, a_t47.off + 4, none⟩ [.slice t49.a t49.len t49.cap]) ∧
          Rng at11 t49.len (NilP t49.a fun a_t51 =>
          ∃ t53 : Int, (At (fun w' => w' = w_6) (Addr.add (Addr.add a_t51 (mulS at11.toNat 4)) 0) [.int .i64 t53]) ∧
          Br (decide (t53 < owner1))
           ((I (IntKind.i64.wrap (at11 + 1)) w_6) ∧ μ (IntKind.i64.wrap (at11 + 1)) w_6 < μ at11 w_6)
           (J_1 at11 w_6)))
         (J_1 at11 w_6)) ∧
      ∀ (z_2 : Env) (at11_1 : Int) (w_7 : World), J_1 at11_1 w_7 →
      New (.cells #[] 51 (0, 0)) (fun b_t59 w_8 =>
      NilP f0 fun a_t61 =>
      ∃ t63 : Sl, (At (fun w' => w' = w_8) ⟨a_t61.block, a_t61.off + 4, none⟩ [.slice t63.a t63.len t63.cap]) ∧
      ((0 : Int) ≤ at11_1) ∧
      ((at11_1 : Int) ≤ (↑t63.cap : Int)) ∧
      ∃ w_9 : World, ∃ t66 : Sl, ((Builtin.append_ #[46, 46] 46 #[.slice ((some ⟨b_t59, 0, none⟩)) 0 0, .slice t63.a at11_1.toNat t63.cap]).run Tryz.prog w_8 = .ok (.slice t66.a t66.len t66.cap) w_9) ∧
      New (.cells #[.int .i64 owner1, .int .i64 class2, .int .i64 many3, .slice none 0 0] 51 (0, 0)) (fun b_t72 w_10 =>
      ∃ w_11 : World, ∃ t73 : Sl, ((Builtin.append_ #[46, 46] 46 #[.slice t66.a t66.len t66.cap, .slice ((some ⟨b_t72, 0, none⟩)) 1 1]).run Tryz.prog w_10 = .ok (.slice t73.a t73.len t73.cap) w_11) ∧
      NilP f0 fun a_t77 =>
      ∃ t79 : Sl, (At (fun w' => w' = w_11) ⟨a_t77.block, a_t77.off + 4, none⟩ [.slice t79.a t79.len t79.cap]) ∧
      ((0 : Int) ≤ at11_1) ∧
      ((at11_1 : Int) ≤ (↑t79.len : Int)) ∧
      ∃ w_12 : World, ∃ t82 : Sl, ((Builtin.append_ #[46, 46] 46 #[.slice t73.a t73.len t73.cap, .slice (cutA t79.a at11_1.toNat t79.cap 4) (t79.len - at11_1.toNat) (t79.cap - at11_1.toNat)]).run Tryz.prog w_11 = .ok (.slice t82.a t82.len t82.cap) w_12) ∧
      NilP f0 fun a_t83 =>
      ∃ w_13 : World, ((Instr.storeAt 46 (.pointer ((some ⟨a_t83.block, a_t83.off + 4, none⟩))) (.slice t82.a t82.len t82.cap)).run Tryz.prog w_12 = .ok () w_13) ∧
      K (.int .i64 0) w_13) w_9) w_7))

def sk53 : Sk := (.seq .leaf (.cut [] [] [8, 13, 14, 15, 16, 17, 18] .leaf (.seq .leaf (.seq .leaf (.seq .leaf (.seq .leaf (.cut [11] [(.int .i64)] [11, 38, 39, 40, 41, 42, 43, 44, 45, 46, 47, 48, 49, 50, 51, 52, 53, 54, 55, 56, 57, 58] (.block (.loop [11] [(.int .i64)] [11, 38, 39, 40, 41, 42, 43, 44, 45, 46, 47, 48, 49, 50, 51, 52, 53, 54, 55, 56, 57, 58] .leaf)) .leaf)))))))
theorem ok53 : fnOk Tryz.prog Tryz.f53.ntmps Tryz.f53 sk53 = true := by kernel_rfl
theorem eq53 (f0 : Option Addr) (owner1 : Int) (class2 : Int) (many3 : Int) (K : Value → World → Prop) (w : World) : fnF Tryz.prog cl Tryz.f53 sk53 [.pointer f0, .int .i64 owner1, .int .i64 class2, .int .i64 many3] K w = B53 f0 owner1 class2 many3 K w := by kernel_rfl
theorem call53 (f0 : Option Addr) (owner1 : Int) (class2 : Int) (many3 : Int) (K : Value → World → Prop) (w : World) (h : B53 f0 owner1 class2 many3 K w) : Gets Tryz.prog 53 #[.pointer f0, .int .i64 owner1, .int .i64 class2, .int .i64 many3] w K :=
  calls_of (sk := sk53) cl_ok mixed Tryz.func53 ok53 (args := [.pointer f0, .int .i64 owner1, .int .i64 class2, .int .i64 many3]) (Nat.le_of_ble_eq_true (by kernel_rfl)) (by rw [eq53]; exact h)

/-- (*jetway/jetwayref15.Flight).Give. -/
def B54 (f0 : Option Addr) (owner1 : Int) (K : Value → World → Prop) (w : World) : Prop :=
  Calls Tryz.prog 67 #[.pointer f0, .int .i64 owner1] w fun e w_1 =>
  ∃ t8 : Int, (e = .returned (.int .i64 t8)) ∧
  Br (decide (t8 < 0))
   (K (.int .i64 2) w_1)
   (Drw w_1 fun S w_2 =>
    NilP f0 fun a_t14 =>
    ∃ t16 : Sl, (At S ⟨a_t14.block, a_t14.off + 4, none⟩ [.slice t16.a t16.len t16.cap]) ∧
    ((0 : Int) ≤ t8) ∧
    ((t8 : Int) ≤ (↑t16.cap : Int)) ∧
    NilP f0 fun a_t21 =>
    ∃ t23 : Sl, (At S ⟨a_t21.block, a_t21.off + 4, none⟩ [.slice t23.a t23.len t23.cap]) ∧
    ((0 : Int) ≤ IntKind.i64.wrap (t8 + 1)) ∧
    ((IntKind.i64.wrap (t8 + 1) : Int) ≤ (↑t23.len : Int)) ∧
    New (.cells #[] 51 (0, 0)) (fun b_t12 w_3 =>
    (S w_3) ∧
    ∃ w_4 : World, ∃ t19 : Sl, ((Builtin.append_ #[46, 46] 46 #[.slice ((some ⟨b_t12, 0, none⟩)) 0 0, .slice t16.a t8.toNat t16.cap]).run Tryz.prog w_3 = .ok (.slice t19.a t19.len t19.cap) w_4) ∧
    (S w_4) ∧
    ∃ w_5 : World, ∃ t27 : Sl, ((Builtin.append_ #[46, 46] 46 #[.slice t19.a t19.len t19.cap, .slice (cutA t23.a (IntKind.i64.wrap (t8 + 1)).toNat t23.cap 4) (t23.len - (IntKind.i64.wrap (t8 + 1)).toNat) (t23.cap - (IntKind.i64.wrap (t8 + 1)).toNat)]).run Tryz.prog w_4 = .ok (.slice t27.a t27.len t27.cap) w_5) ∧
    (S w_5) ∧
    NilP f0 fun a_t28 =>
    ∃ w_6 : World, ((Instr.storeAt 46 (.pointer ((some ⟨a_t28.block, a_t28.off + 4, none⟩))) (.slice t27.a t27.len t27.cap)).run Tryz.prog w_5 = .ok () w_6) ∧
    K (.int .i64 0) w_6) w_2)

def sk54 : Sk := .leaf
theorem ok54 : fnOk Tryz.prog Tryz.f54.ntmps Tryz.f54 sk54 = true := by kernel_rfl
theorem eq54 (f0 : Option Addr) (owner1 : Int) (K : Value → World → Prop) (w : World) : fnF Tryz.prog cl Tryz.f54 sk54 [.pointer f0, .int .i64 owner1] K w = B54 f0 owner1 K w := by kernel_rfl
theorem call54 (f0 : Option Addr) (owner1 : Int) (K : Value → World → Prop) (w : World) (h : B54 f0 owner1 K w) : Gets Tryz.prog 54 #[.pointer f0, .int .i64 owner1] w K :=
  calls_of (sk := sk54) cl_ok mixed Tryz.func54 ok54 (args := [.pointer f0, .int .i64 owner1]) (Nat.le_of_ble_eq_true (by kernel_rfl)) (by rw [eq54]; exact h)

/-- (*jetway/jetwayref15.Flight).taken. -/
def B69 (f0 : Option Addr) (K : Value → World → Prop) (w : World) : Prop :=
  ∃ (I : Sl → Int → World → Prop) (μ : Sl → Int → World → Nat), (I ⟨none, 0, 0⟩ 0 w) ∧ ∀ (z : Env) (out3 : Sl) (i4 : Int) (w_1 : World), I out3 i4 w_1 →
  NilP f0 fun a_t7 =>
  ∃ t9 : Sl, (At (fun w' => w' = w_1) ⟨a_t7.block, a_t7.off + 4, none⟩ [.slice t9.a t9.len t9.cap]) ∧
  Br (decide (i4 < (↑t9.len : Int)))
   (NilP f0 fun a_t16 =>
    ∃ t18 : Sl, (At (fun w' => w' = w_1) ⟨a_t16.block, a_t16.off + 4, none⟩ [.slice t18.a t18.len t18.cap]) ∧
    Rng i4 t18.len (NilP t18.a fun a_t20 =>
    ∃ t22 : Sl, (At (fun w' => w' = w_1) ⟨(a_t20.add (mulS i4.toNat 4)).block, (a_t20.add (mulS i4.toNat 4)).off + 3, none⟩ [.slice t22.a t22.len t22.cap]) ∧
    ∃ w_2 : World, ∃ t23 : Sl, ((Builtin.append_ #[33, 33] 33 #[.slice out3.a out3.len out3.cap, .slice t22.a t22.len t22.cap]).run Tryz.prog w_1 = .ok (.slice t23.a t23.len t23.cap) w_2) ∧
    (I t23 (IntKind.i64.wrap (i4 + 1)) w_2) ∧ μ t23 (IntKind.i64.wrap (i4 + 1)) w_2 < μ out3 i4 w_1))
   (K (.slice out3.a out3.len out3.cap) w_1)

def sk69 : Sk := (.seq .leaf (.seq .leaf (.seq (.seq .leaf (.block (.loop [3, 4] [.sl, (.int .i64)] [3, 4, 5, 6, 7, 8, 9, 10, 11, 12, 13, 14, 15, 16, 17, 18, 19, 20, 21, 22, 23] .leaf))) .leaf)))
theorem ok69 : fnOk Tryz.prog Tryz.f69.ntmps Tryz.f69 sk69 = true := by kernel_rfl
theorem eq69 (f0 : Option Addr) (K : Value → World → Prop) (w : World) : fnF Tryz.prog cl Tryz.f69 sk69 [.pointer f0] K w = B69 f0 K w := by kernel_rfl
theorem call69 (f0 : Option Addr) (K : Value → World → Prop) (w : World) (h : B69 f0 K w) : Gets Tryz.prog 69 #[.pointer f0] w K :=
  calls_of (sk := sk69) cl_ok mixed Tryz.func69 ok69 (args := [.pointer f0]) (Nat.le_of_ble_eq_true (by kernel_rfl)) (by rw [eq69]; exact h)

/-- jetway/jetwayref15.put. -/
def B99 (l0 : Sl) (n1 : Int) (K : Value → World → Prop) (w : World) : Prop :=
  ∃ (I : Sl → Bool → Int → World → Prop) (μ : Sl → Bool → Int → World → Nat), (I ⟨none, 0, 0⟩ false 0 w) ∧ ∀ (z : Env) (out5 : Sl) (done6 : Bool) (i7 : Int) (w_1 : World), I out5 done6 i7 w_1 →
  Br (decide (i7 < (↑l0.len : Int)))
   (Br (!done6)
     (Rng i7 l0.len (NilP l0.a fun a_t19 =>
      ∃ t20 : Int, (At (fun w' => w' = w_1) (Addr.add a_t19 i7.toNat) [.int .i64 t20]) ∧
      Br (decide (t20 > n1))
       (New (.cells #[.int .i64 n1] 3 (0, 0)) (fun b_t26 w_2 =>
        ∃ w_3 : World, ∃ t27 : Sl, ((Builtin.append_ #[33, 33] 33 #[.slice out5.a out5.len out5.cap, .slice ((some ⟨b_t26, 0, none⟩)) 1 1]).run Tryz.prog w_2 = .ok (.slice t27.a t27.len t27.cap) w_3) ∧
        Rng i7 l0.len (NilP l0.a fun a_t31 =>
        ∃ t32 : Int, (At (fun w' => w' = w_3) (Addr.add a_t31 i7.toNat) [.int .i64 t32]) ∧
        New (.cells #[.int .i64 t32] 3 (0, 0)) (fun b_t33 w_4 =>
        ∃ w_5 : World, ∃ t34 : Sl, ((Builtin.append_ #[33, 33] 33 #[.slice t27.a t27.len t27.cap, .slice ((some ⟨b_t33, 0, none⟩)) 1 1]).run Tryz.prog w_4 = .ok (.slice t34.a t34.len t34.cap) w_5) ∧
        (I t34 true (IntKind.i64.wrap (i7 + 1)) w_5) ∧ μ t34 true (IntKind.i64.wrap (i7 + 1)) w_5 < μ out5 done6 i7 w_1) w_3)) w_1)
       (Rng i7 l0.len (NilP l0.a fun a_t31_1 =>
        ∃ t32_1 : Int, (At (fun w' => w' = w_1) (Addr.add a_t31_1 i7.toNat) [.int .i64 t32_1]) ∧
        New (.cells #[.int .i64 t32_1] 3 (0, 0)) (fun b_t33_1 w_6 =>
        ∃ w_7 : World, ∃ t34_1 : Sl, ((Builtin.append_ #[33, 33] 33 #[.slice out5.a out5.len out5.cap, .slice ((some ⟨b_t33_1, 0, none⟩)) 1 1]).run Tryz.prog w_6 = .ok (.slice t34_1.a t34_1.len t34_1.cap) w_7) ∧
        (I t34_1 done6 (IntKind.i64.wrap (i7 + 1)) w_7) ∧ μ t34_1 done6 (IntKind.i64.wrap (i7 + 1)) w_7 < μ out5 done6 i7 w_1) w_1))))
     (Rng i7 l0.len (NilP l0.a fun a_t31_2 =>
      ∃ t32_2 : Int, (At (fun w' => w' = w_1) (Addr.add a_t31_2 i7.toNat) [.int .i64 t32_2]) ∧
      New (.cells #[.int .i64 t32_2] 3 (0, 0)) (fun b_t33_2 w_8 =>
      ∃ w_9 : World, ∃ t34_2 : Sl, ((Builtin.append_ #[33, 33] 33 #[.slice out5.a out5.len out5.cap, .slice ((some ⟨b_t33_2, 0, none⟩)) 1 1]).run Tryz.prog w_8 = .ok (.slice t34_2.a t34_2.len t34_2.cap) w_9) ∧
      (I t34_2 done6 (IntKind.i64.wrap (i7 + 1)) w_9) ∧ μ t34_2 done6 (IntKind.i64.wrap (i7 + 1)) w_9 < μ out5 done6 i7 w_1) w_1)))
   (Br (!done6)
     (New (.cells #[.int .i64 n1] 3 (0, 0)) (fun b_t39 w_10 =>
      ∃ w_11 : World, ∃ t40 : Sl, ((Builtin.append_ #[33, 33] 33 #[.slice out5.a out5.len out5.cap, .slice ((some ⟨b_t39, 0, none⟩)) 1 1]).run Tryz.prog w_10 = .ok (.slice t40.a t40.len t40.cap) w_11) ∧
      K (.slice t40.a t40.len t40.cap) w_11) w_1)
     (K (.slice out5.a out5.len out5.cap) w_1))

def sk99 : Sk := (.seq .leaf (.seq .leaf (.seq .leaf (.seq (.seq .leaf (.block (.loop [5, 6, 7] [.sl, .bool, (.int .i64)] [5, 6, 7, 8, 9, 10, 11, 12, 13, 14, 15, 16, 17, 18, 19, 20, 21, 22, 23, 24, 25, 26, 27, 28, 29, 30, 31, 32, 33, 34] .leaf))) .leaf))))
theorem ok99 : fnOk Tryz.prog Tryz.f99.ntmps Tryz.f99 sk99 = true := by kernel_rfl
theorem eq99 (l0 : Sl) (n1 : Int) (K : Value → World → Prop) (w : World) : fnF Tryz.prog cl Tryz.f99 sk99 [.slice l0.a l0.len l0.cap, .int .i64 n1] K w = B99 l0 n1 K w := by kernel_rfl
theorem call99 (l0 : Sl) (n1 : Int) (K : Value → World → Prop) (w : World) (h : B99 l0 n1 K w) : Gets Tryz.prog 99 #[.slice l0.a l0.len l0.cap, .int .i64 n1] w K :=
  calls_of (sk := sk99) cl_ok mixed Tryz.func99 ok99 (args := [.slice l0.a l0.len l0.cap, .int .i64 n1]) (Nat.le_of_ble_eq_true (by kernel_rfl)) (by rw [eq99]; exact h)

/-- (*jetway/jetwayref15.Flight).Seat. -/
def B55 (f0 : Option Addr) (owner1 : Int) (label2 : ByteArray) (K : Value → World → Prop) (w : World) : Prop :=
  Calls Tryz.prog 67 #[.pointer f0, .int .i64 owner1] w fun e w_1 =>
  ∃ t13 : Int, (e = .returned (.int .i64 t13)) ∧
  NilP f0 fun a_t16 =>
  ∃ t18 : Int, ∃ t18_1 : Sl, (At (fun w' => w' = w_1) ⟨a_t16.block, a_t16.off + 1, none⟩ [.int .i64 t18, .slice t18_1.a t18_1.len t18_1.cap]) ∧
  Calls Tryz.prog 98 #[.agg #[.int .i64 t18, .slice t18_1.a t18_1.len t18_1.cap], .string label2] w_1 fun e_1 w_2 =>
  ∃ t20 : Int, ∃ t20_1 : Int, (e_1 = .returned (.tuple #[.int .i64 t20, .int .i64 t20_1])) ∧
  ∃ (J : World → Prop), (Br (decide (t13 < 0))
     (K (.int .i64 2) w_2)
     (Br (t20_1 != 0)
       (K (.int .i64 2) w_2)
       (J  w_2))) ∧
  ∀ (z : Env)  (w_3 : World), J  w_3 →
  Drw w_3 fun S w_4 =>
  NilP f0 fun a_t30 =>
  ∃ t32 : Sl, (At S ⟨a_t30.block, a_t30.off + 4, none⟩ [.slice t32.a t32.len t32.cap]) ∧
  Rng t13 t32.len (NilP t32.a fun a_t34 =>
  ∃ t36 : Sl, (At S ⟨(a_t34.add (mulS t13.toNat 4)).block, (a_t34.add (mulS t13.toNat 4)).off + 3, none⟩ [.slice t36.a t36.len t36.cap]) ∧
  NilP f0 fun a_t39 =>
  ∃ t41 : Sl, (At S ⟨a_t39.block, a_t39.off + 4, none⟩ [.slice t41.a t41.len t41.cap]) ∧
  Rng t13 t41.len (NilP t41.a fun a_t43 =>
  ∃ t45 : Int, (At S ⟨(a_t43.add (mulS t13.toNat 4)).block, (a_t43.add (mulS t13.toNat 4)).off + 2, none⟩ [.int .i64 t45]) ∧
  Br (decide ((↑t36.len : Int) ≥ t45))
   (K (.int .i64 7) w_4)
   (Calls Tryz.prog 69 #[.pointer f0] w_4 fun e_2 w_5 =>
    ∃ t48 : Sl, (e_2 = .returned (.slice t48.a t48.len t48.cap)) ∧
    Calls Tryz.prog 17 #[.slice t48.a t48.len t48.cap, .int .i64 t20] w_5 fun e_3 w_6 =>
    ∃ t50 : Bool, (e_3 = .returned (.bool t50)) ∧
    Br t50
     (K (.int .i64 3) w_6)
     (Drw w_6 fun S_1 w_7 =>
      NilP f0 fun a_t53 =>
      ∃ t55 : Sl, (At S_1 ⟨a_t53.block, a_t53.off + 4, none⟩ [.slice t55.a t55.len t55.cap]) ∧
      NilP f0 fun a_t58 =>
      ∃ t60 : Sl, (At S_1 ⟨a_t58.block, a_t58.off + 4, none⟩ [.slice t60.a t60.len t60.cap]) ∧
      Rng t13 t60.len (NilP t60.a fun a_t62 =>
      ∃ t64 : Sl, (At S_1 ⟨(a_t62.add (mulS t13.toNat 4)).block, (a_t62.add (mulS t13.toNat 4)).off + 3, none⟩ [.slice t64.a t64.len t64.cap]) ∧
      Calls Tryz.prog 99 #[.slice t64.a t64.len t64.cap, .int .i64 t20] w_7 fun e_4 w_8 =>
      ∃ t66 : Sl, (e_4 = .returned (.slice t66.a t66.len t66.cap)) ∧
      (S_1 w_8) ∧
      Rng t13 t55.len (NilP t55.a fun a_t67 =>
      ∃ w_9 : World, ((Instr.storeAt 33 (.pointer ((some ⟨(a_t67.add (mulS t13.toNat 4)).block, (a_t67.add (mulS t13.toNat 4)).off + 3, none⟩))) (.slice t66.a t66.len t66.cap)).run Tryz.prog w_8 = .ok () w_9) ∧
      K (.int .i64 0) w_9))))))

def sk55 : Sk := (.seq .leaf (.seq .leaf (.seq .leaf (.cut [] [] [6, 23, 24, 25, 26, 27, 28] .leaf .leaf))))
theorem ok55 : fnOk Tryz.prog Tryz.f55.ntmps Tryz.f55 sk55 = true := by kernel_rfl
theorem eq55 (f0 : Option Addr) (owner1 : Int) (label2 : ByteArray) (K : Value → World → Prop) (w : World) : fnF Tryz.prog cl Tryz.f55 sk55 [.pointer f0, .int .i64 owner1, .string label2] K w = B55 f0 owner1 label2 K w := by kernel_rfl
theorem call55 (f0 : Option Addr) (owner1 : Int) (label2 : ByteArray) (K : Value → World → Prop) (w : World) (h : B55 f0 owner1 label2 K w) : Gets Tryz.prog 55 #[.pointer f0, .int .i64 owner1, .string label2] w K :=
  calls_of (sk := sk55) cl_ok mixed Tryz.func55 ok55 (args := [.pointer f0, .int .i64 owner1, .string label2]) (Nat.le_of_ble_eq_true (by kernel_rfl)) (by rw [eq55]; exact h)

/-- (*jetway/jetwayref15.Flight).Unseat. -/
def B56 (f0 : Option Addr) (owner1 : Int) (label2 : ByteArray) (K : Value → World → Prop) (w : World) : Prop :=
  Calls Tryz.prog 67 #[.pointer f0, .int .i64 owner1] w fun e w_1 =>
  ∃ t15 : Int, (e = .returned (.int .i64 t15)) ∧
  NilP f0 fun a_t18 =>
  ∃ t20 : Int, ∃ t20_1 : Sl, (At (fun w' => w' = w_1) ⟨a_t18.block, a_t18.off + 1, none⟩ [.int .i64 t20, .slice t20_1.a t20_1.len t20_1.cap]) ∧
  Calls Tryz.prog 98 #[.agg #[.int .i64 t20, .slice t20_1.a t20_1.len t20_1.cap], .string label2] w_1 fun e_1 w_2 =>
  ∃ t22 : Int, ∃ t22_1 : Int, (e_1 = .returned (.tuple #[.int .i64 t22, .int .i64 t22_1])) ∧
  ∃ (J : World → Prop), (Br (decide (t15 < 0))
     (K (.int .i64 2) w_2)
     (Br (t22_1 != 0)
       (K (.int .i64 2) w_2)
       (J  w_2))) ∧
  ∀ (z : Env)  (w_3 : World), J  w_3 →
  NilP f0 fun a_t32 =>
  ∃ t34 : Sl, (At (fun w' => w' = w_3) ⟨a_t32.block, a_t32.off + 4, none⟩ [.slice t34.a t34.len t34.cap]) ∧
  Rng t15 t34.len (NilP t34.a fun a_t36 =>
  ∃ t38 : Sl, (At (fun w' => w' = w_3) ⟨(a_t36.add (mulS t15.toNat 4)).block, (a_t36.add (mulS t15.toNat 4)).off + 3, none⟩ [.slice t38.a t38.len t38.cap]) ∧
  Calls Tryz.prog 17 #[.slice t38.a t38.len t38.cap, .int .i64 t22] w_3 fun e_2 w_4 =>
  ∃ t40 : Bool, (e_2 = .returned (.bool t40)) ∧
  Br (!t40)
   (K (.int .i64 2) w_4)
   (∃ (I : Sl → Int → World → Prop) (μ : Sl → Int → World → Nat), (I ⟨none, 0, 0⟩ 0 w_4) ∧ ∀ (z_1 : Env) (l11 : Sl) (k12 : Int) (w_5 : World), I l11 k12 w_5 →
    NilP f0 fun a_t45 =>
    ∃ t47 : Sl, (At (fun w' => w' = w_5) ⟨a_t45.block, a_t45.off + 4, none⟩ [.slice t47.a t47.len t47.cap]) ∧
    Rng t15 t47.len (NilP t47.a fun a_t49 =>
    ∃ t51 : Sl, (At (fun w' => w' = w_5) ⟨(a_t49.add (mulS t15.toNat 4)).block, (a_t49.add (mulS t15.toNat 4)).off + 3, none⟩ [.slice t51.a t51.len t51.cap]) ∧
    Br (decide (k12 < (↑t51.len : Int)))
     (NilP f0 fun a_t57 =>
      ∃ t59 : Sl, (At (fun w' => w' = w_5) ⟨a_t57.block, a_t57.off + 4, none⟩ [.slice t59.a t59.len t59.cap]) ∧
      Rng t15 t59.len (NilP t59.a fun a_t61 =>
      ∃ t63 : Sl, (At (fun w' => w' = w_5) ⟨(a_t61.add (mulS t15.toNat 4)).block, (a_t61.add (mulS t15.toNat 4)).off + 3, none⟩ [.slice t63.a t63.len t63.cap]) ∧
      Rng k12 t63.len (NilP t63.a fun a_t65 =>
      ∃ t66 : Int, (At (fun w' => w' = w_5) (Addr.add a_t65 k12.toNat) [.int .i64 t66]) ∧
      Br (t66 != t22)
       (NilP f0 fun a_t71 =>
        ∃ t73 : Sl, (At (fun w' => w' = w_5) ⟨a_t71.block, a_t71.off + 4, none⟩ [.slice t73.a t73.len t73.cap]) ∧
        Rng t15 t73.len (NilP t73.a fun a_t75 =>
        ∃ t77 : Sl, (At (fun w' => w' = w_5) ⟨(a_t75.add (mulS t15.toNat 4)).block, (a_t75.add (mulS t15.toNat 4)).off + 3, none⟩ [.slice t77.a t77.len t77.cap]) ∧
        Rng k12 t77.len (NilP t77.a fun a_t79 =>
        ∃ t80 : Int, (At (fun w' => w' = w_5) (Addr.add a_t79 k12.toNat) [.int .i64 t80]) ∧
        New (.cells #[.int .i64 t80] 3 (0, 0)) (fun b_t81 w_6 =>
        ∃ w_7 : World, ∃ t82 : Sl, ((Builtin.append_ #[33, 33] 33 #[.slice l11.a l11.len l11.cap, .slice ((some ⟨b_t81, 0, none⟩)) 1 1]).run Tryz.prog w_6 = .ok (.slice t82.a t82.len t82.cap) w_7) ∧
        (I t82 (IntKind.i64.wrap (k12 + 1)) w_7) ∧ μ t82 (IntKind.i64.wrap (k12 + 1)) w_7 < μ l11 k12 w_5) w_5)))
       ((I l11 (IntKind.i64.wrap (k12 + 1)) w_5) ∧ μ l11 (IntKind.i64.wrap (k12 + 1)) w_5 < μ l11 k12 w_5))))
     (NilP f0 fun a_t84 =>
      ∃ t86 : Sl, (At (fun w' => w' = w_5) ⟨a_t84.block, a_t84.off + 4, none⟩ [.slice t86.a t86.len t86.cap]) ∧
      Rng t15 t86.len (NilP t86.a fun a_t89 =>
      ∃ w_8 : World, ((Instr.storeAt 33 (.pointer ((some ⟨(a_t89.add (mulS t15.toNat 4)).block, (a_t89.add (mulS t15.toNat 4)).off + 3, none⟩))) (.slice l11.a l11.len l11.cap)).run Tryz.prog w_5 = .ok () w_8) ∧
      K (.int .i64 0) w_8)))))

def sk56 : Sk := (.seq .leaf (.seq .leaf (.seq .leaf (.cut [] [] [6, 25, 26, 27, 28, 29, 30] .leaf (.seq .leaf (.seq .leaf (.seq .leaf (.seq (.seq .leaf (.block (.loop [11, 12] [.sl, (.int .i64)] [11, 12, 43, 44, 45, 46, 47, 48, 49, 50, 51, 52, 53, 54, 55, 56, 57, 58, 59, 60, 61, 62, 63, 64, 65, 66, 67, 68, 69, 70, 71, 72, 73, 74, 75, 76, 77, 78, 79, 80, 81, 82] .leaf))) .leaf))))))))
theorem ok56 : fnOk Tryz.prog Tryz.f56.ntmps Tryz.f56 sk56 = true := by kernel_rfl
theorem eq56 (f0 : Option Addr) (owner1 : Int) (label2 : ByteArray) (K : Value → World → Prop) (w : World) : fnF Tryz.prog cl Tryz.f56 sk56 [.pointer f0, .int .i64 owner1, .string label2] K w = B56 f0 owner1 label2 K w := by kernel_rfl
theorem call56 (f0 : Option Addr) (owner1 : Int) (label2 : ByteArray) (K : Value → World → Prop) (w : World) (h : B56 f0 owner1 label2 K w) : Gets Tryz.prog 56 #[.pointer f0, .int .i64 owner1, .string label2] w K :=
  calls_of (sk := sk56) cl_ok mixed Tryz.func56 ok56 (args := [.pointer f0, .int .i64 owner1, .string label2]) (Nat.le_of_ble_eq_true (by kernel_rfl)) (by rw [eq56]; exact h)

/-- (*jetway/jetwayref15.Flight).Auto. -/
def B20 (f0 : Option Addr) (owner1 : Int) (K : Value → World → Prop) (w : World) : Prop :=
  Calls Tryz.prog 67 #[.pointer f0, .int .i64 owner1] w fun e w_1 =>
  ∃ t15 : Int, (e = .returned (.int .i64 t15)) ∧
  Br (decide (t15 < 0))
   (K (.tuple #[.slice none 0 0, .int .i64 2]) w_1)
   (NilP f0 fun a_t19 =>
    ∃ t21 : Sl, (At (fun w' => w' = w_1) ⟨a_t19.block, a_t19.off + 4, none⟩ [.slice t21.a t21.len t21.cap]) ∧
    Rng t15 t21.len (NilP t21.a fun a_t23 =>
    ∃ t25 : Sl, (At (fun w' => w' = w_1) ⟨(a_t23.add (mulS t15.toNat 4)).block, (a_t23.add (mulS t15.toNat 4)).off + 3, none⟩ [.slice t25.a t25.len t25.cap]) ∧
    Br (decide ((↑t25.len : Int) > 0))
     (K (.tuple #[.slice none 0 0, .int .i64 7]) w_1)
     (Drw w_1 fun S w_2 =>
      NilP f0 fun a_t30 =>
      ∃ t32 : Int, ∃ t32_1 : Sl, (At S ⟨a_t30.block, a_t30.off + 1, none⟩ [.int .i64 t32, .slice t32_1.a t32_1.len t32_1.cap]) ∧
      NilP f0 fun a_t36 =>
      ∃ t38 : Sl, (At S ⟨a_t36.block, a_t36.off + 4, none⟩ [.slice t38.a t38.len t38.cap]) ∧
      Rng t15 t38.len (NilP t38.a fun a_t40 =>
      ∃ t42 : Int, (At S ⟨(a_t40.add (mulS t15.toNat 4)).block, (a_t40.add (mulS t15.toNat 4)).off + 2, none⟩ [.int .i64 t42]) ∧
      Calls Tryz.prog 69 #[.pointer f0] w_2 fun e_1 w_3 =>
      ∃ t34 : Sl, (e_1 = .returned (.slice t34.a t34.len t34.cap)) ∧
      (S w_3) ∧
      Calls Tryz.prog 68 #[.agg #[.int .i64 t32, .slice t32_1.a t32_1.len t32_1.cap], .slice t34.a t34.len t34.cap, .int .i64 t42] w_3 fun e_2 w_4 =>
      ∃ t43 : Sl, ∃ t43_1 : Int, (e_2 = .returned (.tuple #[.slice t43.a t43.len t43.cap, .int .i64 t43_1])) ∧
      (S w_4) ∧
      Br (t43_1 != 0)
       (K (.tuple #[.slice none 0 0, .int .i64 t43_1]) w_4)
       (∃ (I : Sl → Int → World → Prop) (μ : Sl → Int → World → Nat), (I ⟨none, 0, 0⟩ 0 w_4) ∧ ∀ (z : Env) (out9 : Sl) (k10 : Int) (w_5 : World), I out9 k10 w_5 →
        Br (decide (k10 < (↑t43.len : Int)))
         (Drw w_5 fun S_1 w_6 =>
          NilP f0 fun a_t57 =>
          ∃ t59 : Int, ∃ t59_1 : Sl, (At S_1 ⟨a_t57.block, a_t57.off + 1, none⟩ [.int .i64 t59, .slice t59_1.a t59_1.len t59_1.cap]) ∧
          Rng k10 t43.len (NilP t43.a fun a_t62 =>
          ∃ t63 : Int, (At S_1 (Addr.add a_t62 k10.toNat) [.int .i64 t63]) ∧
          Calls Tryz.prog 70 #[.agg #[.int .i64 t59, .slice t59_1.a t59_1.len t59_1.cap], .int .i64 t63] w_6 fun e_3 w_7 =>
          ∃ t64 : ByteArray, ∃ t64_1 : Int, (e_3 = .returned (.tuple #[.string t64, .int .i64 t64_1])) ∧
          New (.cells #[.string t64] 9 (0, 0)) (fun b_t69 w_8 =>
          ∃ w_9 : World, ∃ t70 : Sl, ((Builtin.append_ #[54, 54] 54 #[.slice out9.a out9.len out9.cap, .slice ((some ⟨b_t69, 0, none⟩)) 1 1]).run Tryz.prog w_8 = .ok (.slice t70.a t70.len t70.cap) w_9) ∧
          (I t70 (IntKind.i64.wrap (k10 + 1)) w_9) ∧ μ t70 (IntKind.i64.wrap (k10 + 1)) w_9 < μ out9 k10 w_5) w_7))
         (Drw w_5 fun S_2 w_10 =>
          NilP f0 fun a_t72 =>
          ∃ t74 : Sl, (At S_2 ⟨a_t72.block, a_t72.off + 4, none⟩ [.slice t74.a t74.len t74.cap]) ∧
          New (.cells #[] 3 (0, 0)) (fun b_t76 w_11 =>
          (S_2 w_11) ∧
          ∃ w_12 : World, ∃ t78 : Sl, ((Builtin.append_ #[33, 33] 33 #[.slice ((some ⟨b_t76, 0, none⟩)) 0 0, .slice t43.a t43.len t43.cap]).run Tryz.prog w_11 = .ok (.slice t78.a t78.len t78.cap) w_12) ∧
          (S_2 w_12) ∧
          Rng t15 t74.len (NilP t74.a fun a_t79 =>
          ∃ w_13 : World, ((Instr.storeAt 33 (.pointer ((some ⟨(a_t79.add (mulS t15.toNat 4)).block, (a_t79.add (mulS t15.toNat 4)).off + 3, none⟩))) (.slice t78.a t78.len t78.cap)).run Tryz.prog w_12 = .ok () w_13) ∧
          K (.tuple #[.slice out9.a out9.len out9.cap, .int .i64 0]) w_13)) w_10))))))

def sk20 : Sk := (.seq .leaf (.seq .leaf (.seq .leaf (.seq .leaf (.seq .leaf (.seq .leaf (.seq .leaf (.seq (.seq .leaf (.block (.loop [9, 10] [.sl, (.int .i64)] [9, 10, 11, 12, 49, 50, 51, 52, 53, 54, 55, 56, 57, 58, 59, 60, 61, 62, 63, 64, 65, 66, 67, 68, 69, 70] .leaf))) .leaf))))))))
theorem ok20 : fnOk Tryz.prog Tryz.f20.ntmps Tryz.f20 sk20 = true := by kernel_rfl
theorem eq20 (f0 : Option Addr) (owner1 : Int) (K : Value → World → Prop) (w : World) : fnF Tryz.prog cl Tryz.f20 sk20 [.pointer f0, .int .i64 owner1] K w = B20 f0 owner1 K w := by kernel_rfl
theorem call20 (f0 : Option Addr) (owner1 : Int) (K : Value → World → Prop) (w : World) (h : B20 f0 owner1 K w) : Gets Tryz.prog 20 #[.pointer f0, .int .i64 owner1] w K :=
  calls_of (sk := sk20) cl_ok mixed Tryz.func20 ok20 (args := [.pointer f0, .int .i64 owner1]) (Nat.le_of_ble_eq_true (by kernel_rfl)) (by rw [eq20]; exact h)

/-- (*jetway/jetwayref15.Flight).Labels. -/
def B48 (f0 : Option Addr) (owner1 : Int) (K : Value → World → Prop) (w : World) : Prop :=
  Calls Tryz.prog 67 #[.pointer f0, .int .i64 owner1] w fun e w_1 =>
  ∃ t12 : Int, (e = .returned (.int .i64 t12)) ∧
  ∃ (I : Sl → Int → World → Prop) (μ : Sl → Int → World → Nat), (I ⟨none, 0, 0⟩ 0 w_1) ∧ ∀ (z : Env) (out6 : Sl) (k7 : Int) (w_2 : World), I out6 k7 w_2 →
  ∃ (J : World → Prop), (Br (decide (t12 ≥ 0))
     (NilP f0 fun a_t18 =>
      ∃ t20 : Sl, (At (fun w' => w' = w_2) ⟨a_t18.block, a_t18.off + 4, none⟩ [.slice t20.a t20.len t20.cap]) ∧
      Rng t12 t20.len (NilP t20.a fun a_t22 =>
      ∃ t24 : Sl, (At (fun w' => w' = w_2) ⟨(a_t22.add (mulS t12.toNat 4)).block, (a_t22.add (mulS t12.toNat 4)).off + 3, none⟩ [.slice t24.a t24.len t24.cap]) ∧
      Br (decide (k7 < (↑t24.len : Int)))
       (J  w_2)
       (K (.slice out6.a out6.len out6.cap) w_2)))
     (K (.slice out6.a out6.len out6.cap) w_2)) ∧
  ∀ (z_1 : Env)  (w_3 : World), J  w_3 →
  Drw w_3 fun S w_4 =>
  NilP f0 fun a_t32 =>
  ∃ t34 : Int, ∃ t34_1 : Sl, (At S ⟨a_t32.block, a_t32.off + 1, none⟩ [.int .i64 t34, .slice t34_1.a t34_1.len t34_1.cap]) ∧
  NilP f0 fun a_t36 =>
  ∃ t38 : Sl, (At S ⟨a_t36.block, a_t36.off + 4, none⟩ [.slice t38.a t38.len t38.cap]) ∧
  Rng t12 t38.len (NilP t38.a fun a_t40 =>
  ∃ t42 : Sl, (At S ⟨(a_t40.add (mulS t12.toNat 4)).block, (a_t40.add (mulS t12.toNat 4)).off + 3, none⟩ [.slice t42.a t42.len t42.cap]) ∧
  Rng k7 t42.len (NilP t42.a fun a_t44 =>
  ∃ t45 : Int, (At S (Addr.add a_t44 k7.toNat) [.int .i64 t45]) ∧
  Calls Tryz.prog 70 #[.agg #[.int .i64 t34, .slice t34_1.a t34_1.len t34_1.cap], .int .i64 t45] w_4 fun e_1 w_5 =>
  ∃ t46 : ByteArray, ∃ t46_1 : Int, (e_1 = .returned (.tuple #[.string t46, .int .i64 t46_1])) ∧
  (S w_5) ∧
  New (.cells #[.string t46] 9 (0, 0)) (fun b_t51 w_6 =>
  ∃ w_7 : World, ∃ t52 : Sl, ((Builtin.append_ #[54, 54] 54 #[.slice out6.a out6.len out6.cap, .slice ((some ⟨b_t51, 0, none⟩)) 1 1]).run Tryz.prog w_6 = .ok (.slice t52.a t52.len t52.cap) w_7) ∧
  (I t52 (IntKind.i64.wrap (k7 + 1)) w_7) ∧ μ t52 (IntKind.i64.wrap (k7 + 1)) w_7 < μ out6 k7 w_2) w_5))

def sk48 : Sk := (.seq .leaf (.seq .leaf (.seq .leaf (.seq (.seq .leaf (.block (.loop [6, 7] [.sl, (.int .i64)] [6, 7, 8, 9, 13, 14, 15, 16, 17, 18, 19, 20, 21, 22, 23, 24, 25, 26, 27, 28, 29, 30, 31, 32, 33, 34, 35, 36, 37, 38, 39, 40, 41, 42, 43, 44, 45, 46, 47, 48, 49, 50, 51, 52] (.cut [] [] [13, 14, 15, 16, 17, 18, 19, 20, 21, 22, 23, 24, 25, 26, 27] .leaf .leaf)))) .leaf))))
theorem ok48 : fnOk Tryz.prog Tryz.f48.ntmps Tryz.f48 sk48 = true := by kernel_rfl
theorem eq48 (f0 : Option Addr) (owner1 : Int) (K : Value → World → Prop) (w : World) : fnF Tryz.prog cl Tryz.f48 sk48 [.pointer f0, .int .i64 owner1] K w = B48 f0 owner1 K w := by kernel_rfl
theorem call48 (f0 : Option Addr) (owner1 : Int) (K : Value → World → Prop) (w : World) (h : B48 f0 owner1 K w) : Gets Tryz.prog 48 #[.pointer f0, .int .i64 owner1] w K :=
  calls_of (sk := sk48) cl_ok mixed Tryz.func48 ok48 (args := [.pointer f0, .int .i64 owner1]) (Nat.le_of_ble_eq_true (by kernel_rfl)) (by rw [eq48]; exact h)

/-- jetway/jetwayref15.numbers. -/
def B94 (l0 : Sl) (K : Value → World → Prop) (w : World) : Prop :=
  ∃ (I : Sl → Int → World → Prop) (μ : Sl → Int → World → Nat), (I ⟨none, 0, 0⟩ 0 w) ∧ ∀ (z : Env) (out3 : Sl) (i4 : Int) (w_1 : World), I out3 i4 w_1 →
  Br (decide (i4 < (↑l0.len : Int)))
   (Rng i4 l0.len (NilP l0.a fun a_t14 =>
    ∃ t15 : Int, (At (fun w' => w' = w_1) (Addr.add a_t14 i4.toNat) [.int .i64 t15]) ∧
    Calls Tryz.prog 119 #[.int .u64 (IntKind.u64.wrap t15)] w_1 fun e w_2 =>
    ∃ t17 : Sl, (e = .returned (.slice t17.a t17.len t17.cap)) ∧
    ∃ w_3 : World, ∃ t18 : Sl, ((Builtin.append_ #[22, 22] 22 #[.slice out3.a out3.len out3.cap, .slice t17.a t17.len t17.cap]).run Tryz.prog w_2 = .ok (.slice t18.a t18.len t18.cap) w_3) ∧
    (I t18 (IntKind.i64.wrap (i4 + 1)) w_3) ∧ μ t18 (IntKind.i64.wrap (i4 + 1)) w_3 < μ out3 i4 w_1))
   (K (.slice out3.a out3.len out3.cap) w_1)

def sk94 : Sk := (.seq .leaf (.seq .leaf (.seq (.seq .leaf (.block (.loop [3, 4] [.sl, (.int .i64)] [3, 4, 5, 6, 7, 8, 9, 10, 11, 12, 13, 14, 15, 16, 17, 18] .leaf))) .leaf)))
theorem ok94 : fnOk Tryz.prog Tryz.f94.ntmps Tryz.f94 sk94 = true := by kernel_rfl
theorem eq94 (l0 : Sl) (K : Value → World → Prop) (w : World) : fnF Tryz.prog cl Tryz.f94 sk94 [.slice l0.a l0.len l0.cap] K w = B94 l0 K w := by kernel_rfl
theorem call94 (l0 : Sl) (K : Value → World → Prop) (w : World) (h : B94 l0 K w) : Gets Tryz.prog 94 #[.slice l0.a l0.len l0.cap] w K :=
  calls_of (sk := sk94) cl_ok mixed Tryz.func94 ok94 (args := [.slice l0.a l0.len l0.cap]) (Nat.le_of_ble_eq_true (by kernel_rfl)) (by rw [eq94]; exact h)

/-- (*jetway/jetwayref15.Flight).Encode. -/
def B50 (f0 : Option Addr) (K : Value → World → Prop) (w : World) : Prop :=
  Drw w fun S w_1 =>
  NilP f0 fun a_t7 =>
  ∃ t9 : Int, (At S (Addr.add a_t7 0) [.int .i64 t9]) ∧
  NilP f0 fun a_t11 =>
  ∃ t14 : Int, (At S ⟨a_t11.block, a_t11.off + 1, none⟩ [.int .i64 t14]) ∧
  NilP f0 fun a_t16 =>
  ∃ t19 : Sl, (At S ⟨a_t16.block, a_t16.off + 1 + 1, none⟩ [.slice t19.a t19.len t19.cap]) ∧
  New (.cells #[.int .i64 t9, .int .i64 t14, .int .i64 ((↑t19.len : Int))] 3 (0, 0)) (fun b_t21 w_2 =>
  (S w_2) ∧
  Calls Tryz.prog 94 #[.slice ((some ⟨b_t21, 0, none⟩)) 3 3] w_2 fun e w_3 =>
  ∃ t22 : Sl, (e = .returned (.slice t22.a t22.len t22.cap)) ∧
  (S w_3) ∧
  NilP f0 fun a_t25 =>
  ∃ t28 : Sl, (At (fun w' => w' = w_3) ⟨a_t25.block, a_t25.off + 1 + 1, none⟩ [.slice t28.a t28.len t28.cap]) ∧
  Calls Tryz.prog 94 #[.slice t28.a t28.len t28.cap] w_3 fun e_1 w_4 =>
  ∃ t29 : Sl, (e_1 = .returned (.slice t29.a t29.len t29.cap)) ∧
  ∃ w_5 : World, ∃ t30 : Sl, ((Builtin.append_ #[22, 22] 22 #[.slice t22.a t22.len t22.cap, .slice t29.a t29.len t29.cap]).run Tryz.prog w_4 = .ok (.slice t30.a t30.len t30.cap) w_5) ∧
  NilP f0 fun a_t33 =>
  ∃ t35 : Sl, (At (fun w' => w' = w_5) ⟨a_t33.block, a_t33.off + 3, none⟩ [.slice t35.a t35.len t35.cap]) ∧
  New (.cells #[.int .i64 ((↑t35.len : Int))] 3 (0, 0)) (fun b_t37 w_6 =>
  Calls Tryz.prog 94 #[.slice ((some ⟨b_t37, 0, none⟩)) 1 1] w_6 fun e_2 w_7 =>
  ∃ t38 : Sl, (e_2 = .returned (.slice t38.a t38.len t38.cap)) ∧
  ∃ w_8 : World, ∃ t39 : Sl, ((Builtin.append_ #[22, 22] 22 #[.slice t30.a t30.len t30.cap, .slice t38.a t38.len t38.cap]).run Tryz.prog w_7 = .ok (.slice t39.a t39.len t39.cap) w_8) ∧
  NilP f0 fun a_t42 =>
  ∃ t44 : Sl, (At (fun w' => w' = w_8) ⟨a_t42.block, a_t42.off + 3, none⟩ [.slice t44.a t44.len t44.cap]) ∧
  Calls Tryz.prog 94 #[.slice t44.a t44.len t44.cap] w_8 fun e_3 w_9 =>
  ∃ t45 : Sl, (e_3 = .returned (.slice t45.a t45.len t45.cap)) ∧
  ∃ w_10 : World, ∃ t46 : Sl, ((Builtin.append_ #[22, 22] 22 #[.slice t39.a t39.len t39.cap, .slice t45.a t45.len t45.cap]).run Tryz.prog w_9 = .ok (.slice t46.a t46.len t46.cap) w_10) ∧
  NilP f0 fun a_t49 =>
  ∃ t51 : Sl, (At (fun w' => w' = w_10) ⟨a_t49.block, a_t49.off + 4, none⟩ [.slice t51.a t51.len t51.cap]) ∧
  New (.cells #[.int .i64 ((↑t51.len : Int))] 3 (0, 0)) (fun b_t53 w_11 =>
  Calls Tryz.prog 94 #[.slice ((some ⟨b_t53, 0, none⟩)) 1 1] w_11 fun e_4 w_12 =>
  ∃ t54 : Sl, (e_4 = .returned (.slice t54.a t54.len t54.cap)) ∧
  ∃ w_13 : World, ∃ t55 : Sl, ((Builtin.append_ #[22, 22] 22 #[.slice t46.a t46.len t46.cap, .slice t54.a t54.len t54.cap]).run Tryz.prog w_12 = .ok (.slice t55.a t55.len t55.cap) w_13) ∧
  ∃ (I : Sl → Int → World → Prop) (μ : Sl → Int → World → Nat), (I t55 0 w_13) ∧ ∀ (z : Env) (b3 : Sl) (i4 : Int) (w_14 : World), I b3 i4 w_14 →
  NilP f0 fun a_t58 =>
  ∃ t60 : Sl, (At (fun w' => w' = w_14) ⟨a_t58.block, a_t58.off + 4, none⟩ [.slice t60.a t60.len t60.cap]) ∧
  Br (decide (i4 < (↑t60.len : Int)))
   (NilP f0 fun a_t66 =>
    ∃ t68 : Sl, (At (fun w' => w' = w_14) ⟨a_t66.block, a_t66.off + 4, none⟩ [.slice t68.a t68.len t68.cap]) ∧
    Rng i4 t68.len (NilP t68.a fun a_t70 =>
    ∃ t71 : Int, ∃ t71_1 : Int, ∃ t71_2 : Int, ∃ t71_3 : Sl, (At (fun w' => w' = w_14) (Addr.add a_t70 (mulS i4.toNat 4)) [.int .i64 t71, .int .i64 t71_1, .int .i64 t71_2, .slice t71_3.a t71_3.len t71_3.cap]) ∧
    New (.cells #[.int .i64 0, .int .i64 0, .int .i64 0, .slice none 0 0] 51 (0, 0)) (fun b_h5 w_15 =>
    ∃ w_16 : World, ((Instr.storeAt 51 (.pointer ((some ⟨b_h5, 0, none⟩))) (.agg #[.int .i64 t71, .int .i64 t71_1, .int .i64 t71_2, .slice t71_3.a t71_3.len t71_3.cap])).run Tryz.prog w_15 = .ok () w_16) ∧
    ∃ t74 : Int, (At (fun w' => w' = w_16) ⟨b_h5, 0, none⟩ [.int .i64 t74]) ∧
    ∃ t76 : Int, (At (fun w' => w' = w_16) ⟨b_h5, 0 + 1, none⟩ [.int .i64 t76]) ∧
    ∃ t78 : Int, (At (fun w' => w' = w_16) ⟨b_h5, 0 + 2, none⟩ [.int .i64 t78]) ∧
    ∃ t80 : Sl, (At (fun w' => w' = w_16) ⟨b_h5, 0 + 3, none⟩ [.slice t80.a t80.len t80.cap]) ∧
    New (.cells #[.int .i64 t74, .int .i64 t76, .int .i64 t78, .int .i64 ((↑t80.len : Int))] 3 (0, 0)) (fun b_t82 w_17 =>
    Calls Tryz.prog 94 #[.slice ((some ⟨b_t82, 0, none⟩)) 4 4] w_17 fun e_5 w_18 =>
    ∃ t83 : Sl, (e_5 = .returned (.slice t83.a t83.len t83.cap)) ∧
    ∃ w_19 : World, ∃ t84 : Sl, ((Builtin.append_ #[22, 22] 22 #[.slice b3.a b3.len b3.cap, .slice t83.a t83.len t83.cap]).run Tryz.prog w_18 = .ok (.slice t84.a t84.len t84.cap) w_19) ∧
    ∃ t87 : Sl, (At (fun w' => w' = w_19) ⟨b_h5, 0 + 3, none⟩ [.slice t87.a t87.len t87.cap]) ∧
    Calls Tryz.prog 94 #[.slice t87.a t87.len t87.cap] w_19 fun e_6 w_20 =>
    ∃ t88 : Sl, (e_6 = .returned (.slice t88.a t88.len t88.cap)) ∧
    ∃ w_21 : World, ∃ t89 : Sl, ((Builtin.append_ #[22, 22] 22 #[.slice t84.a t84.len t84.cap, .slice t88.a t88.len t88.cap]).run Tryz.prog w_20 = .ok (.slice t89.a t89.len t89.cap) w_21) ∧
    (I t89 (IntKind.i64.wrap (i4 + 1)) w_21) ∧ μ t89 (IntKind.i64.wrap (i4 + 1)) w_21 < μ b3 i4 w_14) w_16) w_14))
   (K (.slice b3.a b3.len b3.cap) w_14)) w_10) w_5) w_1

def sk50 : Sk := (.seq .leaf (.seq .leaf (.seq .leaf (.seq .leaf (.seq .leaf (.seq .leaf (.seq (.seq .leaf (.block (.loop [3, 4] [.sl, (.int .i64)] [3, 4, 5, 56, 57, 58, 59, 60, 61, 62, 63, 64, 65, 66, 67, 68, 69, 70, 71, 72, 73, 74, 75, 76, 77, 78, 79, 80, 81, 82, 83, 84, 85, 86, 87, 88, 89] .leaf))) .leaf)))))))
theorem ok50 : fnOk Tryz.prog Tryz.f50.ntmps Tryz.f50 sk50 = true := by kernel_rfl
theorem eq50 (f0 : Option Addr) (K : Value → World → Prop) (w : World) : fnF Tryz.prog cl Tryz.f50 sk50 [.pointer f0] K w = B50 f0 K w := by kernel_rfl
theorem call50 (f0 : Option Addr) (K : Value → World → Prop) (w : World) (h : B50 f0 K w) : Gets Tryz.prog 50 #[.pointer f0] w K :=
  calls_of (sk := sk50) cl_ok mixed Tryz.func50 ok50 (args := [.pointer f0]) (Nat.le_of_ble_eq_true (by kernel_rfl)) (by rw [eq50]; exact h)

/-- jetway/jetwayref15.list. -/
def B41 (r0 : Option Addr) (most1 : Int) (each2 : Int) (K : Value → World → Prop) (w : World) : Prop :=
  Calls Tryz.prog 40 #[.pointer r0, .int .u64 most1] w fun e w_1 =>
  ∃ t12 : Int, (e = .returned (.int .u64 t12)) ∧
  ∃ (I : Sl → Int → World → Prop) (μ : Sl → Int → World → Nat), (I ⟨none, 0, 0⟩ 0 w_1) ∧ ∀ (z : Env) (out8 : Sl) (i9 : Int) (w_2 : World), I out8 i9 w_2 →
  Br (decide (i9 < t12))
   (NilP r0 fun a_t18 =>
    ∃ t20 : Bool, (At (fun w' => w' = w_2) ⟨a_t18.block, a_t18.off + 2, none⟩ [.bool t20]) ∧
    Br (!t20)
     (Calls Tryz.prog 40 #[.pointer r0, .int .u64 each2] w_2 fun e_1 w_3 =>
      ∃ t28 : Int, (e_1 = .returned (.int .u64 t28)) ∧
      New (.cells #[.int .i64 (IntKind.i64.wrap t28)] 3 (0, 0)) (fun b_t30 w_4 =>
      ∃ w_5 : World, ∃ t31 : Sl, ((Builtin.append_ #[33, 33] 33 #[.slice out8.a out8.len out8.cap, .slice ((some ⟨b_t30, 0, none⟩)) 1 1]).run Tryz.prog w_4 = .ok (.slice t31.a t31.len t31.cap) w_5) ∧
      (I t31 (IntKind.u64.wrap (i9 + 1)) w_5) ∧ μ t31 (IntKind.u64.wrap (i9 + 1)) w_5 < μ out8 i9 w_2) w_3)
     (K (.slice out8.a out8.len out8.cap) w_2))
   (K (.slice out8.a out8.len out8.cap) w_2)

def sk41 : Sk := (.seq .leaf (.seq .leaf (.seq .leaf (.seq (.seq .leaf (.block (.loop [8, 9] [.sl, (.int .u64)] [8, 9, 13, 14, 15, 16, 17, 18, 19, 20, 21, 22, 23, 24, 25, 26, 27, 28, 29, 30, 31] .leaf))) .leaf))))
theorem ok41 : fnOk Tryz.prog Tryz.f41.ntmps Tryz.f41 sk41 = true := by kernel_rfl
theorem eq41 (r0 : Option Addr) (most1 : Int) (each2 : Int) (K : Value → World → Prop) (w : World) : fnF Tryz.prog cl Tryz.f41 sk41 [.pointer r0, .int .u64 most1, .int .u64 each2] K w = B41 r0 most1 each2 K w := by kernel_rfl
theorem call41 (r0 : Option Addr) (most1 : Int) (each2 : Int) (K : Value → World → Prop) (w : World) (h : B41 r0 most1 each2 K w) : Gets Tryz.prog 41 #[.pointer r0, .int .u64 most1, .int .u64 each2] w K :=
  calls_of (sk := sk41) cl_ok mixed Tryz.func41 ok41 (args := [.pointer r0, .int .u64 most1, .int .u64 each2]) (Nat.le_of_ble_eq_true (by kernel_rfl)) (by rw [eq41]; exact h)

/-- jetway/jetwayref15.Decode. -/
def B11 (b0 : Sl) (K : Value → World → Prop) (w : World) : Prop :=
  New (.cells #[.slice b0.a b0.len b0.cap, .int .i64 0, .bool false] 84 (0, 0)) (fun b_t13 w_1 =>
  Calls Tryz.prog 40 #[.pointer ((some ⟨b_t13, 0, none⟩)), .int .u64 9999] w_1 fun e w_2 =>
  ∃ t15 : Int, (e = .returned (.int .u64 t15)) ∧
  Calls Tryz.prog 40 #[.pointer ((some ⟨b_t13, 0, none⟩)), .int .u64 60] w_2 fun e_1 w_3 =>
  ∃ t18 : Int, (e_1 = .returned (.int .u64 t18)) ∧
  New (.cells #[.int .i64 (IntKind.i64.wrap t15), .int .i64 (IntKind.i64.wrap t18), .slice none 0 0, .slice none 0 0, .slice none 0 0] 48 (0, 0)) (fun b_t22 w_4 =>
  Calls Tryz.prog 41 #[.pointer ((some ⟨b_t13, 0, none⟩)), .int .u64 4, .int .u64 10] w_4 fun e_2 w_5 =>
  ∃ t25 : Sl, (e_2 = .returned (.slice t25.a t25.len t25.cap)) ∧
  ∃ w_6 : World, ((Instr.storeAt 33 (.pointer ((some ⟨b_t22, 0 + 1 + 1, none⟩))) (.slice t25.a t25.len t25.cap)).run Tryz.prog w_5 = .ok () w_6) ∧
  Calls Tryz.prog 41 #[.pointer ((some ⟨b_t13, 0, none⟩)), .int .u64 8, .int .u64 10000] w_6 fun e_3 w_7 =>
  ∃ t31 : Sl, (e_3 = .returned (.slice t31.a t31.len t31.cap)) ∧
  ∃ w_8 : World, ((Instr.storeAt 33 (.pointer ((some ⟨b_t22, 0 + 3, none⟩))) (.slice t31.a t31.len t31.cap)).run Tryz.prog w_7 = .ok () w_8) ∧
  Calls Tryz.prog 40 #[.pointer ((some ⟨b_t13, 0, none⟩)), .int .u64 600] w_8 fun e_4 w_9 =>
  ∃ t35 : Int, (e_4 = .returned (.int .u64 t35)) ∧
  ∃ (J : World → Prop), (∃ (I : Int → World → Prop) (μ : Int → World → Nat), (I 0 w_9) ∧ ∀ (z : Env) (i7 : Int) (w_10 : World), I i7 w_10 →
    ∃ (J_1 : World → Prop), (Br (decide (i7 < t35))
       (∃ t43 : Bool, (At (fun w' => w' = w_10) ⟨b_t13, 0 + 2, none⟩ [.bool t43]) ∧
        Br (!t43)
         (J_1  w_10)
         (J  w_10))
       (J  w_10)) ∧
    ∀ (z_1 : Env)  (w_11 : World), J_1  w_11 →
    Calls Tryz.prog 40 #[.pointer ((some ⟨b_t13, 0, none⟩)), .int .u64 28629151] w_11 fun e_5 w_12 =>
    ∃ t49 : Int, (e_5 = .returned (.int .u64 t49)) ∧
    Calls Tryz.prog 40 #[.pointer ((some ⟨b_t13, 0, none⟩)), .int .u64 8] w_12 fun e_6 w_13 =>
    ∃ t52 : Int, (e_6 = .returned (.int .u64 t52)) ∧
    Calls Tryz.prog 40 #[.pointer ((some ⟨b_t13, 0, none⟩)), .int .u64 600] w_13 fun e_7 w_14 =>
    ∃ t55 : Int, (e_7 = .returned (.int .u64 t55)) ∧
    New (.cells #[.int .i64 0, .int .i64 0, .int .i64 0, .slice none 0 0] 51 (0, 0)) (fun b_h8 w_15 =>
    ∃ w_16 : World, ((Instr.storeAt 51 (.pointer ((some ⟨b_h8, 0, none⟩))) (.agg #[.int .i64 (IntKind.i64.wrap t49), .int .i64 (IntKind.i64.wrap t52), .int .i64 (IntKind.i64.wrap t55), .slice none 0 0])).run Tryz.prog w_15 = .ok () w_16) ∧
    Calls Tryz.prog 41 #[.pointer ((some ⟨b_t13, 0, none⟩)), .int .u64 600, .int .u64 600] w_16 fun e_8 w_17 =>
    ∃ t59 : Sl, (e_8 = .returned (.slice t59.a t59.len t59.cap)) ∧
    ∃ w_18 : World, ((Instr.storeAt 33 (.pointer ((some ⟨b_h8, 0 + 3, none⟩))) (.slice t59.a t59.len t59.cap)).run Tryz.prog w_17 = .ok () w_18) ∧
    Drw w_18 fun S w_19 =>
    ∃ t65 : Sl, (At S ⟨b_t22, 0 + 4, none⟩ [.slice t65.a t65.len t65.cap]) ∧
    ∃ t66 : Int, ∃ t66_1 : Int, ∃ t66_2 : Int, ∃ t66_3 : Sl, (At S ⟨b_h8, 0, none⟩ [.int .i64 t66, .int .i64 t66_1, .int .i64 t66_2, .slice t66_3.a t66_3.len t66_3.cap]) ∧
    New (.cells #[.int .i64 t66, .int .i64 t66_1, .int .i64 t66_2, .slice t66_3.a t66_3.len t66_3.cap] 51 (0, 0)) (fun b_t67 w_20 =>
    (S w_20) ∧
    ∃ w_21 : World, ∃ t68 : Sl, ((Builtin.append_ #[46, 46] 46 #[.slice t65.a t65.len t65.cap, .slice ((some ⟨b_t67, 0, none⟩)) 1 1]).run Tryz.prog w_20 = .ok (.slice t68.a t68.len t68.cap) w_21) ∧
    (S w_21) ∧
    ∃ w_22 : World, ((Instr.storeAt 46 (.pointer ((some ⟨b_t22, 0 + 4, none⟩))) (.slice t68.a t68.len t68.cap)).run Tryz.prog w_21 = .ok () w_22) ∧
    (I (IntKind.u64.wrap (i7 + 1)) w_22) ∧ μ (IntKind.u64.wrap (i7 + 1)) w_22 < μ i7 w_10) w_19) w_14) ∧
  ∀ (z_2 : Env)  (w_23 : World), J  w_23 →
  Calls Tryz.prog 42 #[.pointer ((some ⟨b_t13, 0, none⟩))] w_23 fun e_9 w_24 =>
  ∃ t72 : Bool, (e_9 = .returned (.bool t72)) ∧
  Br t72
   (Calls Tryz.prog 43 #[.pointer ((some ⟨b_t22, 0, none⟩))] w_24 fun e_10 w_25 =>
    ∃ t76 : Bool, (e_10 = .returned (.bool t76)) ∧
    Br (!t76)
     (K (.tuple #[.pointer none, .int .i64 6]) w_25)
     (K (.tuple #[.pointer ((some ⟨b_t22, 0, none⟩)), .int .i64 0]) w_25))
   (K (.tuple #[.pointer none, .int .i64 6]) w_24)) w_3) w

def sk11 : Sk := (.seq .leaf (.seq .leaf (.seq .leaf (.seq .leaf (.seq .leaf (.seq .leaf (.cut [] [] [7, 8, 36, 37, 38, 39, 40, 41, 42, 43, 44, 45, 46, 47, 48, 49, 50, 51, 52, 53, 54, 55, 56, 57, 58, 59, 60, 61, 62, 63, 64, 65, 66, 67, 68, 69, 70] (.seq .leaf (.block (.loop [7] [(.int .u64)] [7, 8, 36, 37, 38, 39, 40, 41, 42, 43, 44, 45, 46, 47, 48, 49, 50, 51, 52, 53, 54, 55, 56, 57, 58, 59, 60, 61, 62, 63, 64, 65, 66, 67, 68, 69, 70] (.cut [] [] [36, 37, 38, 39, 40, 41, 42, 43, 44, 45] .leaf .leaf)))) .leaf)))))))
theorem ok11 : fnOk Tryz.prog Tryz.f11.ntmps Tryz.f11 sk11 = true := by kernel_rfl
theorem eq11 (b0 : Sl) (K : Value → World → Prop) (w : World) : fnF Tryz.prog cl Tryz.f11 sk11 [.slice b0.a b0.len b0.cap] K w = B11 b0 K w := by kernel_rfl
theorem call11 (b0 : Sl) (K : Value → World → Prop) (w : World) (h : B11 b0 K w) : Gets Tryz.prog 11 #[.slice b0.a b0.len b0.cap] w K :=
  calls_of (sk := sk11) cl_ok mixed Tryz.func11 ok11 (args := [.slice b0.a b0.len b0.cap]) (Nat.le_of_ble_eq_true (by kernel_rfl)) (by rw [eq11]; exact h)

/-- (*jetway/jetwayref15.Flight).may. -/
def B43 (f0 : Option Addr) (K : Value → World → Prop) (w : World) : Prop :=
  NilP f0 fun a_t11 =>
  ∃ t13 : Int, ∃ t13_1 : Sl, (At (fun w' => w' = w) ⟨a_t11.block, a_t11.off + 1, none⟩ [.int .i64 t13, .slice t13_1.a t13_1.len t13_1.cap]) ∧
  Calls Tryz.prog 91 #[.agg #[.int .i64 t13, .slice t13_1.a t13_1.len t13_1.cap]] w fun e w_1 =>
  ∃ t14 : Bool, (e = .returned (.bool t14)) ∧
  NilP f0 fun a_t16 =>
  ∃ t18 : Sl, (At (fun w' => w' = w_1) ⟨a_t16.block, a_t16.off + 3, none⟩ [.slice t18.a t18.len t18.cap]) ∧
  Calls Tryz.prog 60 #[.slice t18.a t18.len t18.cap] w_1 fun e_1 w_2 =>
  ∃ t19 : Bool, (e_1 = .returned (.bool t19)) ∧
  ∃ (J : World → Prop), (Drw w_2 fun S w_3 =>
    NilP f0 fun a_t21 =>
    ∃ t23 : Int, (At S (Addr.add a_t21 0) [.int .i64 t23]) ∧
    Br (decide (t23 < 1))
     (K (.bool false) w_3)
     (Br (!t14)
       (K (.bool false) w_3)
       (Br (!t19)
         (K (.bool false) w_3)
         (NilP f0 fun a_t35 =>
          ∃ t37 : Sl, (At S ⟨a_t35.block, a_t35.off + 3, none⟩ [.slice t37.a t37.len t37.cap]) ∧
          Rng 0 t37.len (NilP t37.a fun a_t38 =>
          ∃ t39 : Int, (At S (Addr.add a_t38 0) [.int .i64 t39]) ∧
          NilP f0 fun a_t41 =>
          ∃ t43 : Int, ∃ t43_1 : Sl, (At S ⟨a_t41.block, a_t41.off + 1, none⟩ [.int .i64 t43, .slice t43_1.a t43_1.len t43_1.cap]) ∧
          Calls Tryz.prog 92 #[.agg #[.int .i64 t43, .slice t43_1.a t43_1.len t43_1.cap]] w_3 fun e_2 w_4 =>
          ∃ t44 : Int, (e_2 = .returned (.int .i64 t44)) ∧
          (S w_4) ∧
          Br (t39 != t44)
           (K (.bool false) w_4)
           (J  w_4)))))) ∧
  ∀ (z : Env)  (w_5 : World), J  w_5 →
  ∃ (I : Sl → Int → World → Prop) (μ : Sl → Int → World → Nat), (I ⟨none, 0, 0⟩ 0 w_5) ∧ ∀ (z_1 : Env) (told5 : Sl) (i6 : Int) (w_6 : World), I told5 i6 w_6 →
  NilP f0 fun a_t49 =>
  ∃ t51 : Sl, (At (fun w' => w' = w_6) ⟨a_t49.block, a_t49.off + 4, none⟩ [.slice t51.a t51.len t51.cap]) ∧
  Br (decide (i6 < (↑t51.len : Int)))
   (NilP f0 fun a_t57 =>
    ∃ t59 : Sl, (At (fun w' => w' = w_6) ⟨a_t57.block, a_t57.off + 4, none⟩ [.slice t59.a t59.len t59.cap]) ∧
    Rng i6 t59.len (NilP t59.a fun a_t61 =>
    ∃ t62 : Int, ∃ t62_1 : Int, ∃ t62_2 : Int, ∃ t62_3 : Sl, (At (fun w' => w' = w_6) (Addr.add a_t61 (mulS i6.toNat 4)) [.int .i64 t62, .int .i64 t62_1, .int .i64 t62_2, .slice t62_3.a t62_3.len t62_3.cap]) ∧
    New (.cells #[.int .i64 0, .int .i64 0, .int .i64 0, .slice none 0 0] 51 (0, 0)) (fun b_h7 w_7 =>
    ∃ w_8 : World, ((Instr.storeAt 51 (.pointer ((some ⟨b_h7, 0, none⟩))) (.agg #[.int .i64 t62, .int .i64 t62_1, .int .i64 t62_2, .slice t62_3.a t62_3.len t62_3.cap])).run Tryz.prog w_7 = .ok () w_8) ∧
    ∃ (J_1 : World → Prop), (Drw w_8 fun S_1 w_9 =>
      ∃ t64 : Int, (At S_1 ⟨b_h7, 0, none⟩ [.int .i64 t64]) ∧
      Br (decide (t64 < 1))
       (K (.bool false) w_9)
       (Br (decide (i6 > 0))
         (∃ t71 : Int, (At S_1 ⟨b_h7, 0, none⟩ [.int .i64 t71]) ∧
          NilP f0 fun a_t73 =>
          ∃ t75 : Sl, (At S_1 ⟨a_t73.block, a_t73.off + 4, none⟩ [.slice t75.a t75.len t75.cap]) ∧
          Rng (IntKind.i64.wrap (i6 - 1)) t75.len (NilP t75.a fun a_t78 =>
          ∃ t80 : Int, (At S_1 (Addr.add (Addr.add a_t78 (mulS (IntKind.i64.wrap (i6 - 1)).toNat 4)) 0) [.int .i64 t80]) ∧
          Br (decide (t71 ≤ t80))
           (K (.bool false) w_9)
           (∃ t86 : Int, (At S_1 ⟨b_h7, 0 + 1, none⟩ [.int .i64 t86]) ∧
            NilP f0 fun a_t88 =>
            ∃ t90 : Sl, (At S_1 ⟨a_t88.block, a_t88.off + 3, none⟩ [.slice t90.a t90.len t90.cap]) ∧
            Br (decide (t86 ≥ (↑t90.len : Int)))
             (K (.bool false) w_9)
             (∃ t96 : Int, (At S_1 ⟨b_h7, 0 + 2, none⟩ [.int .i64 t96]) ∧
              Br (decide (t96 < 1))
               (K (.bool false) w_9)
               (∃ t101 : Sl, (At S_1 ⟨b_h7, 0 + 3, none⟩ [.slice t101.a t101.len t101.cap]) ∧
                ∃ t104 : Int, (At S_1 ⟨b_h7, 0 + 2, none⟩ [.int .i64 t104]) ∧
                Br (decide ((↑t101.len : Int) > t104))
                 (K (.bool false) w_9)
                 (J_1  w_9))))))
         (∃ t86_1 : Int, (At S_1 ⟨b_h7, 0 + 1, none⟩ [.int .i64 t86_1]) ∧
          NilP f0 fun a_t88_1 =>
          ∃ t90_1 : Sl, (At S_1 ⟨a_t88_1.block, a_t88_1.off + 3, none⟩ [.slice t90_1.a t90_1.len t90_1.cap]) ∧
          Br (decide (t86_1 ≥ (↑t90_1.len : Int)))
           (K (.bool false) w_9)
           (∃ t96_1 : Int, (At S_1 ⟨b_h7, 0 + 2, none⟩ [.int .i64 t96_1]) ∧
            Br (decide (t96_1 < 1))
             (K (.bool false) w_9)
             (∃ t101_1 : Sl, (At S_1 ⟨b_h7, 0 + 3, none⟩ [.slice t101_1.a t101_1.len t101_1.cap]) ∧
              ∃ t104_1 : Int, (At S_1 ⟨b_h7, 0 + 2, none⟩ [.int .i64 t104_1]) ∧
              Br (decide ((↑t101_1.len : Int) > t104_1))
               (K (.bool false) w_9)
               (J_1  w_9)))))) ∧
    ∀ (z_2 : Env)  (w_10 : World), J_1  w_10 →
    ∃ (I_1 : Sl → Int → World → Prop) (μ_1 : Sl → Int → World → Nat), (I_1 told5 0 w_10) ∧ ∀ (z_3 : Env) (told5_1 : Sl) (k8 : Int) (w_11 : World), I_1 told5_1 k8 w_11 →
    ∃ t109 : Sl, (At (fun w' => w' = w_11) ⟨b_h7, 0 + 3, none⟩ [.slice t109.a t109.len t109.cap]) ∧
    Br (decide (k8 < (↑t109.len : Int)))
     (∃ t116 : Sl, (At (fun w' => w' = w_11) ⟨b_h7, 0 + 3, none⟩ [.slice t116.a t116.len t116.cap]) ∧
      Rng k8 t116.len (NilP t116.a fun a_t118 =>
      ∃ t119 : Int, (At (fun w' => w' = w_11) (Addr.add a_t118 k8.toNat) [.int .i64 t119]) ∧
      Calls Tryz.prog 17 #[.slice told5_1.a told5_1.len told5_1.cap, .int .i64 t119] w_11 fun e_3 w_12 =>
      ∃ t120 : Bool, (e_3 = .returned (.bool t120)) ∧
      Drw w_12 fun S_2 w_13 =>
      Br t120
       (K (.bool false) w_13)
       (∃ t124 : Sl, (At S_2 ⟨b_h7, 0 + 3, none⟩ [.slice t124.a t124.len t124.cap]) ∧
        Rng k8 t124.len (NilP t124.a fun a_t126 =>
        ∃ t127 : Int, (At S_2 (Addr.add a_t126 k8.toNat) [.int .i64 t127]) ∧
        NilP f0 fun a_t129 =>
        ∃ t131 : Int, ∃ t131_1 : Sl, (At S_2 ⟨a_t129.block, a_t129.off + 1, none⟩ [.int .i64 t131, .slice t131_1.a t131_1.len t131_1.cap]) ∧
        Calls Tryz.prog 92 #[.agg #[.int .i64 t131, .slice t131_1.a t131_1.len t131_1.cap]] w_13 fun e_4 w_14 =>
        ∃ t132 : Int, (e_4 = .returned (.int .i64 t132)) ∧
        (S_2 w_14) ∧
        Br (decide (t127 ≥ t132))
         (K (.bool false) w_14)
         (Br (decide (k8 > 0))
           (∃ t140 : Sl, (At S_2 ⟨b_h7, 0 + 3, none⟩ [.slice t140.a t140.len t140.cap]) ∧
            Rng k8 t140.len (NilP t140.a fun a_t142 =>
            ∃ t143 : Int, (At S_2 (Addr.add a_t142 k8.toNat) [.int .i64 t143]) ∧
            ∃ t145 : Sl, (At S_2 ⟨b_h7, 0 + 3, none⟩ [.slice t145.a t145.len t145.cap]) ∧
            Rng (IntKind.i64.wrap (k8 - 1)) t145.len (NilP t145.a fun a_t148 =>
            ∃ t149 : Int, (At S_2 (Addr.add a_t148 ((IntKind.i64.wrap (k8 - 1)).toNat)) [.int .i64 t149]) ∧
            Br (decide (t143 ≤ t149))
             (K (.bool false) w_14)
             (∃ t155 : Sl, (At (fun w' => w' = w_14) ⟨b_h7, 0 + 3, none⟩ [.slice t155.a t155.len t155.cap]) ∧
              Rng k8 t155.len (NilP t155.a fun a_t157 =>
              ∃ t158 : Int, (At (fun w' => w' = w_14) (Addr.add a_t157 k8.toNat) [.int .i64 t158]) ∧
              New (.cells #[.int .i64 t158] 3 (0, 0)) (fun b_t159 w_15 =>
              ∃ w_16 : World, ∃ t160 : Sl, ((Builtin.append_ #[33, 33] 33 #[.slice told5_1.a told5_1.len told5_1.cap, .slice ((some ⟨b_t159, 0, none⟩)) 1 1]).run Tryz.prog w_15 = .ok (.slice t160.a t160.len t160.cap) w_16) ∧
              (I_1 t160 (IntKind.i64.wrap (k8 + 1)) w_16) ∧ μ_1 t160 (IntKind.i64.wrap (k8 + 1)) w_16 < μ_1 told5_1 k8 w_11) w_14)))))
           (∃ t155_1 : Sl, (At (fun w' => w' = w_14) ⟨b_h7, 0 + 3, none⟩ [.slice t155_1.a t155_1.len t155_1.cap]) ∧
            Rng k8 t155_1.len (NilP t155_1.a fun a_t157_1 =>
            ∃ t158_1 : Int, (At (fun w' => w' = w_14) (Addr.add a_t157_1 k8.toNat) [.int .i64 t158_1]) ∧
            New (.cells #[.int .i64 t158_1] 3 (0, 0)) (fun b_t159_1 w_17 =>
            ∃ w_18 : World, ∃ t160_1 : Sl, ((Builtin.append_ #[33, 33] 33 #[.slice told5_1.a told5_1.len told5_1.cap, .slice ((some ⟨b_t159_1, 0, none⟩)) 1 1]).run Tryz.prog w_17 = .ok (.slice t160_1.a t160_1.len t160_1.cap) w_18) ∧
            (I_1 t160_1 (IntKind.i64.wrap (k8 + 1)) w_18) ∧ μ_1 t160_1 (IntKind.i64.wrap (k8 + 1)) w_18 < μ_1 told5_1 k8 w_11) w_14)))))))
     ((I told5_1 (IntKind.i64.wrap (i6 + 1)) w_11) ∧ μ told5_1 (IntKind.i64.wrap (i6 + 1)) w_11 < μ told5 i6 w_6)) w_6))
   (Drw w_6 fun S_3 w_19 =>
    NilP f0 fun a_t162 =>
    ∃ t164 : Sl, (At S_3 ⟨a_t162.block, a_t162.off + 3, none⟩ [.slice t164.a t164.len t164.cap]) ∧
    Calls Tryz.prog 47 #[.pointer f0] w_19 fun e_5 w_20 =>
    ∃ t166 : Sl, (e_5 = .returned (.slice t166.a t166.len t166.cap)) ∧
    (S_3 w_20) ∧
    Calls Tryz.prog 18 #[.slice t164.a t164.len t164.cap, .slice t166.a t166.len t166.cap] w_20 fun e_6 w_21 =>
    ∃ t167 : Bool, (e_6 = .returned (.bool t167)) ∧
    K (.bool t167) w_21)

def sk43 : Sk := (.seq .leaf (.seq .leaf (.seq .leaf (.cut [] [] [2, 20, 21, 22, 23, 24, 25, 26, 27, 28, 29, 30, 31, 32, 33, 34, 35, 36, 37, 38, 39, 40, 41, 42, 43, 44, 45, 46] .leaf (.seq .leaf (.seq (.seq .leaf (.block (.loop [5, 6] [.sl, (.int .i64)] [2, 5, 6, 7, 8, 9, 47, 48, 49, 50, 51, 52, 53, 54, 55, 56, 57, 58, 59, 60, 61, 62, 63, 64, 65, 66, 67, 68, 69, 70, 71, 72, 73, 74, 75, 76, 77, 78, 79, 80, 81, 82, 83, 84, 85, 86, 87, 88, 89, 90, 91, 92, 93, 94, 95, 96, 97, 98, 99, 100, 101, 102, 103, 104, 105, 106, 107, 108, 109, 110, 111, 112, 113, 114, 115, 116, 117, 118, 119, 120, 121, 122, 123, 124, 125, 126, 127, 128, 129, 130, 131, 132, 133, 134, 135, 136, 137, 138, 139, 140, 141, 142, 143, 144, 145, 146, 147, 148, 149, 150, 151, 152, 153, 154, 155, 156, 157, 158, 159, 160] (.seq .leaf (.seq (.block (.seq .leaf (.cut [] [] [2, 63, 64, 65, 66, 67, 68, 69, 70, 71, 72, 73, 74, 75, 76, 77, 78, 79, 80, 81, 82, 83, 84, 85, 86, 87, 88, 89, 90, 91, 92, 93, 94, 95, 96, 97, 98, 99, 100, 101, 102, 103, 104, 105, 106] .leaf (.seq .leaf (.block (.loop [5, 8] [.sl, (.int .i64)] [2, 5, 8, 9, 107, 108, 109, 110, 111, 112, 113, 114, 115, 116, 117, 118, 119, 120, 121, 122, 123, 124, 125, 126, 127, 128, 129, 130, 131, 132, 133, 134, 135, 136, 137, 138, 139, 140, 141, 142, 143, 144, 145, 146, 147, 148, 149, 150, 151, 152, 153, 154, 155, 156, 157, 158, 159, 160] .leaf)))))) .leaf))))) .leaf))))))
theorem ok43 : fnOk Tryz.prog Tryz.f43.ntmps Tryz.f43 sk43 = true := by kernel_rfl
theorem eq43 (f0 : Option Addr) (K : Value → World → Prop) (w : World) : fnF Tryz.prog cl Tryz.f43 sk43 [.pointer f0] K w = B43 f0 K w := by kernel_rfl
theorem call43 (f0 : Option Addr) (K : Value → World → Prop) (w : World) (h : B43 f0 K w) : Gets Tryz.prog 43 #[.pointer f0] w K :=
  calls_of (sk := sk43) cl_ok mixed Tryz.func43 ok43 (args := [.pointer f0]) (Nat.le_of_ble_eq_true (by kernel_rfl)) (by rw [eq43]; exact h)

/-- jetway/jetwayref15.SameHolds. -/
def B28 (a0 : Sl) (b1 : Sl) (K : Value → World → Prop) (w : World) : Prop :=
  Br ((↑a0.len : Int) != (↑b1.len : Int))
   (K (.bool false) w)
   (∃ (I : Int → World → Prop) (μ : Int → World → Nat), (I 0 w) ∧ ∀ (z : Env) (i5 : Int) (w_1 : World), I i5 w_1 →
    Br (decide (i5 < (↑a0.len : Int)))
     (Drw w_1 fun S w_2 =>
      Rng i5 a0.len (NilP a0.a fun a_t20 =>
      ∃ t22 : Sl, (At S ⟨(a_t20.add (mulS i5.toNat 4)).block, (a_t20.add (mulS i5.toNat 4)).off + 3, none⟩ [.slice t22.a t22.len t22.cap]) ∧
      Rng i5 b1.len (NilP b1.a fun a_t25 =>
      ∃ t27 : Sl, (At S ⟨(a_t25.add (mulS i5.toNat 4)).block, (a_t25.add (mulS i5.toNat 4)).off + 3, none⟩ [.slice t27.a t27.len t27.cap]) ∧
      Calls Tryz.prog 44 #[.slice t22.a t22.len t22.cap, .slice t27.a t27.len t27.cap] w_2 fun e w_3 =>
      ∃ t28 : Bool, (e = .returned (.bool t28)) ∧
      Drw w_3 fun S_1 w_4 =>
      Rng i5 a0.len (NilP a0.a fun a_t31 =>
      ∃ t33 : Int, (At S_1 (Addr.add (Addr.add a_t31 (mulS i5.toNat 4)) 0) [.int .i64 t33]) ∧
      Rng i5 b1.len (NilP b1.a fun a_t36 =>
      ∃ t38 : Int, (At S_1 (Addr.add (Addr.add a_t36 (mulS i5.toNat 4)) 0) [.int .i64 t38]) ∧
      Br (t33 != t38)
       (K (.bool false) w_4)
       (Rng i5 a0.len (NilP a0.a fun a_t43 =>
        ∃ t45 : Int, (At S_1 ⟨(a_t43.add (mulS i5.toNat 4)).block, (a_t43.add (mulS i5.toNat 4)).off + 1, none⟩ [.int .i64 t45]) ∧
        Rng i5 b1.len (NilP b1.a fun a_t48 =>
        ∃ t50 : Int, (At S_1 ⟨(a_t48.add (mulS i5.toNat 4)).block, (a_t48.add (mulS i5.toNat 4)).off + 1, none⟩ [.int .i64 t50]) ∧
        Br (t45 != t50)
         (K (.bool false) w_4)
         (Rng i5 a0.len (NilP a0.a fun a_t56 =>
          ∃ t58 : Int, (At S_1 ⟨(a_t56.add (mulS i5.toNat 4)).block, (a_t56.add (mulS i5.toNat 4)).off + 2, none⟩ [.int .i64 t58]) ∧
          Rng i5 b1.len (NilP b1.a fun a_t61 =>
          ∃ t63 : Int, (At S_1 ⟨(a_t61.add (mulS i5.toNat 4)).block, (a_t61.add (mulS i5.toNat 4)).off + 2, none⟩ [.int .i64 t63]) ∧
          Br (t58 != t63)
           (K (.bool false) w_4)
           (Br (!t28)
             (K (.bool false) w_4)
             ((I (IntKind.i64.wrap (i5 + 1)) w_4) ∧ μ (IntKind.i64.wrap (i5 + 1)) w_4 < μ i5 w_1)))))))))))))
     (K (.bool true) w_1))

def sk28 : Sk := (.seq .leaf (.seq .leaf (.seq (.seq .leaf (.block (.loop [5] [(.int .i64)] [4, 5, 6, 12, 13, 14, 15, 16, 17, 18, 19, 20, 21, 22, 23, 24, 25, 26, 27, 28, 29, 30, 31, 32, 33, 34, 35, 36, 37, 38, 39, 40, 41, 42, 43, 44, 45, 46, 47, 48, 49, 50, 51, 52, 53, 54, 55, 56, 57, 58, 59, 60, 61, 62, 63, 64, 65, 66, 67, 68, 69] .leaf))) .leaf)))
theorem ok28 : fnOk Tryz.prog Tryz.f28.ntmps Tryz.f28 sk28 = true := by kernel_rfl
theorem eq28 (a0 : Sl) (b1 : Sl) (K : Value → World → Prop) (w : World) : fnF Tryz.prog cl Tryz.f28 sk28 [.slice a0.a a0.len a0.cap, .slice b1.a b1.len b1.cap] K w = B28 a0 b1 K w := by kernel_rfl
theorem call28 (a0 : Sl) (b1 : Sl) (K : Value → World → Prop) (w : World) (h : B28 a0 b1 K w) : Gets Tryz.prog 28 #[.slice a0.a a0.len a0.cap, .slice b1.a b1.len b1.cap] w K :=
  calls_of (sk := sk28) cl_ok mixed Tryz.func28 ok28 (args := [.slice a0.a a0.len a0.cap, .slice b1.a b1.len b1.cap]) (Nat.le_of_ble_eq_true (by kernel_rfl)) (by rw [eq28]; exact h)

/-- jetway/jetwayref15.SameTexts. -/
def B21 (a0 : Sl) (b1 : Sl) (K : Value → World → Prop) (w : World) : Prop :=
  Br ((↑a0.len : Int) != (↑b1.len : Int))
   (K (.bool false) w)
   (∃ (I : Int → World → Prop) (μ : Int → World → Nat), (I 0 w) ∧ ∀ (z : Env) (i5 : Int) (w_1 : World), I i5 w_1 →
    Br (decide (i5 < (↑a0.len : Int)))
     (Drw w_1 fun S w_2 =>
      Rng i5 a0.len (NilP a0.a fun a_t19 =>
      ∃ t20 : ByteArray, (At S (Addr.add a_t19 i5.toNat) [.string t20]) ∧
      Rng i5 b1.len (NilP b1.a fun a_t23 =>
      ∃ t24 : ByteArray, (At S (Addr.add a_t23 i5.toNat) [.string t24]) ∧
      Br (!t20.toList == t24.toList)
       (K (.bool false) w_2)
       ((I (IntKind.i64.wrap (i5 + 1)) w_2) ∧ μ (IntKind.i64.wrap (i5 + 1)) w_2 < μ i5 w_1))))
     (K (.bool true) w_1))

def sk21 : Sk := (.seq .leaf (.seq .leaf (.seq (.seq .leaf (.block (.loop [5] [(.int .i64)] [4, 5, 11, 12, 13, 14, 15, 16, 17, 18, 19, 20, 21, 22, 23, 24, 25] .leaf))) .leaf)))
theorem ok21 : fnOk Tryz.prog Tryz.f21.ntmps Tryz.f21 sk21 = true := by kernel_rfl
theorem eq21 (a0 : Sl) (b1 : Sl) (K : Value → World → Prop) (w : World) : fnF Tryz.prog cl Tryz.f21 sk21 [.slice a0.a a0.len a0.cap, .slice b1.a b1.len b1.cap] K w = B21 a0 b1 K w := by kernel_rfl
theorem call21 (a0 : Sl) (b1 : Sl) (K : Value → World → Prop) (w : World) (h : B21 a0 b1 K w) : Gets Tryz.prog 21 #[.slice a0.a a0.len a0.cap, .slice b1.a b1.len b1.cap] w K :=
  calls_of (sk := sk21) cl_ok mixed Tryz.func21 ok21 (args := [.slice a0.a a0.len a0.cap, .slice b1.a b1.len b1.cap]) (Nat.le_of_ble_eq_true (by kernel_rfl)) (by rw [eq21]; exact h)

end Go.Proofs.YtaacfjdknlglhaaGreatDoor
