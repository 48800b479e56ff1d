/- The formulas of functions of this seat's translation, printed by a program of mine off the translation; each is proved equal to 'fnF' of the function's body, so it is enough for the call. No condition. -/
import Derived.Test.YtjbpncdealpmhaaQB1
namespace Go.Proofs.Ytjbpncdealpmhaa
open Go Go.VC
set_option linter.unusedVariables false
/-- jetway/jetwaylaw09.QuorumMiddles. -/
def B4 (g0_0 : Sl) (g0_1 : Sl) (at1 : Value) (K : Value → World → Prop) (w : World) : Prop :=
  New (.cells #[.slice g0_0.a g0_0.len g0_0.cap, .slice g0_1.a g0_1.len g0_1.cap] 24 (0, 0)) (fun b_g2 w_1 =>
  New (.cells (Value.cells at1) 30 (0, 0)) (fun b_at3 w_2 =>
  Calls Try.prog 10 #[] w_2 fun e w_3 =>
  ∃ t7 : Bool, (e = .returned (.bool t7)) ∧
  ∃ t8 : Sl, ∃ t8_1 : Sl, (At (fun w' => w' = w_3) ⟨b_g2, 0, none⟩ [.slice t8.a t8.len t8.cap, .slice t8_1.a t8_1.len t8_1.cap]) ∧
  Calls Try.prog 11 #[.agg #[.slice t8.a t8.len t8.cap, .slice t8_1.a t8_1.len t8_1.cap], .slice none 0 0] w_3 fun e_1 w_4 =>
  ∃ t9 : Bool, (e_1 = .returned (.bool t9)) ∧
  Br (!t7)
   (K (.bool t7) w_4)
   (Br (!t9)
     (K (.bool t7) w_4)
     (Drw w_4 fun S w_5 =>
      ∃ t17 : Sl, ∃ t17_1 : Sl, (At S ⟨b_g2, 0, none⟩ [.slice t17.a t17.len t17.cap, .slice t17_1.a t17_1.len t17_1.cap]) ∧
      ∃ t18 : List Value, (t18.length = 16) ∧
      (At S ⟨b_at3, 0, none⟩ t18) ∧
      ∃ t20 : Sl, ∃ t20_1 : Sl, (At S ⟨b_g2, 0, none⟩ [.slice t20.a t20.len t20.cap, .slice t20_1.a t20_1.len t20_1.cap]) ∧
      ∃ t21 : List Value, (t21.length = 16) ∧
      (At S ⟨b_at3, 0, none⟩ t21) ∧
      Calls Try.prog 20 #[.agg #[.slice t17.a t17.len t17.cap, .slice t17_1.a t17_1.len t17_1.cap], .agg t18.toArray] w_5 fun e_2 w_6 =>
      ∃ t19 : Int, (e_2 = .returned (.int .i64 t19)) ∧
      (S w_6) ∧
      Calls Try.prog 21 #[.agg #[.slice t20.a t20.len t20.cap, .slice t20_1.a t20_1.len t20_1.cap], .agg t21.toArray] w_6 fun e_3 w_7 =>
      ∃ t22 : Int, (e_3 = .returned (.int .i64 t22)) ∧
      (S w_7) ∧
      K (.bool (t19 == t22)) w_7))) w_1) w

def sk4 : Sk := .leaf
theorem ok4 : fnOk Try.prog Try.f4.ntmps Try.f4 sk4 = true := by kernel_rfl
theorem eq4 (g0_0 : Sl) (g0_1 : Sl) (at1 : Value) (K : Value → World → Prop) (w : World) : fnF Try.prog cl Try.f4 sk4 [.agg #[.slice g0_0.a g0_0.len g0_0.cap, .slice g0_1.a g0_1.len g0_1.cap], at1] K w = B4 g0_0 g0_1 at1 K w := by kernel_rfl
theorem call4 (g0_0 : Sl) (g0_1 : Sl) (at1 : Value) (K : Value → World → Prop) (w : World) (h : B4 g0_0 g0_1 at1 K w) : Gets Try.prog 4 #[.agg #[.slice g0_0.a g0_0.len g0_0.cap, .slice g0_1.a g0_1.len g0_1.cap], at1] w K :=
  calls_of (sk := sk4) cl_ok mixed Try.func4 ok4 (args := [.agg #[.slice g0_0.a g0_0.len g0_0.cap, .slice g0_1.a g0_1.len g0_1.cap], at1]) (Nat.le_of_ble_eq_true (by kernel_rfl)) (by rw [eq4]; exact h)

/-- jetway/jetwaylaw09.QuorumRises. -/
def B5 (g0_0 : Sl) (g0_1 : Sl) (at1 : Value) (more2 : Value) (K : Value → World → Prop) (w : World) : Prop :=
  New (.cells #[.slice g0_0.a g0_0.len g0_0.cap, .slice g0_1.a g0_1.len g0_1.cap] 24 (0, 0)) (fun b_g3 w_1 =>
  New (.cells (Value.cells at1) 30 (0, 0)) (fun b_at4 w_2 =>
  New (.cells (Value.cells more2) 30 (0, 0)) (fun b_more5 w_3 =>
  Calls Try.prog 10 #[] w_3 fun e w_4 =>
  ∃ t13 : Bool, (e = .returned (.bool t13)) ∧
  ∃ t14 : Sl, ∃ t14_1 : Sl, (At (fun w' => w' = w_4) ⟨b_g3, 0, none⟩ [.slice t14.a t14.len t14.cap, .slice t14_1.a t14_1.len t14_1.cap]) ∧
  Calls Try.prog 11 #[.agg #[.slice t14.a t14.len t14.cap, .slice t14_1.a t14_1.len t14_1.cap], .slice none 0 0] w_4 fun e_1 w_5 =>
  ∃ t15 : Bool, (e_1 = .returned (.bool t15)) ∧
  ∃ t16 : Sl, ∃ t16_1 : Sl, (At (fun w' => w' = w_5) ⟨b_g3, 0, none⟩ [.slice t16.a t16.len t16.cap, .slice t16_1.a t16_1.len t16_1.cap]) ∧
  Calls Try.prog 12 #[.agg #[.slice t16.a t16.len t16.cap, .slice t16_1.a t16_1.len t16_1.cap]] w_5 fun e_2 w_6 =>
  ∃ t17 : Bool, (e_2 = .returned (.bool t17)) ∧
  ∃ (J : World → Prop), (Br (!t13)
     (K (.bool t13) w_6)
     (Br (!t15)
       (K (.bool t13) w_6)
       (Br (!t17)
         (K (.bool t13) w_6)
         (J  w_6)))) ∧
  ∀ (z : Env)  (w_7 : World), J  w_7 →
  New (.cells #[.int .i64 0, .int .i64 0, .int .i64 0, .int .i64 0, .int .i64 0, .int .i64 0, .int .i64 0, .int .i64 0, .int .i64 0, .int .i64 0, .int .i64 0, .int .i64 0, .int .i64 0, .int .i64 0, .int .i64 0, .int .i64 0] 30 (0, 0)) (fun b_high10 w_8 =>
  New (.cells #[.int .i64 0, .int .i64 0, .int .i64 0, .int .i64 0, .int .i64 0, .int .i64 0, .int .i64 0, .int .i64 0, .int .i64 0, .int .i64 0, .int .i64 0, .int .i64 0, .int .i64 0, .int .i64 0, .int .i64 0, .int .i64 0] 30 (0, 0)) (fun b_same11 w_9 =>
  ∃ (I : Int → World → Prop) (μ : Int → World → Nat), (I 0 w_9) ∧ ∀ (z_1 : Env) (i12 : Int) (w_10 : World), I i12 w_10 →
  Br (decide (i12 < 16))
   (Drw w_10 fun S w_11 =>
    Rng i12 16 (∃ t36 : Int, (At S (Addr.add ⟨b_at4, 0, none⟩ i12.toNat) [.int .i64 t36]) ∧
    Rng i12 16 (∃ t39 : Int, (At S (Addr.add ⟨b_more5, 0, none⟩ i12.toNat) [.int .i64 t39]) ∧
    Rng i12 16 (∃ w_12 : World, ((Instr.storeAt 3 (.pointer ((some (Addr.add ⟨b_high10, 0, none⟩ i12.toNat)))) (.int .i64 (if t39 > t36 then t39 else t36))).run Try.prog w_11 = .ok () w_12) ∧
    ∃ t44 : Int, (At (fun w' => w' = w_12) (Addr.add ⟨b_at4, 0, none⟩ 0) [.int .i64 t44]) ∧
    Rng i12 16 (∃ w_13 : World, ((Instr.storeAt 3 (.pointer ((some (Addr.add ⟨b_same11, 0, none⟩ i12.toNat)))) (.int .i64 t44)).run Try.prog w_12 = .ok () w_13) ∧
    (I (IntKind.i64.wrap (i12 + 1)) w_13) ∧ μ (IntKind.i64.wrap (i12 + 1)) w_13 < μ i12 w_10)))))
   (Drw w_10 fun S_1 w_14 =>
    ∃ t46 : Sl, ∃ t46_1 : Sl, (At S_1 ⟨b_g3, 0, none⟩ [.slice t46.a t46.len t46.cap, .slice t46_1.a t46_1.len t46_1.cap]) ∧
    ∃ t47 : List Value, (t47.length = 16) ∧
    (At S_1 ⟨b_high10, 0, none⟩ t47) ∧
    ∃ t49 : Sl, ∃ t49_1 : Sl, (At S_1 ⟨b_g3, 0, none⟩ [.slice t49.a t49.len t49.cap, .slice t49_1.a t49_1.len t49_1.cap]) ∧
    ∃ t50 : List Value, (t50.length = 16) ∧
    (At S_1 ⟨b_at4, 0, none⟩ t50) ∧
    Calls Try.prog 20 #[.agg #[.slice t46.a t46.len t46.cap, .slice t46_1.a t46_1.len t46_1.cap], .agg t47.toArray] w_14 fun e_3 w_15 =>
    ∃ t48 : Int, (e_3 = .returned (.int .i64 t48)) ∧
    (S_1 w_15) ∧
    Calls Try.prog 20 #[.agg #[.slice t49.a t49.len t49.cap, .slice t49_1.a t49_1.len t49_1.cap], .agg t50.toArray] w_15 fun e_4 w_16 =>
    ∃ t51 : Int, (e_4 = .returned (.int .i64 t51)) ∧
    (S_1 w_16) ∧
    Br (decide (t48 ≥ t51))
     (∃ t54 : Sl, ∃ t54_1 : Sl, (At S_1 ⟨b_g3, 0, none⟩ [.slice t54.a t54.len t54.cap, .slice t54_1.a t54_1.len t54_1.cap]) ∧
      ∃ t55 : List Value, (t55.length = 16) ∧
      (At S_1 ⟨b_same11, 0, none⟩ t55) ∧
      ∃ t58 : Int, (At S_1 (Addr.add ⟨b_at4, 0, none⟩ 0) [.int .i64 t58]) ∧
      Calls Try.prog 20 #[.agg #[.slice t54.a t54.len t54.cap, .slice t54_1.a t54_1.len t54_1.cap], .agg t55.toArray] w_16 fun e_5 w_17 =>
      ∃ t56 : Int, (e_5 = .returned (.int .i64 t56)) ∧
      (S_1 w_17) ∧
      K (.bool (t56 == t58)) w_17)
     (K (.bool false) w_16))) w_8) w_7) w_2) w_1) w

def sk5 : Sk := (.seq .leaf (.seq .leaf (.seq .leaf (.seq .leaf (.cut [] [] [6, 18, 19, 20, 21, 22, 23, 24, 25, 26, 27, 28] .leaf (.seq .leaf (.seq (.seq .leaf (.block (.loop [12] [(.int .i64)] [12, 29, 30, 31, 32, 33, 34, 35, 36, 37, 38, 39, 40, 41, 42, 43, 44, 45] .leaf))) .leaf)))))))
theorem ok5 : fnOk Try.prog Try.f5.ntmps Try.f5 sk5 = true := by kernel_rfl
theorem eq5 (g0_0 : Sl) (g0_1 : Sl) (at1 : Value) (more2 : Value) (K : Value → World → Prop) (w : World) : fnF Try.prog cl Try.f5 sk5 [.agg #[.slice g0_0.a g0_0.len g0_0.cap, .slice g0_1.a g0_1.len g0_1.cap], at1, more2] K w = B5 g0_0 g0_1 at1 more2 K w := by kernel_rfl
theorem call5 (g0_0 : Sl) (g0_1 : Sl) (at1 : Value) (more2 : Value) (K : Value → World → Prop) (w : World) (h : B5 g0_0 g0_1 at1 more2 K w) : Gets Try.prog 5 #[.agg #[.slice g0_0.a g0_0.len g0_0.cap, .slice g0_1.a g0_1.len g0_1.cap], at1, more2] w K :=
  calls_of (sk := sk5) cl_ok mixed Try.func5 ok5 (args := [.agg #[.slice g0_0.a g0_0.len g0_0.cap, .slice g0_1.a g0_1.len g0_1.cap], at1, more2]) (Nat.le_of_ble_eq_true (by kernel_rfl)) (by rw [eq5]; exact h)

/-- jetway/jetwaylaw09.QuorumOnce. -/
def B6 (g0_0 : Sl) (g0_1 : Sl) (l1 : Sl) (at2 : Value) (K : Value → World → Prop) (w : World) : Prop :=
  New (.cells #[.slice g0_0.a g0_0.len g0_0.cap, .slice g0_1.a g0_1.len g0_1.cap] 24 (0, 0)) (fun b_g3 w_1 =>
  New (.cells (Value.cells at2) 30 (0, 0)) (fun b_at5 w_2 =>
  Calls Try.prog 10 #[] w_2 fun e w_3 =>
  ∃ t17 : Bool, (e = .returned (.bool t17)) ∧
  ∃ t18 : Sl, ∃ t18_1 : Sl, (At (fun w' => w' = w_3) ⟨b_g3, 0, none⟩ [.slice t18.a t18.len t18.cap, .slice t18_1.a t18_1.len t18_1.cap]) ∧
  New (.cells #[.slice l1.a l1.len l1.cap] 22 (0, 0)) (fun b_t20 w_4 =>
  Calls Try.prog 11 #[.agg #[.slice t18.a t18.len t18.cap, .slice t18_1.a t18_1.len t18_1.cap], .slice ((some ⟨b_t20, 0, none⟩)) 1 1] w_4 fun e_1 w_5 =>
  ∃ t21 : Bool, (e_1 = .returned (.bool t21)) ∧
  ∃ t22 : Sl, ∃ t22_1 : Sl, (At (fun w' => w' = w_5) ⟨b_g3, 0, none⟩ [.slice t22.a t22.len t22.cap, .slice t22_1.a t22_1.len t22_1.cap]) ∧
  Calls Try.prog 12 #[.agg #[.slice t22.a t22.len t22.cap, .slice t22_1.a t22_1.len t22_1.cap]] w_5 fun e_2 w_6 =>
  ∃ t23 : Bool, (e_2 = .returned (.bool t23)) ∧
  ∃ (J : World → Prop), (Br (!t17)
     (K (.bool t17) w_6)
     (Br (!t21)
       (K (.bool t17) w_6)
       (Br (!t23)
         (K (.bool t17) w_6)
         (J  w_6)))) ∧
  ∀ (z : Env)  (w_7 : World), J  w_7 →
  ∃ t35 : Sl, ∃ t35_1 : Sl, (At (fun w' => w' = w_7) ⟨b_g3, 0, none⟩ [.slice t35.a t35.len t35.cap, .slice t35_1.a t35_1.len t35_1.cap]) ∧
  ∃ t36 : List Value, (t36.length = 16) ∧
  (At (fun w' => w' = w_7) ⟨b_at5, 0, none⟩ t36) ∧
  Calls Try.prog 20 #[.agg #[.slice t35.a t35.len t35.cap, .slice t35_1.a t35_1.len t35_1.cap], .agg t36.toArray] w_7 fun e_3 w_8 =>
  ∃ t37 : Int, (e_3 = .returned (.int .i64 t37)) ∧
  ∃ (I : Sl → Sl → Sl → Int → World → Prop) (μ : Sl → Sl → Sl → Int → World → Nat), (I ⟨none, 0, 0⟩ ⟨none, 0, 0⟩ ⟨none, 0, 0⟩ 0 w_8) ∧ ∀ (z_1 : Env) (others10 : Sl) (least11 : Sl) (more12 : Sl) (i14 : Int) (w_9 : World), I others10 least11 more12 i14 w_9 →
  ∃ t40 : Sl, (At (fun w' => w' = w_9) ⟨b_g3, 0, none⟩ [.slice t40.a t40.len t40.cap]) ∧
  Br (decide (i14 < (↑t40.len : Int)))
   (∃ t46 : Sl, (At (fun w' => w' = w_9) ⟨b_g3, 0, none⟩ [.slice t46.a t46.len t46.cap]) ∧
    Rng i14 t46.len (NilP t46.a fun a_t48 =>
    ∃ t49 : Int, (At (fun w' => w' = w_9) (Addr.add a_t48 i14.toNat) [.int .i64 t49]) ∧
    Calls Try.prog 22 #[.slice l1.a l1.len l1.cap, .int .i64 t49] w_9 fun e_4 w_10 =>
    ∃ t52 : Bool, (e_4 = .returned (.bool t52)) ∧
    ∃ (J_1 : Sl → World → Prop), (Br (!t52)
       (New (.cells #[.int .i64 t49] 3 (0, 0)) (fun b_t57 w_11 =>
        ∃ w_12 : World, ∃ t58 : Sl, ((Builtin.append_ #[22, 22] 22 #[.slice others10.a others10.len others10.cap, .slice ((some ⟨b_t57, 0, none⟩)) 1 1]).run Try.prog w_11 = .ok (.slice t58.a t58.len t58.cap) w_12) ∧
        J_1 t58 w_12) w_10)
       (J_1 others10 w_10)) ∧
    ∀ (z_2 : Env) (others10_1 : Sl) (w_13 : World), J_1 others10_1 w_13 →
    Rng t49 16 (∃ t61 : Int, (At (fun w' => w' = w_13) (Addr.add ⟨b_at5, 0, none⟩ t49.toNat) [.int .i64 t61]) ∧
    Br (decide (t61 ≥ t37))
     (New (.cells #[.int .i64 t49] 3 (0, 0)) (fun b_t66 w_14 =>
      ∃ w_15 : World, ∃ t67 : Sl, ((Builtin.append_ #[22, 22] 22 #[.slice least11.a least11.len least11.cap, .slice ((some ⟨b_t66, 0, none⟩)) 1 1]).run Try.prog w_14 = .ok (.slice t67.a t67.len t67.cap) w_15) ∧
      Rng t49 16 (∃ t70 : Int, (At (fun w' => w' = w_15) (Addr.add ⟨b_at5, 0, none⟩ t49.toNat) [.int .i64 t70]) ∧
      Br (decide (t70 > t37))
       (New (.cells #[.int .i64 t49] 3 (0, 0)) (fun b_t75 w_16 =>
        ∃ w_17 : World, ∃ t76 : Sl, ((Builtin.append_ #[22, 22] 22 #[.slice more12.a more12.len more12.cap, .slice ((some ⟨b_t75, 0, none⟩)) 1 1]).run Try.prog w_16 = .ok (.slice t76.a t76.len t76.cap) w_17) ∧
        (I others10_1 t67 t76 (IntKind.i64.wrap (i14 + 1)) w_17) ∧ μ others10_1 t67 t76 (IntKind.i64.wrap (i14 + 1)) w_17 < μ others10 least11 more12 i14 w_9) w_15)
       ((I others10_1 t67 more12 (IntKind.i64.wrap (i14 + 1)) w_15) ∧ μ others10_1 t67 more12 (IntKind.i64.wrap (i14 + 1)) w_15 < μ others10 least11 more12 i14 w_9))) w_13)
     (Rng t49 16 (∃ t70_1 : Int, (At (fun w' => w' = w_13) (Addr.add ⟨b_at5, 0, none⟩ t49.toNat) [.int .i64 t70_1]) ∧
      Br (decide (t70_1 > t37))
       (New (.cells #[.int .i64 t49] 3 (0, 0)) (fun b_t75_1 w_18 =>
        ∃ w_19 : World, ∃ t76_1 : Sl, ((Builtin.append_ #[22, 22] 22 #[.slice more12.a more12.len more12.cap, .slice ((some ⟨b_t75_1, 0, none⟩)) 1 1]).run Try.prog w_18 = .ok (.slice t76_1.a t76_1.len t76_1.cap) w_19) ∧
        (I others10_1 least11 t76_1 (IntKind.i64.wrap (i14 + 1)) w_19) ∧ μ others10_1 least11 t76_1 (IntKind.i64.wrap (i14 + 1)) w_19 < μ others10 least11 more12 i14 w_9) w_13)
       ((I others10_1 least11 more12 (IntKind.i64.wrap (i14 + 1)) w_13) ∧ μ others10_1 least11 more12 (IntKind.i64.wrap (i14 + 1)) w_13 < μ others10 least11 more12 i14 w_9))))))
   (∃ t77 : Sl, ∃ t77_1 : Sl, (At (fun w' => w' = w_9) ⟨b_g3, 0, none⟩ [.slice t77.a t77.len t77.cap, .slice t77_1.a t77_1.len t77_1.cap]) ∧
    Calls Try.prog 16 #[.agg #[.slice t77.a t77.len t77.cap, .slice t77_1.a t77_1.len t77_1.cap], .slice l1.a l1.len l1.cap] w_9 fun e_5 w_20 =>
    ∃ t79 : Bool, (e_5 = .returned (.bool t79)) ∧
    Br t79
     (∃ t81 : Sl, ∃ t81_1 : Sl, (At (fun w' => w' = w_20) ⟨b_g3, 0, none⟩ [.slice t81.a t81.len t81.cap, .slice t81_1.a t81_1.len t81_1.cap]) ∧
      Calls Try.prog 16 #[.agg #[.slice t81.a t81.len t81.cap, .slice t81_1.a t81_1.len t81_1.cap], .slice others10.a others10.len others10.cap] w_20 fun e_6 w_21 =>
      ∃ t83 : Bool, (e_6 = .returned (.bool t83)) ∧
      Br t83
       (K (.bool false) w_21)
       (∃ t86 : Sl, ∃ t86_1 : Sl, (At (fun w' => w' = w_21) ⟨b_g3, 0, none⟩ [.slice t86.a t86.len t86.cap, .slice t86_1.a t86_1.len t86_1.cap]) ∧
        Calls Try.prog 16 #[.agg #[.slice t86.a t86.len t86.cap, .slice t86_1.a t86_1.len t86_1.cap], .slice l1.a l1.len l1.cap] w_21 fun e_7 w_22 =>
        ∃ t88 : Bool, (e_7 = .returned (.bool t88)) ∧
        Br t88
         (∃ t90 : Sl, ∃ t90_1 : Sl, (At (fun w' => w' = w_22) ⟨b_g3, 0, none⟩ [.slice t90.a t90.len t90.cap, .slice t90_1.a t90_1.len t90_1.cap]) ∧
          Calls Try.prog 18 #[.agg #[.slice t90.a t90.len t90.cap, .slice t90_1.a t90_1.len t90_1.cap], .slice l1.a l1.len l1.cap] w_22 fun e_8 w_23 =>
          ∃ t92 : Bool, (e_8 = .returned (.bool t92)) ∧
          Br (!t92)
           (K (.bool false) w_23)
           (∃ t96 : Sl, ∃ t96_1 : Sl, (At (fun w' => w' = w_23) ⟨b_g3, 0, none⟩ [.slice t96.a t96.len t96.cap, .slice t96_1.a t96_1.len t96_1.cap]) ∧
            Calls Try.prog 16 #[.agg #[.slice t96.a t96.len t96.cap, .slice t96_1.a t96_1.len t96_1.cap], .slice least11.a least11.len least11.cap] w_23 fun e_9 w_24 =>
            ∃ t98 : Bool, (e_9 = .returned (.bool t98)) ∧
            Br t98
             (∃ t100 : Sl, ∃ t100_1 : Sl, (At (fun w' => w' = w_24) ⟨b_g3, 0, none⟩ [.slice t100.a t100.len t100.cap, .slice t100_1.a t100_1.len t100_1.cap]) ∧
              Calls Try.prog 16 #[.agg #[.slice t100.a t100.len t100.cap, .slice t100_1.a t100_1.len t100_1.cap], .slice more12.a more12.len more12.cap] w_24 fun e_10 w_25 =>
              ∃ t102 : Bool, (e_10 = .returned (.bool t102)) ∧
              K (.bool (!t102)) w_25)
             (K (.bool false) w_24)))
         (∃ t96_2 : Sl, ∃ t96_3 : Sl, (At (fun w' => w' = w_22) ⟨b_g3, 0, none⟩ [.slice t96_2.a t96_2.len t96_2.cap, .slice t96_3.a t96_3.len t96_3.cap]) ∧
          Calls Try.prog 16 #[.agg #[.slice t96_2.a t96_2.len t96_2.cap, .slice t96_3.a t96_3.len t96_3.cap], .slice least11.a least11.len least11.cap] w_22 fun e_11 w_26 =>
          ∃ t98_1 : Bool, (e_11 = .returned (.bool t98_1)) ∧
          Br t98_1
           (∃ t100_2 : Sl, ∃ t100_3 : Sl, (At (fun w' => w' = w_26) ⟨b_g3, 0, none⟩ [.slice t100_2.a t100_2.len t100_2.cap, .slice t100_3.a t100_3.len t100_3.cap]) ∧
            Calls Try.prog 16 #[.agg #[.slice t100_2.a t100_2.len t100_2.cap, .slice t100_3.a t100_3.len t100_3.cap], .slice more12.a more12.len more12.cap] w_26 fun e_12 w_27 =>
            ∃ t102_1 : Bool, (e_12 = .returned (.bool t102_1)) ∧
            K (.bool (!t102_1)) w_27)
           (K (.bool false) w_26))))
     (∃ t86_2 : Sl, ∃ t86_3 : Sl, (At (fun w' => w' = w_20) ⟨b_g3, 0, none⟩ [.slice t86_2.a t86_2.len t86_2.cap, .slice t86_3.a t86_3.len t86_3.cap]) ∧
      Calls Try.prog 16 #[.agg #[.slice t86_2.a t86_2.len t86_2.cap, .slice t86_3.a t86_3.len t86_3.cap], .slice l1.a l1.len l1.cap] w_20 fun e_13 w_28 =>
      ∃ t88_1 : Bool, (e_13 = .returned (.bool t88_1)) ∧
      Br t88_1
       (∃ t90_2 : Sl, ∃ t90_3 : Sl, (At (fun w' => w' = w_28) ⟨b_g3, 0, none⟩ [.slice t90_2.a t90_2.len t90_2.cap, .slice t90_3.a t90_3.len t90_3.cap]) ∧
        Calls Try.prog 18 #[.agg #[.slice t90_2.a t90_2.len t90_2.cap, .slice t90_3.a t90_3.len t90_3.cap], .slice l1.a l1.len l1.cap] w_28 fun e_14 w_29 =>
        ∃ t92_1 : Bool, (e_14 = .returned (.bool t92_1)) ∧
        Br (!t92_1)
         (K (.bool false) w_29)
         (∃ t96_4 : Sl, ∃ t96_5 : Sl, (At (fun w' => w' = w_29) ⟨b_g3, 0, none⟩ [.slice t96_4.a t96_4.len t96_4.cap, .slice t96_5.a t96_5.len t96_5.cap]) ∧
          Calls Try.prog 16 #[.agg #[.slice t96_4.a t96_4.len t96_4.cap, .slice t96_5.a t96_5.len t96_5.cap], .slice least11.a least11.len least11.cap] w_29 fun e_15 w_30 =>
          ∃ t98_2 : Bool, (e_15 = .returned (.bool t98_2)) ∧
          Br t98_2
           (∃ t100_4 : Sl, ∃ t100_5 : Sl, (At (fun w' => w' = w_30) ⟨b_g3, 0, none⟩ [.slice t100_4.a t100_4.len t100_4.cap, .slice t100_5.a t100_5.len t100_5.cap]) ∧
            Calls Try.prog 16 #[.agg #[.slice t100_4.a t100_4.len t100_4.cap, .slice t100_5.a t100_5.len t100_5.cap], .slice more12.a more12.len more12.cap] w_30 fun e_16 w_31 =>
            ∃ t102_2 : Bool, (e_16 = .returned (.bool t102_2)) ∧
            K (.bool (!t102_2)) w_31)
           (K (.bool false) w_30)))
       (∃ t96_6 : Sl, ∃ t96_7 : Sl, (At (fun w' => w' = w_28) ⟨b_g3, 0, none⟩ [.slice t96_6.a t96_6.len t96_6.cap, .slice t96_7.a t96_7.len t96_7.cap]) ∧
        Calls Try.prog 16 #[.agg #[.slice t96_6.a t96_6.len t96_6.cap, .slice t96_7.a t96_7.len t96_7.cap], .slice least11.a least11.len least11.cap] w_28 fun e_17 w_32 =>
        ∃ t98_3 : Bool, (e_17 = .returned (.bool t98_3)) ∧
        Br t98_3
         (∃ t100_6 : Sl, ∃ t100_7 : Sl, (At (fun w' => w' = w_32) ⟨b_g3, 0, none⟩ [.slice t100_6.a t100_6.len t100_6.cap, .slice t100_7.a t100_7.len t100_7.cap]) ∧
          Calls Try.prog 16 #[.agg #[.slice t100_6.a t100_6.len t100_6.cap, .slice t100_7.a t100_7.len t100_7.cap], .slice more12.a more12.len more12.cap] w_32 fun e_18 w_33 =>
          ∃ t102_3 : Bool, (e_18 = .returned (.bool t102_3)) ∧
          K (.bool (!t102_3)) w_33)
         (K (.bool false) w_32))))) w_3) w_1) w

def sk6 : Sk := (.seq .leaf (.seq .leaf (.seq .leaf (.seq .leaf (.cut [] [] [6, 24, 25, 26, 27, 28, 29, 30, 31, 32, 33, 34] .leaf (.seq .leaf (.seq .leaf (.seq (.seq .leaf (.block (.loop [10, 11, 12, 14] [.sl, .sl, .sl, (.int .i64)] [10, 11, 12, 14, 15, 16, 38, 39, 40, 41, 42, 43, 44, 45, 46, 47, 48, 49, 50, 51, 52, 53, 54, 55, 56, 57, 58, 59, 60, 61, 62, 63, 64, 65, 66, 67, 68, 69, 70, 71, 72, 73, 74, 75, 76] (.seq .leaf (.seq (.block (.seq .leaf (.seq .leaf (.cut [10] [.sl] [10, 53, 54, 55, 56, 57, 58] .leaf .leaf)))) .leaf))))) .leaf))))))))
theorem ok6 : fnOk Try.prog Try.f6.ntmps Try.f6 sk6 = true := by kernel_rfl
theorem eq6 (g0_0 : Sl) (g0_1 : Sl) (l1 : Sl) (at2 : Value) (K : Value → World → Prop) (w : World) : fnF Try.prog cl Try.f6 sk6 [.agg #[.slice g0_0.a g0_0.len g0_0.cap, .slice g0_1.a g0_1.len g0_1.cap], .slice l1.a l1.len l1.cap, at2] K w = B6 g0_0 g0_1 l1 at2 K w := by kernel_rfl
theorem call6 (g0_0 : Sl) (g0_1 : Sl) (l1 : Sl) (at2 : Value) (K : Value → World → Prop) (w : World) (h : B6 g0_0 g0_1 l1 at2 K w) : Gets Try.prog 6 #[.agg #[.slice g0_0.a g0_0.len g0_0.cap, .slice g0_1.a g0_1.len g0_1.cap], .slice l1.a l1.len l1.cap, at2] w K :=
  calls_of (sk := sk6) cl_ok mixed Try.func6 ok6 (args := [.agg #[.slice g0_0.a g0_0.len g0_0.cap, .slice g0_1.a g0_1.len g0_1.cap], .slice l1.a l1.len l1.cap, at2]) (Nat.le_of_ble_eq_true (by kernel_rfl)) (by rw [eq6]; exact h)

/-- jetway/jetwaylaw09.QuorumChanges. -/
def B7 (g0_0 : Sl) (g0_1 : Sl) (kind1 : Int) (node2 : Int) (K : Value → World → Prop) (w : World) : Prop :=
  New (.cells #[.slice g0_0.a g0_0.len g0_0.cap, .slice g0_1.a g0_1.len g0_1.cap] 24 (0, 0)) (fun b_g3 w_1 =>
  Calls Try.prog 10 #[] w_1 fun e w_2 =>
  ∃ t14 : Bool, (e = .returned (.bool t14)) ∧
  ∃ t15 : Sl, ∃ t15_1 : Sl, (At (fun w' => w' = w_2) ⟨b_g3, 0, none⟩ [.slice t15.a t15.len t15.cap, .slice t15_1.a t15_1.len t15_1.cap]) ∧
  Calls Try.prog 11 #[.agg #[.slice t15.a t15.len t15.cap, .slice t15_1.a t15_1.len t15_1.cap], .slice none 0 0] w_2 fun e_1 w_3 =>
  ∃ t16 : Bool, (e_1 = .returned (.bool t16)) ∧
  ∃ (J : World → Prop), (Br (!t14)
     (K (.bool t14) w_3)
     (Br (!t16)
       (K (.bool t14) w_3)
       (J  w_3))) ∧
  ∀ (z : Env)  (w_4 : World), J  w_4 →
  ∃ t25 : Sl, ∃ t25_1 : Sl, (At (fun w' => w' = w_4) ⟨b_g3, 0, none⟩ [.slice t25.a t25.len t25.cap, .slice t25_1.a t25_1.len t25_1.cap]) ∧
  Calls Try.prog 23 #[.agg #[.slice t25.a t25.len t25.cap, .slice t25_1.a t25_1.len t25_1.cap], .int .i64 kind1, .int .i64 node2] w_4 fun e_2 w_5 =>
  ∃ t28 : Sl, ∃ t28_1 : Sl, ∃ t28_2 : Int, (e_2 = .returned (.tuple #[.agg #[.slice t28.a t28.len t28.cap, .slice t28_1.a t28_1.len t28_1.cap], .int .i64 t28_2])) ∧
  New (.cells #[.slice none 0 0, .slice none 0 0] 24 (0, 0)) (fun b_x9 w_6 =>
  ∃ w_7 : World, ((Instr.storeAt 24 (.pointer ((some ⟨b_x9, 0, none⟩))) (.agg #[.slice t28.a t28.len t28.cap, .slice t28_1.a t28_1.len t28_1.cap])).run Try.prog w_6 = .ok () w_7) ∧
  ∃ t32 : Sl, ∃ t32_1 : Sl, (At (fun w' => w' = w_7) ⟨b_g3, 0, none⟩ [.slice t32.a t32.len t32.cap, .slice t32_1.a t32_1.len t32_1.cap]) ∧
  Calls Try.prog 24 #[.agg #[.slice t32.a t32.len t32.cap, .slice t32_1.a t32_1.len t32_1.cap], .int .i64 kind1, .int .i64 node2] w_7 fun e_3 w_8 =>
  ∃ t35 : Sl, ∃ t35_1 : Sl, ∃ t35_2 : Int, (e_3 = .returned (.tuple #[.agg #[.slice t35.a t35.len t35.cap, .slice t35_1.a t35_1.len t35_1.cap], .int .i64 t35_2])) ∧
  New (.cells #[.slice none 0 0, .slice none 0 0] 24 (0, 0)) (fun b_want11 w_9 =>
  ∃ w_10 : World, ((Instr.storeAt 24 (.pointer ((some ⟨b_want11, 0, none⟩))) (.agg #[.slice t35.a t35.len t35.cap, .slice t35_1.a t35_1.len t35_1.cap])).run Try.prog w_9 = .ok () w_10) ∧
  ∃ t38 : Sl, ∃ t38_1 : Sl, (At (fun w' => w' = w_10) ⟨b_x9, 0, none⟩ [.slice t38.a t38.len t38.cap, .slice t38_1.a t38_1.len t38_1.cap]) ∧
  ∃ t39 : Sl, ∃ t39_1 : Sl, (At (fun w' => w' = w_10) ⟨b_want11, 0, none⟩ [.slice t39.a t39.len t39.cap, .slice t39_1.a t39_1.len t39_1.cap]) ∧
  Calls Try.prog 25 #[.agg #[.slice t38.a t38.len t38.cap, .slice t38_1.a t38_1.len t38_1.cap], .agg #[.slice t39.a t39.len t39.cap, .slice t39_1.a t39_1.len t39_1.cap]] w_10 fun e_4 w_11 =>
  ∃ t40 : Bool, (e_4 = .returned (.bool t40)) ∧
  Br t40
   (K (.bool (t28_2 == t35_2)) w_11)
   (K (.bool false) w_11)) w_8) w_5) w

def sk7 : Sk := (.seq .leaf (.seq .leaf (.seq .leaf (.cut [] [] [6, 17, 18, 19, 20, 21, 22, 23] .leaf .leaf))))
theorem ok7 : fnOk Try.prog Try.f7.ntmps Try.f7 sk7 = true := by kernel_rfl
theorem eq7 (g0_0 : Sl) (g0_1 : Sl) (kind1 : Int) (node2 : Int) (K : Value → World → Prop) (w : World) : fnF Try.prog cl Try.f7 sk7 [.agg #[.slice g0_0.a g0_0.len g0_0.cap, .slice g0_1.a g0_1.len g0_1.cap], .int .i64 kind1, .int .i64 node2] K w = B7 g0_0 g0_1 kind1 node2 K w := by kernel_rfl
theorem call7 (g0_0 : Sl) (g0_1 : Sl) (kind1 : Int) (node2 : Int) (K : Value → World → Prop) (w : World) (h : B7 g0_0 g0_1 kind1 node2 K w) : Gets Try.prog 7 #[.agg #[.slice g0_0.a g0_0.len g0_0.cap, .slice g0_1.a g0_1.len g0_1.cap], .int .i64 kind1, .int .i64 node2] w K :=
  calls_of (sk := sk7) cl_ok mixed Try.func7 ok7 (args := [.agg #[.slice g0_0.a g0_0.len g0_0.cap, .slice g0_1.a g0_1.len g0_1.cap], .int .i64 kind1, .int .i64 node2]) (Nat.le_of_ble_eq_true (by kernel_rfl)) (by rw [eq7]; exact h)

/-- jetway/jetwaylaw09.QuorumUndo. -/
def B8 (g0_0 : Sl) (g0_1 : Sl) (node1 : Int) (K : Value → World → Prop) (w : World) : Prop :=
  New (.cells #[.slice g0_0.a g0_0.len g0_0.cap, .slice g0_1.a g0_1.len g0_1.cap] 24 (0, 0)) (fun b_g2 w_1 =>
  Calls Try.prog 10 #[] w_1 fun e w_2 =>
  ∃ t17 : Bool, (e = .returned (.bool t17)) ∧
  ∃ t18 : Sl, ∃ t18_1 : Sl, (At (fun w' => w' = w_2) ⟨b_g2, 0, none⟩ [.slice t18.a t18.len t18.cap, .slice t18_1.a t18_1.len t18_1.cap]) ∧
  Calls Try.prog 11 #[.agg #[.slice t18.a t18.len t18.cap, .slice t18_1.a t18_1.len t18_1.cap], .slice none 0 0] w_2 fun e_1 w_3 =>
  ∃ t19 : Bool, (e_1 = .returned (.bool t19)) ∧
  ∃ (J : World → Prop), (Br (!t17)
     (K (.bool t17) w_3)
     (Br (!t19)
       (K (.bool t17) w_3)
       (J  w_3))) ∧
  ∀ (z : Env)  (w_4 : World), J  w_4 →
  ∃ t28 : Sl, ∃ t28_1 : Sl, (At (fun w' => w' = w_4) ⟨b_g2, 0, none⟩ [.slice t28.a t28.len t28.cap, .slice t28_1.a t28_1.len t28_1.cap]) ∧
  Calls Try.prog 23 #[.agg #[.slice t28.a t28.len t28.cap, .slice t28_1.a t28_1.len t28_1.cap], .int .i64 1, .int .i64 node1] w_4 fun e_2 w_5 =>
  ∃ t30 : Sl, ∃ t30_1 : Sl, ∃ t30_2 : Int, (e_2 = .returned (.tuple #[.agg #[.slice t30.a t30.len t30.cap, .slice t30_1.a t30_1.len t30_1.cap], .int .i64 t30_2])) ∧
  New (.cells #[.slice none 0 0, .slice none 0 0] 24 (0, 0)) (fun b_a7 w_6 =>
  ∃ w_7 : World, ((Instr.storeAt 24 (.pointer ((some ⟨b_a7, 0, none⟩))) (.agg #[.slice t30.a t30.len t30.cap, .slice t30_1.a t30_1.len t30_1.cap])).run Try.prog w_6 = .ok () w_7) ∧
  Br (t30_2 != 0)
   (Br (t30_2 == 1)
     (K (.bool true) w_7)
     (K (.bool (t30_2 == 7)) w_7))
   (∃ t42 : Sl, ∃ t42_1 : Sl, (At (fun w' => w' = w_7) ⟨b_a7, 0, none⟩ [.slice t42.a t42.len t42.cap, .slice t42_1.a t42_1.len t42_1.cap]) ∧
    Calls Try.prog 23 #[.agg #[.slice t42.a t42.len t42.cap, .slice t42_1.a t42_1.len t42_1.cap], .int .i64 3, .int .i64 node1] w_7 fun e_3 w_8 =>
    ∃ t44 : Sl, ∃ t44_1 : Sl, ∃ t44_2 : Int, (e_3 = .returned (.tuple #[.agg #[.slice t44.a t44.len t44.cap, .slice t44_1.a t44_1.len t44_1.cap], .int .i64 t44_2])) ∧
    New (.cells #[.slice none 0 0, .slice none 0 0] 24 (0, 0)) (fun b_b9 w_9 =>
    ∃ w_10 : World, ((Instr.storeAt 24 (.pointer ((some ⟨b_b9, 0, none⟩))) (.agg #[.slice t44.a t44.len t44.cap, .slice t44_1.a t44_1.len t44_1.cap])).run Try.prog w_9 = .ok () w_10) ∧
    ∃ t48 : Sl, ∃ t48_1 : Sl, (At (fun w' => w' = w_10) ⟨b_a7, 0, none⟩ [.slice t48.a t48.len t48.cap, .slice t48_1.a t48_1.len t48_1.cap]) ∧
    Calls Try.prog 23 #[.agg #[.slice t48.a t48.len t48.cap, .slice t48_1.a t48_1.len t48_1.cap], .int .i64 2, .int .i64 node1] w_10 fun e_4 w_11 =>
    ∃ t50 : Sl, ∃ t50_1 : Sl, ∃ t50_2 : Int, (e_4 = .returned (.tuple #[.agg #[.slice t50.a t50.len t50.cap, .slice t50_1.a t50_1.len t50_1.cap], .int .i64 t50_2])) ∧
    New (.cells #[.slice none 0 0, .slice none 0 0] 24 (0, 0)) (fun b_c11 w_12 =>
    ∃ w_13 : World, ((Instr.storeAt 24 (.pointer ((some ⟨b_c11, 0, none⟩))) (.agg #[.slice t50.a t50.len t50.cap, .slice t50_1.a t50_1.len t50_1.cap])).run Try.prog w_12 = .ok () w_13) ∧
    ∃ t54 : Sl, ∃ t54_1 : Sl, (At (fun w' => w' = w_13) ⟨b_c11, 0, none⟩ [.slice t54.a t54.len t54.cap, .slice t54_1.a t54_1.len t54_1.cap]) ∧
    Calls Try.prog 23 #[.agg #[.slice t54.a t54.len t54.cap, .slice t54_1.a t54_1.len t54_1.cap], .int .i64 3, .int .i64 node1] w_13 fun e_5 w_14 =>
    ∃ t56 : Sl, ∃ t56_1 : Sl, ∃ t56_2 : Int, (e_5 = .returned (.tuple #[.agg #[.slice t56.a t56.len t56.cap, .slice t56_1.a t56_1.len t56_1.cap], .int .i64 t56_2])) ∧
    New (.cells #[.slice none 0 0, .slice none 0 0] 24 (0, 0)) (fun b_d13 w_15 =>
    ∃ w_16 : World, ((Instr.storeAt 24 (.pointer ((some ⟨b_d13, 0, none⟩))) (.agg #[.slice t56.a t56.len t56.cap, .slice t56_1.a t56_1.len t56_1.cap])).run Try.prog w_15 = .ok () w_16) ∧
    ∃ t59 : Sl, ∃ t59_1 : Sl, (At (fun w' => w' = w_16) ⟨b_b9, 0, none⟩ [.slice t59.a t59.len t59.cap, .slice t59_1.a t59_1.len t59_1.cap]) ∧
    ∃ t60 : Sl, ∃ t60_1 : Sl, (At (fun w' => w' = w_16) ⟨b_g2, 0, none⟩ [.slice t60.a t60.len t60.cap, .slice t60_1.a t60_1.len t60_1.cap]) ∧
    Calls Try.prog 25 #[.agg #[.slice t59.a t59.len t59.cap, .slice t59_1.a t59_1.len t59_1.cap], .agg #[.slice t60.a t60.len t60.cap, .slice t60_1.a t60_1.len t60_1.cap]] w_16 fun e_6 w_17 =>
    ∃ t61 : Bool, (e_6 = .returned (.bool t61)) ∧
    ∃ t62 : Sl, ∃ t62_1 : Sl, (At (fun w' => w' = w_17) ⟨b_d13, 0, none⟩ [.slice t62.a t62.len t62.cap, .slice t62_1.a t62_1.len t62_1.cap]) ∧
    ∃ t63 : Sl, ∃ t63_1 : Sl, (At (fun w' => w' = w_17) ⟨b_g2, 0, none⟩ [.slice t63.a t63.len t63.cap, .slice t63_1.a t63_1.len t63_1.cap]) ∧
    Calls Try.prog 25 #[.agg #[.slice t62.a t62.len t62.cap, .slice t62_1.a t62_1.len t62_1.cap], .agg #[.slice t63.a t63.len t63.cap, .slice t63_1.a t63_1.len t63_1.cap]] w_17 fun e_7 w_18 =>
    ∃ t64 : Bool, (e_7 = .returned (.bool t64)) ∧
    Br (t44_2 == 0)
     (Br (t50_2 == 0)
       (Br (t56_2 == 0)
         (Br t61
           (K (.bool t64) w_18)
           (K (.bool false) w_18))
         (K (.bool false) w_18))
       (K (.bool false) w_18))
     (K (.bool false) w_18)) w_14) w_11) w_8)) w_5) w

def sk8 : Sk := (.seq .leaf (.seq .leaf (.seq .leaf (.cut [] [] [4, 20, 21, 22, 23, 24, 25, 26] .leaf .leaf))))
theorem ok8 : fnOk Try.prog Try.f8.ntmps Try.f8 sk8 = true := by kernel_rfl
theorem eq8 (g0_0 : Sl) (g0_1 : Sl) (node1 : Int) (K : Value → World → Prop) (w : World) : fnF Try.prog cl Try.f8 sk8 [.agg #[.slice g0_0.a g0_0.len g0_0.cap, .slice g0_1.a g0_1.len g0_1.cap], .int .i64 node1] K w = B8 g0_0 g0_1 node1 K w := by kernel_rfl
theorem call8 (g0_0 : Sl) (g0_1 : Sl) (node1 : Int) (K : Value → World → Prop) (w : World) (h : B8 g0_0 g0_1 node1 K w) : Gets Try.prog 8 #[.agg #[.slice g0_0.a g0_0.len g0_0.cap, .slice g0_1.a g0_1.len g0_1.cap], .int .i64 node1] w K :=
  calls_of (sk := sk8) cl_ok mixed Try.func8 ok8 (args := [.agg #[.slice g0_0.a g0_0.len g0_0.cap, .slice g0_1.a g0_1.len g0_1.cap], .int .i64 node1]) (Nat.le_of_ble_eq_true (by kernel_rfl)) (by rw [eq8]; exact h)

/-- jetway/jetwaylaw09.QuorumMeets. -/
def B9 (g0_0 : Sl) (g0_1 : Sl) (change1_0 : Int) (change1_1 : Int) (l2_0 : Sl) (l2_1 : Sl) (K : Value → World → Prop) (w : World) : Prop :=
  New (.cells #[.slice g0_0.a g0_0.len g0_0.cap, .slice g0_1.a g0_1.len g0_1.cap] 24 (0, 0)) (fun b_g3 w_1 =>
  New (.cells #[.int .i64 change1_0, .int .i64 change1_1] 42 (0, 0)) (fun b_change4 w_2 =>
  New (.cells #[.slice l2_0.a l2_0.len l2_0.cap, .slice l2_1.a l2_1.len l2_1.cap] 43 (0, 0)) (fun b_l5 w_3 =>
  Calls Try.prog 10 #[] w_3 fun e w_4 =>
  ∃ t19 : Bool, (e = .returned (.bool t19)) ∧
  ∃ t20 : Sl, ∃ t20_1 : Sl, (At (fun w' => w' = w_4) ⟨b_g3, 0, none⟩ [.slice t20.a t20.len t20.cap, .slice t20_1.a t20_1.len t20_1.cap]) ∧
  ∃ t22 : Sl, (At (fun w' => w' = w_4) (Addr.add ⟨b_l5, 0, none⟩ 0) [.slice t22.a t22.len t22.cap]) ∧
  ∃ t24 : Sl, (At (fun w' => w' = w_4) (Addr.add ⟨b_l5, 0, none⟩ 1) [.slice t24.a t24.len t24.cap]) ∧
  New (.cells #[.slice t22.a t22.len t22.cap, .slice t24.a t24.len t24.cap] 22 (0, 0)) (fun b_t25 w_5 =>
  Calls Try.prog 11 #[.agg #[.slice t20.a t20.len t20.cap, .slice t20_1.a t20_1.len t20_1.cap], .slice ((some ⟨b_t25, 0, none⟩)) 2 2] w_5 fun e_1 w_6 =>
  ∃ t26 : Bool, (e_1 = .returned (.bool t26)) ∧
  ∃ (J : World → Prop), (Br (!t19)
     (K (.bool t19) w_6)
     (Br (!t26)
       (K (.bool t19) w_6)
       (J  w_6))) ∧
  ∀ (z : Env)  (w_7 : World), J  w_7 →
  ∃ t35 : Sl, ∃ t35_1 : Sl, (At (fun w' => w' = w_7) ⟨b_g3, 0, none⟩ [.slice t35.a t35.len t35.cap, .slice t35_1.a t35_1.len t35_1.cap]) ∧
  ∃ t37 : Int, (At (fun w' => w' = w_7) (Addr.add ⟨b_change4, 0, none⟩ 0) [.int .i64 t37]) ∧
  ∃ t39 : Int, (At (fun w' => w' = w_7) (Addr.add ⟨b_change4, 0, none⟩ 1) [.int .i64 t39]) ∧
  Calls Try.prog 23 #[.agg #[.slice t35.a t35.len t35.cap, .slice t35_1.a t35_1.len t35_1.cap], .int .i64 t37, .int .i64 t39] w_7 fun e_2 w_8 =>
  ∃ t40 : Sl, ∃ t40_1 : Sl, ∃ t40_2 : Int, (e_2 = .returned (.tuple #[.agg #[.slice t40.a t40.len t40.cap, .slice t40_1.a t40_1.len t40_1.cap], .int .i64 t40_2])) ∧
  New (.cells #[.slice none 0 0, .slice none 0 0] 24 (0, 0)) (fun b_h9 w_9 =>
  ∃ w_10 : World, ((Instr.storeAt 24 (.pointer ((some ⟨b_h9, 0, none⟩))) (.agg #[.slice t40.a t40.len t40.cap, .slice t40_1.a t40_1.len t40_1.cap])).run Try.prog w_9 = .ok () w_10) ∧
  Br (t40_2 != 0)
   (Br (t40_2 == 1)
     (K (.bool true) w_10)
     (K (.bool (t40_2 == 7)) w_10))
   (∃ t51 : Sl, ∃ t51_1 : Sl, (At (fun w' => w' = w_10) ⟨b_g3, 0, none⟩ [.slice t51.a t51.len t51.cap, .slice t51_1.a t51_1.len t51_1.cap]) ∧
    ∃ t53 : Sl, (At (fun w' => w' = w_10) (Addr.add ⟨b_l5, 0, none⟩ 0) [.slice t53.a t53.len t53.cap]) ∧
    Calls Try.prog 16 #[.agg #[.slice t51.a t51.len t51.cap, .slice t51_1.a t51_1.len t51_1.cap], .slice t53.a t53.len t53.cap] w_10 fun e_3 w_11 =>
    ∃ t54 : Bool, (e_3 = .returned (.bool t54)) ∧
    ∃ t55 : Sl, ∃ t55_1 : Sl, (At (fun w' => w' = w_11) ⟨b_h9, 0, none⟩ [.slice t55.a t55.len t55.cap, .slice t55_1.a t55_1.len t55_1.cap]) ∧
    ∃ t57 : Sl, (At (fun w' => w' = w_11) (Addr.add ⟨b_l5, 0, none⟩ 1) [.slice t57.a t57.len t57.cap]) ∧
    Calls Try.prog 16 #[.agg #[.slice t55.a t55.len t55.cap, .slice t55_1.a t55_1.len t55_1.cap], .slice t57.a t57.len t57.cap] w_11 fun e_4 w_12 =>
    ∃ t58 : Bool, (e_4 = .returned (.bool t58)) ∧
    ∃ t59 : Sl, ∃ t59_1 : Sl, (At (fun w' => w' = w_12) ⟨b_h9, 0, none⟩ [.slice t59.a t59.len t59.cap, .slice t59_1.a t59_1.len t59_1.cap]) ∧
    Calls Try.prog 12 #[.agg #[.slice t59.a t59.len t59.cap, .slice t59_1.a t59_1.len t59_1.cap]] w_12 fun e_5 w_13 =>
    ∃ t60 : Bool, (e_5 = .returned (.bool t60)) ∧
    ∃ (J_1 : World → Prop), (Br (!t54)
       (K (.bool t60) w_13)
       (Br (!t58)
         (K (.bool t60) w_13)
         (J_1  w_13))) ∧
    ∀ (z_1 : Env)  (w_14 : World), J_1  w_14 →
    ∃ (I : Int → World → Prop) (μ : Int → World → Nat), (I 0 w_14) ∧ ∀ (z_2 : Env) (i14 : Int) (w_15 : World), I i14 w_15 →
    ∃ t70 : Sl, (At (fun w' => w' = w_15) ⟨b_g3, 0, none⟩ [.slice t70.a t70.len t70.cap]) ∧
    Br (decide (i14 < (↑t70.len : Int)))
     (∃ t76 : Sl, (At (fun w' => w' = w_15) ⟨b_g3, 0, none⟩ [.slice t76.a t76.len t76.cap]) ∧
      Rng i14 t76.len (NilP t76.a fun a_t78 =>
      ∃ t79 : Int, (At (fun w' => w' = w_15) (Addr.add a_t78 i14.toNat) [.int .i64 t79]) ∧
      ∃ t81 : Sl, (At (fun w' => w' = w_15) (Addr.add ⟨b_l5, 0, none⟩ 0) [.slice t81.a t81.len t81.cap]) ∧
      Calls Try.prog 22 #[.slice t81.a t81.len t81.cap, .int .i64 t79] w_15 fun e_6 w_16 =>
      ∃ t83 : Bool, (e_6 = .returned (.bool t83)) ∧
      ∃ t85 : Sl, (At (fun w' => w' = w_16) (Addr.add ⟨b_l5, 0, none⟩ 1) [.slice t85.a t85.len t85.cap]) ∧
      Calls Try.prog 22 #[.slice t85.a t85.len t85.cap, .int .i64 t79] w_16 fun e_7 w_17 =>
      ∃ t87 : Bool, (e_7 = .returned (.bool t87)) ∧
      ∃ t89 : Sl, (At (fun w' => w' = w_17) ⟨b_h9, 0, none⟩ [.slice t89.a t89.len t89.cap]) ∧
      Calls Try.prog 22 #[.slice t89.a t89.len t89.cap, .int .i64 t79] w_17 fun e_8 w_18 =>
      ∃ t91 : Bool, (e_8 = .returned (.bool t91)) ∧
      Br t83
       (Br t87
         (Br t91
           (K (.bool t60) w_18)
           ((I (IntKind.i64.wrap (i14 + 1)) w_18) ∧ μ (IntKind.i64.wrap (i14 + 1)) w_18 < μ i14 w_15))
         ((I (IntKind.i64.wrap (i14 + 1)) w_18) ∧ μ (IntKind.i64.wrap (i14 + 1)) w_18 < μ i14 w_15))
       ((I (IntKind.i64.wrap (i14 + 1)) w_18) ∧ μ (IntKind.i64.wrap (i14 + 1)) w_18 < μ i14 w_15)))
     (K (.bool false) w_15))) w_8) w_4) w_2) w_1) w

def sk9 : Sk := (.seq .leaf (.seq .leaf (.seq .leaf (.cut [] [] [6, 27, 28, 29, 30, 31, 32, 33] .leaf (.seq .leaf (.seq .leaf (.seq .leaf (.seq .leaf (.seq .leaf (.cut [] [] [6, 61, 62, 63, 64, 65, 66, 67] .leaf (.seq (.seq .leaf (.block (.loop [14] [(.int .i64)] [6, 14, 15, 16, 17, 18, 68, 69, 70, 71, 72, 73, 74, 75, 76, 77, 78, 79, 80, 81, 82, 83, 84, 85, 86, 87, 88, 89, 90, 91, 92, 93, 94, 95, 96, 97, 98, 99] .leaf))) .leaf)))))))))))
theorem ok9 : fnOk Try.prog Try.f9.ntmps Try.f9 sk9 = true := by kernel_rfl
theorem eq9 (g0_0 : Sl) (g0_1 : Sl) (change1_0 : Int) (change1_1 : Int) (l2_0 : Sl) (l2_1 : Sl) (K : Value → World → Prop) (w : World) : fnF Try.prog cl Try.f9 sk9 [.agg #[.slice g0_0.a g0_0.len g0_0.cap, .slice g0_1.a g0_1.len g0_1.cap], .agg #[.int .i64 change1_0, .int .i64 change1_1], .agg #[.slice l2_0.a l2_0.len l2_0.cap, .slice l2_1.a l2_1.len l2_1.cap]] K w = B9 g0_0 g0_1 change1_0 change1_1 l2_0 l2_1 K w := by kernel_rfl
theorem call9 (g0_0 : Sl) (g0_1 : Sl) (change1_0 : Int) (change1_1 : Int) (l2_0 : Sl) (l2_1 : Sl) (K : Value → World → Prop) (w : World) (h : B9 g0_0 g0_1 change1_0 change1_1 l2_0 l2_1 K w) : Gets Try.prog 9 #[.agg #[.slice g0_0.a g0_0.len g0_0.cap, .slice g0_1.a g0_1.len g0_1.cap], .agg #[.int .i64 change1_0, .int .i64 change1_1], .agg #[.slice l2_0.a l2_0.len l2_0.cap, .slice l2_1.a l2_1.len l2_1.cap]] w K :=
  calls_of (sk := sk9) cl_ok mixed Try.func9 ok9 (args := [.agg #[.slice g0_0.a g0_0.len g0_0.cap, .slice g0_1.a g0_1.len g0_1.cap], .agg #[.int .i64 change1_0, .int .i64 change1_1], .agg #[.slice l2_0.a l2_0.len l2_0.cap, .slice l2_1.a l2_1.len l2_1.cap]]) (Nat.le_of_ble_eq_true (by kernel_rfl)) (by rw [eq9]; exact h)

/-- jetway/quorum.Middle. -/
def B20 (g0_0 : Sl) (g0_1 : Sl) (at1 : Value) (K : Value → World → Prop) (w : World) : Prop :=
  New (.cells #[.slice g0_0.a g0_0.len g0_0.cap, .slice g0_1.a g0_1.len g0_1.cap] 24 (0, 0)) (fun b_g2 w_1 =>
  New (.cells (Value.cells at1) 30 (0, 0)) (fun b_at3 w_2 =>
  ∃ t8 : Sl, ∃ t8_1 : Sl, (At (fun w' => w' = w_2) ⟨b_g2, 0, none⟩ [.slice t8.a t8.len t8.cap, .slice t8_1.a t8_1.len t8_1.cap]) ∧
  Calls Try.prog 12 #[.agg #[.slice t8.a t8.len t8.cap, .slice t8_1.a t8_1.len t8_1.cap]] w_2 fun e w_3 =>
  ∃ t9 : Bool, (e = .returned (.bool t9)) ∧
  Br (!t9)
   (K (.int .i64 0) w_3)
   (∃ t12 : Sl, (At (fun w' => w' = w_3) ⟨b_g2, 0, none⟩ [.slice t12.a t12.len t12.cap]) ∧
    ∃ (I : Sl → Int → World → Prop) (μ : Sl → Int → World → Nat), (I ⟨none, 0, 0⟩ 0 w_3) ∧ ∀ (z : Env) (all5 : Sl) (t14 : Int) (w_4 : World), I all5 t14 w_4 →
    Br (decide (t14 < (↑t12.len : Int)))
     (Rng t14 t12.len (NilP t12.a fun a_t16 =>
      ∃ t17 : Int, (At (fun w' => w' = w_4) (Addr.add a_t16 t14.toNat) [.int .i64 t17]) ∧
      Rng t17 16 (∃ t21 : Int, (At (fun w' => w' = w_4) (Addr.add ⟨b_at3, 0, none⟩ t17.toNat) [.int .i64 t21]) ∧
      New (.cells #[.int .i64 t21] 3 (0, 0)) (fun b_t22 w_5 =>
      ∃ w_6 : World, ∃ t23 : Sl, ((Builtin.append_ #[22, 22] 22 #[.slice all5.a all5.len all5.cap, .slice ((some ⟨b_t22, 0, none⟩)) 1 1]).run Try.prog w_5 = .ok (.slice t23.a t23.len t23.cap) w_6) ∧
      (I t23 (IntKind.i64.wrap (t14 + 1)) w_6) ∧ μ t23 (IntKind.i64.wrap (t14 + 1)) w_6 < μ all5 t14 w_4) w_4)))
     (Calls Try.prog 31 #[.slice all5.a all5.len all5.cap] w_4 fun e_1 w_7 =>
      (e_1 = .returned (.tuple #[])) ∧
      ∃ t30 : Sl, ∃ t30_1 : Sl, (At (fun w' => w' = w_7) ⟨b_g2, 0, none⟩ [.slice t30.a t30.len t30.cap, .slice t30_1.a t30_1.len t30_1.cap]) ∧
      Calls Try.prog 14 #[.agg #[.slice t30.a t30.len t30.cap, .slice t30_1.a t30_1.len t30_1.cap]] w_7 fun e_2 w_8 =>
      ∃ t31 : Int, (e_2 = .returned (.int .i64 t31)) ∧
      Rng (IntKind.i64.wrap ((↑all5.len : Int) - t31)) all5.len (NilP all5.a fun a_t33 =>
      ∃ t34 : Int, (At (fun w' => w' = w_8) (Addr.add a_t33 ((IntKind.i64.wrap ((↑all5.len : Int) - t31)).toNat)) [.int .i64 t34]) ∧
      K (.int .i64 t34) w_8)))) w_1) w

def sk20 : Sk := (.seq .leaf (.seq .leaf (.seq .leaf (.seq (.seq .leaf (.block (.loop [5, 14] [.sl, (.int .i64)] [5, 7, 14, 15, 16, 17, 18, 19, 20, 21, 22, 23, 24] .leaf))) .leaf))))
theorem ok20 : fnOk Try.prog Try.f20.ntmps Try.f20 sk20 = true := by kernel_rfl
theorem eq20 (g0_0 : Sl) (g0_1 : Sl) (at1 : Value) (K : Value → World → Prop) (w : World) : fnF Try.prog cl Try.f20 sk20 [.agg #[.slice g0_0.a g0_0.len g0_0.cap, .slice g0_1.a g0_1.len g0_1.cap], at1] K w = B20 g0_0 g0_1 at1 K w := by kernel_rfl
theorem call20 (g0_0 : Sl) (g0_1 : Sl) (at1 : Value) (K : Value → World → Prop) (w : World) (h : B20 g0_0 g0_1 at1 K w) : Gets Try.prog 20 #[.agg #[.slice g0_0.a g0_0.len g0_0.cap, .slice g0_1.a g0_1.len g0_1.cap], at1] w K :=
  calls_of (sk := sk20) cl_ok mixed Try.func20 ok20 (args := [.agg #[.slice g0_0.a g0_0.len g0_0.cap, .slice g0_1.a g0_1.len g0_1.cap], at1]) (Nat.le_of_ble_eq_true (by kernel_rfl)) (by rw [eq20]; exact h)

/-- jetway/jetwayref09.Middle. -/
def B21 (g0_0 : Sl) (g0_1 : Sl) (at1 : Value) (K : Value → World → Prop) (w : World) : Prop :=
  New (.cells #[.slice g0_0.a g0_0.len g0_0.cap, .slice g0_1.a g0_1.len g0_1.cap] 24 (0, 0)) (fun b_g2 w_1 =>
  New (.cells (Value.cells at1) 30 (0, 0)) (fun b_at3 w_2 =>
  ∃ t12 : Sl, ∃ t12_1 : Sl, (At (fun w' => w' = w_2) ⟨b_g2, 0, none⟩ [.slice t12.a t12.len t12.cap, .slice t12_1.a t12_1.len t12_1.cap]) ∧
  Calls Try.prog 13 #[.agg #[.slice t12.a t12.len t12.cap, .slice t12_1.a t12_1.len t12_1.cap]] w_2 fun e w_3 =>
  ∃ t13 : Bool, (e = .returned (.bool t13)) ∧
  Br (!t13)
   (K (.int .i64 0) w_3)
   (∃ (I : Int → Bool → Int → World → Prop) (μ : Int → Bool → Int → World → Nat), (I 0 false 0 w_3) ∧ ∀ (z : Env) (best6 : Int) (found7 : Bool) (i8 : Int) (w_4 : World), I best6 found7 i8 w_4 →
    ∃ t18 : Sl, (At (fun w' => w' = w_4) ⟨b_g2, 0, none⟩ [.slice t18.a t18.len t18.cap]) ∧
    Br (decide (i8 < (↑t18.len : Int)))
     (∃ t24 : Sl, (At (fun w' => w' = w_4) ⟨b_g2, 0, none⟩ [.slice t24.a t24.len t24.cap]) ∧
      Rng i8 t24.len (NilP t24.a fun a_t26 =>
      ∃ t27 : Int, (At (fun w' => w' = w_4) (Addr.add a_t26 i8.toNat) [.int .i64 t27]) ∧
      Rng t27 16 (∃ t29 : Int, (At (fun w' => w' = w_4) (Addr.add ⟨b_at3, 0, none⟩ t27.toNat) [.int .i64 t29]) ∧
      ∃ (I_1 : Int → Int → World → Prop) (μ_1 : Int → Int → World → Nat), (I_1 0 0 w_4) ∧ ∀ (z_1 : Env) (k10 : Int) (j11 : Int) (w_5 : World), I_1 k10 j11 w_5 →
      ∃ t32 : Sl, (At (fun w' => w' = w_5) ⟨b_g2, 0, none⟩ [.slice t32.a t32.len t32.cap]) ∧
      Br (decide (j11 < (↑t32.len : Int)))
       (∃ t38 : Sl, (At (fun w' => w' = w_5) ⟨b_g2, 0, none⟩ [.slice t38.a t38.len t38.cap]) ∧
        Rng j11 t38.len (NilP t38.a fun a_t40 =>
        ∃ t41 : Int, (At (fun w' => w' = w_5) (Addr.add a_t40 j11.toNat) [.int .i64 t41]) ∧
        Rng t41 16 (∃ t43 : Int, (At (fun w' => w' = w_5) (Addr.add ⟨b_at3, 0, none⟩ t41.toNat) [.int .i64 t43]) ∧
        Br (decide (t43 ≥ t29))
         ((I_1 (IntKind.i64.wrap (k10 + 1)) (IntKind.i64.wrap (j11 + 1)) w_5) ∧ μ_1 (IntKind.i64.wrap (k10 + 1)) (IntKind.i64.wrap (j11 + 1)) w_5 < μ_1 k10 j11 w_5)
         ((I_1 k10 (IntKind.i64.wrap (j11 + 1)) w_5) ∧ μ_1 k10 (IntKind.i64.wrap (j11 + 1)) w_5 < μ_1 k10 j11 w_5))))
       (∃ t49 : Sl, ∃ t49_1 : Sl, (At (fun w' => w' = w_5) ⟨b_g2, 0, none⟩ [.slice t49.a t49.len t49.cap, .slice t49_1.a t49_1.len t49_1.cap]) ∧
        Calls Try.prog 15 #[.agg #[.slice t49.a t49.len t49.cap, .slice t49_1.a t49_1.len t49_1.cap]] w_5 fun e_1 w_6 =>
        ∃ t50 : Int, (e_1 = .returned (.int .i64 t50)) ∧
        Br (decide (k10 ≥ t50))
         (Br (!found7)
           ((I t29 true (IntKind.i64.wrap (i8 + 1)) w_6) ∧ μ t29 true (IntKind.i64.wrap (i8 + 1)) w_6 < μ best6 found7 i8 w_4)
           (Br (decide (t29 > best6))
             ((I t29 true (IntKind.i64.wrap (i8 + 1)) w_6) ∧ μ t29 true (IntKind.i64.wrap (i8 + 1)) w_6 < μ best6 found7 i8 w_4)
             ((I best6 found7 (IntKind.i64.wrap (i8 + 1)) w_6) ∧ μ best6 found7 (IntKind.i64.wrap (i8 + 1)) w_6 < μ best6 found7 i8 w_4)))
         ((I best6 found7 (IntKind.i64.wrap (i8 + 1)) w_6) ∧ μ best6 found7 (IntKind.i64.wrap (i8 + 1)) w_6 < μ best6 found7 i8 w_4)))))
     (K (.int .i64 best6) w_4))) w_1) w

def sk21 : Sk := (.seq .leaf (.seq .leaf (.seq .leaf (.seq .leaf (.seq .leaf (.seq (.seq .leaf (.block (.loop [6, 7, 8] [(.int .i64), .bool, (.int .i64)] [6, 7, 8, 9, 10, 11, 16, 17, 18, 19, 20, 21, 22, 23, 24, 25, 26, 27, 28, 29, 30, 31, 32, 33, 34, 35, 36, 37, 38, 39, 40, 41, 42, 43, 44, 45, 46, 47, 48, 49, 50, 51, 52, 53, 54, 55, 56, 57, 58, 59, 60, 61] (.seq .leaf (.seq (.block (.seq .leaf (.seq .leaf (.seq (.seq .leaf (.block (.loop [10, 11] [(.int .i64), (.int .i64)] [10, 11, 30, 31, 32, 33, 34, 35, 36, 37, 38, 39, 40, 41, 42, 43, 44, 45, 46, 47] .leaf))) .leaf)))) .leaf))))) .leaf))))))
theorem ok21 : fnOk Try.prog Try.f21.ntmps Try.f21 sk21 = true := by kernel_rfl
theorem eq21 (g0_0 : Sl) (g0_1 : Sl) (at1 : Value) (K : Value → World → Prop) (w : World) : fnF Try.prog cl Try.f21 sk21 [.agg #[.slice g0_0.a g0_0.len g0_0.cap, .slice g0_1.a g0_1.len g0_1.cap], at1] K w = B21 g0_0 g0_1 at1 K w := by kernel_rfl
theorem call21 (g0_0 : Sl) (g0_1 : Sl) (at1 : Value) (K : Value → World → Prop) (w : World) (h : B21 g0_0 g0_1 at1 K w) : Gets Try.prog 21 #[.agg #[.slice g0_0.a g0_0.len g0_0.cap, .slice g0_1.a g0_1.len g0_1.cap], at1] w K :=
  calls_of (sk := sk21) cl_ok mixed Try.func21 ok21 (args := [.agg #[.slice g0_0.a g0_0.len g0_0.cap, .slice g0_1.a g0_1.len g0_1.cap], at1]) (Nat.le_of_ble_eq_true (by kernel_rfl)) (by rw [eq21]; exact h)

/-- jetway/jetwayref09.Change. -/
def B24 (g0_0 : Sl) (g0_1 : Sl) (kind1 : Int) (node2 : Int) (K : Value → World → Prop) (w : World) : Prop :=
  New (.cells #[.slice g0_0.a g0_0.len g0_0.cap, .slice g0_1.a g0_1.len g0_1.cap] 24 (0, 0)) (fun b_g3 w_1 =>
  New (.cells #[.slice none 0 0, .slice none 0 0] 24 (0, 0)) (fun b_t6 w_2 =>
  ∃ t11 : Sl, ∃ t11_1 : Sl, (At (fun w' => w' = w_2) ⟨b_g3, 0, none⟩ [.slice t11.a t11.len t11.cap, .slice t11_1.a t11_1.len t11_1.cap]) ∧
  Calls Try.prog 13 #[.agg #[.slice t11.a t11.len t11.cap, .slice t11_1.a t11_1.len t11_1.cap]] w_2 fun e w_3 =>
  ∃ t12 : Bool, (e = .returned (.bool t12)) ∧
  ∃ (J : World → Prop), (Br (!t12)
     (∃ w_4 : World, ((Instr.storeAt 24 (.pointer ((some ⟨b_t6, 0, none⟩))) (.agg #[.slice none 0 0, .slice none 0 0])).run Try.prog w_3 = .ok () w_4) ∧
      ∃ t7 : Sl, ∃ t7_1 : Sl, (At (fun w' => w' = w_4) ⟨b_t6, 0, none⟩ [.slice t7.a t7.len t7.cap, .slice t7_1.a t7_1.len t7_1.cap]) ∧
      K (.tuple #[.agg #[.slice t7.a t7.len t7.cap, .slice t7_1.a t7_1.len t7_1.cap], .int .i64 1]) w_4)
     (Br (decide (kind1 < 1))
       (∃ w_5 : World, ((Instr.storeAt 24 (.pointer ((some ⟨b_t6, 0, none⟩))) (.agg #[.slice none 0 0, .slice none 0 0])).run Try.prog w_3 = .ok () w_5) ∧
        ∃ t7_2 : Sl, ∃ t7_3 : Sl, (At (fun w' => w' = w_5) ⟨b_t6, 0, none⟩ [.slice t7_2.a t7_2.len t7_2.cap, .slice t7_3.a t7_3.len t7_3.cap]) ∧
        K (.tuple #[.agg #[.slice t7_2.a t7_2.len t7_2.cap, .slice t7_3.a t7_3.len t7_3.cap], .int .i64 1]) w_5)
       (Br (decide (kind1 > 3))
         (∃ w_6 : World, ((Instr.storeAt 24 (.pointer ((some ⟨b_t6, 0, none⟩))) (.agg #[.slice none 0 0, .slice none 0 0])).run Try.prog w_3 = .ok () w_6) ∧
          ∃ t7_4 : Sl, ∃ t7_5 : Sl, (At (fun w' => w' = w_6) ⟨b_t6, 0, none⟩ [.slice t7_4.a t7_4.len t7_4.cap, .slice t7_5.a t7_5.len t7_5.cap]) ∧
          K (.tuple #[.agg #[.slice t7_4.a t7_4.len t7_4.cap, .slice t7_5.a t7_5.len t7_5.cap], .int .i64 1]) w_6)
         (Br (decide (node2 < 1))
           (∃ w_7 : World, ((Instr.storeAt 24 (.pointer ((some ⟨b_t6, 0, none⟩))) (.agg #[.slice none 0 0, .slice none 0 0])).run Try.prog w_3 = .ok () w_7) ∧
            ∃ t7_6 : Sl, ∃ t7_7 : Sl, (At (fun w' => w' = w_7) ⟨b_t6, 0, none⟩ [.slice t7_6.a t7_6.len t7_6.cap, .slice t7_7.a t7_7.len t7_7.cap]) ∧
            K (.tuple #[.agg #[.slice t7_6.a t7_6.len t7_6.cap, .slice t7_7.a t7_7.len t7_7.cap], .int .i64 1]) w_7)
           (Br (decide (node2 > 15))
             (∃ w_8 : World, ((Instr.storeAt 24 (.pointer ((some ⟨b_t6, 0, none⟩))) (.agg #[.slice none 0 0, .slice none 0 0])).run Try.prog w_3 = .ok () w_8) ∧
              ∃ t7_8 : Sl, ∃ t7_9 : Sl, (At (fun w' => w' = w_8) ⟨b_t6, 0, none⟩ [.slice t7_8.a t7_8.len t7_8.cap, .slice t7_9.a t7_9.len t7_9.cap]) ∧
              K (.tuple #[.agg #[.slice t7_8.a t7_8.len t7_8.cap, .slice t7_9.a t7_9.len t7_9.cap], .int .i64 1]) w_8)
             (J  w_3)))))) ∧
  ∀ (z : Env)  (w_9 : World), J  w_9 →
  ∃ t33 : Sl, (At (fun w' => w' = w_9) ⟨b_g3, 0, none⟩ [.slice t33.a t33.len t33.cap]) ∧
  Calls Try.prog 22 #[.slice t33.a t33.len t33.cap, .int .i64 node2] w_9 fun e_1 w_10 =>
  ∃ t35 : Bool, (e_1 = .returned (.bool t35)) ∧
  ∃ t37 : Sl, (At (fun w' => w' = w_10) ⟨b_g3, 0 + 1, none⟩ [.slice t37.a t37.len t37.cap]) ∧
  Calls Try.prog 22 #[.slice t37.a t37.len t37.cap, .int .i64 node2] w_10 fun e_2 w_11 =>
  ∃ t39 : Bool, (e_2 = .returned (.bool t39)) ∧
  Br (kind1 == 1)
   (Br t35
     (∃ w_12 : World, ((Instr.storeAt 24 (.pointer ((some ⟨b_t6, 0, none⟩))) (.agg #[.slice none 0 0, .slice none 0 0])).run Try.prog w_11 = .ok () w_12) ∧
      ∃ t7_10 : Sl, ∃ t7_11 : Sl, (At (fun w' => w' = w_12) ⟨b_t6, 0, none⟩ [.slice t7_10.a t7_10.len t7_10.cap, .slice t7_11.a t7_11.len t7_11.cap]) ∧
      K (.tuple #[.agg #[.slice t7_10.a t7_10.len t7_10.cap, .slice t7_11.a t7_11.len t7_11.cap], .int .i64 7]) w_12)
     (Br t39
       (∃ w_13 : World, ((Instr.storeAt 24 (.pointer ((some ⟨b_t6, 0, none⟩))) (.agg #[.slice none 0 0, .slice none 0 0])).run Try.prog w_11 = .ok () w_13) ∧
        ∃ t7_12 : Sl, ∃ t7_13 : Sl, (At (fun w' => w' = w_13) ⟨b_t6, 0, none⟩ [.slice t7_12.a t7_12.len t7_12.cap, .slice t7_13.a t7_13.len t7_13.cap]) ∧
        K (.tuple #[.agg #[.slice t7_12.a t7_12.len t7_12.cap, .slice t7_13.a t7_13.len t7_13.cap], .int .i64 7]) w_13)
       (Drw w_11 fun S w_14 =>
        ∃ t49 : Sl, (At S ⟨b_g3, 0, none⟩ [.slice t49.a t49.len t49.cap]) ∧
        ∃ t53 : Sl, (At S ⟨b_g3, 0 + 1, none⟩ [.slice t53.a t53.len t53.cap]) ∧
        Calls Try.prog 35 #[.slice t49.a t49.len t49.cap, .int .i64 node2] w_14 fun e_3 w_15 =>
        ∃ t51 : Sl, (e_3 = .returned (.slice t51.a t51.len t51.cap)) ∧
        (S w_15) ∧
        Calls Try.prog 36 #[.slice t53.a t53.len t53.cap, .int .i64 node2] w_15 fun e_4 w_16 =>
        ∃ t55 : Sl, (e_4 = .returned (.slice t55.a t55.len t55.cap)) ∧
        (S w_16) ∧
        ∃ w_17 : World, ((Instr.storeAt 24 (.pointer ((some ⟨b_t6, 0, none⟩))) (.agg #[.slice t51.a t51.len t51.cap, .slice t55.a t55.len t55.cap])).run Try.prog w_16 = .ok () w_17) ∧
        ∃ t7_14 : Sl, ∃ t7_15 : Sl, (At (fun w' => w' = w_17) ⟨b_t6, 0, none⟩ [.slice t7_14.a t7_14.len t7_14.cap, .slice t7_15.a t7_15.len t7_15.cap]) ∧
        K (.tuple #[.agg #[.slice t7_14.a t7_14.len t7_14.cap, .slice t7_15.a t7_15.len t7_15.cap], .int .i64 0]) w_17)))
   (Br (kind1 == 2)
     (Br (!t39)
       (∃ w_18 : World, ((Instr.storeAt 24 (.pointer ((some ⟨b_t6, 0, none⟩))) (.agg #[.slice none 0 0, .slice none 0 0])).run Try.prog w_11 = .ok () w_18) ∧
        ∃ t7_16 : Sl, ∃ t7_17 : Sl, (At (fun w' => w' = w_18) ⟨b_t6, 0, none⟩ [.slice t7_16.a t7_16.len t7_16.cap, .slice t7_17.a t7_17.len t7_17.cap]) ∧
        K (.tuple #[.agg #[.slice t7_16.a t7_16.len t7_16.cap, .slice t7_17.a t7_17.len t7_17.cap], .int .i64 7]) w_18)
       (Drw w_11 fun S_1 w_19 =>
        ∃ t63 : Sl, (At S_1 ⟨b_g3, 0, none⟩ [.slice t63.a t63.len t63.cap]) ∧
        ∃ t67 : Sl, (At S_1 ⟨b_g3, 0 + 1, none⟩ [.slice t67.a t67.len t67.cap]) ∧
        Calls Try.prog 36 #[.slice t63.a t63.len t63.cap, .int .i64 node2] w_19 fun e_5 w_20 =>
        ∃ t65 : Sl, (e_5 = .returned (.slice t65.a t65.len t65.cap)) ∧
        (S_1 w_20) ∧
        Calls Try.prog 35 #[.slice t67.a t67.len t67.cap, .int .i64 node2] w_20 fun e_6 w_21 =>
        ∃ t69 : Sl, (e_6 = .returned (.slice t69.a t69.len t69.cap)) ∧
        (S_1 w_21) ∧
        ∃ w_22 : World, ((Instr.storeAt 24 (.pointer ((some ⟨b_t6, 0, none⟩))) (.agg #[.slice t65.a t65.len t65.cap, .slice t69.a t69.len t69.cap])).run Try.prog w_21 = .ok () w_22) ∧
        ∃ t7_18 : Sl, ∃ t7_19 : Sl, (At (fun w' => w' = w_22) ⟨b_t6, 0, none⟩ [.slice t7_18.a t7_18.len t7_18.cap, .slice t7_19.a t7_19.len t7_19.cap]) ∧
        K (.tuple #[.agg #[.slice t7_18.a t7_18.len t7_18.cap, .slice t7_19.a t7_19.len t7_19.cap], .int .i64 0]) w_22))
     (Br (!t35)
       (Br (!t39)
         (∃ w_23 : World, ((Instr.storeAt 24 (.pointer ((some ⟨b_t6, 0, none⟩))) (.agg #[.slice none 0 0, .slice none 0 0])).run Try.prog w_11 = .ok () w_23) ∧
          ∃ t7_20 : Sl, ∃ t7_21 : Sl, (At (fun w' => w' = w_23) ⟨b_t6, 0, none⟩ [.slice t7_20.a t7_20.len t7_20.cap, .slice t7_21.a t7_21.len t7_21.cap]) ∧
          K (.tuple #[.agg #[.slice t7_20.a t7_20.len t7_20.cap, .slice t7_21.a t7_21.len t7_21.cap], .int .i64 7]) w_23)
         (Br t35
           (∃ t81 : Sl, (At (fun w' => w' = w_11) ⟨b_g3, 0, none⟩ [.slice t81.a t81.len t81.cap]) ∧
            Br ((↑t81.len : Int) == 1)
             (∃ w_24 : World, ((Instr.storeAt 24 (.pointer ((some ⟨b_t6, 0, none⟩))) (.agg #[.slice none 0 0, .slice none 0 0])).run Try.prog w_11 = .ok () w_24) ∧
              ∃ t7_22 : Sl, ∃ t7_23 : Sl, (At (fun w' => w' = w_24) ⟨b_t6, 0, none⟩ [.slice t7_22.a t7_22.len t7_22.cap, .slice t7_23.a t7_23.len t7_23.cap]) ∧
              K (.tuple #[.agg #[.slice t7_22.a t7_22.len t7_22.cap, .slice t7_23.a t7_23.len t7_23.cap], .int .i64 7]) w_24)
             (Drw w_11 fun S_2 w_25 =>
              ∃ t88 : Sl, (At S_2 ⟨b_g3, 0, none⟩ [.slice t88.a t88.len t88.cap]) ∧
              ∃ t92 : Sl, (At S_2 ⟨b_g3, 0 + 1, none⟩ [.slice t92.a t92.len t92.cap]) ∧
              Calls Try.prog 35 #[.slice t88.a t88.len t88.cap, .int .i64 node2] w_25 fun e_7 w_26 =>
              ∃ t90 : Sl, (e_7 = .returned (.slice t90.a t90.len t90.cap)) ∧
              (S_2 w_26) ∧
              Calls Try.prog 35 #[.slice t92.a t92.len t92.cap, .int .i64 node2] w_26 fun e_8 w_27 =>
              ∃ t94 : Sl, (e_8 = .returned (.slice t94.a t94.len t94.cap)) ∧
              (S_2 w_27) ∧
              ∃ w_28 : World, ((Instr.storeAt 24 (.pointer ((some ⟨b_t6, 0, none⟩))) (.agg #[.slice t90.a t90.len t90.cap, .slice t94.a t94.len t94.cap])).run Try.prog w_27 = .ok () w_28) ∧
              ∃ t7_24 : Sl, ∃ t7_25 : Sl, (At (fun w' => w' = w_28) ⟨b_t6, 0, none⟩ [.slice t7_24.a t7_24.len t7_24.cap, .slice t7_25.a t7_25.len t7_25.cap]) ∧
              K (.tuple #[.agg #[.slice t7_24.a t7_24.len t7_24.cap, .slice t7_25.a t7_25.len t7_25.cap], .int .i64 0]) w_28))
           (Drw w_11 fun S_3 w_29 =>
            ∃ t88_1 : Sl, (At S_3 ⟨b_g3, 0, none⟩ [.slice t88_1.a t88_1.len t88_1.cap]) ∧
            ∃ t92_1 : Sl, (At S_3 ⟨b_g3, 0 + 1, none⟩ [.slice t92_1.a t92_1.len t92_1.cap]) ∧
            Calls Try.prog 35 #[.slice t88_1.a t88_1.len t88_1.cap, .int .i64 node2] w_29 fun e_9 w_30 =>
            ∃ t90_1 : Sl, (e_9 = .returned (.slice t90_1.a t90_1.len t90_1.cap)) ∧
            (S_3 w_30) ∧
            Calls Try.prog 35 #[.slice t92_1.a t92_1.len t92_1.cap, .int .i64 node2] w_30 fun e_10 w_31 =>
            ∃ t94_1 : Sl, (e_10 = .returned (.slice t94_1.a t94_1.len t94_1.cap)) ∧
            (S_3 w_31) ∧
            ∃ w_32 : World, ((Instr.storeAt 24 (.pointer ((some ⟨b_t6, 0, none⟩))) (.agg #[.slice t90_1.a t90_1.len t90_1.cap, .slice t94_1.a t94_1.len t94_1.cap])).run Try.prog w_31 = .ok () w_32) ∧
            ∃ t7_26 : Sl, ∃ t7_27 : Sl, (At (fun w' => w' = w_32) ⟨b_t6, 0, none⟩ [.slice t7_26.a t7_26.len t7_26.cap, .slice t7_27.a t7_27.len t7_27.cap]) ∧
            K (.tuple #[.agg #[.slice t7_26.a t7_26.len t7_26.cap, .slice t7_27.a t7_27.len t7_27.cap], .int .i64 0]) w_32)))
       (Br t35
         (∃ t81_1 : Sl, (At (fun w' => w' = w_11) ⟨b_g3, 0, none⟩ [.slice t81_1.a t81_1.len t81_1.cap]) ∧
          Br ((↑t81_1.len : Int) == 1)
           (∃ w_33 : World, ((Instr.storeAt 24 (.pointer ((some ⟨b_t6, 0, none⟩))) (.agg #[.slice none 0 0, .slice none 0 0])).run Try.prog w_11 = .ok () w_33) ∧
            ∃ t7_28 : Sl, ∃ t7_29 : Sl, (At (fun w' => w' = w_33) ⟨b_t6, 0, none⟩ [.slice t7_28.a t7_28.len t7_28.cap, .slice t7_29.a t7_29.len t7_29.cap]) ∧
            K (.tuple #[.agg #[.slice t7_28.a t7_28.len t7_28.cap, .slice t7_29.a t7_29.len t7_29.cap], .int .i64 7]) w_33)
           (Drw w_11 fun S_4 w_34 =>
            ∃ t88_2 : Sl, (At S_4 ⟨b_g3, 0, none⟩ [.slice t88_2.a t88_2.len t88_2.cap]) ∧
            ∃ t92_2 : Sl, (At S_4 ⟨b_g3, 0 + 1, none⟩ [.slice t92_2.a t92_2.len t92_2.cap]) ∧
            Calls Try.prog 35 #[.slice t88_2.a t88_2.len t88_2.cap, .int .i64 node2] w_34 fun e_11 w_35 =>
            ∃ t90_2 : Sl, (e_11 = .returned (.slice t90_2.a t90_2.len t90_2.cap)) ∧
            (S_4 w_35) ∧
            Calls Try.prog 35 #[.slice t92_2.a t92_2.len t92_2.cap, .int .i64 node2] w_35 fun e_12 w_36 =>
            ∃ t94_2 : Sl, (e_12 = .returned (.slice t94_2.a t94_2.len t94_2.cap)) ∧
            (S_4 w_36) ∧
            ∃ w_37 : World, ((Instr.storeAt 24 (.pointer ((some ⟨b_t6, 0, none⟩))) (.agg #[.slice t90_2.a t90_2.len t90_2.cap, .slice t94_2.a t94_2.len t94_2.cap])).run Try.prog w_36 = .ok () w_37) ∧
            ∃ t7_30 : Sl, ∃ t7_31 : Sl, (At (fun w' => w' = w_37) ⟨b_t6, 0, none⟩ [.slice t7_30.a t7_30.len t7_30.cap, .slice t7_31.a t7_31.len t7_31.cap]) ∧
            K (.tuple #[.agg #[.slice t7_30.a t7_30.len t7_30.cap, .slice t7_31.a t7_31.len t7_31.cap], .int .i64 0]) w_37))
         (Drw w_11 fun S_5 w_38 =>
          ∃ t88_3 : Sl, (At S_5 ⟨b_g3, 0, none⟩ [.slice t88_3.a t88_3.len t88_3.cap]) ∧
          ∃ t92_3 : Sl, (At S_5 ⟨b_g3, 0 + 1, none⟩ [.slice t92_3.a t92_3.len t92_3.cap]) ∧
          Calls Try.prog 35 #[.slice t88_3.a t88_3.len t88_3.cap, .int .i64 node2] w_38 fun e_13 w_39 =>
          ∃ t90_3 : Sl, (e_13 = .returned (.slice t90_3.a t90_3.len t90_3.cap)) ∧
          (S_5 w_39) ∧
          Calls Try.prog 35 #[.slice t92_3.a t92_3.len t92_3.cap, .int .i64 node2] w_39 fun e_14 w_40 =>
          ∃ t94_3 : Sl, (e_14 = .returned (.slice t94_3.a t94_3.len t94_3.cap)) ∧
          (S_5 w_40) ∧
          ∃ w_41 : World, ((Instr.storeAt 24 (.pointer ((some ⟨b_t6, 0, none⟩))) (.agg #[.slice t90_3.a t90_3.len t90_3.cap, .slice t94_3.a t94_3.len t94_3.cap])).run Try.prog w_40 = .ok () w_41) ∧
          ∃ t7_32 : Sl, ∃ t7_33 : Sl, (At (fun w' => w' = w_41) ⟨b_t6, 0, none⟩ [.slice t7_32.a t7_32.len t7_32.cap, .slice t7_33.a t7_33.len t7_33.cap]) ∧
          K (.tuple #[.agg #[.slice t7_32.a t7_32.len t7_32.cap, .slice t7_33.a t7_33.len t7_33.cap], .int .i64 0]) w_41))))) w_1) w

def sk24 : Sk := (.seq .leaf (.seq .leaf (.cut [] [] [7, 13, 14, 15, 16, 17, 18, 19, 20, 21, 22, 23, 24, 25, 26, 27, 28, 29, 30, 31] .leaf .leaf)))
theorem ok24 : fnOk Try.prog Try.f24.ntmps Try.f24 sk24 = true := by kernel_rfl
theorem eq24 (g0_0 : Sl) (g0_1 : Sl) (kind1 : Int) (node2 : Int) (K : Value → World → Prop) (w : World) : fnF Try.prog cl Try.f24 sk24 [.agg #[.slice g0_0.a g0_0.len g0_0.cap, .slice g0_1.a g0_1.len g0_1.cap], .int .i64 kind1, .int .i64 node2] K w = B24 g0_0 g0_1 kind1 node2 K w := by kernel_rfl
theorem call24 (g0_0 : Sl) (g0_1 : Sl) (kind1 : Int) (node2 : Int) (K : Value → World → Prop) (w : World) (h : B24 g0_0 g0_1 kind1 node2 K w) : Gets Try.prog 24 #[.agg #[.slice g0_0.a g0_0.len g0_0.cap, .slice g0_1.a g0_1.len g0_1.cap], .int .i64 kind1, .int .i64 node2] w K :=
  calls_of (sk := sk24) cl_ok mixed Try.func24 ok24 (args := [.agg #[.slice g0_0.a g0_0.len g0_0.cap, .slice g0_1.a g0_1.len g0_1.cap], .int .i64 kind1, .int .i64 node2]) (Nat.le_of_ble_eq_true (by kernel_rfl)) (by rw [eq24]; exact h)

/-- jetway/jetwayref07.SameGroup. -/
def B25 (a0_0 : Sl) (a0_1 : Sl) (b1_0 : Sl) (b1_1 : Sl) (K : Value → World → Prop) (w : World) : Prop :=
  New (.cells #[.slice a0_0.a a0_0.len a0_0.cap, .slice a0_1.a a0_1.len a0_1.cap] 24 (0, 0)) (fun b_a2 w_1 =>
  New (.cells #[.slice b1_0.a b1_0.len b1_0.cap, .slice b1_1.a b1_1.len b1_1.cap] 24 (0, 0)) (fun b_b3 w_2 =>
  ∃ t8 : Sl, (At (fun w' => w' = w_2) ⟨b_a2, 0, none⟩ [.slice t8.a t8.len t8.cap]) ∧
  ∃ t10 : Sl, (At (fun w' => w' = w_2) ⟨b_b3, 0, none⟩ [.slice t10.a t10.len t10.cap]) ∧
  Calls Try.prog 37 #[.slice t8.a t8.len t8.cap, .slice t10.a t10.len t10.cap] w_2 fun e w_3 =>
  ∃ t11 : Bool, (e = .returned (.bool t11)) ∧
  ∃ t13 : Sl, (At (fun w' => w' = w_3) ⟨b_a2, 0 + 1, none⟩ [.slice t13.a t13.len t13.cap]) ∧
  ∃ t15 : Sl, (At (fun w' => w' = w_3) ⟨b_b3, 0 + 1, none⟩ [.slice t15.a t15.len t15.cap]) ∧
  Calls Try.prog 37 #[.slice t13.a t13.len t13.cap, .slice t15.a t15.len t15.cap] w_3 fun e_1 w_4 =>
  ∃ t16 : Bool, (e_1 = .returned (.bool t16)) ∧
  Br t11
   (K (.bool t16) w_4)
   (K (.bool false) w_4)) w_1) w

def sk25 : Sk := .leaf
theorem ok25 : fnOk Try.prog Try.f25.ntmps Try.f25 sk25 = true := by kernel_rfl
theorem eq25 (a0_0 : Sl) (a0_1 : Sl) (b1_0 : Sl) (b1_1 : Sl) (K : Value → World → Prop) (w : World) : fnF Try.prog cl Try.f25 sk25 [.agg #[.slice a0_0.a a0_0.len a0_0.cap, .slice a0_1.a a0_1.len a0_1.cap], .agg #[.slice b1_0.a b1_0.len b1_0.cap, .slice b1_1.a b1_1.len b1_1.cap]] K w = B25 a0_0 a0_1 b1_0 b1_1 K w := by kernel_rfl
theorem call25 (a0_0 : Sl) (a0_1 : Sl) (b1_0 : Sl) (b1_1 : Sl) (K : Value → World → Prop) (w : World) (h : B25 a0_0 a0_1 b1_0 b1_1 K w) : Gets Try.prog 25 #[.agg #[.slice a0_0.a a0_0.len a0_0.cap, .slice a0_1.a a0_1.len a0_1.cap], .agg #[.slice b1_0.a b1_0.len b1_0.cap, .slice b1_1.a b1_1.len b1_1.cap]] w K :=
  calls_of (sk := sk25) cl_ok mixed Try.func25 ok25 (args := [.agg #[.slice a0_0.a a0_0.len a0_0.cap, .slice a0_1.a a0_1.len a0_1.cap], .agg #[.slice b1_0.a b1_0.len b1_0.cap, .slice b1_1.a b1_1.len b1_1.cap]]) (Nat.le_of_ble_eq_true (by kernel_rfl)) (by rw [eq25]; exact h)

/-- jetway/quorum.Change$1. -/
def B32 (n0 : Int) (c1 : Option Addr) (K : Value → World → Prop) (w : World) : Prop :=
  NilP c1 fun a_t5 =>
  ∃ t5 : Int, (At (fun w' => w' = w) a_t5 [.int .i64 t5]) ∧
  K (.bool (n0 == t5)) w

def sk32 : Sk := .leaf
theorem ok32 : fnOk Try.prog Try.f32.ntmps Try.f32 sk32 = true := by kernel_rfl
theorem eq32 (n0 : Int) (c1 : Option Addr) (K : Value → World → Prop) (w : World) : fnF Try.prog cl Try.f32 sk32 [.int .i64 n0, .pointer c1] K w = B32 n0 c1 K w := by kernel_rfl
theorem call32 (n0 : Int) (c1 : Option Addr) (K : Value → World → Prop) (w : World) (h : B32 n0 c1 K w) : Gets Try.prog 32 #[.int .i64 n0, .pointer c1] w K :=
  calls_of (sk := sk32) cl_ok mixed Try.func32 ok32 (args := [.int .i64 n0, .pointer c1]) (Nat.le_of_ble_eq_true (by kernel_rfl)) (by rw [eq32]; exact h)

/-- slices.DeleteFunc[[]int,int]. -/
def B33 (s0 : Sl) (del1 : Value) (K : Value → World → Prop) (w : World) : Prop :=
  Calls Try.prog 42 #[.slice s0.a s0.len s0.cap, del1] w fun e w_1 =>
  ∃ t10 : Int, (e = .returned (.int .i64 t10)) ∧
  Br (t10 == -1)
   (K (.slice s0.a s0.len s0.cap) w_1)
   (∃ (I : Int → Int → World → Prop) (μ : Int → Int → World → Nat), (I t10 (IntKind.i64.wrap (t10 + 1)) w_1) ∧ ∀ (z : Env) (i5 : Int) (j6 : Int) (w_2 : World), I i5 j6 w_2 →
    Br (decide (j6 < (↑s0.len : Int)))
     (Rng j6 s0.len (NilP s0.a fun a_t24 =>
      ∃ t25 : Int, (At (fun w' => w' = w_2) (Addr.add a_t24 j6.toNat) [.int .i64 t25]) ∧
      CalW Try.prog cl del1 [.int .i64 t25] w_2 fun e_1 w_3 =>
      ∃ t28 : Bool, (e_1 = .returned (.bool t28)) ∧
      Br (!t28)
       (Rng i5 s0.len (NilP s0.a fun a_t33 =>
        ∃ w_4 : World, ((Instr.storeAt 3 (.pointer ((some (Addr.add a_t33 i5.toNat)))) (.int .i64 t25)).run Try.prog w_3 = .ok () w_4) ∧
        (I (IntKind.i64.wrap (i5 + 1)) (IntKind.i64.wrap (j6 + 1)) w_4) ∧ μ (IntKind.i64.wrap (i5 + 1)) (IntKind.i64.wrap (j6 + 1)) w_4 < μ i5 j6 w_2))
       ((I i5 (IntKind.i64.wrap (j6 + 1)) w_3) ∧ μ i5 (IntKind.i64.wrap (j6 + 1)) w_3 < μ i5 j6 w_2)))
     (((0 : Int) ≤ i5) ∧
      ((i5 : Int) ≤ (↑s0.len : Int)) ∧
      ∃ w_5 : World, ((Builtin.clear_ #[22] 0 #[.slice (cutA s0.a i5.toNat s0.cap 1) (s0.len - i5.toNat) (s0.cap - i5.toNat)]).run Try.prog w_2 = .ok (.tuple #[]) w_5) ∧
      ((0 : Int) ≤ i5) ∧
      ((i5 : Int) ≤ (↑s0.cap : Int)) ∧
      K (.slice s0.a i5.toNat s0.cap) w_5))

def sk33 : Sk := (.seq .leaf (.seq .leaf (.seq .leaf (.seq (.seq .leaf (.block (.loop [5, 6] [(.int .i64), (.int .i64)] [5, 6, 7, 16, 17, 18, 19, 20, 21, 22, 23, 24, 25, 26, 27, 28, 29, 30, 31, 32, 33, 34, 35] .leaf))) .leaf))))
theorem ok33 : fnOk Try.prog Try.f33.ntmps Try.f33 sk33 = true := by kernel_rfl
theorem eq33 (s0 : Sl) (del1 : Value) (K : Value → World → Prop) (w : World) : fnF Try.prog cl Try.f33 sk33 [.slice s0.a s0.len s0.cap, del1] K w = B33 s0 del1 K w := by kernel_rfl
theorem call33 (s0 : Sl) (del1 : Value) (K : Value → World → Prop) (w : World) (h : B33 s0 del1 K w) : Gets Try.prog 33 #[.slice s0.a s0.len s0.cap, del1] w K :=
  calls_of (sk := sk33) cl_ok mixed Try.func33 ok33 (args := [.slice s0.a s0.len s0.cap, del1]) (Nat.le_of_ble_eq_true (by kernel_rfl)) (by rw [eq33]; exact h)

/-- slices.Clone[[]int,int]. -/
def B34 (s0 : Sl) (K : Value → World → Prop) (w : World) : Prop :=
  Br s0.a.isNone
   (K (.slice none 0 0) w)
   (New (.cells #[] 3 (0, 0)) (fun b_t5 w_1 =>
    ∃ w_2 : World, ∃ t7 : Sl, ((Builtin.append_ #[22, 22] 22 #[.slice ((some ⟨b_t5, 0, none⟩)) 0 0, .slice s0.a s0.len s0.cap]).run Try.prog w_1 = .ok (.slice t7.a t7.len t7.cap) w_2) ∧
    K (.slice t7.a t7.len t7.cap) w_2) w)

def sk34 : Sk := .leaf
theorem ok34 : fnOk Try.prog Try.f34.ntmps Try.f34 sk34 = true := by kernel_rfl
theorem eq34 (s0 : Sl) (K : Value → World → Prop) (w : World) : fnF Try.prog cl Try.f34 sk34 [.slice s0.a s0.len s0.cap] K w = B34 s0 K w := by kernel_rfl
theorem call34 (s0 : Sl) (K : Value → World → Prop) (w : World) (h : B34 s0 K w) : Gets Try.prog 34 #[.slice s0.a s0.len s0.cap] w K :=
  calls_of (sk := sk34) cl_ok mixed Try.func34 ok34 (args := [.slice s0.a s0.len s0.cap]) (Nat.le_of_ble_eq_true (by kernel_rfl)) (by rw [eq34]; exact h)

/-- jetway/jetwayref09.without. -/
def B35 (l0 : Sl) (n1 : Int) (K : Value → World → Prop) (w : World) : Prop :=
  ∃ (I : Sl → Int → World → Prop) (μ : Sl → Int → World → Nat), (I ⟨none, 0, 0⟩ 0 w) ∧ ∀ (z : Env) (out5 : Sl) (i6 : Int) (w_1 : World), I out5 i6 w_1 →
  Br (decide (i6 < (↑l0.len : Int)))
   (Rng i6 l0.len (NilP l0.a fun a_t15 =>
    ∃ t16 : Int, (At (fun w' => w' = w_1) (Addr.add a_t15 i6.toNat) [.int .i64 t16]) ∧
    Br (t16 != n1)
     (Rng i6 l0.len (NilP l0.a fun a_t22 =>
      ∃ t23 : Int, (At (fun w' => w' = w_1) (Addr.add a_t22 i6.toNat) [.int .i64 t23]) ∧
      New (.cells #[.int .i64 t23] 3 (0, 0)) (fun b_t24 w_2 =>
      ∃ w_3 : World, ∃ t25 : Sl, ((Builtin.append_ #[22, 22] 22 #[.slice out5.a out5.len out5.cap, .slice ((some ⟨b_t24, 0, none⟩)) 1 1]).run Try.prog w_2 = .ok (.slice t25.a t25.len t25.cap) w_3) ∧
      (I t25 (IntKind.i64.wrap (i6 + 1)) w_3) ∧ μ t25 (IntKind.i64.wrap (i6 + 1)) w_3 < μ out5 i6 w_1) w_1))
     ((I out5 (IntKind.i64.wrap (i6 + 1)) w_1) ∧ μ out5 (IntKind.i64.wrap (i6 + 1)) w_1 < μ out5 i6 w_1)))
   (K (.slice out5.a out5.len out5.cap) w_1)

def sk35 : Sk := (.seq .leaf (.seq .leaf (.seq (.seq .leaf (.block (.loop [5, 6] [.sl, (.int .i64)] [5, 6, 7, 8, 9, 10, 11, 12, 13, 14, 15, 16, 17, 18, 19, 20, 21, 22, 23, 24, 25] .leaf))) .leaf)))
theorem ok35 : fnOk Try.prog Try.f35.ntmps Try.f35 sk35 = true := by kernel_rfl
theorem eq35 (l0 : Sl) (n1 : Int) (K : Value → World → Prop) (w : World) : fnF Try.prog cl Try.f35 sk35 [.slice l0.a l0.len l0.cap, .int .i64 n1] K w = B35 l0 n1 K w := by kernel_rfl
theorem call35 (l0 : Sl) (n1 : Int) (K : Value → World → Prop) (w : World) (h : B35 l0 n1 K w) : Gets Try.prog 35 #[.slice l0.a l0.len l0.cap, .int .i64 n1] w K :=
  calls_of (sk := sk35) cl_ok mixed Try.func35 ok35 (args := [.slice l0.a l0.len l0.cap, .int .i64 n1]) (Nat.le_of_ble_eq_true (by kernel_rfl)) (by rw [eq35]; exact h)

/-- jetway/jetwayref09.with. -/
def B36 (l0 : Sl) (n1 : Int) (K : Value → World → Prop) (w : World) : Prop :=
  ∃ (I : Sl → Bool → Int → World → Prop) (μ : Sl → Bool → Int → World → Nat), (I ⟨none, 0, 0⟩ false 0 w) ∧ ∀ (z : Env) (out5 : Sl) (put6 : Bool) (i7 : Int) (w_1 : World), I out5 put6 i7 w_1 →
  Br (decide (i7 < (↑l0.len : Int)))
   (Br (!put6)
     (Rng i7 l0.len (NilP l0.a fun a_t19 =>
      ∃ t20 : Int, (At (fun w' => w' = w_1) (Addr.add a_t19 i7.toNat) [.int .i64 t20]) ∧
      Br (decide (t20 > n1))
       (New (.cells #[.int .i64 n1] 3 (0, 0)) (fun b_t26 w_2 =>
        ∃ w_3 : World, ∃ t27 : Sl, ((Builtin.append_ #[22, 22] 22 #[.slice out5.a out5.len out5.cap, .slice ((some ⟨b_t26, 0, none⟩)) 1 1]).run Try.prog w_2 = .ok (.slice t27.a t27.len t27.cap) w_3) ∧
        Rng i7 l0.len (NilP l0.a fun a_t31 =>
        ∃ t32 : Int, (At (fun w' => w' = w_3) (Addr.add a_t31 i7.toNat) [.int .i64 t32]) ∧
        New (.cells #[.int .i64 t32] 3 (0, 0)) (fun b_t33 w_4 =>
        ∃ w_5 : World, ∃ t34 : Sl, ((Builtin.append_ #[22, 22] 22 #[.slice t27.a t27.len t27.cap, .slice ((some ⟨b_t33, 0, none⟩)) 1 1]).run Try.prog w_4 = .ok (.slice t34.a t34.len t34.cap) w_5) ∧
        (I t34 true (IntKind.i64.wrap (i7 + 1)) w_5) ∧ μ t34 true (IntKind.i64.wrap (i7 + 1)) w_5 < μ out5 put6 i7 w_1) w_3)) w_1)
       (Rng i7 l0.len (NilP l0.a fun a_t31_1 =>
        ∃ t32_1 : Int, (At (fun w' => w' = w_1) (Addr.add a_t31_1 i7.toNat) [.int .i64 t32_1]) ∧
        New (.cells #[.int .i64 t32_1] 3 (0, 0)) (fun b_t33_1 w_6 =>
        ∃ w_7 : World, ∃ t34_1 : Sl, ((Builtin.append_ #[22, 22] 22 #[.slice out5.a out5.len out5.cap, .slice ((some ⟨b_t33_1, 0, none⟩)) 1 1]).run Try.prog w_6 = .ok (.slice t34_1.a t34_1.len t34_1.cap) w_7) ∧
        (I t34_1 put6 (IntKind.i64.wrap (i7 + 1)) w_7) ∧ μ t34_1 put6 (IntKind.i64.wrap (i7 + 1)) w_7 < μ out5 put6 i7 w_1) w_1))))
     (Rng i7 l0.len (NilP l0.a fun a_t31_2 =>
      ∃ t32_2 : Int, (At (fun w' => w' = w_1) (Addr.add a_t31_2 i7.toNat) [.int .i64 t32_2]) ∧
      New (.cells #[.int .i64 t32_2] 3 (0, 0)) (fun b_t33_2 w_8 =>
      ∃ w_9 : World, ∃ t34_2 : Sl, ((Builtin.append_ #[22, 22] 22 #[.slice out5.a out5.len out5.cap, .slice ((some ⟨b_t33_2, 0, none⟩)) 1 1]).run Try.prog w_8 = .ok (.slice t34_2.a t34_2.len t34_2.cap) w_9) ∧
      (I t34_2 put6 (IntKind.i64.wrap (i7 + 1)) w_9) ∧ μ t34_2 put6 (IntKind.i64.wrap (i7 + 1)) w_9 < μ out5 put6 i7 w_1) w_1)))
   (Br (!put6)
     (New (.cells #[.int .i64 n1] 3 (0, 0)) (fun b_t39 w_10 =>
      ∃ w_11 : World, ∃ t40 : Sl, ((Builtin.append_ #[22, 22] 22 #[.slice out5.a out5.len out5.cap, .slice ((some ⟨b_t39, 0, none⟩)) 1 1]).run Try.prog w_10 = .ok (.slice t40.a t40.len t40.cap) w_11) ∧
      K (.slice t40.a t40.len t40.cap) w_11) w_1)
     (K (.slice out5.a out5.len out5.cap) w_1))

def sk36 : Sk := (.seq .leaf (.seq .leaf (.seq .leaf (.seq (.seq .leaf (.block (.loop [5, 6, 7] [.sl, .bool, (.int .i64)] [5, 6, 7, 8, 9, 10, 11, 12, 13, 14, 15, 16, 17, 18, 19, 20, 21, 22, 23, 24, 25, 26, 27, 28, 29, 30, 31, 32, 33, 34] .leaf))) .leaf))))
theorem ok36 : fnOk Try.prog Try.f36.ntmps Try.f36 sk36 = true := by kernel_rfl
theorem eq36 (l0 : Sl) (n1 : Int) (K : Value → World → Prop) (w : World) : fnF Try.prog cl Try.f36 sk36 [.slice l0.a l0.len l0.cap, .int .i64 n1] K w = B36 l0 n1 K w := by kernel_rfl
theorem call36 (l0 : Sl) (n1 : Int) (K : Value → World → Prop) (w : World) (h : B36 l0 n1 K w) : Gets Try.prog 36 #[.slice l0.a l0.len l0.cap, .int .i64 n1] w K :=
  calls_of (sk := sk36) cl_ok mixed Try.func36 ok36 (args := [.slice l0.a l0.len l0.cap, .int .i64 n1]) (Nat.le_of_ble_eq_true (by kernel_rfl)) (by rw [eq36]; exact h)

/-- jetway/jetwayref07.SameInts. -/
def B37 (a0 : Sl) (b1 : Sl) (K : Value → World → Prop) (w : World) : Prop :=
  Br ((↑a0.len : Int) != (↑b1.len : Int))
   (K (.bool false) w)
   (∃ (I : Int → World → Prop) (μ : Int → World → Nat), (I 0 w) ∧ ∀ (z : Env) (i5 : Int) (w_1 : World), I i5 w_1 →
    Br (decide (i5 < (↑a0.len : Int)))
     (Drw w_1 fun S w_2 =>
      Rng i5 a0.len (NilP a0.a fun a_t19 =>
      ∃ t20 : Int, (At S (Addr.add a_t19 i5.toNat) [.int .i64 t20]) ∧
      Rng i5 b1.len (NilP b1.a fun a_t23 =>
      ∃ t24 : Int, (At S (Addr.add a_t23 i5.toNat) [.int .i64 t24]) ∧
      Br (t20 != t24)
       (K (.bool false) w_2)
       ((I (IntKind.i64.wrap (i5 + 1)) w_2) ∧ μ (IntKind.i64.wrap (i5 + 1)) w_2 < μ i5 w_1))))
     (K (.bool true) w_1))

def sk37 : Sk := (.seq .leaf (.seq .leaf (.seq (.seq .leaf (.block (.loop [5] [(.int .i64)] [4, 5, 11, 12, 13, 14, 15, 16, 17, 18, 19, 20, 21, 22, 23, 24, 25] .leaf))) .leaf)))
theorem ok37 : fnOk Try.prog Try.f37.ntmps Try.f37 sk37 = true := by kernel_rfl
theorem eq37 (a0 : Sl) (b1 : Sl) (K : Value → World → Prop) (w : World) : fnF Try.prog cl Try.f37 sk37 [.slice a0.a a0.len a0.cap, .slice b1.a b1.len b1.cap] K w = B37 a0 b1 K w := by kernel_rfl
theorem call37 (a0 : Sl) (b1 : Sl) (K : Value → World → Prop) (w : World) (h : B37 a0 b1 K w) : Gets Try.prog 37 #[.slice a0.a a0.len a0.cap, .slice b1.a b1.len b1.cap] w K :=
  calls_of (sk := sk37) cl_ok mixed Try.func37 ok37 (args := [.slice a0.a a0.len a0.cap, .slice b1.a b1.len b1.cap]) (Nat.le_of_ble_eq_true (by kernel_rfl)) (by rw [eq37]; exact h)

/-- slices.IndexFunc[[]int,int]. -/
def B42 (s0 : Sl) (f1 : Value) (K : Value → World → Prop) (w : World) : Prop :=
  ∃ (I : Int → World → Prop) (μ : Int → World → Nat), (I 0 w) ∧ ∀ (z : Env) (t8 : Int) (w_1 : World), I t8 w_1 →
  Br (decide (t8 < (↑s0.len : Int)))
   (Rng t8 s0.len (NilP s0.a fun a_t14 =>
    ∃ t15 : Int, (At (fun w' => w' = w_1) (Addr.add a_t14 t8.toNat) [.int .i64 t15]) ∧
    CalW Try.prog cl f1 [.int .i64 t15] w_1 fun e w_2 =>
    ∃ t16 : Bool, (e = .returned (.bool t16)) ∧
    Br t16
     (K (.int .i64 t8) w_2)
     ((I (IntKind.i64.wrap (t8 + 1)) w_2) ∧ μ (IntKind.i64.wrap (t8 + 1)) w_2 < μ t8 w_1)))
   (K (.int .i64 ((-1))) w_1)

def sk42 : Sk := (.seq .leaf (.seq (.seq .leaf (.block (.loop [8] [(.int .i64)] [4, 5, 8, 9, 10, 11, 12, 13, 14, 15, 16, 17, 18] .leaf))) .leaf))
theorem ok42 : fnOk Try.prog Try.f42.ntmps Try.f42 sk42 = true := by kernel_rfl
theorem eq42 (s0 : Sl) (f1 : Value) (K : Value → World → Prop) (w : World) : fnF Try.prog cl Try.f42 sk42 [.slice s0.a s0.len s0.cap, f1] K w = B42 s0 f1 K w := by kernel_rfl
theorem call42 (s0 : Sl) (f1 : Value) (K : Value → World → Prop) (w : World) (h : B42 s0 f1 K w) : Gets Try.prog 42 #[.slice s0.a s0.len s0.cap, f1] w K :=
  calls_of (sk := sk42) cl_ok mixed Try.func42 ok42 (args := [.slice s0.a s0.len s0.cap, f1]) (Nat.le_of_ble_eq_true (by kernel_rfl)) (by rw [eq42]; exact h)

end Go.Proofs.Ytjbpncdealpmhaa
