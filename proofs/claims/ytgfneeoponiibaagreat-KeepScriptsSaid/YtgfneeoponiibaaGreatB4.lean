/- The formulas of functions of this seat's translation, printed by a program of mine off the translation; each is proved equal to 'fnF' of the function's body, so it is enough for the call. No condition. -/
import Derived.Test.YtgfneeoponiibaaGreatB3
import Derived.Test.YtgfneeoponiibaaGreatB2
namespace Go.Proofs.YtgfneeoponiibaaGreat
open Go Go.VC
set_option linter.unusedVariables false
/-- jetway/keep.Encode. -/
def B9 (s0_0 : Int) (s0_1 : Int) (s0_2 : Sl) (s0_3 : Sl) (s0_4 : Sl) (K : Value → World → Prop) (w : World) : Prop :=
  New (.cells #[.int .i64 s0_0, .int .i64 s0_1, .slice s0_2.a s0_2.len s0_2.cap, .slice s0_3.a s0_3.len s0_3.cap, .slice s0_4.a s0_4.len s0_4.cap] 27 (0, 0)) (fun b_s1 w_1 =>
  ∃ t6 : Int, ∃ t6_1 : Int, ∃ t6_2 : Sl, ∃ t6_3 : Sl, ∃ t6_4 : Sl, (At (fun w' => w' = w_1) ⟨b_s1, 0, none⟩ [.int .i64 t6, .int .i64 t6_1, .slice t6_2.a t6_2.len t6_2.cap, .slice t6_3.a t6_3.len t6_3.cap, .slice t6_4.a t6_4.len t6_4.cap]) ∧
  Calls Tryz.prog 37 #[.agg #[.int .i64 t6, .int .i64 t6_1, .slice t6_2.a t6_2.len t6_2.cap, .slice t6_3.a t6_3.len t6_3.cap, .slice t6_4.a t6_4.len t6_4.cap]] w_1 fun e w_2 =>
  ∃ t7 : Bool, (e = .returned (.bool t7)) ∧
  Br (!t7)
   (K (.tuple #[.slice none 0 0, .int .i64 1]) w_2)
   (New (.cells #[.slice none 0 0] 25 (0, 0)) (fun b_out4 w_3 =>
    ∃ t12 : Int, (At (fun w' => w' = w_3) ⟨b_s1, 0, none⟩ [.int .i64 t12]) ∧
    ∃ t14 : Int, (At (fun w' => w' = w_3) ⟨b_s1, 0 + 1, none⟩ [.int .i64 t14]) ∧
    ∃ t17 : Sl, (At (fun w' => w' = w_3) ⟨b_s1, 0 + 2, none⟩ [.slice t17.a t17.len t17.cap]) ∧
    New (.cells #[.int .i64 t12, .int .i64 t14, .int .i64 ((↑t17.len : Int))] 3 (0, 0)) (fun b_t19 w_4 =>
    Calls Tryz.prog 38 #[.slice ((some ⟨b_t19, 0, none⟩)) 3 3, .pointer ((some ⟨b_out4, 0, none⟩))] w_4 fun e_1 w_5 =>
    (e_1 = .returned (.tuple #[])) ∧
    ∃ t24 : Sl, (At (fun w' => w' = w_5) ⟨b_s1, 0 + 2, none⟩ [.slice t24.a t24.len t24.cap]) ∧
    Calls Tryz.prog 38 #[.slice t24.a t24.len t24.cap, .pointer ((some ⟨b_out4, 0, none⟩))] w_5 fun e_2 w_6 =>
    (e_2 = .returned (.tuple #[])) ∧
    ∃ t29 : Sl, (At (fun w' => w' = w_6) ⟨b_s1, 0 + 2 + 1, none⟩ [.slice t29.a t29.len t29.cap]) ∧
    New (.cells #[.int .i64 ((↑t29.len : Int))] 3 (0, 0)) (fun b_t31 w_7 =>
    Calls Tryz.prog 38 #[.slice ((some ⟨b_t31, 0, none⟩)) 1 1, .pointer ((some ⟨b_out4, 0, none⟩))] w_7 fun e_3 w_8 =>
    (e_3 = .returned (.tuple #[])) ∧
    ∃ t36 : Sl, (At (fun w' => w' = w_8) ⟨b_s1, 0 + 2 + 1, none⟩ [.slice t36.a t36.len t36.cap]) ∧
    Calls Tryz.prog 38 #[.slice t36.a t36.len t36.cap, .pointer ((some ⟨b_out4, 0, none⟩))] w_8 fun e_4 w_9 =>
    (e_4 = .returned (.tuple #[])) ∧
    Drw w_9 fun S w_10 =>
    ∃ t38 : Sl, (At S ⟨b_out4, 0, none⟩ [.slice t38.a t38.len t38.cap]) ∧
    ∃ t40 : Sl, (At S ⟨b_s1, 0 + 4, none⟩ [.slice t40.a t40.len t40.cap]) ∧
    Calls Tryz.prog 40 #[.slice t40.a t40.len t40.cap] w_10 fun e_5 w_11 =>
    ∃ t41 : Sl, (e_5 = .returned (.slice t41.a t41.len t41.cap)) ∧
    (S w_11) ∧
    ∃ w_12 : World, ∃ t42 : Sl, ((Builtin.append_ #[25, 25] 25 #[.slice t38.a t38.len t38.cap, .slice t41.a t41.len t41.cap]).run Tryz.prog w_11 = .ok (.slice t42.a t42.len t42.cap) w_12) ∧
    (S w_12) ∧
    K (.tuple #[.slice t42.a t42.len t42.cap, .int .i64 0]) w_12) w_6) w_3) w_2)) w

def sk9 : Sk := .leaf
theorem ok9 : fnOk Tryz.prog Tryz.f9.ntmps Tryz.f9 sk9 = true := by kernel_rfl
theorem eq9 (s0_0 : Int) (s0_1 : Int) (s0_2 : Sl) (s0_3 : Sl) (s0_4 : Sl) (K : Value → World → Prop) (w : World) : fnF Tryz.prog cl Tryz.f9 sk9 [.agg #[.int .i64 s0_0, .int .i64 s0_1, .slice s0_2.a s0_2.len s0_2.cap, .slice s0_3.a s0_3.len s0_3.cap, .slice s0_4.a s0_4.len s0_4.cap]] K w = B9 s0_0 s0_1 s0_2 s0_3 s0_4 K w := by kernel_rfl
theorem call9 (s0_0 : Int) (s0_1 : Int) (s0_2 : Sl) (s0_3 : Sl) (s0_4 : Sl) (K : Value → World → Prop) (w : World) (h : B9 s0_0 s0_1 s0_2 s0_3 s0_4 K w) : Gets Tryz.prog 9 #[.agg #[.int .i64 s0_0, .int .i64 s0_1, .slice s0_2.a s0_2.len s0_2.cap, .slice s0_3.a s0_3.len s0_3.cap, .slice s0_4.a s0_4.len s0_4.cap]] w K :=
  calls_of (sk := sk9) cl_ok mixed Tryz.func9 ok9 (args := [.agg #[.int .i64 s0_0, .int .i64 s0_1, .slice s0_2.a s0_2.len s0_2.cap, .slice s0_3.a s0_3.len s0_3.cap, .slice s0_4.a s0_4.len s0_4.cap]]) (Nat.le_of_ble_eq_true (by kernel_rfl)) (by rw [eq9]; exact h)

/-- jetway/keep.Encode$1. -/
def B38 (l0 : Sl) (c1 : Option Addr) (K : Value → World → Prop) (w : World) : Prop :=
  ∃ (I : Int → World → Prop) (μ : Int → World → Nat), (I 0 w) ∧ ∀ (z : Env) (t7 : Int) (w_1 : World), I t7 w_1 →
  Br (decide (t7 < (↑l0.len : Int)))
   (Rng t7 l0.len (NilP l0.a fun a_t9 =>
    ∃ t10 : Int, (At (fun w' => w' = w_1) (Addr.add a_t9 t7.toNat) [.int .i64 t10]) ∧
    Drw w_1 fun S w_2 =>
    NilP c1 fun a_t11 =>
    ∃ t11 : Sl, (At S a_t11 [.slice t11.a t11.len t11.cap]) ∧
    Calls Tryz.prog 39 #[.int .u64 (IntKind.u64.wrap t10)] w_2 fun e w_3 =>
    ∃ t14 : Sl, (e = .returned (.slice t14.a t14.len t14.cap)) ∧
    (S w_3) ∧
    ∃ w_4 : World, ∃ t15 : Sl, ((Builtin.append_ #[25, 25] 25 #[.slice t11.a t11.len t11.cap, .slice t14.a t14.len t14.cap]).run Tryz.prog w_3 = .ok (.slice t15.a t15.len t15.cap) w_4) ∧
    ∃ w_5 : World, ((Instr.storeAt 25 (.pointer c1) (.slice t15.a t15.len t15.cap)).run Tryz.prog w_4 = .ok () w_5) ∧
    (I (IntKind.i64.wrap (t7 + 1)) w_5) ∧ μ (IntKind.i64.wrap (t7 + 1)) w_5 < μ t7 w_1))
   (K (.tuple #[]) w_1)

def sk38 : Sk := (.seq .leaf (.block (.loop [7] [(.int .i64)] [4, 7, 8, 9, 10, 11, 12, 13, 14, 15, 16] .leaf)))
theorem ok38 : fnOk Tryz.prog Tryz.f38.ntmps Tryz.f38 sk38 = true := by kernel_rfl
theorem eq38 (l0 : Sl) (c1 : Option Addr) (K : Value → World → Prop) (w : World) : fnF Tryz.prog cl Tryz.f38 sk38 [.slice l0.a l0.len l0.cap, .pointer c1] K w = B38 l0 c1 K w := by kernel_rfl
theorem call38 (l0 : Sl) (c1 : Option Addr) (K : Value → World → Prop) (w : World) (h : B38 l0 c1 K w) : Gets Tryz.prog 38 #[.slice l0.a l0.len l0.cap, .pointer c1] w K :=
  calls_of (sk := sk38) cl_ok mixed Tryz.func38 ok38 (args := [.slice l0.a l0.len l0.cap, .pointer c1]) (Nat.le_of_ble_eq_true (by kernel_rfl)) (by rw [eq38]; exact h)

/-- jetway/keep.Decode. -/
def B11 (b0 : Sl) (K : Value → World → Prop) (w : World) : Prop :=
  New (.cells #[.int .i64 0, .int .i64 0, .slice none 0 0, .slice none 0 0, .slice none 0 0] 27 (0, 0)) (fun b_t2 w_1 =>
  Calls Tryz.prog 44 #[.slice b0.a b0.len b0.cap] w_1 fun e w_2 =>
  ∃ t8 : Option Addr, (e = .returned (.pointer t8)) ∧
  New (.cells #[.pointer none] 74 (0, 0)) (fun b_r4 w_3 =>
  ∃ w_4 : World, ((Instr.storeAt 74 (.pointer ((some ⟨b_r4, 0, none⟩))) (.pointer t8)).run Tryz.prog w_3 = .ok () w_4) ∧
  ∃ (J : Option Addr → World → Prop), (Drw w_4 fun S w_5 =>
    ∃ t10 : Option Addr, (At S ⟨b_r4, 0, none⟩ [.pointer t10]) ∧
    ∃ t13 : Option Addr, (At S ⟨b_r4, 0, none⟩ [.pointer t13]) ∧
    (Calls Tryz.prog 46 #[.pointer t10, .int .u64 1099511627776] w_5 fun e_1 w_6 =>
    ∃ t11 : Int, (e_1 = .returned (.int .u64 t11)) ∧
    (S w_6) ∧
    (Calls Tryz.prog 46 #[.pointer t13, .int .u64 1099511627776] w_6 fun e_2 w_7 =>
    ∃ t14 : Int, (e_2 = .returned (.int .u64 t14)) ∧
    (S w_7) ∧
    New (.cells #[.int .i64 0, .int .i64 0, .slice none 0 0, .slice none 0 0, .slice none 0 0] 27 (0, 0)) (fun b_s6 w_8 =>
    (S w_8) ∧
    ∃ w_9 : World, ((Instr.storeAt 27 (.pointer ((some ⟨b_s6, 0, none⟩))) (.agg #[.int .i64 (IntKind.i64.wrap t11), .int .i64 (IntKind.i64.wrap t14), .slice none 0 0, .slice none 0 0, .slice none 0 0])).run Tryz.prog w_8 = .ok () w_9) ∧
    J ((some ⟨b_s6, 0, none⟩)) w_9) w_7) ∧
    New (.cells #[.int .i64 0, .int .i64 0, .slice none 0 0, .slice none 0 0, .slice none 0 0] 27 (0, 0)) (fun b_s6_1 w_10 =>
    (S w_10) ∧
    Calls Tryz.prog 46 #[.pointer t13, .int .u64 1099511627776] w_10 fun e_3 w_11 =>
    ∃ t14_1 : Int, (e_3 = .returned (.int .u64 t14_1)) ∧
    (S w_11) ∧
    ∃ w_12 : World, ((Instr.storeAt 27 (.pointer ((some ⟨b_s6_1, 0, none⟩))) (.agg #[.int .i64 (IntKind.i64.wrap t11), .int .i64 (IntKind.i64.wrap t14_1), .slice none 0 0, .slice none 0 0, .slice none 0 0])).run Tryz.prog w_11 = .ok () w_12) ∧
    J ((some ⟨b_s6_1, 0, none⟩)) w_12) w_6) ∧
    New (.cells #[.int .i64 0, .int .i64 0, .slice none 0 0, .slice none 0 0, .slice none 0 0] 27 (0, 0)) (fun b_s6_2 w_13 =>
    (S w_13) ∧
    Calls Tryz.prog 46 #[.pointer t10, .int .u64 1099511627776] w_13 fun e_4 w_14 =>
    ∃ t11_1 : Int, (e_4 = .returned (.int .u64 t11_1)) ∧
    (S w_14) ∧
    Calls Tryz.prog 46 #[.pointer t13, .int .u64 1099511627776] w_14 fun e_5 w_15 =>
    ∃ t14_2 : Int, (e_5 = .returned (.int .u64 t14_2)) ∧
    (S w_15) ∧
    ∃ w_16 : World, ((Instr.storeAt 27 (.pointer ((some ⟨b_s6_2, 0, none⟩))) (.agg #[.int .i64 (IntKind.i64.wrap t11_1), .int .i64 (IntKind.i64.wrap t14_2), .slice none 0 0, .slice none 0 0, .slice none 0 0])).run Tryz.prog w_15 = .ok () w_16) ∧
    J ((some ⟨b_s6_2, 0, none⟩)) w_16) w_5) ∧
  ∀ (z : Env) (s6 : Option Addr) (w_17 : World), J s6 w_17 →
  Calls Tryz.prog 45 #[.pointer ((some ⟨b_r4, 0, none⟩))] w_17 fun e_6 w_18 =>
  ∃ t18 : Sl, (e_6 = .returned (.slice t18.a t18.len t18.cap)) ∧
  NilP s6 fun a_t19 =>
  ∃ w_19 : World, ((Instr.storeAt 22 (.pointer ((some ⟨a_t19.block, a_t19.off + 2, none⟩))) (.slice t18.a t18.len t18.cap)).run Tryz.prog w_18 = .ok () w_19) ∧
  Calls Tryz.prog 45 #[.pointer ((some ⟨b_r4, 0, none⟩))] w_19 fun e_7 w_20 =>
  ∃ t22 : Sl, (e_7 = .returned (.slice t22.a t22.len t22.cap)) ∧
  NilP s6 fun a_t23 =>
  ∃ w_21 : World, ((Instr.storeAt 22 (.pointer ((some ⟨a_t23.block, a_t23.off + 2 + 1, none⟩))) (.slice t22.a t22.len t22.cap)).run Tryz.prog w_20 = .ok () w_21) ∧
  ∃ t25 : Option Addr, (At (fun w' => w' = w_21) ⟨b_r4, 0, none⟩ [.pointer t25]) ∧
  Calls Tryz.prog 47 #[.pointer t25, .int .i64 60000] w_21 fun e_8 w_22 =>
  ∃ t26 : Sl, (e_8 = .returned (.slice t26.a t26.len t26.cap)) ∧
  NilP s6 fun a_t27 =>
  ∃ w_23 : World, ((Instr.storeAt 25 (.pointer ((some ⟨a_t27.block, a_t27.off + 4, none⟩))) (.slice t26.a t26.len t26.cap)).run Tryz.prog w_22 = .ok () w_23) ∧
  ∃ t28 : Option Addr, (At (fun w' => w' = w_23) ⟨b_r4, 0, none⟩ [.pointer t28]) ∧
  Calls Tryz.prog 48 #[.pointer t28] w_23 fun e_9 w_24 =>
  ∃ t29 : Bool, (e_9 = .returned (.bool t29)) ∧
  Br (!t29)
   (∃ w_25 : World, ((Instr.storeAt 27 (.pointer ((some ⟨b_t2, 0, none⟩))) (.agg #[.int .i64 0, .int .i64 0, .slice none 0 0, .slice none 0 0, .slice none 0 0])).run Tryz.prog w_24 = .ok () w_25) ∧
    ∃ t3 : Int, ∃ t3_1 : Int, ∃ t3_2 : Sl, ∃ t3_3 : Sl, ∃ t3_4 : Sl, (At (fun w' => w' = w_25) ⟨b_t2, 0, none⟩ [.int .i64 t3, .int .i64 t3_1, .slice t3_2.a t3_2.len t3_2.cap, .slice t3_3.a t3_3.len t3_3.cap, .slice t3_4.a t3_4.len t3_4.cap]) ∧
    K (.tuple #[.agg #[.int .i64 t3, .int .i64 t3_1, .slice t3_2.a t3_2.len t3_2.cap, .slice t3_3.a t3_3.len t3_3.cap, .slice t3_4.a t3_4.len t3_4.cap], .int .i64 6]) w_25)
   (NilP s6 fun a_t32 =>
    ∃ t32 : Int, ∃ t32_1 : Int, ∃ t32_2 : Sl, ∃ t32_3 : Sl, ∃ t32_4 : Sl, (At (fun w' => w' = w_24) a_t32 [.int .i64 t32, .int .i64 t32_1, .slice t32_2.a t32_2.len t32_2.cap, .slice t32_3.a t32_3.len t32_3.cap, .slice t32_4.a t32_4.len t32_4.cap]) ∧
    Calls Tryz.prog 37 #[.agg #[.int .i64 t32, .int .i64 t32_1, .slice t32_2.a t32_2.len t32_2.cap, .slice t32_3.a t32_3.len t32_3.cap, .slice t32_4.a t32_4.len t32_4.cap]] w_24 fun e_10 w_26 =>
    ∃ t33 : Bool, (e_10 = .returned (.bool t33)) ∧
    Br (!t33)
     (∃ w_27 : World, ((Instr.storeAt 27 (.pointer ((some ⟨b_t2, 0, none⟩))) (.agg #[.int .i64 0, .int .i64 0, .slice none 0 0, .slice none 0 0, .slice none 0 0])).run Tryz.prog w_26 = .ok () w_27) ∧
      ∃ t3_5 : Int, ∃ t3_6 : Int, ∃ t3_7 : Sl, ∃ t3_8 : Sl, ∃ t3_9 : Sl, (At (fun w' => w' = w_27) ⟨b_t2, 0, none⟩ [.int .i64 t3_5, .int .i64 t3_6, .slice t3_7.a t3_7.len t3_7.cap, .slice t3_8.a t3_8.len t3_8.cap, .slice t3_9.a t3_9.len t3_9.cap]) ∧
      K (.tuple #[.agg #[.int .i64 t3_5, .int .i64 t3_6, .slice t3_7.a t3_7.len t3_7.cap, .slice t3_8.a t3_8.len t3_8.cap, .slice t3_9.a t3_9.len t3_9.cap], .int .i64 6]) w_27)
     (NilP s6 fun a_t37 =>
      ∃ t37 : Int, ∃ t37_1 : Int, ∃ t37_2 : Sl, ∃ t37_3 : Sl, ∃ t37_4 : Sl, (At (fun w' => w' = w_26) a_t37 [.int .i64 t37, .int .i64 t37_1, .slice t37_2.a t37_2.len t37_2.cap, .slice t37_3.a t37_3.len t37_3.cap, .slice t37_4.a t37_4.len t37_4.cap]) ∧
      ∃ w_28 : World, ((Instr.storeAt 27 (.pointer ((some ⟨b_t2, 0, none⟩))) (.agg #[.int .i64 t37, .int .i64 t37_1, .slice t37_2.a t37_2.len t37_2.cap, .slice t37_3.a t37_3.len t37_3.cap, .slice t37_4.a t37_4.len t37_4.cap])).run Tryz.prog w_26 = .ok () w_28) ∧
      ∃ t3_10 : Int, ∃ t3_11 : Int, ∃ t3_12 : Sl, ∃ t3_13 : Sl, ∃ t3_14 : Sl, (At (fun w' => w' = w_28) ⟨b_t2, 0, none⟩ [.int .i64 t3_10, .int .i64 t3_11, .slice t3_12.a t3_12.len t3_12.cap, .slice t3_13.a t3_13.len t3_13.cap, .slice t3_14.a t3_14.len t3_14.cap]) ∧
      K (.tuple #[.agg #[.int .i64 t3_10, .int .i64 t3_11, .slice t3_12.a t3_12.len t3_12.cap, .slice t3_13.a t3_13.len t3_13.cap, .slice t3_14.a t3_14.len t3_14.cap], .int .i64 0]) w_28))) w_2) w

def sk11 : Sk := (.seq .leaf (.seq .leaf (.seq .leaf (.cut [6] [.ptr] [6, 10, 11, 12, 13, 14, 15, 16] .leaf .leaf))))
theorem ok11 : fnOk Tryz.prog Tryz.f11.ntmps Tryz.f11 sk11 = true := by kernel_rfl
theorem eq11 (b0 : Sl) (K : Value → World → Prop) (w : World) : fnF Tryz.prog cl Tryz.f11 sk11 [.slice b0.a b0.len b0.cap] K w = B11 b0 K w := by kernel_rfl
theorem call11 (b0 : Sl) (K : Value → World → Prop) (w : World) (h : B11 b0 K w) : Gets Tryz.prog 11 #[.slice b0.a b0.len b0.cap] w K :=
  calls_of (sk := sk11) cl_ok mixed Tryz.func11 ok11 (args := [.slice b0.a b0.len b0.cap]) (Nat.le_of_ble_eq_true (by kernel_rfl)) (by rw [eq11]; exact h)

/-- jetway/keep.Decode$1. -/
def B45 (c0 : Option Addr) (K : Value → World → Prop) (w : World) : Prop :=
  NilP c0 fun a_t3 =>
  ∃ t3 : Option Addr, (At (fun w' => w' = w) a_t3 [.pointer t3]) ∧
  Calls Tryz.prog 46 #[.pointer t3, .int .u64 15] w fun e w_1 =>
  ∃ t4 : Int, (e = .returned (.int .u64 t4)) ∧
  ∃ (I : Sl → Int → World → Prop) (μ : Sl → Int → World → Nat), (I ⟨none, 0, 0⟩ 0 w_1) ∧ ∀ (z : Env) (out2 : Sl) (t5 : Int) (w_2 : World), I out2 t5 w_2 →
  Br (decide (t5 < t4))
   (NilP c0 fun a_t8 =>
    ∃ t8 : Option Addr, (At (fun w' => w' = w_2) a_t8 [.pointer t8]) ∧
    Calls Tryz.prog 46 #[.pointer t8, .int .u64 15] w_2 fun e_1 w_3 =>
    ∃ t9 : Int, (e_1 = .returned (.int .u64 t9)) ∧
    New (.cells #[.int .i64 (IntKind.i64.wrap t9)] 3 (0, 0)) (fun b_t11 w_4 =>
    ∃ w_5 : World, ∃ t12 : Sl, ((Builtin.append_ #[22, 22] 22 #[.slice out2.a out2.len out2.cap, .slice ((some ⟨b_t11, 0, none⟩)) 1 1]).run Tryz.prog w_4 = .ok (.slice t12.a t12.len t12.cap) w_5) ∧
    (I t12 (IntKind.u64.wrap (t5 + 1)) w_5) ∧ μ t12 (IntKind.u64.wrap (t5 + 1)) w_5 < μ out2 t5 w_2) w_3)
   (K (.slice out2.a out2.len out2.cap) w_2)

def sk45 : Sk := (.seq .leaf (.seq .leaf (.seq (.seq .leaf (.block (.loop [2, 5] [.sl, (.int .u64)] [2, 5, 6, 7, 8, 9, 10, 11, 12, 13] .leaf))) .leaf)))
theorem ok45 : fnOk Tryz.prog Tryz.f45.ntmps Tryz.f45 sk45 = true := by kernel_rfl
theorem eq45 (c0 : Option Addr) (K : Value → World → Prop) (w : World) : fnF Tryz.prog cl Tryz.f45 sk45 [.pointer c0] K w = B45 c0 K w := by kernel_rfl
theorem call45 (c0 : Option Addr) (K : Value → World → Prop) (w : World) (h : B45 c0 K w) : Gets Tryz.prog 45 #[.pointer c0] w K :=
  calls_of (sk := sk45) cl_ok mixed Tryz.func45 ok45 (args := [.pointer c0]) (Nat.le_of_ble_eq_true (by kernel_rfl)) (by rw [eq45]; exact h)

/-- jetway/keep.SaveSnap. -/
def B16 (d0 : Option Addr) (s1_0 : Int) (s1_1 : Int) (s1_2 : Sl) (s1_3 : Sl) (s1_4 : Sl) (K : Value → World → Prop) (w : World) : Prop :=
  New (.cells #[.int .i64 s1_0, .int .i64 s1_1, .slice s1_2.a s1_2.len s1_2.cap, .slice s1_3.a s1_3.len s1_3.cap, .slice s1_4.a s1_4.len s1_4.cap] 27 (0, 0)) (fun b_s3 w_1 =>
  ∃ t6 : Int, ∃ t6_1 : Int, ∃ t6_2 : Sl, ∃ t6_3 : Sl, ∃ t6_4 : Sl, (At (fun w' => w' = w_1) ⟨b_s3, 0, none⟩ [.int .i64 t6, .int .i64 t6_1, .slice t6_2.a t6_2.len t6_2.cap, .slice t6_3.a t6_3.len t6_3.cap, .slice t6_4.a t6_4.len t6_4.cap]) ∧
  Calls Tryz.prog 56 #[.pointer d0, .string (ByteArray.mk #[115, 110, 97, 112]), .agg #[.int .i64 t6, .int .i64 t6_1, .slice t6_2.a t6_2.len t6_2.cap, .slice t6_3.a t6_3.len t6_3.cap, .slice t6_4.a t6_4.len t6_4.cap], .func (.func 9) #[] #[]] w_1 fun e w_2 =>
  ∃ t7 : Int, (e = .returned (.int .i64 t7)) ∧
  K (.int .i64 t7) w_2) w

def sk16 : Sk := .leaf
theorem ok16 : fnOk Tryz.prog Tryz.f16.ntmps Tryz.f16 sk16 = true := by kernel_rfl
theorem eq16 (d0 : Option Addr) (s1_0 : Int) (s1_1 : Int) (s1_2 : Sl) (s1_3 : Sl) (s1_4 : Sl) (K : Value → World → Prop) (w : World) : fnF Tryz.prog cl Tryz.f16 sk16 [.pointer d0, .agg #[.int .i64 s1_0, .int .i64 s1_1, .slice s1_2.a s1_2.len s1_2.cap, .slice s1_3.a s1_3.len s1_3.cap, .slice s1_4.a s1_4.len s1_4.cap]] K w = B16 d0 s1_0 s1_1 s1_2 s1_3 s1_4 K w := by kernel_rfl
theorem call16 (d0 : Option Addr) (s1_0 : Int) (s1_1 : Int) (s1_2 : Sl) (s1_3 : Sl) (s1_4 : Sl) (K : Value → World → Prop) (w : World) (h : B16 d0 s1_0 s1_1 s1_2 s1_3 s1_4 K w) : Gets Tryz.prog 16 #[.pointer d0, .agg #[.int .i64 s1_0, .int .i64 s1_1, .slice s1_2.a s1_2.len s1_2.cap, .slice s1_3.a s1_3.len s1_3.cap, .slice s1_4.a s1_4.len s1_4.cap]] w K :=
  calls_of (sk := sk16) cl_ok mixed Tryz.func16 ok16 (args := [.pointer d0, .agg #[.int .i64 s1_0, .int .i64 s1_1, .slice s1_2.a s1_2.len s1_2.cap, .slice s1_3.a s1_3.len s1_3.cap, .slice s1_4.a s1_4.len s1_4.cap]]) (Nat.le_of_ble_eq_true (by kernel_rfl)) (by rw [eq16]; exact h)

/-- jetway/keep.LoadSnap. -/
def B18 (d0 : Option Addr) (K : Value → World → Prop) (w : World) : Prop :=
  New (.cells #[.int .i64 0, .int .i64 0, .slice none 0 0, .slice none 0 0, .slice none 0 0] 27 (0, 0)) (fun b_t2 w_1 =>
  Calls Tryz.prog 59 #[.pointer d0, .string (ByteArray.mk #[115, 110, 97, 112]), .func (.func 11) #[] #[]] w_1 fun e w_2 =>
  ∃ t5 : Int, ∃ t5_1 : Int, ∃ t5_2 : Sl, ∃ t5_3 : Sl, ∃ t5_4 : Sl, ∃ t5_5 : Int, (e = .returned (.tuple #[.agg #[.int .i64 t5, .int .i64 t5_1, .slice t5_2.a t5_2.len t5_2.cap, .slice t5_3.a t5_3.len t5_3.cap, .slice t5_4.a t5_4.len t5_4.cap], .int .i64 t5_5])) ∧
  ∃ w_3 : World, ((Instr.storeAt 27 (.pointer ((some ⟨b_t2, 0, none⟩))) (.agg #[.int .i64 t5, .int .i64 t5_1, .slice t5_2.a t5_2.len t5_2.cap, .slice t5_3.a t5_3.len t5_3.cap, .slice t5_4.a t5_4.len t5_4.cap])).run Tryz.prog w_2 = .ok () w_3) ∧
  ∃ t3 : Int, ∃ t3_1 : Int, ∃ t3_2 : Sl, ∃ t3_3 : Sl, ∃ t3_4 : Sl, (At (fun w' => w' = w_3) ⟨b_t2, 0, none⟩ [.int .i64 t3, .int .i64 t3_1, .slice t3_2.a t3_2.len t3_2.cap, .slice t3_3.a t3_3.len t3_3.cap, .slice t3_4.a t3_4.len t3_4.cap]) ∧
  K (.tuple #[.agg #[.int .i64 t3, .int .i64 t3_1, .slice t3_2.a t3_2.len t3_2.cap, .slice t3_3.a t3_3.len t3_3.cap, .slice t3_4.a t3_4.len t3_4.cap], .int .i64 t5_5]) w_3) w

def sk18 : Sk := .leaf
theorem ok18 : fnOk Tryz.prog Tryz.f18.ntmps Tryz.f18 sk18 = true := by kernel_rfl
theorem eq18 (d0 : Option Addr) (K : Value → World → Prop) (w : World) : fnF Tryz.prog cl Tryz.f18 sk18 [.pointer d0] K w = B18 d0 K w := by kernel_rfl
theorem call18 (d0 : Option Addr) (K : Value → World → Prop) (w : World) (h : B18 d0 K w) : Gets Tryz.prog 18 #[.pointer d0] w K :=
  calls_of (sk := sk18) cl_ok mixed Tryz.func18 ok18 (args := [.pointer d0]) (Nat.le_of_ble_eq_true (by kernel_rfl)) (by rw [eq18]; exact h)

/-- jetway/keep.right. -/
def B37 (s0_0 : Int) (s0_1 : Int) (s0_2 : Sl) (s0_3 : Sl) (s0_4 : Sl) (K : Value → World → Prop) (w : World) : Prop :=
  New (.cells #[.int .i64 s0_0, .int .i64 s0_1, .slice s0_2.a s0_2.len s0_2.cap, .slice s0_3.a s0_3.len s0_3.cap, .slice s0_4.a s0_4.len s0_4.cap] 27 (0, 0)) (fun b_s1 w_1 =>
  ∃ (J : Bool → World → Prop), (∃ t8 : Sl, (At (fun w' => w' = w_1) ⟨b_s1, 0 + 2, none⟩ [.slice t8.a t8.len t8.cap]) ∧
    Calls Tryz.prog 73 #[.slice t8.a t8.len t8.cap] w_1 fun e w_2 =>
    ∃ t9 : Bool, (e = .returned (.bool t9)) ∧
    Br t9
     (∃ t13 : Sl, (At (fun w' => w' = w_2) ⟨b_s1, 0 + 2 + 1, none⟩ [.slice t13.a t13.len t13.cap]) ∧
      Calls Tryz.prog 73 #[.slice t13.a t13.len t13.cap] w_2 fun e_1 w_3 =>
      ∃ t14 : Bool, (e_1 = .returned (.bool t14)) ∧
      Br t14
       (∃ t19 : Sl, (At (fun w' => w' = w_3) ⟨b_s1, 0 + 2, none⟩ [.slice t19.a t19.len t19.cap]) ∧
        Br (decide ((↑t19.len : Int) > 0))
         (∃ t26 : Sl, (At (fun w' => w' = w_3) ⟨b_s1, 0 + 2, none⟩ [.slice t26.a t26.len t26.cap]) ∧
          Calls Tryz.prog 74 #[.slice t26.a t26.len t26.cap, .func (.func 71) #[] #[.pointer ((some ⟨b_s1, 0, none⟩))]] w_3 fun e_2 w_4 =>
          ∃ t28 : Bool, (e_2 = .returned (.bool t28)) ∧
          J (!t28) w_4)
         (J false w_3))
       (J false w_3))
     (J false w_2)) ∧
  ∀ (z : Env) (group4 : Bool) (w_5 : World), J group4 w_5 →
  ∃ t32 : Int, (At (fun w' => w' = w_5) ⟨b_s1, 0, none⟩ [.int .i64 t32]) ∧
  Calls Tryz.prog 75 #[.int .i64 t32, .int .i64 1099511627776] w_5 fun e_3 w_6 =>
  ∃ t33 : Bool, (e_3 = .returned (.bool t33)) ∧
  Br t33
   (∃ t36 : Int, (At (fun w' => w' = w_6) ⟨b_s1, 0 + 1, none⟩ [.int .i64 t36]) ∧
    Calls Tryz.prog 75 #[.int .i64 t36, .int .i64 1099511627776] w_6 fun e_4 w_7 =>
    ∃ t37 : Bool, (e_4 = .returned (.bool t37)) ∧
    Br t37
     (Br group4
       (∃ t44 : Sl, (At (fun w' => w' = w_7) ⟨b_s1, 0 + 4, none⟩ [.slice t44.a t44.len t44.cap]) ∧
        K (.bool (decide ((↑t44.len : Int) ≤ 60000))) w_7)
       (K (.bool false) w_7))
     (K (.bool false) w_7))
   (K (.bool false) w_6)) w

def sk37 : Sk := (.seq .leaf (.seq .leaf (.cut [4] [.bool] [4, 6, 7, 8, 9, 10, 11, 12, 13, 14, 15, 16, 17, 18, 19, 20, 21, 22, 23, 24, 25, 26, 27, 28, 29, 30] .leaf .leaf)))
theorem ok37 : fnOk Tryz.prog Tryz.f37.ntmps Tryz.f37 sk37 = true := by kernel_rfl
theorem eq37 (s0_0 : Int) (s0_1 : Int) (s0_2 : Sl) (s0_3 : Sl) (s0_4 : Sl) (K : Value → World → Prop) (w : World) : fnF Tryz.prog cl Tryz.f37 sk37 [.agg #[.int .i64 s0_0, .int .i64 s0_1, .slice s0_2.a s0_2.len s0_2.cap, .slice s0_3.a s0_3.len s0_3.cap, .slice s0_4.a s0_4.len s0_4.cap]] K w = B37 s0_0 s0_1 s0_2 s0_3 s0_4 K w := by kernel_rfl
theorem call37 (s0_0 : Int) (s0_1 : Int) (s0_2 : Sl) (s0_3 : Sl) (s0_4 : Sl) (K : Value → World → Prop) (w : World) (h : B37 s0_0 s0_1 s0_2 s0_3 s0_4 K w) : Gets Tryz.prog 37 #[.agg #[.int .i64 s0_0, .int .i64 s0_1, .slice s0_2.a s0_2.len s0_2.cap, .slice s0_3.a s0_3.len s0_3.cap, .slice s0_4.a s0_4.len s0_4.cap]] w K :=
  calls_of (sk := sk37) cl_ok mixed Tryz.func37 ok37 (args := [.agg #[.int .i64 s0_0, .int .i64 s0_1, .slice s0_2.a s0_2.len s0_2.cap, .slice s0_3.a s0_3.len s0_3.cap, .slice s0_4.a s0_4.len s0_4.cap]]) (Nat.le_of_ble_eq_true (by kernel_rfl)) (by rw [eq37]; exact h)

/-- jetway/keep.right$1. -/
def B71 (n0 : Int) (c1 : Option Addr) (K : Value → World → Prop) (w : World) : Prop :=
  NilP c1 fun a_t4 =>
  ∃ t6 : Sl, (At (fun w' => w' = w) ⟨a_t4.block, a_t4.off + 2 + 1, none⟩ [.slice t6.a t6.len t6.cap]) ∧
  Calls Tryz.prog 72 #[.slice t6.a t6.len t6.cap, .int .i64 n0] w fun e w_1 =>
  ∃ t8 : Bool, (e = .returned (.bool t8)) ∧
  K (.bool t8) w_1

def sk71 : Sk := .leaf
theorem ok71 : fnOk Tryz.prog Tryz.f71.ntmps Tryz.f71 sk71 = true := by kernel_rfl
theorem eq71 (n0 : Int) (c1 : Option Addr) (K : Value → World → Prop) (w : World) : fnF Tryz.prog cl Tryz.f71 sk71 [.int .i64 n0, .pointer c1] K w = B71 n0 c1 K w := by kernel_rfl
theorem call71 (n0 : Int) (c1 : Option Addr) (K : Value → World → Prop) (w : World) (h : B71 n0 c1 K w) : Gets Tryz.prog 71 #[.int .i64 n0, .pointer c1] w K :=
  calls_of (sk := sk71) cl_ok mixed Tryz.func71 ok71 (args := [.int .i64 n0, .pointer c1]) (Nat.le_of_ble_eq_true (by kernel_rfl)) (by rw [eq71]; exact h)

/-- jetway/keep.rises. -/
def B73 (l0 : Sl) (K : Value → World → Prop) (w : World) : Prop :=
  ∃ (I : Int → Int → World → Prop) (μ : Int → Int → World → Nat), (I 0 0 w) ∧ ∀ (z : Env) (last3 : Int) (t8 : Int) (w_1 : World), I last3 t8 w_1 →
  Br (decide (t8 < (↑l0.len : Int)))
   (Rng t8 l0.len (NilP l0.a fun a_t10 =>
    ∃ t11 : Int, (At (fun w' => w' = w_1) (Addr.add a_t10 t8.toNat) [.int .i64 t11]) ∧
    Br (decide (t11 ≤ last3))
     (K (.bool false) w_1)
     (Br (decide (t11 > 15))
       (K (.bool false) w_1)
       ((I t11 (IntKind.i64.wrap (t8 + 1)) w_1) ∧ μ t11 (IntKind.i64.wrap (t8 + 1)) w_1 < μ last3 t8 w_1))))
   (K (.bool true) w_1)

def sk73 : Sk := (.seq .leaf (.seq .leaf (.seq (.seq .leaf (.block (.loop [3, 8] [(.int .i64), (.int .i64)] [2, 3, 5, 8, 9, 10, 11, 12, 13, 14, 15, 16, 17, 18, 19, 20] .leaf))) .leaf)))
theorem ok73 : fnOk Tryz.prog Tryz.f73.ntmps Tryz.f73 sk73 = true := by kernel_rfl
theorem eq73 (l0 : Sl) (K : Value → World → Prop) (w : World) : fnF Tryz.prog cl Tryz.f73 sk73 [.slice l0.a l0.len l0.cap] K w = B73 l0 K w := by kernel_rfl
theorem call73 (l0 : Sl) (K : Value → World → Prop) (w : World) (h : B73 l0 K w) : Gets Tryz.prog 73 #[.slice l0.a l0.len l0.cap] w K :=
  calls_of (sk := sk73) cl_ok mixed Tryz.func73 ok73 (args := [.slice l0.a l0.len l0.cap]) (Nat.le_of_ble_eq_true (by kernel_rfl)) (by rw [eq73]; exact h)

/-- slices.Contains[[]int,int]. -/
def B72 (s0 : Sl) (v1 : Int) (K : Value → World → Prop) (w : World) : Prop :=
  Calls Tryz.prog 107 #[.slice s0.a s0.len s0.cap, .int .i64 v1] w fun e w_1 =>
  ∃ t7 : Int, (e = .returned (.int .i64 t7)) ∧
  K (.bool (decide (t7 ≥ 0))) w_1

def sk72 : Sk := .leaf
theorem ok72 : fnOk Tryz.prog Tryz.f72.ntmps Tryz.f72 sk72 = true := by kernel_rfl
theorem eq72 (s0 : Sl) (v1 : Int) (K : Value → World → Prop) (w : World) : fnF Tryz.prog cl Tryz.f72 sk72 [.slice s0.a s0.len s0.cap, .int .i64 v1] K w = B72 s0 v1 K w := by kernel_rfl
theorem call72 (s0 : Sl) (v1 : Int) (K : Value → World → Prop) (w : World) (h : B72 s0 v1 K w) : Gets Tryz.prog 72 #[.slice s0.a s0.len s0.cap, .int .i64 v1] w K :=
  calls_of (sk := sk72) cl_ok mixed Tryz.func72 ok72 (args := [.slice s0.a s0.len s0.cap, .int .i64 v1]) (Nat.le_of_ble_eq_true (by kernel_rfl)) (by rw [eq72]; exact h)

/-- slices.Index[[]int,int]. -/
def B107 (s0 : Sl) (v1 : Int) (K : Value → World → Prop) (w : World) : Prop :=
  ∃ (I : Int → World → Prop) (μ : Int → World → Nat), (I 0 w) ∧ ∀ (z : Env) (t8 : Int) (w_1 : World), I t8 w_1 →
  Br (decide (t8 < (↑s0.len : Int)))
   (Rng t8 s0.len (NilP s0.a fun a_t14 =>
    ∃ t15 : Int, (At (fun w' => w' = w_1) (Addr.add a_t14 t8.toNat) [.int .i64 t15]) ∧
    Br (v1 == t15)
     (K (.int .i64 t8) w_1)
     ((I (IntKind.i64.wrap (t8 + 1)) w_1) ∧ μ (IntKind.i64.wrap (t8 + 1)) w_1 < μ t8 w_1)))
   (K (.int .i64 ((-1))) w_1)

def sk107 : Sk := (.seq .leaf (.seq (.seq .leaf (.block (.loop [8] [(.int .i64)] [4, 5, 8, 9, 10, 11, 12, 13, 14, 15, 16, 17, 18] .leaf))) .leaf))
theorem ok107 : fnOk Tryz.prog Tryz.f107.ntmps Tryz.f107 sk107 = true := by kernel_rfl
theorem eq107 (s0 : Sl) (v1 : Int) (K : Value → World → Prop) (w : World) : fnF Tryz.prog cl Tryz.f107 sk107 [.slice s0.a s0.len s0.cap, .int .i64 v1] K w = B107 s0 v1 K w := by kernel_rfl
theorem call107 (s0 : Sl) (v1 : Int) (K : Value → World → Prop) (w : World) (h : B107 s0 v1 K w) : Gets Tryz.prog 107 #[.slice s0.a s0.len s0.cap, .int .i64 v1] w K :=
  calls_of (sk := sk107) cl_ok mixed Tryz.func107 ok107 (args := [.slice s0.a s0.len s0.cap, .int .i64 v1]) (Nat.le_of_ble_eq_true (by kernel_rfl)) (by rw [eq107]; exact h)

/-- slices.ContainsFunc[[]int,int]. -/
def B74 (s0 : Sl) (f1 : Value) (K : Value → World → Prop) (w : World) : Prop :=
  Calls Tryz.prog 108 #[.slice s0.a s0.len s0.cap, f1] w fun e w_1 =>
  ∃ t7 : Int, (e = .returned (.int .i64 t7)) ∧
  K (.bool (decide (t7 ≥ 0))) w_1

def sk74 : Sk := .leaf
theorem ok74 : fnOk Tryz.prog Tryz.f74.ntmps Tryz.f74 sk74 = true := by kernel_rfl
theorem eq74 (s0 : Sl) (f1 : Value) (K : Value → World → Prop) (w : World) : fnF Tryz.prog cl Tryz.f74 sk74 [.slice s0.a s0.len s0.cap, f1] K w = B74 s0 f1 K w := by kernel_rfl
theorem call74 (s0 : Sl) (f1 : Value) (K : Value → World → Prop) (w : World) (h : B74 s0 f1 K w) : Gets Tryz.prog 74 #[.slice s0.a s0.len s0.cap, f1] w K :=
  calls_of (sk := sk74) cl_ok mixed Tryz.func74 ok74 (args := [.slice s0.a s0.len s0.cap, f1]) (Nat.le_of_ble_eq_true (by kernel_rfl)) (by rw [eq74]; exact h)

/-- slices.IndexFunc[[]int,int]. -/
def B108 (s0 : Sl) (f1 : Value) (K : Value → World → Prop) (w : World) : Prop :=
  ∃ (I : Int → World → Prop) (μ : Int → World → Nat), (I 0 w) ∧ ∀ (z : Env) (t8 : Int) (w_1 : World), I t8 w_1 →
  Br (decide (t8 < (↑s0.len : Int)))
   (Rng t8 s0.len (NilP s0.a fun a_t14 =>
    ∃ t15 : Int, (At (fun w' => w' = w_1) (Addr.add a_t14 t8.toNat) [.int .i64 t15]) ∧
    CalW Tryz.prog cl f1 [.int .i64 t15] w_1 fun e w_2 =>
    ∃ t16 : Bool, (e = .returned (.bool t16)) ∧
    Br t16
     (K (.int .i64 t8) w_2)
     ((I (IntKind.i64.wrap (t8 + 1)) w_2) ∧ μ (IntKind.i64.wrap (t8 + 1)) w_2 < μ t8 w_1)))
   (K (.int .i64 ((-1))) w_1)

def sk108 : Sk := (.seq .leaf (.seq (.seq .leaf (.block (.loop [8] [(.int .i64)] [4, 5, 8, 9, 10, 11, 12, 13, 14, 15, 16, 17, 18] .leaf))) .leaf))
theorem ok108 : fnOk Tryz.prog Tryz.f108.ntmps Tryz.f108 sk108 = true := by kernel_rfl
theorem eq108 (s0 : Sl) (f1 : Value) (K : Value → World → Prop) (w : World) : fnF Tryz.prog cl Tryz.f108 sk108 [.slice s0.a s0.len s0.cap, f1] K w = B108 s0 f1 K w := by kernel_rfl
theorem call108 (s0 : Sl) (f1 : Value) (K : Value → World → Prop) (w : World) (h : B108 s0 f1 K w) : Gets Tryz.prog 108 #[.slice s0.a s0.len s0.cap, f1] w K :=
  calls_of (sk := sk108) cl_ok mixed Tryz.func108 ok108 (args := [.slice s0.a s0.len s0.cap, f1]) (Nat.le_of_ble_eq_true (by kernel_rfl)) (by rw [eq108]; exact h)

/-- jetway/keep.write[jetway/api.Snap]. -/
def B56 (d0 : Option Addr) (name1 : ByteArray) (x2_0 : Int) (x2_1 : Int) (x2_2 : Sl) (x2_3 : Sl) (x2_4 : Sl) (encode3 : Value) (K : Value → World → Prop) (w : World) : Prop :=
  New (.cells #[.int .i64 x2_0, .int .i64 x2_1, .slice x2_2.a x2_2.len x2_2.cap, .slice x2_3.a x2_3.len x2_3.cap, .slice x2_4.a x2_4.len x2_4.cap] 27 (0, 0)) (fun b_x6 w_1 =>
  ∃ t18 : Int, ∃ t18_1 : Int, ∃ t18_2 : Sl, ∃ t18_3 : Sl, ∃ t18_4 : Sl, (At (fun w' => w' = w_1) ⟨b_x6, 0, none⟩ [.int .i64 t18, .int .i64 t18_1, .slice t18_2.a t18_2.len t18_2.cap, .slice t18_3.a t18_3.len t18_3.cap, .slice t18_4.a t18_4.len t18_4.cap]) ∧
  CalW Tryz.prog cl encode3 [.agg #[.int .i64 t18, .int .i64 t18_1, .slice t18_2.a t18_2.len t18_2.cap, .slice t18_3.a t18_3.len t18_3.cap, .slice t18_4.a t18_4.len t18_4.cap]] w_1 fun e w_2 =>
  ∃ t19 : Sl, ∃ t19_1 : Int, (e = .returned (.tuple #[.slice t19.a t19.len t19.cap, .int .i64 t19_1])) ∧
  ∃ (J : World → Prop), (Br d0.isNone
     (K (.int .i64 1) w_2)
     (Br (t19_1 != 0)
       (K (.int .i64 1) w_2)
       (J  w_2))) ∧
  ∀ (z : Env)  (w_3 : World), J  w_3 →
  Calls Tryz.prog 86 #[.slice t19.a t19.len t19.cap] w_3 fun e_1 w_4 =>
  ∃ t30 : Sl, ∃ t30_1 : Int, (e_1 = .returned (.tuple #[.slice t30.a t30.len t30.cap, .int .i64 t30_1])) ∧
  Br (t30_1 != 0)
   (K (.int .i64 t30_1) w_4)
   ((((↑(name1.size + (ByteArray.mk #[46, 110, 101, 119]).size) : Int) : Int) ≤ 9223372036854775807) ∧
    ∃ (J_1 : World → Prop), (Calls Tryz.prog 60 #[.pointer d0] w_4 fun e_2 w_5 =>
      ∃ t39 : Sl, (e_2 = .returned (.slice t39.a t39.len t39.cap)) ∧
      Calls Tryz.prog 87 #[.slice t39.a t39.len t39.cap, .string (name1 ++ ByteArray.mk #[46, 110, 101, 119])] w_5 fun e_3 w_6 =>
      ∃ t41 : Bool, (e_3 = .returned (.bool t41)) ∧
      Br t41
       (Calls Tryz.prog 88 #[.pointer d0, .string (name1 ++ ByteArray.mk #[46, 110, 101, 119])] w_6 fun e_4 w_7 =>
        ∃ t44 : Int, (e_4 = .returned (.int .i64 t44)) ∧
        Br (t44 != 0)
         (K (.int .i64 t44) w_7)
         (J_1  w_7))
       (J_1  w_6)) ∧
    ∀ (z_1 : Env)  (w_8 : World), J_1  w_8 →
    Calls Tryz.prog 30 #[.pointer d0, .string (name1 ++ ByteArray.mk #[46, 110, 101, 119]), .slice t30.a t30.len t30.cap] w_8 fun e_5 w_9 =>
    ∃ t51 : Int, (e_5 = .returned (.int .i64 t51)) ∧
    Br (t51 != 0)
     (K (.int .i64 t51) w_9)
     (Calls Tryz.prog 89 #[.pointer d0, .string (name1 ++ ByteArray.mk #[46, 110, 101, 119])] w_9 fun e_6 w_10 =>
      ∃ t57 : Int, (e_6 = .returned (.int .i64 t57)) ∧
      Br (t57 != 0)
       (K (.int .i64 t57) w_10)
       (Calls Tryz.prog 90 #[.pointer d0, .string (name1 ++ ByteArray.mk #[46, 110, 101, 119]), .string name1] w_10 fun e_7 w_11 =>
        ∃ t64 : Int, (e_7 = .returned (.int .i64 t64)) ∧
        K (.int .i64 t64) w_11)))) w

def sk56 : Sk := (.seq .leaf (.seq .leaf (.cut [] [] [8, 22, 23, 24, 25, 26, 27] .leaf (.seq .leaf (.seq .leaf (.seq .leaf (.cut [] [] [8, 13, 38, 39, 40, 41, 42, 43, 44, 45, 46, 47] .leaf .leaf)))))))
theorem ok56 : fnOk Tryz.prog Tryz.f56.ntmps Tryz.f56 sk56 = true := by kernel_rfl
theorem eq56 (d0 : Option Addr) (name1 : ByteArray) (x2_0 : Int) (x2_1 : Int) (x2_2 : Sl) (x2_3 : Sl) (x2_4 : Sl) (encode3 : Value) (K : Value → World → Prop) (w : World) : fnF Tryz.prog cl Tryz.f56 sk56 [.pointer d0, .string name1, .agg #[.int .i64 x2_0, .int .i64 x2_1, .slice x2_2.a x2_2.len x2_2.cap, .slice x2_3.a x2_3.len x2_3.cap, .slice x2_4.a x2_4.len x2_4.cap], encode3] K w = B56 d0 name1 x2_0 x2_1 x2_2 x2_3 x2_4 encode3 K w := by kernel_rfl
theorem call56 (d0 : Option Addr) (name1 : ByteArray) (x2_0 : Int) (x2_1 : Int) (x2_2 : Sl) (x2_3 : Sl) (x2_4 : Sl) (encode3 : Value) (K : Value → World → Prop) (w : World) (h : B56 d0 name1 x2_0 x2_1 x2_2 x2_3 x2_4 encode3 K w) : Gets Tryz.prog 56 #[.pointer d0, .string name1, .agg #[.int .i64 x2_0, .int .i64 x2_1, .slice x2_2.a x2_2.len x2_2.cap, .slice x2_3.a x2_3.len x2_3.cap, .slice x2_4.a x2_4.len x2_4.cap], encode3] w K :=
  calls_of (sk := sk56) cl_ok mixed Tryz.func56 ok56 (args := [.pointer d0, .string name1, .agg #[.int .i64 x2_0, .int .i64 x2_1, .slice x2_2.a x2_2.len x2_2.cap, .slice x2_3.a x2_3.len x2_3.cap, .slice x2_4.a x2_4.len x2_4.cap], encode3]) (Nat.le_of_ble_eq_true (by kernel_rfl)) (by rw [eq56]; exact h)

/-- jetway/keep.read[jetway/api.Snap]. -/
def B59 (d0 : Option Addr) (name1 : ByteArray) (decode2 : Value) (K : Value → World → Prop) (w : World) : Prop :=
  New (.cells #[.int .i64 0, .int .i64 0, .slice none 0 0, .slice none 0 0, .slice none 0 0] 27 (0, 0)) (fun b_t6 w_1 =>
  New (.cells #[.int .i64 0, .int .i64 0, .slice none 0 0, .slice none 0 0, .slice none 0 0] 27 (0, 0)) (fun b_zero8 w_2 =>
  Br d0.isNone
   (∃ t15 : Int, ∃ t15_1 : Int, ∃ t15_2 : Sl, ∃ t15_3 : Sl, ∃ t15_4 : Sl, (At (fun w' => w' = w_2) ⟨b_zero8, 0, none⟩ [.int .i64 t15, .int .i64 t15_1, .slice t15_2.a t15_2.len t15_2.cap, .slice t15_3.a t15_3.len t15_3.cap, .slice t15_4.a t15_4.len t15_4.cap]) ∧
    ∃ w_3 : World, ((Instr.storeAt 27 (.pointer ((some ⟨b_t6, 0, none⟩))) (.agg #[.int .i64 t15, .int .i64 t15_1, .slice t15_2.a t15_2.len t15_2.cap, .slice t15_3.a t15_3.len t15_3.cap, .slice t15_4.a t15_4.len t15_4.cap])).run Tryz.prog w_2 = .ok () w_3) ∧
    ∃ t7 : Int, ∃ t7_1 : Int, ∃ t7_2 : Sl, ∃ t7_3 : Sl, ∃ t7_4 : Sl, (At (fun w' => w' = w_3) ⟨b_t6, 0, none⟩ [.int .i64 t7, .int .i64 t7_1, .slice t7_2.a t7_2.len t7_2.cap, .slice t7_3.a t7_3.len t7_3.cap, .slice t7_4.a t7_4.len t7_4.cap]) ∧
    K (.tuple #[.agg #[.int .i64 t7, .int .i64 t7_1, .slice t7_2.a t7_2.len t7_2.cap, .slice t7_3.a t7_3.len t7_3.cap, .slice t7_4.a t7_4.len t7_4.cap], .int .i64 1]) w_3)
   (Calls Tryz.prog 91 #[.pointer d0, .string name1] w_2 fun e w_4 =>
    ∃ t19 : Sl, ∃ t19_1 : Int, (e = .returned (.tuple #[.slice t19.a t19.len t19.cap, .int .i64 t19_1])) ∧
    Br (t19_1 == 0)
     (Calls Tryz.prog 92 #[.slice t19.a t19.len t19.cap] w_4 fun e_1 w_5 =>
      ∃ t32 : Sl, ∃ t32_1 : Int, (e_1 = .returned (.tuple #[.slice t32.a t32.len t32.cap, .int .i64 t32_1])) ∧
      Br ((↑t32.len : Int) != 1)
       (∃ t44 : Int, ∃ t44_1 : Int, ∃ t44_2 : Sl, ∃ t44_3 : Sl, ∃ t44_4 : Sl, (At (fun w' => w' = w_5) ⟨b_zero8, 0, none⟩ [.int .i64 t44, .int .i64 t44_1, .slice t44_2.a t44_2.len t44_2.cap, .slice t44_3.a t44_3.len t44_3.cap, .slice t44_4.a t44_4.len t44_4.cap]) ∧
        ∃ w_6 : World, ((Instr.storeAt 27 (.pointer ((some ⟨b_t6, 0, none⟩))) (.agg #[.int .i64 t44, .int .i64 t44_1, .slice t44_2.a t44_2.len t44_2.cap, .slice t44_3.a t44_3.len t44_3.cap, .slice t44_4.a t44_4.len t44_4.cap])).run Tryz.prog w_5 = .ok () w_6) ∧
        ∃ t7_5 : Int, ∃ t7_6 : Int, ∃ t7_7 : Sl, ∃ t7_8 : Sl, ∃ t7_9 : Sl, (At (fun w' => w' = w_6) ⟨b_t6, 0, none⟩ [.int .i64 t7_5, .int .i64 t7_6, .slice t7_7.a t7_7.len t7_7.cap, .slice t7_8.a t7_8.len t7_8.cap, .slice t7_9.a t7_9.len t7_9.cap]) ∧
        K (.tuple #[.agg #[.int .i64 t7_5, .int .i64 t7_6, .slice t7_7.a t7_7.len t7_7.cap, .slice t7_8.a t7_8.len t7_8.cap, .slice t7_9.a t7_9.len t7_9.cap], .int .i64 6]) w_6)
       (Br (t32_1 != (↑t19.len : Int))
         (∃ t44_5 : Int, ∃ t44_6 : Int, ∃ t44_7 : Sl, ∃ t44_8 : Sl, ∃ t44_9 : Sl, (At (fun w' => w' = w_5) ⟨b_zero8, 0, none⟩ [.int .i64 t44_5, .int .i64 t44_6, .slice t44_7.a t44_7.len t44_7.cap, .slice t44_8.a t44_8.len t44_8.cap, .slice t44_9.a t44_9.len t44_9.cap]) ∧
          ∃ w_7 : World, ((Instr.storeAt 27 (.pointer ((some ⟨b_t6, 0, none⟩))) (.agg #[.int .i64 t44_5, .int .i64 t44_6, .slice t44_7.a t44_7.len t44_7.cap, .slice t44_8.a t44_8.len t44_8.cap, .slice t44_9.a t44_9.len t44_9.cap])).run Tryz.prog w_5 = .ok () w_7) ∧
          ∃ t7_10 : Int, ∃ t7_11 : Int, ∃ t7_12 : Sl, ∃ t7_13 : Sl, ∃ t7_14 : Sl, (At (fun w' => w' = w_7) ⟨b_t6, 0, none⟩ [.int .i64 t7_10, .int .i64 t7_11, .slice t7_12.a t7_12.len t7_12.cap, .slice t7_13.a t7_13.len t7_13.cap, .slice t7_14.a t7_14.len t7_14.cap]) ∧
          K (.tuple #[.agg #[.int .i64 t7_10, .int .i64 t7_11, .slice t7_12.a t7_12.len t7_12.cap, .slice t7_13.a t7_13.len t7_13.cap, .slice t7_14.a t7_14.len t7_14.cap], .int .i64 6]) w_7)
         (Rng 0 t32.len (NilP t32.a fun a_t47 =>
          ∃ t48 : Sl, (At (fun w' => w' = w_5) (Addr.add a_t47 0) [.slice t48.a t48.len t48.cap]) ∧
          CalW Tryz.prog cl decode2 [.slice t48.a t48.len t48.cap] w_5 fun e_2 w_8 =>
          ∃ t49 : Int, ∃ t49_1 : Int, ∃ t49_2 : Sl, ∃ t49_3 : Sl, ∃ t49_4 : Sl, ∃ t49_5 : Int, (e_2 = .returned (.tuple #[.agg #[.int .i64 t49, .int .i64 t49_1, .slice t49_2.a t49_2.len t49_2.cap, .slice t49_3.a t49_3.len t49_3.cap, .slice t49_4.a t49_4.len t49_4.cap], .int .i64 t49_5])) ∧
          ∃ w_9 : World, ((Instr.storeAt 27 (.pointer ((some ⟨b_t6, 0, none⟩))) (.agg #[.int .i64 t49, .int .i64 t49_1, .slice t49_2.a t49_2.len t49_2.cap, .slice t49_3.a t49_3.len t49_3.cap, .slice t49_4.a t49_4.len t49_4.cap])).run Tryz.prog w_8 = .ok () w_9) ∧
          ∃ t7_15 : Int, ∃ t7_16 : Int, ∃ t7_17 : Sl, ∃ t7_18 : Sl, ∃ t7_19 : Sl, (At (fun w' => w' = w_9) ⟨b_t6, 0, none⟩ [.int .i64 t7_15, .int .i64 t7_16, .slice t7_17.a t7_17.len t7_17.cap, .slice t7_18.a t7_18.len t7_18.cap, .slice t7_19.a t7_19.len t7_19.cap]) ∧
          K (.tuple #[.agg #[.int .i64 t7_15, .int .i64 t7_16, .slice t7_17.a t7_17.len t7_17.cap, .slice t7_18.a t7_18.len t7_18.cap, .slice t7_19.a t7_19.len t7_19.cap], .int .i64 t49_5]) w_9))))
     (Br (t19_1 == 2)
       (∃ t29 : Int, ∃ t29_1 : Int, ∃ t29_2 : Sl, ∃ t29_3 : Sl, ∃ t29_4 : Sl, (At (fun w' => w' = w_4) ⟨b_zero8, 0, none⟩ [.int .i64 t29, .int .i64 t29_1, .slice t29_2.a t29_2.len t29_2.cap, .slice t29_3.a t29_3.len t29_3.cap, .slice t29_4.a t29_4.len t29_4.cap]) ∧
        ∃ w_10 : World, ((Instr.storeAt 27 (.pointer ((some ⟨b_t6, 0, none⟩))) (.agg #[.int .i64 t29, .int .i64 t29_1, .slice t29_2.a t29_2.len t29_2.cap, .slice t29_3.a t29_3.len t29_3.cap, .slice t29_4.a t29_4.len t29_4.cap])).run Tryz.prog w_4 = .ok () w_10) ∧
        ∃ t7_20 : Int, ∃ t7_21 : Int, ∃ t7_22 : Sl, ∃ t7_23 : Sl, ∃ t7_24 : Sl, (At (fun w' => w' = w_10) ⟨b_t6, 0, none⟩ [.int .i64 t7_20, .int .i64 t7_21, .slice t7_22.a t7_22.len t7_22.cap, .slice t7_23.a t7_23.len t7_23.cap, .slice t7_24.a t7_24.len t7_24.cap]) ∧
        K (.tuple #[.agg #[.int .i64 t7_20, .int .i64 t7_21, .slice t7_22.a t7_22.len t7_22.cap, .slice t7_23.a t7_23.len t7_23.cap, .slice t7_24.a t7_24.len t7_24.cap], .int .i64 0]) w_10)
       (∃ t23 : Int, ∃ t23_1 : Int, ∃ t23_2 : Sl, ∃ t23_3 : Sl, ∃ t23_4 : Sl, (At (fun w' => w' = w_4) ⟨b_zero8, 0, none⟩ [.int .i64 t23, .int .i64 t23_1, .slice t23_2.a t23_2.len t23_2.cap, .slice t23_3.a t23_3.len t23_3.cap, .slice t23_4.a t23_4.len t23_4.cap]) ∧
        ∃ w_11 : World, ((Instr.storeAt 27 (.pointer ((some ⟨b_t6, 0, none⟩))) (.agg #[.int .i64 t23, .int .i64 t23_1, .slice t23_2.a t23_2.len t23_2.cap, .slice t23_3.a t23_3.len t23_3.cap, .slice t23_4.a t23_4.len t23_4.cap])).run Tryz.prog w_4 = .ok () w_11) ∧
        ∃ t7_25 : Int, ∃ t7_26 : Int, ∃ t7_27 : Sl, ∃ t7_28 : Sl, ∃ t7_29 : Sl, (At (fun w' => w' = w_11) ⟨b_t6, 0, none⟩ [.int .i64 t7_25, .int .i64 t7_26, .slice t7_27.a t7_27.len t7_27.cap, .slice t7_28.a t7_28.len t7_28.cap, .slice t7_29.a t7_29.len t7_29.cap]) ∧
        K (.tuple #[.agg #[.int .i64 t7_25, .int .i64 t7_26, .slice t7_27.a t7_27.len t7_27.cap, .slice t7_28.a t7_28.len t7_28.cap, .slice t7_29.a t7_29.len t7_29.cap], .int .i64 t19_1]) w_11)))) w_1) w

def sk59 : Sk := .leaf
theorem ok59 : fnOk Tryz.prog Tryz.f59.ntmps Tryz.f59 sk59 = true := by kernel_rfl
theorem eq59 (d0 : Option Addr) (name1 : ByteArray) (decode2 : Value) (K : Value → World → Prop) (w : World) : fnF Tryz.prog cl Tryz.f59 sk59 [.pointer d0, .string name1, decode2] K w = B59 d0 name1 decode2 K w := by kernel_rfl
theorem call59 (d0 : Option Addr) (name1 : ByteArray) (decode2 : Value) (K : Value → World → Prop) (w : World) (h : B59 d0 name1 decode2 K w) : Gets Tryz.prog 59 #[.pointer d0, .string name1, decode2] w K :=
  calls_of (sk := sk59) cl_ok mixed Tryz.func59 ok59 (args := [.pointer d0, .string name1, decode2]) (Nat.le_of_ble_eq_true (by kernel_rfl)) (by rw [eq59]; exact h)

end Go.Proofs.YtgfneeoponiibaaGreat
/- The formulas of functions of this seat's translation, printed by a program of mine off the translation; each is proved equal to 'fnF' of the function's body, so it is enough for the call. No condition. -/
namespace Go.Proofs.YtgfneeoponiibaaGreat
open Go Go.VC
set_option linter.unusedVariables false
/-- jetway/jetwayref07.Encode. -/
def B10 (s0_0 : Int) (s0_1 : Int) (s0_2 : Sl) (s0_3 : Sl) (s0_4 : Sl) (K : Value → World → Prop) (w : World) : Prop :=
  New (.cells #[.int .i64 s0_0, .int .i64 s0_1, .slice s0_2.a s0_2.len s0_2.cap, .slice s0_3.a s0_3.len s0_3.cap, .slice s0_4.a s0_4.len s0_4.cap] 27 (0, 0)) (fun b_s1 w_1 =>
  ∃ t6 : Int, ∃ t6_1 : Int, ∃ t6_2 : Sl, ∃ t6_3 : Sl, ∃ t6_4 : Sl, (At (fun w' => w' = w_1) ⟨b_s1, 0, none⟩ [.int .i64 t6, .int .i64 t6_1, .slice t6_2.a t6_2.len t6_2.cap, .slice t6_3.a t6_3.len t6_3.cap, .slice t6_4.a t6_4.len t6_4.cap]) ∧
  Calls Tryz.prog 21 #[.agg #[.int .i64 t6, .int .i64 t6_1, .slice t6_2.a t6_2.len t6_2.cap, .slice t6_3.a t6_3.len t6_3.cap, .slice t6_4.a t6_4.len t6_4.cap]] w_1 fun e w_2 =>
  ∃ t7 : Bool, (e = .returned (.bool t7)) ∧
  Br (!t7)
   (K (.tuple #[.slice none 0 0, .int .i64 1]) w_2)
   (Drw w_2 fun S w_3 =>
    ∃ t11 : Int, (At S ⟨b_s1, 0, none⟩ [.int .i64 t11]) ∧
    ∃ t15 : Int, (At S ⟨b_s1, 0 + 1, none⟩ [.int .i64 t15]) ∧
    Calls Tryz.prog 41 #[.int .u64 (IntKind.u64.wrap t11)] w_3 fun e_1 w_4 =>
    ∃ t13 : Sl, (e_1 = .returned (.slice t13.a t13.len t13.cap)) ∧
    (S w_4) ∧
    Calls Tryz.prog 41 #[.int .u64 (IntKind.u64.wrap t15)] w_4 fun e_2 w_5 =>
    ∃ t17 : Sl, (e_2 = .returned (.slice t17.a t17.len t17.cap)) ∧
    (S w_5) ∧
    ∃ w_6 : World, ∃ t18 : Sl, ((Builtin.append_ #[25, 25] 25 #[.slice t13.a t13.len t13.cap, .slice t17.a t17.len t17.cap]).run Tryz.prog w_5 = .ok (.slice t18.a t18.len t18.cap) w_6) ∧
    (S w_6) ∧
    ∃ t22 : Sl, (At (fun w' => w' = w_6) ⟨b_s1, 0 + 2, none⟩ [.slice t22.a t22.len t22.cap]) ∧
    Calls Tryz.prog 42 #[.slice t22.a t22.len t22.cap] w_6 fun e_3 w_7 =>
    ∃ t23 : Sl, (e_3 = .returned (.slice t23.a t23.len t23.cap)) ∧
    ∃ w_8 : World, ∃ t24 : Sl, ((Builtin.append_ #[25, 25] 25 #[.slice t18.a t18.len t18.cap, .slice t23.a t23.len t23.cap]).run Tryz.prog w_7 = .ok (.slice t24.a t24.len t24.cap) w_8) ∧
    ∃ t28 : Sl, (At (fun w' => w' = w_8) ⟨b_s1, 0 + 2 + 1, none⟩ [.slice t28.a t28.len t28.cap]) ∧
    Calls Tryz.prog 42 #[.slice t28.a t28.len t28.cap] w_8 fun e_4 w_9 =>
    ∃ t29 : Sl, (e_4 = .returned (.slice t29.a t29.len t29.cap)) ∧
    ∃ w_10 : World, ∃ t30 : Sl, ((Builtin.append_ #[25, 25] 25 #[.slice t24.a t24.len t24.cap, .slice t29.a t29.len t29.cap]).run Tryz.prog w_9 = .ok (.slice t30.a t30.len t30.cap) w_10) ∧
    ∃ t33 : Sl, (At (fun w' => w' = w_10) ⟨b_s1, 0 + 4, none⟩ [.slice t33.a t33.len t33.cap]) ∧
    Calls Tryz.prog 43 #[.slice t33.a t33.len t33.cap] w_10 fun e_5 w_11 =>
    ∃ t34 : Sl, (e_5 = .returned (.slice t34.a t34.len t34.cap)) ∧
    ∃ w_12 : World, ∃ t35 : Sl, ((Builtin.append_ #[25, 25] 25 #[.slice t30.a t30.len t30.cap, .slice t34.a t34.len t34.cap]).run Tryz.prog w_11 = .ok (.slice t35.a t35.len t35.cap) w_12) ∧
    K (.tuple #[.slice t35.a t35.len t35.cap, .int .i64 0]) w_12)) w

def sk10 : Sk := .leaf
theorem ok10 : fnOk Tryz.prog Tryz.f10.ntmps Tryz.f10 sk10 = true := by kernel_rfl
theorem eq10 (s0_0 : Int) (s0_1 : Int) (s0_2 : Sl) (s0_3 : Sl) (s0_4 : Sl) (K : Value → World → Prop) (w : World) : fnF Tryz.prog cl Tryz.f10 sk10 [.agg #[.int .i64 s0_0, .int .i64 s0_1, .slice s0_2.a s0_2.len s0_2.cap, .slice s0_3.a s0_3.len s0_3.cap, .slice s0_4.a s0_4.len s0_4.cap]] K w = B10 s0_0 s0_1 s0_2 s0_3 s0_4 K w := by kernel_rfl
theorem call10 (s0_0 : Int) (s0_1 : Int) (s0_2 : Sl) (s0_3 : Sl) (s0_4 : Sl) (K : Value → World → Prop) (w : World) (h : B10 s0_0 s0_1 s0_2 s0_3 s0_4 K w) : Gets Tryz.prog 10 #[.agg #[.int .i64 s0_0, .int .i64 s0_1, .slice s0_2.a s0_2.len s0_2.cap, .slice s0_3.a s0_3.len s0_3.cap, .slice s0_4.a s0_4.len s0_4.cap]] w K :=
  calls_of (sk := sk10) cl_ok mixed Tryz.func10 ok10 (args := [.agg #[.int .i64 s0_0, .int .i64 s0_1, .slice s0_2.a s0_2.len s0_2.cap, .slice s0_3.a s0_3.len s0_3.cap, .slice s0_4.a s0_4.len s0_4.cap]]) (Nat.le_of_ble_eq_true (by kernel_rfl)) (by rw [eq10]; exact h)

/-- jetway/jetwayref07.Decode. -/
def B12 (b0 : Sl) (K : Value → World → Prop) (w : World) : Prop :=
  New (.cells #[.int .i64 0, .int .i64 0, .slice none 0 0, .slice none 0 0, .slice none 0 0] 27 (0, 0)) (fun b_t2 w_1 =>
  New (.cells #[.slice b0.a b0.len b0.cap, .int .i64 0, .bool false] 81 (0, 0)) (fun b_t10 w_2 =>
  Calls Tryz.prog 49 #[.pointer ((some ⟨b_t10, 0, none⟩)), .int .u64 1099511627776] w_2 fun e w_3 =>
  ∃ t12 : Int, (e = .returned (.int .u64 t12)) ∧
  Calls Tryz.prog 49 #[.pointer ((some ⟨b_t10, 0, none⟩)), .int .u64 1099511627776] w_3 fun e_1 w_4 =>
  ∃ t15 : Int, (e_1 = .returned (.int .u64 t15)) ∧
  New (.cells #[.int .i64 0, .int .i64 0, .slice none 0 0, .slice none 0 0, .slice none 0 0] 27 (0, 0)) (fun b_s5 w_5 =>
  ∃ w_6 : World, ((Instr.storeAt 27 (.pointer ((some ⟨b_s5, 0, none⟩))) (.agg #[.int .i64 (IntKind.i64.wrap t12), .int .i64 (IntKind.i64.wrap t15), .slice none 0 0, .slice none 0 0, .slice none 0 0])).run Tryz.prog w_5 = .ok () w_6) ∧
  Calls Tryz.prog 50 #[.pointer ((some ⟨b_t10, 0, none⟩))] w_6 fun e_2 w_7 =>
  ∃ t19 : Sl, (e_2 = .returned (.slice t19.a t19.len t19.cap)) ∧
  ∃ w_8 : World, ((Instr.storeAt 22 (.pointer ((some ⟨b_s5, 0 + 2, none⟩))) (.slice t19.a t19.len t19.cap)).run Tryz.prog w_7 = .ok () w_8) ∧
  Calls Tryz.prog 50 #[.pointer ((some ⟨b_t10, 0, none⟩))] w_8 fun e_3 w_9 =>
  ∃ t23 : Sl, (e_3 = .returned (.slice t23.a t23.len t23.cap)) ∧
  ∃ w_10 : World, ((Instr.storeAt 22 (.pointer ((some ⟨b_s5, 0 + 2 + 1, none⟩))) (.slice t23.a t23.len t23.cap)).run Tryz.prog w_9 = .ok () w_10) ∧
  Calls Tryz.prog 51 #[.pointer ((some ⟨b_t10, 0, none⟩)), .int .i64 60000] w_10 fun e_4 w_11 =>
  ∃ t27 : Sl, (e_4 = .returned (.slice t27.a t27.len t27.cap)) ∧
  ∃ w_12 : World, ((Instr.storeAt 25 (.pointer ((some ⟨b_s5, 0 + 4, none⟩))) (.slice t27.a t27.len t27.cap)).run Tryz.prog w_11 = .ok () w_12) ∧
  Calls Tryz.prog 52 #[.pointer ((some ⟨b_t10, 0, none⟩))] w_12 fun e_5 w_13 =>
  ∃ t30 : Bool, (e_5 = .returned (.bool t30)) ∧
  ∃ t31 : Int, ∃ t31_1 : Int, ∃ t31_2 : Sl, ∃ t31_3 : Sl, ∃ t31_4 : Sl, (At (fun w' => w' = w_13) ⟨b_s5, 0, none⟩ [.int .i64 t31, .int .i64 t31_1, .slice t31_2.a t31_2.len t31_2.cap, .slice t31_3.a t31_3.len t31_3.cap, .slice t31_4.a t31_4.len t31_4.cap]) ∧
  Calls Tryz.prog 21 #[.agg #[.int .i64 t31, .int .i64 t31_1, .slice t31_2.a t31_2.len t31_2.cap, .slice t31_3.a t31_3.len t31_3.cap, .slice t31_4.a t31_4.len t31_4.cap]] w_13 fun e_6 w_14 =>
  ∃ t32 : Bool, (e_6 = .returned (.bool t32)) ∧
  Br (!t30)
   (∃ w_15 : World, ((Instr.storeAt 27 (.pointer ((some ⟨b_t2, 0, none⟩))) (.agg #[.int .i64 0, .int .i64 0, .slice none 0 0, .slice none 0 0, .slice none 0 0])).run Tryz.prog w_14 = .ok () w_15) ∧
    ∃ t3 : Int, ∃ t3_1 : Int, ∃ t3_2 : Sl, ∃ t3_3 : Sl, ∃ t3_4 : Sl, (At (fun w' => w' = w_15) ⟨b_t2, 0, none⟩ [.int .i64 t3, .int .i64 t3_1, .slice t3_2.a t3_2.len t3_2.cap, .slice t3_3.a t3_3.len t3_3.cap, .slice t3_4.a t3_4.len t3_4.cap]) ∧
    K (.tuple #[.agg #[.int .i64 t3, .int .i64 t3_1, .slice t3_2.a t3_2.len t3_2.cap, .slice t3_3.a t3_3.len t3_3.cap, .slice t3_4.a t3_4.len t3_4.cap], .int .i64 6]) w_15)
   (Br (!t32)
     (∃ w_16 : World, ((Instr.storeAt 27 (.pointer ((some ⟨b_t2, 0, none⟩))) (.agg #[.int .i64 0, .int .i64 0, .slice none 0 0, .slice none 0 0, .slice none 0 0])).run Tryz.prog w_14 = .ok () w_16) ∧
      ∃ t3_5 : Int, ∃ t3_6 : Int, ∃ t3_7 : Sl, ∃ t3_8 : Sl, ∃ t3_9 : Sl, (At (fun w' => w' = w_16) ⟨b_t2, 0, none⟩ [.int .i64 t3_5, .int .i64 t3_6, .slice t3_7.a t3_7.len t3_7.cap, .slice t3_8.a t3_8.len t3_8.cap, .slice t3_9.a t3_9.len t3_9.cap]) ∧
      K (.tuple #[.agg #[.int .i64 t3_5, .int .i64 t3_6, .slice t3_7.a t3_7.len t3_7.cap, .slice t3_8.a t3_8.len t3_8.cap, .slice t3_9.a t3_9.len t3_9.cap], .int .i64 6]) w_16)
     (∃ t40 : Int, ∃ t40_1 : Int, ∃ t40_2 : Sl, ∃ t40_3 : Sl, ∃ t40_4 : Sl, (At (fun w' => w' = w_14) ⟨b_s5, 0, none⟩ [.int .i64 t40, .int .i64 t40_1, .slice t40_2.a t40_2.len t40_2.cap, .slice t40_3.a t40_3.len t40_3.cap, .slice t40_4.a t40_4.len t40_4.cap]) ∧
      ∃ w_17 : World, ((Instr.storeAt 27 (.pointer ((some ⟨b_t2, 0, none⟩))) (.agg #[.int .i64 t40, .int .i64 t40_1, .slice t40_2.a t40_2.len t40_2.cap, .slice t40_3.a t40_3.len t40_3.cap, .slice t40_4.a t40_4.len t40_4.cap])).run Tryz.prog w_14 = .ok () w_17) ∧
      ∃ t3_10 : Int, ∃ t3_11 : Int, ∃ t3_12 : Sl, ∃ t3_13 : Sl, ∃ t3_14 : Sl, (At (fun w' => w' = w_17) ⟨b_t2, 0, none⟩ [.int .i64 t3_10, .int .i64 t3_11, .slice t3_12.a t3_12.len t3_12.cap, .slice t3_13.a t3_13.len t3_13.cap, .slice t3_14.a t3_14.len t3_14.cap]) ∧
      K (.tuple #[.agg #[.int .i64 t3_10, .int .i64 t3_11, .slice t3_12.a t3_12.len t3_12.cap, .slice t3_13.a t3_13.len t3_13.cap, .slice t3_14.a t3_14.len t3_14.cap], .int .i64 0]) w_17))) w_4) w_1) w

def sk12 : Sk := .leaf
theorem ok12 : fnOk Tryz.prog Tryz.f12.ntmps Tryz.f12 sk12 = true := by kernel_rfl
theorem eq12 (b0 : Sl) (K : Value → World → Prop) (w : World) : fnF Tryz.prog cl Tryz.f12 sk12 [.slice b0.a b0.len b0.cap] K w = B12 b0 K w := by kernel_rfl
theorem call12 (b0 : Sl) (K : Value → World → Prop) (w : World) (h : B12 b0 K w) : Gets Tryz.prog 12 #[.slice b0.a b0.len b0.cap] w K :=
  calls_of (sk := sk12) cl_ok mixed Tryz.func12 ok12 (args := [.slice b0.a b0.len b0.cap]) (Nat.le_of_ble_eq_true (by kernel_rfl)) (by rw [eq12]; exact h)

/-- jetway/jetwayref07.SameSnap. -/
def B13 (a0_0 : Int) (a0_1 : Int) (a0_2 : Sl) (a0_3 : Sl) (a0_4 : Sl) (b1_0 : Int) (b1_1 : Int) (b1_2 : Sl) (b1_3 : Sl) (b1_4 : Sl) (K : Value → World → Prop) (w : World) : Prop :=
  New (.cells #[.int .i64 a0_0, .int .i64 a0_1, .slice a0_2.a a0_2.len a0_2.cap, .slice a0_3.a a0_3.len a0_3.cap, .slice a0_4.a a0_4.len a0_4.cap] 27 (0, 0)) (fun b_a2 w_1 =>
  New (.cells #[.int .i64 b1_0, .int .i64 b1_1, .slice b1_2.a b1_2.len b1_2.cap, .slice b1_3.a b1_3.len b1_3.cap, .slice b1_4.a b1_4.len b1_4.cap] 27 (0, 0)) (fun b_b3 w_2 =>
  ∃ t7 : Sl, ∃ t7_1 : Sl, (At (fun w' => w' = w_2) ⟨b_a2, 0 + 2, none⟩ [.slice t7.a t7.len t7.cap, .slice t7_1.a t7_1.len t7_1.cap]) ∧
  ∃ t9 : Sl, ∃ t9_1 : Sl, (At (fun w' => w' = w_2) ⟨b_b3, 0 + 2, none⟩ [.slice t9.a t9.len t9.cap, .slice t9_1.a t9_1.len t9_1.cap]) ∧
  Calls Tryz.prog 53 #[.agg #[.slice t7.a t7.len t7.cap, .slice t7_1.a t7_1.len t7_1.cap], .agg #[.slice t9.a t9.len t9.cap, .slice t9_1.a t9_1.len t9_1.cap]] w_2 fun e w_3 =>
  ∃ t10 : Bool, (e = .returned (.bool t10)) ∧
  ∃ t12 : Int, (At (fun w' => w' = w_3) ⟨b_a2, 0, none⟩ [.int .i64 t12]) ∧
  ∃ t14 : Int, (At (fun w' => w' = w_3) ⟨b_b3, 0, none⟩ [.int .i64 t14]) ∧
  Br (t12 == t14)
   (∃ t18 : Int, (At (fun w' => w' = w_3) ⟨b_a2, 0 + 1, none⟩ [.int .i64 t18]) ∧
    ∃ t20 : Int, (At (fun w' => w' = w_3) ⟨b_b3, 0 + 1, none⟩ [.int .i64 t20]) ∧
    Br (t18 == t20)
     (Br t10
       (∃ t28 : Sl, (At (fun w' => w' = w_3) ⟨b_a2, 0 + 4, none⟩ [.slice t28.a t28.len t28.cap]) ∧
        ∃ t29 : ByteArray, (∀ w', (fun w' => w' = w_3) w' → ((convert 25 9 (.slice t28.a t28.len t28.cap))).run Tryz.prog w' = .ok (.string t29) w') ∧
        ∃ t31 : Sl, (At (fun w' => w' = w_3) ⟨b_b3, 0 + 4, none⟩ [.slice t31.a t31.len t31.cap]) ∧
        ∃ t32 : ByteArray, (∀ w', (fun w' => w' = w_3) w' → ((convert 25 9 (.slice t31.a t31.len t31.cap))).run Tryz.prog w' = .ok (.string t32) w') ∧
        K (.bool (t29.toList == t32.toList)) w_3)
       (K (.bool false) w_3))
     (K (.bool false) w_3))
   (K (.bool false) w_3)) w_1) w

def sk13 : Sk := .leaf
theorem ok13 : fnOk Tryz.prog Tryz.f13.ntmps Tryz.f13 sk13 = true := by kernel_rfl
theorem eq13 (a0_0 : Int) (a0_1 : Int) (a0_2 : Sl) (a0_3 : Sl) (a0_4 : Sl) (b1_0 : Int) (b1_1 : Int) (b1_2 : Sl) (b1_3 : Sl) (b1_4 : Sl) (K : Value → World → Prop) (w : World) : fnF Tryz.prog cl Tryz.f13 sk13 [.agg #[.int .i64 a0_0, .int .i64 a0_1, .slice a0_2.a a0_2.len a0_2.cap, .slice a0_3.a a0_3.len a0_3.cap, .slice a0_4.a a0_4.len a0_4.cap], .agg #[.int .i64 b1_0, .int .i64 b1_1, .slice b1_2.a b1_2.len b1_2.cap, .slice b1_3.a b1_3.len b1_3.cap, .slice b1_4.a b1_4.len b1_4.cap]] K w = B13 a0_0 a0_1 a0_2 a0_3 a0_4 b1_0 b1_1 b1_2 b1_3 b1_4 K w := by kernel_rfl
theorem call13 (a0_0 : Int) (a0_1 : Int) (a0_2 : Sl) (a0_3 : Sl) (a0_4 : Sl) (b1_0 : Int) (b1_1 : Int) (b1_2 : Sl) (b1_3 : Sl) (b1_4 : Sl) (K : Value → World → Prop) (w : World) (h : B13 a0_0 a0_1 a0_2 a0_3 a0_4 b1_0 b1_1 b1_2 b1_3 b1_4 K w) : Gets Tryz.prog 13 #[.agg #[.int .i64 a0_0, .int .i64 a0_1, .slice a0_2.a a0_2.len a0_2.cap, .slice a0_3.a a0_3.len a0_3.cap, .slice a0_4.a a0_4.len a0_4.cap], .agg #[.int .i64 b1_0, .int .i64 b1_1, .slice b1_2.a b1_2.len b1_2.cap, .slice b1_3.a b1_3.len b1_3.cap, .slice b1_4.a b1_4.len b1_4.cap]] w K :=
  calls_of (sk := sk13) cl_ok mixed Tryz.func13 ok13 (args := [.agg #[.int .i64 a0_0, .int .i64 a0_1, .slice a0_2.a a0_2.len a0_2.cap, .slice a0_3.a a0_3.len a0_3.cap, .slice a0_4.a a0_4.len a0_4.cap], .agg #[.int .i64 b1_0, .int .i64 b1_1, .slice b1_2.a b1_2.len b1_2.cap, .slice b1_3.a b1_3.len b1_3.cap, .slice b1_4.a b1_4.len b1_4.cap]]) (Nat.le_of_ble_eq_true (by kernel_rfl)) (by rw [eq13]; exact h)

/-- jetway/jetwayref07.SameGroup. -/
def B53 (a0_0 : Sl) (a0_1 : Sl) (b1_0 : Sl) (b1_1 : Sl) (K : Value → World → Prop) (w : World) : Prop :=
  New (.cells #[.slice a0_0.a a0_0.len a0_0.cap, .slice a0_1.a a0_1.len a0_1.cap] 24 (0, 0)) (fun b_a2 w_1 =>
  New (.cells #[.slice b1_0.a b1_0.len b1_0.cap, .slice b1_1.a b1_1.len b1_1.cap] 24 (0, 0)) (fun b_b3 w_2 =>
  ∃ t8 : Sl, (At (fun w' => w' = w_2) ⟨b_a2, 0, none⟩ [.slice t8.a t8.len t8.cap]) ∧
  ∃ t10 : Sl, (At (fun w' => w' = w_2) ⟨b_b3, 0, none⟩ [.slice t10.a t10.len t10.cap]) ∧
  Calls Tryz.prog 85 #[.slice t8.a t8.len t8.cap, .slice t10.a t10.len t10.cap] w_2 fun e w_3 =>
  ∃ t11 : Bool, (e = .returned (.bool t11)) ∧
  ∃ t13 : Sl, (At (fun w' => w' = w_3) ⟨b_a2, 0 + 1, none⟩ [.slice t13.a t13.len t13.cap]) ∧
  ∃ t15 : Sl, (At (fun w' => w' = w_3) ⟨b_b3, 0 + 1, none⟩ [.slice t15.a t15.len t15.cap]) ∧
  Calls Tryz.prog 85 #[.slice t13.a t13.len t13.cap, .slice t15.a t15.len t15.cap] w_3 fun e_1 w_4 =>
  ∃ t16 : Bool, (e_1 = .returned (.bool t16)) ∧
  Br t11
   (K (.bool t16) w_4)
   (K (.bool false) w_4)) w_1) w

def sk53 : Sk := .leaf
theorem ok53 : fnOk Tryz.prog Tryz.f53.ntmps Tryz.f53 sk53 = true := by kernel_rfl
theorem eq53 (a0_0 : Sl) (a0_1 : Sl) (b1_0 : Sl) (b1_1 : Sl) (K : Value → World → Prop) (w : World) : fnF Tryz.prog cl Tryz.f53 sk53 [.agg #[.slice a0_0.a a0_0.len a0_0.cap, .slice a0_1.a a0_1.len a0_1.cap], .agg #[.slice b1_0.a b1_0.len b1_0.cap, .slice b1_1.a b1_1.len b1_1.cap]] K w = B53 a0_0 a0_1 b1_0 b1_1 K w := by kernel_rfl
theorem call53 (a0_0 : Sl) (a0_1 : Sl) (b1_0 : Sl) (b1_1 : Sl) (K : Value → World → Prop) (w : World) (h : B53 a0_0 a0_1 b1_0 b1_1 K w) : Gets Tryz.prog 53 #[.agg #[.slice a0_0.a a0_0.len a0_0.cap, .slice a0_1.a a0_1.len a0_1.cap], .agg #[.slice b1_0.a b1_0.len b1_0.cap, .slice b1_1.a b1_1.len b1_1.cap]] w K :=
  calls_of (sk := sk53) cl_ok mixed Tryz.func53 ok53 (args := [.agg #[.slice a0_0.a a0_0.len a0_0.cap, .slice a0_1.a a0_1.len a0_1.cap], .agg #[.slice b1_0.a b1_0.len b1_0.cap, .slice b1_1.a b1_1.len b1_1.cap]]) (Nat.le_of_ble_eq_true (by kernel_rfl)) (by rw [eq53]; exact h)

/-- jetway/jetwayref07.SameInts. -/
def B85 (a0 : Sl) (b1 : Sl) (K : Value → World → Prop) (w : World) : Prop :=
  Br ((↑a0.len : Int) != (↑b1.len : Int))
   (K (.bool false) w)
   (∃ (I : Int → World → Prop) (μ : Int → World → Nat), (I 0 w) ∧ ∀ (z : Env) (i5 : Int) (w_1 : World), I i5 w_1 →
    Br (decide (i5 < (↑a0.len : Int)))
     (Drw w_1 fun S w_2 =>
      Rng i5 a0.len (NilP a0.a fun a_t19 =>
      ∃ t20 : Int, (At S (Addr.add a_t19 i5.toNat) [.int .i64 t20]) ∧
      Rng i5 b1.len (NilP b1.a fun a_t23 =>
      ∃ t24 : Int, (At S (Addr.add a_t23 i5.toNat) [.int .i64 t24]) ∧
      Br (t20 != t24)
       (K (.bool false) w_2)
       ((I (IntKind.i64.wrap (i5 + 1)) w_2) ∧ μ (IntKind.i64.wrap (i5 + 1)) w_2 < μ i5 w_1))))
     (K (.bool true) w_1))

def sk85 : Sk := (.seq .leaf (.seq .leaf (.seq (.seq .leaf (.block (.loop [5] [(.int .i64)] [4, 5, 11, 12, 13, 14, 15, 16, 17, 18, 19, 20, 21, 22, 23, 24, 25] .leaf))) .leaf)))
theorem ok85 : fnOk Tryz.prog Tryz.f85.ntmps Tryz.f85 sk85 = true := by kernel_rfl
theorem eq85 (a0 : Sl) (b1 : Sl) (K : Value → World → Prop) (w : World) : fnF Tryz.prog cl Tryz.f85 sk85 [.slice a0.a a0.len a0.cap, .slice b1.a b1.len b1.cap] K w = B85 a0 b1 K w := by kernel_rfl
theorem call85 (a0 : Sl) (b1 : Sl) (K : Value → World → Prop) (w : World) (h : B85 a0 b1 K w) : Gets Tryz.prog 85 #[.slice a0.a a0.len a0.cap, .slice b1.a b1.len b1.cap] w K :=
  calls_of (sk := sk85) cl_ok mixed Tryz.func85 ok85 (args := [.slice a0.a a0.len a0.cap, .slice b1.a b1.len b1.cap]) (Nat.le_of_ble_eq_true (by kernel_rfl)) (by rw [eq85]; exact h)

/-- jetway/jetwayref07.RightHard. -/
def B20 (h0_0 : Int) (h0_1 : Int) (K : Value → World → Prop) (w : World) : Prop :=
  New (.cells #[.int .i64 h0_0, .int .i64 h0_1] 37 (0, 0)) (fun b_h1 w_1 =>
  ∃ t4 : Int, (At (fun w' => w' = w_1) ⟨b_h1, 0, none⟩ [.int .i64 t4]) ∧
  Br (decide (t4 ≥ 0))
   (∃ t8 : Int, (At (fun w' => w' = w_1) ⟨b_h1, 0, none⟩ [.int .i64 t8]) ∧
    Br (decide (t8 ≤ 1099511627776))
     (∃ t13 : Int, (At (fun w' => w' = w_1) ⟨b_h1, 0 + 1, none⟩ [.int .i64 t13]) ∧
      Br (decide (t13 ≥ 0))
       (∃ t18 : Int, (At (fun w' => w' = w_1) ⟨b_h1, 0 + 1, none⟩ [.int .i64 t18]) ∧
        K (.bool (decide (t18 ≤ 15))) w_1)
       (K (.bool false) w_1))
     (K (.bool false) w_1))
   (K (.bool false) w_1)) w

def sk20 : Sk := .leaf
theorem ok20 : fnOk Tryz.prog Tryz.f20.ntmps Tryz.f20 sk20 = true := by kernel_rfl
theorem eq20 (h0_0 : Int) (h0_1 : Int) (K : Value → World → Prop) (w : World) : fnF Tryz.prog cl Tryz.f20 sk20 [.agg #[.int .i64 h0_0, .int .i64 h0_1]] K w = B20 h0_0 h0_1 K w := by kernel_rfl
theorem call20 (h0_0 : Int) (h0_1 : Int) (K : Value → World → Prop) (w : World) (h : B20 h0_0 h0_1 K w) : Gets Tryz.prog 20 #[.agg #[.int .i64 h0_0, .int .i64 h0_1]] w K :=
  calls_of (sk := sk20) cl_ok mixed Tryz.func20 ok20 (args := [.agg #[.int .i64 h0_0, .int .i64 h0_1]]) (Nat.le_of_ble_eq_true (by kernel_rfl)) (by rw [eq20]; exact h)

/-- jetway/jetwayref07.RightSnap. -/
def B21 (s0_0 : Int) (s0_1 : Int) (s0_2 : Sl) (s0_3 : Sl) (s0_4 : Sl) (K : Value → World → Prop) (w : World) : Prop :=
  New (.cells #[.int .i64 s0_0, .int .i64 s0_1, .slice s0_2.a s0_2.len s0_2.cap, .slice s0_3.a s0_3.len s0_3.cap, .slice s0_4.a s0_4.len s0_4.cap] 27 (0, 0)) (fun b_s1 w_1 =>
  ∃ t5 : Sl, ∃ t5_1 : Sl, (At (fun w' => w' = w_1) ⟨b_s1, 0 + 2, none⟩ [.slice t5.a t5.len t5.cap, .slice t5_1.a t5_1.len t5_1.cap]) ∧
  Calls Tryz.prog 61 #[.agg #[.slice t5.a t5.len t5.cap, .slice t5_1.a t5_1.len t5_1.cap]] w_1 fun e w_2 =>
  ∃ t6 : Bool, (e = .returned (.bool t6)) ∧
  ∃ t8 : Int, (At (fun w' => w' = w_2) ⟨b_s1, 0, none⟩ [.int .i64 t8]) ∧
  Br (decide (t8 ≥ 0))
   (∃ t12 : Int, (At (fun w' => w' = w_2) ⟨b_s1, 0, none⟩ [.int .i64 t12]) ∧
    Br (decide (t12 ≤ 1099511627776))
     (∃ t17 : Int, (At (fun w' => w' = w_2) ⟨b_s1, 0 + 1, none⟩ [.int .i64 t17]) ∧
      Br (decide (t17 ≥ 0))
       (∃ t22 : Int, (At (fun w' => w' = w_2) ⟨b_s1, 0 + 1, none⟩ [.int .i64 t22]) ∧
        Br (decide (t22 ≤ 1099511627776))
         (Br t6
           (∃ t30 : Sl, (At (fun w' => w' = w_2) ⟨b_s1, 0 + 4, none⟩ [.slice t30.a t30.len t30.cap]) ∧
            K (.bool (decide ((↑t30.len : Int) ≤ 60000))) w_2)
           (K (.bool false) w_2))
         (K (.bool false) w_2))
       (K (.bool false) w_2))
     (K (.bool false) w_2))
   (K (.bool false) w_2)) w

def sk21 : Sk := .leaf
theorem ok21 : fnOk Tryz.prog Tryz.f21.ntmps Tryz.f21 sk21 = true := by kernel_rfl
theorem eq21 (s0_0 : Int) (s0_1 : Int) (s0_2 : Sl) (s0_3 : Sl) (s0_4 : Sl) (K : Value → World → Prop) (w : World) : fnF Tryz.prog cl Tryz.f21 sk21 [.agg #[.int .i64 s0_0, .int .i64 s0_1, .slice s0_2.a s0_2.len s0_2.cap, .slice s0_3.a s0_3.len s0_3.cap, .slice s0_4.a s0_4.len s0_4.cap]] K w = B21 s0_0 s0_1 s0_2 s0_3 s0_4 K w := by kernel_rfl
theorem call21 (s0_0 : Int) (s0_1 : Int) (s0_2 : Sl) (s0_3 : Sl) (s0_4 : Sl) (K : Value → World → Prop) (w : World) (h : B21 s0_0 s0_1 s0_2 s0_3 s0_4 K w) : Gets Tryz.prog 21 #[.agg #[.int .i64 s0_0, .int .i64 s0_1, .slice s0_2.a s0_2.len s0_2.cap, .slice s0_3.a s0_3.len s0_3.cap, .slice s0_4.a s0_4.len s0_4.cap]] w K :=
  calls_of (sk := sk21) cl_ok mixed Tryz.func21 ok21 (args := [.agg #[.int .i64 s0_0, .int .i64 s0_1, .slice s0_2.a s0_2.len s0_2.cap, .slice s0_3.a s0_3.len s0_3.cap, .slice s0_4.a s0_4.len s0_4.cap]]) (Nat.le_of_ble_eq_true (by kernel_rfl)) (by rw [eq21]; exact h)

/-- jetway/jetwayref07.RightGroup. -/
def B61 (g0_0 : Sl) (g0_1 : Sl) (K : Value → World → Prop) (w : World) : Prop :=
  New (.cells #[.slice g0_0.a g0_0.len g0_0.cap, .slice g0_1.a g0_1.len g0_1.cap] 24 (0, 0)) (fun b_g1 w_1 =>
  ∃ t8 : Sl, (At (fun w' => w' = w_1) ⟨b_g1, 0, none⟩ [.slice t8.a t8.len t8.cap]) ∧
  Calls Tryz.prog 95 #[.slice t8.a t8.len t8.cap] w_1 fun e w_2 =>
  ∃ t9 : Bool, (e = .returned (.bool t9)) ∧
  ∃ t11 : Sl, (At (fun w' => w' = w_2) ⟨b_g1, 0 + 1, none⟩ [.slice t11.a t11.len t11.cap]) ∧
  Calls Tryz.prog 95 #[.slice t11.a t11.len t11.cap] w_2 fun e_1 w_3 =>
  ∃ t12 : Bool, (e_1 = .returned (.bool t12)) ∧
  ∃ (J : World → Prop), (Br (!t9)
     (K (.bool false) w_3)
     (Br (!t12)
       (K (.bool false) w_3)
       (∃ t21 : Sl, (At (fun w' => w' = w_3) ⟨b_g1, 0, none⟩ [.slice t21.a t21.len t21.cap]) ∧
        Br ((↑t21.len : Int) == 0)
         (K (.bool false) w_3)
         (J  w_3)))) ∧
  ∀ (z : Env)  (w_4 : World), J  w_4 →
  ∃ (I : Int → World → Prop) (μ : Int → World → Nat), (I 0 w_4) ∧ ∀ (z_1 : Env) (i5 : Int) (w_5 : World), I i5 w_5 →
  ∃ t27 : Sl, (At (fun w' => w' = w_5) ⟨b_g1, 0, none⟩ [.slice t27.a t27.len t27.cap]) ∧
  Br (decide (i5 < (↑t27.len : Int)))
   (Drw w_5 fun S w_6 =>
    ∃ t33 : Sl, (At S ⟨b_g1, 0 + 1, none⟩ [.slice t33.a t33.len t33.cap]) ∧
    ∃ t35 : Sl, (At S ⟨b_g1, 0, none⟩ [.slice t35.a t35.len t35.cap]) ∧
    Rng i5 t35.len (NilP t35.a fun a_t37 =>
    ∃ t38 : Int, (At S (Addr.add a_t37 i5.toNat) [.int .i64 t38]) ∧
    Calls Tryz.prog 96 #[.slice t33.a t33.len t33.cap, .int .i64 t38] w_6 fun e_2 w_7 =>
    ∃ t39 : Bool, (e_2 = .returned (.bool t39)) ∧
    (S w_7) ∧
    Br t39
     (K (.bool false) w_7)
     ((I (IntKind.i64.wrap (i5 + 1)) w_7) ∧ μ (IntKind.i64.wrap (i5 + 1)) w_7 < μ i5 w_5)))
   (K (.bool true) w_5)) w

def sk61 : Sk := (.seq .leaf (.seq .leaf (.seq .leaf (.cut [] [] [2, 13, 14, 15, 16, 17, 18, 19, 20, 21, 22, 23, 24] .leaf (.seq (.seq .leaf (.block (.loop [5] [(.int .i64)] [2, 5, 6, 25, 26, 27, 28, 29, 30, 31, 32, 33, 34, 35, 36, 37, 38, 39, 40] .leaf))) .leaf)))))
theorem ok61 : fnOk Tryz.prog Tryz.f61.ntmps Tryz.f61 sk61 = true := by kernel_rfl
theorem eq61 (g0_0 : Sl) (g0_1 : Sl) (K : Value → World → Prop) (w : World) : fnF Tryz.prog cl Tryz.f61 sk61 [.agg #[.slice g0_0.a g0_0.len g0_0.cap, .slice g0_1.a g0_1.len g0_1.cap]] K w = B61 g0_0 g0_1 K w := by kernel_rfl
theorem call61 (g0_0 : Sl) (g0_1 : Sl) (K : Value → World → Prop) (w : World) (h : B61 g0_0 g0_1 K w) : Gets Tryz.prog 61 #[.agg #[.slice g0_0.a g0_0.len g0_0.cap, .slice g0_1.a g0_1.len g0_1.cap]] w K :=
  calls_of (sk := sk61) cl_ok mixed Tryz.func61 ok61 (args := [.agg #[.slice g0_0.a g0_0.len g0_0.cap, .slice g0_1.a g0_1.len g0_1.cap]]) (Nat.le_of_ble_eq_true (by kernel_rfl)) (by rw [eq61]; exact h)

/-- jetway/jetwayref07.rises. -/
def B95 (l0 : Sl) (K : Value → World → Prop) (w : World) : Prop :=
  ∃ (I : Int → World → Prop) (μ : Int → World → Nat), (I 0 w) ∧ ∀ (z : Env) (i3 : Int) (w_1 : World), I i3 w_1 →
  Br (decide (i3 < (↑l0.len : Int)))
   (Drw w_1 fun S w_2 =>
    Rng i3 l0.len (NilP l0.a fun a_t12 =>
    ∃ t13 : Int, (At S (Addr.add a_t12 i3.toNat) [.int .i64 t13]) ∧
    Br (decide (t13 < 1))
     (K (.bool false) w_2)
     (Rng i3 l0.len (NilP l0.a fun a_t18 =>
      ∃ t19 : Int, (At S (Addr.add a_t18 i3.toNat) [.int .i64 t19]) ∧
      Br (decide (t19 > 15))
       (K (.bool false) w_2)
       (Br (decide (i3 > 0))
         (Rng i3 l0.len (NilP l0.a fun a_t28 =>
          ∃ t29 : Int, (At S (Addr.add a_t28 i3.toNat) [.int .i64 t29]) ∧
          Rng (IntKind.i64.wrap (i3 - 1)) l0.len (NilP l0.a fun a_t33 =>
          ∃ t34 : Int, (At S (Addr.add a_t33 ((IntKind.i64.wrap (i3 - 1)).toNat)) [.int .i64 t34]) ∧
          Br (decide (t29 ≤ t34))
           (K (.bool false) w_2)
           ((I (IntKind.i64.wrap (i3 + 1)) w_2) ∧ μ (IntKind.i64.wrap (i3 + 1)) w_2 < μ i3 w_1))))
         ((I (IntKind.i64.wrap (i3 + 1)) w_2) ∧ μ (IntKind.i64.wrap (i3 + 1)) w_2 < μ i3 w_1))))))
   (K (.bool true) w_1)

def sk95 : Sk := (.seq .leaf (.seq (.seq .leaf (.block (.loop [3] [(.int .i64)] [2, 3, 4, 5, 6, 7, 8, 9, 10, 11, 12, 13, 14, 15, 16, 17, 18, 19, 20, 21, 22, 23, 24, 25, 26, 27, 28, 29, 30, 31, 32, 33, 34, 35, 36, 37] .leaf))) .leaf))
theorem ok95 : fnOk Tryz.prog Tryz.f95.ntmps Tryz.f95 sk95 = true := by kernel_rfl
theorem eq95 (l0 : Sl) (K : Value → World → Prop) (w : World) : fnF Tryz.prog cl Tryz.f95 sk95 [.slice l0.a l0.len l0.cap] K w = B95 l0 K w := by kernel_rfl
theorem call95 (l0 : Sl) (K : Value → World → Prop) (w : World) (h : B95 l0 K w) : Gets Tryz.prog 95 #[.slice l0.a l0.len l0.cap] w K :=
  calls_of (sk := sk95) cl_ok mixed Tryz.func95 ok95 (args := [.slice l0.a l0.len l0.cap]) (Nat.le_of_ble_eq_true (by kernel_rfl)) (by rw [eq95]; exact h)

/-- jetway/jetwayref07.Has. -/
def B96 (l0 : Sl) (n1 : Int) (K : Value → World → Prop) (w : World) : Prop :=
  ∃ (I : Int → World → Prop) (μ : Int → World → Nat), (I 0 w) ∧ ∀ (z : Env) (i5 : Int) (w_1 : World), I i5 w_1 →
  Br (decide (i5 < (↑l0.len : Int)))
   (Rng i5 l0.len (NilP l0.a fun a_t14 =>
    ∃ t15 : Int, (At (fun w' => w' = w_1) (Addr.add a_t14 i5.toNat) [.int .i64 t15]) ∧
    Br (t15 == n1)
     (K (.bool true) w_1)
     ((I (IntKind.i64.wrap (i5 + 1)) w_1) ∧ μ (IntKind.i64.wrap (i5 + 1)) w_1 < μ i5 w_1)))
   (K (.bool false) w_1)

def sk96 : Sk := (.seq .leaf (.seq (.seq .leaf (.block (.loop [5] [(.int .i64)] [4, 5, 6, 7, 8, 9, 10, 11, 12, 13, 14, 15, 16, 17] .leaf))) .leaf))
theorem ok96 : fnOk Tryz.prog Tryz.f96.ntmps Tryz.f96 sk96 = true := by kernel_rfl
theorem eq96 (l0 : Sl) (n1 : Int) (K : Value → World → Prop) (w : World) : fnF Tryz.prog cl Tryz.f96 sk96 [.slice l0.a l0.len l0.cap, .int .i64 n1] K w = B96 l0 n1 K w := by kernel_rfl
theorem call96 (l0 : Sl) (n1 : Int) (K : Value → World → Prop) (w : World) (h : B96 l0 n1 K w) : Gets Tryz.prog 96 #[.slice l0.a l0.len l0.cap, .int .i64 n1] w K :=
  calls_of (sk := sk96) cl_ok mixed Tryz.func96 ok96 (args := [.slice l0.a l0.len l0.cap, .int .i64 n1]) (Nat.le_of_ble_eq_true (by kernel_rfl)) (by rw [eq96]; exact h)

/-- jetway/jetwayref07.numbers. -/
def B42 (l0 : Sl) (K : Value → World → Prop) (w : World) : Prop :=
  Calls Tryz.prog 41 #[.int .u64 (IntKind.u64.wrap (↑l0.len : Int))] w fun e w_1 =>
  ∃ t8 : Sl, (e = .returned (.slice t8.a t8.len t8.cap)) ∧
  ∃ (I : Sl → Int → World → Prop) (μ : Sl → Int → World → Nat), (I t8 0 w_1) ∧ ∀ (z : Env) (out3 : Sl) (i4 : Int) (w_2 : World), I out3 i4 w_2 →
  Br (decide (i4 < (↑l0.len : Int)))
   (Rng i4 l0.len (NilP l0.a fun a_t18 =>
    ∃ t19 : Int, (At (fun w' => w' = w_2) (Addr.add a_t18 i4.toNat) [.int .i64 t19]) ∧
    Calls Tryz.prog 41 #[.int .u64 (IntKind.u64.wrap t19)] w_2 fun e_1 w_3 =>
    ∃ t21 : Sl, (e_1 = .returned (.slice t21.a t21.len t21.cap)) ∧
    ∃ w_4 : World, ∃ t22 : Sl, ((Builtin.append_ #[25, 25] 25 #[.slice out3.a out3.len out3.cap, .slice t21.a t21.len t21.cap]).run Tryz.prog w_3 = .ok (.slice t22.a t22.len t22.cap) w_4) ∧
    (I t22 (IntKind.i64.wrap (i4 + 1)) w_4) ∧ μ t22 (IntKind.i64.wrap (i4 + 1)) w_4 < μ out3 i4 w_2))
   (K (.slice out3.a out3.len out3.cap) w_2)

def sk42 : Sk := (.seq .leaf (.seq .leaf (.seq (.seq .leaf (.block (.loop [3, 4] [.sl, (.int .i64)] [3, 4, 9, 10, 11, 12, 13, 14, 15, 16, 17, 18, 19, 20, 21, 22] .leaf))) .leaf)))
theorem ok42 : fnOk Tryz.prog Tryz.f42.ntmps Tryz.f42 sk42 = true := by kernel_rfl
theorem eq42 (l0 : Sl) (K : Value → World → Prop) (w : World) : fnF Tryz.prog cl Tryz.f42 sk42 [.slice l0.a l0.len l0.cap] K w = B42 l0 K w := by kernel_rfl
theorem call42 (l0 : Sl) (K : Value → World → Prop) (w : World) (h : B42 l0 K w) : Gets Tryz.prog 42 #[.slice l0.a l0.len l0.cap] w K :=
  calls_of (sk := sk42) cl_ok mixed Tryz.func42 ok42 (args := [.slice l0.a l0.len l0.cap]) (Nat.le_of_ble_eq_true (by kernel_rfl)) (by rw [eq42]; exact h)

/-- jetway/jetwayref07.hard. -/
def B64 (h0_0 : Int) (h0_1 : Int) (K : Value → World → Prop) (w : World) : Prop :=
  New (.cells #[.int .i64 h0_0, .int .i64 h0_1] 37 (0, 0)) (fun b_h1 w_1 =>
  Drw w_1 fun S w_2 =>
  ∃ t4 : Int, (At S ⟨b_h1, 0, none⟩ [.int .i64 t4]) ∧
  ∃ t8 : Int, (At S ⟨b_h1, 0 + 1, none⟩ [.int .i64 t8]) ∧
  Calls Tryz.prog 41 #[.int .u64 (IntKind.u64.wrap t4)] w_2 fun e w_3 =>
  ∃ t6 : Sl, (e = .returned (.slice t6.a t6.len t6.cap)) ∧
  (S w_3) ∧
  Calls Tryz.prog 41 #[.int .u64 (IntKind.u64.wrap t8)] w_3 fun e_1 w_4 =>
  ∃ t10 : Sl, (e_1 = .returned (.slice t10.a t10.len t10.cap)) ∧
  (S w_4) ∧
  ∃ w_5 : World, ∃ t11 : Sl, ((Builtin.append_ #[25, 25] 25 #[.slice t6.a t6.len t6.cap, .slice t10.a t10.len t10.cap]).run Tryz.prog w_4 = .ok (.slice t11.a t11.len t11.cap) w_5) ∧
  (S w_5) ∧
  K (.slice t11.a t11.len t11.cap) w_5) w

def sk64 : Sk := .leaf
theorem ok64 : fnOk Tryz.prog Tryz.f64.ntmps Tryz.f64 sk64 = true := by kernel_rfl
theorem eq64 (h0_0 : Int) (h0_1 : Int) (K : Value → World → Prop) (w : World) : fnF Tryz.prog cl Tryz.f64 sk64 [.agg #[.int .i64 h0_0, .int .i64 h0_1]] K w = B64 h0_0 h0_1 K w := by kernel_rfl
theorem call64 (h0_0 : Int) (h0_1 : Int) (K : Value → World → Prop) (w : World) (h : B64 h0_0 h0_1 K w) : Gets Tryz.prog 64 #[.agg #[.int .i64 h0_0, .int .i64 h0_1]] w K :=
  calls_of (sk := sk64) cl_ok mixed Tryz.func64 ok64 (args := [.agg #[.int .i64 h0_0, .int .i64 h0_1]]) (Nat.le_of_ble_eq_true (by kernel_rfl)) (by rw [eq64]; exact h)

/-- jetway/jetwayref07.list. -/
def B50 (r0 : Option Addr) (K : Value → World → Prop) (w : World) : Prop :=
  Calls Tryz.prog 49 #[.pointer r0, .int .u64 15] w fun e w_1 =>
  ∃ t7 : Int, (e = .returned (.int .u64 t7)) ∧
  ∃ (I : Sl → Int → World → Prop) (μ : Sl → Int → World → Nat), (I ⟨none, 0, 0⟩ 0 w_1) ∧ ∀ (z : Env) (out4 : Sl) (i5 : Int) (w_2 : World), I out4 i5 w_2 →
  Br (decide (i5 < t7))
   (Calls Tryz.prog 49 #[.pointer r0, .int .u64 15] w_2 fun e_1 w_3 =>
    ∃ t15 : Int, (e_1 = .returned (.int .u64 t15)) ∧
    New (.cells #[.int .i64 (IntKind.i64.wrap t15)] 3 (0, 0)) (fun b_t17 w_4 =>
    ∃ w_5 : World, ∃ t18 : Sl, ((Builtin.append_ #[22, 22] 22 #[.slice out4.a out4.len out4.cap, .slice ((some ⟨b_t17, 0, none⟩)) 1 1]).run Tryz.prog w_4 = .ok (.slice t18.a t18.len t18.cap) w_5) ∧
    (I t18 (IntKind.u64.wrap (i5 + 1)) w_5) ∧ μ t18 (IntKind.u64.wrap (i5 + 1)) w_5 < μ out4 i5 w_2) w_3)
   (K (.slice out4.a out4.len out4.cap) w_2)

def sk50 : Sk := (.seq .leaf (.seq .leaf (.seq .leaf (.seq (.seq .leaf (.block (.loop [4, 5] [.sl, (.int .u64)] [4, 5, 8, 9, 10, 11, 12, 13, 14, 15, 16, 17, 18] .leaf))) .leaf))))
theorem ok50 : fnOk Tryz.prog Tryz.f50.ntmps Tryz.f50 sk50 = true := by kernel_rfl
theorem eq50 (r0 : Option Addr) (K : Value → World → Prop) (w : World) : fnF Tryz.prog cl Tryz.f50 sk50 [.pointer r0] K w = B50 r0 K w := by kernel_rfl
theorem call50 (r0 : Option Addr) (K : Value → World → Prop) (w : World) (h : B50 r0 K w) : Gets Tryz.prog 50 #[.pointer r0] w K :=
  calls_of (sk := sk50) cl_ok mixed Tryz.func50 ok50 (args := [.pointer r0]) (Nat.le_of_ble_eq_true (by kernel_rfl)) (by rw [eq50]; exact h)

/-- jetway/jetwayref07.write. -/
def B63 (d0 : Option Addr) (name1 : ByteArray) (b2 : Sl) (K : Value → World → Prop) (w : World) : Prop :=
  Calls Tryz.prog 97 #[.slice b2.a b2.len b2.cap] w fun e w_1 =>
  ∃ t13 : Sl, ∃ t13_1 : Int, (e = .returned (.tuple #[.slice t13.a t13.len t13.cap, .int .i64 t13_1])) ∧
  Br (t13_1 != 0)
   (K (.int .i64 t13_1) w_1)
   (Calls Tryz.prog 98 #[.pointer d0] w_1 fun e_1 w_2 =>
    ∃ t20 : Sl, (e_1 = .returned (.slice t20.a t20.len t20.cap)) ∧
    ∃ (I : Int → World → Prop) (μ : Int → World → Nat), (I 0 w_2) ∧ ∀ (z : Env) (i10 : Int) (w_3 : World), I i10 w_3 →
    Br (decide (i10 < (↑t20.len : Int)))
     (Rng i10 t20.len (NilP t20.a fun a_t29 =>
      ∃ t30 : ByteArray, (At (fun w' => w' = w_3) (Addr.add a_t29 i10.toNat) [.string t30]) ∧
      (((↑(name1.size + (ByteArray.mk #[46, 110, 101, 119]).size) : Int) : Int) ≤ 9223372036854775807) ∧
      Br (t30.toList == (name1 ++ ByteArray.mk #[46, 110, 101, 119]).toList)
       (Rng i10 t20.len (NilP t20.a fun a_t37 =>
        ∃ t38 : ByteArray, (At (fun w' => w' = w_3) (Addr.add a_t37 i10.toNat) [.string t38]) ∧
        Calls Tryz.prog 99 #[.pointer d0, .string t38] w_3 fun e_2 w_4 =>
        ∃ t39 : Int, (e_2 = .returned (.int .i64 t39)) ∧
        Br (t39 != 0)
         (K (.int .i64 t39) w_4)
         ((I (IntKind.i64.wrap (i10 + 1)) w_4) ∧ μ (IntKind.i64.wrap (i10 + 1)) w_4 < μ i10 w_3)))
       ((I (IntKind.i64.wrap (i10 + 1)) w_3) ∧ μ (IntKind.i64.wrap (i10 + 1)) w_3 < μ i10 w_3)))
     ((((↑(name1.size + (ByteArray.mk #[46, 110, 101, 119]).size) : Int) : Int) ≤ 9223372036854775807) ∧
      Calls Tryz.prog 31 #[.pointer d0, .string (name1 ++ ByteArray.mk #[46, 110, 101, 119]), .slice t13.a t13.len t13.cap] w_3 fun e_3 w_5 =>
      ∃ t47 : Int, (e_3 = .returned (.int .i64 t47)) ∧
      Br (t47 != 0)
       (K (.int .i64 t47) w_5)
       ((((↑(name1.size + (ByteArray.mk #[46, 110, 101, 119]).size) : Int) : Int) ≤ 9223372036854775807) ∧
        Calls Tryz.prog 100 #[.pointer d0, .string (name1 ++ ByteArray.mk #[46, 110, 101, 119])] w_5 fun e_4 w_6 =>
        ∃ t54 : Int, (e_4 = .returned (.int .i64 t54)) ∧
        Br (t54 != 0)
         (K (.int .i64 t54) w_6)
         ((((↑(name1.size + (ByteArray.mk #[46, 110, 101, 119]).size) : Int) : Int) ≤ 9223372036854775807) ∧
          Calls Tryz.prog 101 #[.pointer d0, .string (name1 ++ ByteArray.mk #[46, 110, 101, 119]), .string name1] w_6 fun e_5 w_7 =>
          ∃ t62 : Int, (e_5 = .returned (.int .i64 t62)) ∧
          K (.int .i64 t62) w_7))))

def sk63 : Sk := (.seq .leaf (.seq .leaf (.seq .leaf (.seq .leaf (.seq (.seq .leaf (.block (.loop [10] [(.int .i64)] [6, 8, 10, 21, 22, 23, 24, 25, 26, 27, 28, 29, 30, 31, 32, 33, 34, 35, 36, 37, 38, 39, 40, 41, 42] .leaf))) .leaf)))))
theorem ok63 : fnOk Tryz.prog Tryz.f63.ntmps Tryz.f63 sk63 = true := by kernel_rfl
theorem eq63 (d0 : Option Addr) (name1 : ByteArray) (b2 : Sl) (K : Value → World → Prop) (w : World) : fnF Tryz.prog cl Tryz.f63 sk63 [.pointer d0, .string name1, .slice b2.a b2.len b2.cap] K w = B63 d0 name1 b2 K w := by kernel_rfl
theorem call63 (d0 : Option Addr) (name1 : ByteArray) (b2 : Sl) (K : Value → World → Prop) (w : World) (h : B63 d0 name1 b2 K w) : Gets Tryz.prog 63 #[.pointer d0, .string name1, .slice b2.a b2.len b2.cap] w K :=
  calls_of (sk := sk63) cl_ok mixed Tryz.func63 ok63 (args := [.pointer d0, .string name1, .slice b2.a b2.len b2.cap]) (Nat.le_of_ble_eq_true (by kernel_rfl)) (by rw [eq63]; exact h)

/-- jetway/jetwayref07.read. -/
def B70 (d0 : Option Addr) (name1 : ByteArray) (K : Value → World → Prop) (w : World) : Prop :=
  Calls Tryz.prog 105 #[.pointer d0, .string name1] w fun e w_1 =>
  ∃ t14 : Sl, ∃ t14_1 : Int, (e = .returned (.tuple #[.slice t14.a t14.len t14.cap, .int .i64 t14_1])) ∧
  Br (t14_1 == 2)
   (K (.tuple #[.slice none 0 0, .bool false, .int .i64 0]) w_1)
   (Br (t14_1 != 0)
     (K (.tuple #[.slice none 0 0, .bool false, .int .i64 t14_1]) w_1)
     (Calls Tryz.prog 106 #[.slice t14.a t14.len t14.cap] w_1 fun e_1 w_2 =>
      ∃ t24 : Sl, ∃ t24_1 : Int, (e_1 = .returned (.tuple #[.slice t24.a t24.len t24.cap, .int .i64 t24_1])) ∧
      Br ((↑t24.len : Int) != 1)
       (K (.tuple #[.slice none 0 0, .bool true, .int .i64 6]) w_2)
       (Br (t24_1 != (↑t14.len : Int))
         (K (.tuple #[.slice none 0 0, .bool true, .int .i64 6]) w_2)
         (Rng 0 t24.len (NilP t24.a fun a_t37 =>
          ∃ t38 : Sl, (At (fun w' => w' = w_2) (Addr.add a_t37 0) [.slice t38.a t38.len t38.cap]) ∧
          K (.tuple #[.slice t38.a t38.len t38.cap, .bool true, .int .i64 0]) w_2)))))

def sk70 : Sk := .leaf
theorem ok70 : fnOk Tryz.prog Tryz.f70.ntmps Tryz.f70 sk70 = true := by kernel_rfl
theorem eq70 (d0 : Option Addr) (name1 : ByteArray) (K : Value → World → Prop) (w : World) : fnF Tryz.prog cl Tryz.f70 sk70 [.pointer d0, .string name1] K w = B70 d0 name1 K w := by kernel_rfl
theorem call70 (d0 : Option Addr) (name1 : ByteArray) (K : Value → World → Prop) (w : World) (h : B70 d0 name1 K w) : Gets Tryz.prog 70 #[.pointer d0, .string name1] w K :=
  calls_of (sk := sk70) cl_ok mixed Tryz.func70 ok70 (args := [.pointer d0, .string name1]) (Nat.le_of_ble_eq_true (by kernel_rfl)) (by rw [eq70]; exact h)

/-- jetway/jetwayref07.SaveHard. -/
def B24 (d0 : Option Addr) (h1_0 : Int) (h1_1 : Int) (K : Value → World → Prop) (w : World) : Prop :=
  New (.cells #[.int .i64 h1_0, .int .i64 h1_1] 37 (0, 0)) (fun b_h3 w_1 =>
  ∃ t6 : Int, ∃ t6_1 : Int, (At (fun w' => w' = w_1) ⟨b_h3, 0, none⟩ [.int .i64 t6, .int .i64 t6_1]) ∧
  Calls Tryz.prog 20 #[.agg #[.int .i64 t6, .int .i64 t6_1]] w_1 fun e w_2 =>
  ∃ t7 : Bool, (e = .returned (.bool t7)) ∧
  Br d0.isNone
   (K (.int .i64 1) w_2)
   (Br (!t7)
     (K (.int .i64 1) w_2)
     (∃ t15 : Int, ∃ t15_1 : Int, (At (fun w' => w' = w_2) ⟨b_h3, 0, none⟩ [.int .i64 t15, .int .i64 t15_1]) ∧
      Calls Tryz.prog 64 #[.agg #[.int .i64 t15, .int .i64 t15_1]] w_2 fun e_1 w_3 =>
      ∃ t16 : Sl, (e_1 = .returned (.slice t16.a t16.len t16.cap)) ∧
      Calls Tryz.prog 63 #[.pointer d0, .string (ByteArray.mk #[104, 97, 114, 100]), .slice t16.a t16.len t16.cap] w_3 fun e_2 w_4 =>
      ∃ t17 : Int, (e_2 = .returned (.int .i64 t17)) ∧
      K (.int .i64 t17) w_4))) w

def sk24 : Sk := .leaf
theorem ok24 : fnOk Tryz.prog Tryz.f24.ntmps Tryz.f24 sk24 = true := by kernel_rfl
theorem eq24 (d0 : Option Addr) (h1_0 : Int) (h1_1 : Int) (K : Value → World → Prop) (w : World) : fnF Tryz.prog cl Tryz.f24 sk24 [.pointer d0, .agg #[.int .i64 h1_0, .int .i64 h1_1]] K w = B24 d0 h1_0 h1_1 K w := by kernel_rfl
theorem call24 (d0 : Option Addr) (h1_0 : Int) (h1_1 : Int) (K : Value → World → Prop) (w : World) (h : B24 d0 h1_0 h1_1 K w) : Gets Tryz.prog 24 #[.pointer d0, .agg #[.int .i64 h1_0, .int .i64 h1_1]] w K :=
  calls_of (sk := sk24) cl_ok mixed Tryz.func24 ok24 (args := [.pointer d0, .agg #[.int .i64 h1_0, .int .i64 h1_1]]) (Nat.le_of_ble_eq_true (by kernel_rfl)) (by rw [eq24]; exact h)

/-- jetway/jetwayref07.LoadHard. -/
def B32 (d0 : Option Addr) (K : Value → World → Prop) (w : World) : Prop :=
  New (.cells #[.int .i64 0, .int .i64 0] 37 (0, 0)) (fun b_t2 w_1 =>
  Br d0.isNone
   (∃ w_2 : World, ((Instr.storeAt 37 (.pointer ((some ⟨b_t2, 0, none⟩))) (.agg #[.int .i64 0, .int .i64 0])).run Tryz.prog w_1 = .ok () w_2) ∧
    ∃ t3 : Int, ∃ t3_1 : Int, (At (fun w' => w' = w_2) ⟨b_t2, 0, none⟩ [.int .i64 t3, .int .i64 t3_1]) ∧
    K (.tuple #[.agg #[.int .i64 t3, .int .i64 t3_1], .int .i64 1]) w_2)
   (Calls Tryz.prog 70 #[.pointer d0, .string (ByteArray.mk #[104, 97, 114, 100])] w_1 fun e w_3 =>
    ∃ t15 : Sl, ∃ t15_1 : Bool, ∃ t15_2 : Int, (e = .returned (.tuple #[.slice t15.a t15.len t15.cap, .bool t15_1, .int .i64 t15_2])) ∧
    ∃ (J : World → Prop), (Br (t15_2 != 0)
       (∃ w_4 : World, ((Instr.storeAt 37 (.pointer ((some ⟨b_t2, 0, none⟩))) (.agg #[.int .i64 0, .int .i64 0])).run Tryz.prog w_3 = .ok () w_4) ∧
        ∃ t3_2 : Int, ∃ t3_3 : Int, (At (fun w' => w' = w_4) ⟨b_t2, 0, none⟩ [.int .i64 t3_2, .int .i64 t3_3]) ∧
        K (.tuple #[.agg #[.int .i64 t3_2, .int .i64 t3_3], .int .i64 t15_2]) w_4)
       (Br (!t15_1)
         (∃ w_5 : World, ((Instr.storeAt 37 (.pointer ((some ⟨b_t2, 0, none⟩))) (.agg #[.int .i64 0, .int .i64 0])).run Tryz.prog w_3 = .ok () w_5) ∧
          ∃ t3_4 : Int, ∃ t3_5 : Int, (At (fun w' => w' = w_5) ⟨b_t2, 0, none⟩ [.int .i64 t3_4, .int .i64 t3_5]) ∧
          K (.tuple #[.agg #[.int .i64 t3_4, .int .i64 t3_5], .int .i64 t15_2]) w_5)
         (J  w_3))) ∧
    ∀ (z : Env)  (w_6 : World), J  w_6 →
    New (.cells #[.slice t15.a t15.len t15.cap, .int .i64 0, .bool false] 81 (0, 0)) (fun b_t29 w_7 =>
    Calls Tryz.prog 49 #[.pointer ((some ⟨b_t29, 0, none⟩)), .int .u64 1099511627776] w_7 fun e_1 w_8 =>
    ∃ t31 : Int, (e_1 = .returned (.int .u64 t31)) ∧
    Calls Tryz.prog 49 #[.pointer ((some ⟨b_t29, 0, none⟩)), .int .u64 15] w_8 fun e_2 w_9 =>
    ∃ t34 : Int, (e_2 = .returned (.int .u64 t34)) ∧
    New (.cells #[.int .i64 0, .int .i64 0] 37 (0, 0)) (fun b_h8 w_10 =>
    ∃ w_11 : World, ((Instr.storeAt 37 (.pointer ((some ⟨b_h8, 0, none⟩))) (.agg #[.int .i64 (IntKind.i64.wrap t31), .int .i64 (IntKind.i64.wrap t34)])).run Tryz.prog w_10 = .ok () w_11) ∧
    Calls Tryz.prog 52 #[.pointer ((some ⟨b_t29, 0, none⟩))] w_11 fun e_3 w_12 =>
    ∃ t38 : Bool, (e_3 = .returned (.bool t38)) ∧
    Br (!t38)
     (∃ w_13 : World, ((Instr.storeAt 37 (.pointer ((some ⟨b_t2, 0, none⟩))) (.agg #[.int .i64 0, .int .i64 0])).run Tryz.prog w_12 = .ok () w_13) ∧
      ∃ t3_6 : Int, ∃ t3_7 : Int, (At (fun w' => w' = w_13) ⟨b_t2, 0, none⟩ [.int .i64 t3_6, .int .i64 t3_7]) ∧
      K (.tuple #[.agg #[.int .i64 t3_6, .int .i64 t3_7], .int .i64 6]) w_13)
     (∃ t42 : Int, ∃ t42_1 : Int, (At (fun w' => w' = w_12) ⟨b_h8, 0, none⟩ [.int .i64 t42, .int .i64 t42_1]) ∧
      ∃ w_14 : World, ((Instr.storeAt 37 (.pointer ((some ⟨b_t2, 0, none⟩))) (.agg #[.int .i64 t42, .int .i64 t42_1])).run Tryz.prog w_12 = .ok () w_14) ∧
      ∃ t3_8 : Int, ∃ t3_9 : Int, (At (fun w' => w' = w_14) ⟨b_t2, 0, none⟩ [.int .i64 t3_8, .int .i64 t3_9]) ∧
      K (.tuple #[.agg #[.int .i64 t3_8, .int .i64 t3_9], .int .i64 0]) w_14)) w_9) w_6)) w

def sk32 : Sk := (.seq .leaf (.seq .leaf (.seq .leaf (.cut [] [] [3, 19, 20, 21, 22, 23, 24, 25, 26] .leaf .leaf))))
theorem ok32 : fnOk Tryz.prog Tryz.f32.ntmps Tryz.f32 sk32 = true := by kernel_rfl
theorem eq32 (d0 : Option Addr) (K : Value → World → Prop) (w : World) : fnF Tryz.prog cl Tryz.f32 sk32 [.pointer d0] K w = B32 d0 K w := by kernel_rfl
theorem call32 (d0 : Option Addr) (K : Value → World → Prop) (w : World) (h : B32 d0 K w) : Gets Tryz.prog 32 #[.pointer d0] w K :=
  calls_of (sk := sk32) cl_ok mixed Tryz.func32 ok32 (args := [.pointer d0]) (Nat.le_of_ble_eq_true (by kernel_rfl)) (by rw [eq32]; exact h)

/-- jetway/jetwayref07.SaveSnap. -/
def B25 (d0 : Option Addr) (s1_0 : Int) (s1_1 : Int) (s1_2 : Sl) (s1_3 : Sl) (s1_4 : Sl) (K : Value → World → Prop) (w : World) : Prop :=
  New (.cells #[.int .i64 s1_0, .int .i64 s1_1, .slice s1_2.a s1_2.len s1_2.cap, .slice s1_3.a s1_3.len s1_3.cap, .slice s1_4.a s1_4.len s1_4.cap] 27 (0, 0)) (fun b_s3 w_1 =>
  ∃ t8 : Int, ∃ t8_1 : Int, ∃ t8_2 : Sl, ∃ t8_3 : Sl, ∃ t8_4 : Sl, (At (fun w' => w' = w_1) ⟨b_s3, 0, none⟩ [.int .i64 t8, .int .i64 t8_1, .slice t8_2.a t8_2.len t8_2.cap, .slice t8_3.a t8_3.len t8_3.cap, .slice t8_4.a t8_4.len t8_4.cap]) ∧
  Calls Tryz.prog 10 #[.agg #[.int .i64 t8, .int .i64 t8_1, .slice t8_2.a t8_2.len t8_2.cap, .slice t8_3.a t8_3.len t8_3.cap, .slice t8_4.a t8_4.len t8_4.cap]] w_1 fun e w_2 =>
  ∃ t9 : Sl, ∃ t9_1 : Int, (e = .returned (.tuple #[.slice t9.a t9.len t9.cap, .int .i64 t9_1])) ∧
  Br d0.isNone
   (K (.int .i64 1) w_2)
   (Br (t9_1 != 0)
     (K (.int .i64 1) w_2)
     (Calls Tryz.prog 63 #[.pointer d0, .string (ByteArray.mk #[115, 110, 97, 112]), .slice t9.a t9.len t9.cap] w_2 fun e_1 w_3 =>
      ∃ t20 : Int, (e_1 = .returned (.int .i64 t20)) ∧
      K (.int .i64 t20) w_3))) w

def sk25 : Sk := .leaf
theorem ok25 : fnOk Tryz.prog Tryz.f25.ntmps Tryz.f25 sk25 = true := by kernel_rfl
theorem eq25 (d0 : Option Addr) (s1_0 : Int) (s1_1 : Int) (s1_2 : Sl) (s1_3 : Sl) (s1_4 : Sl) (K : Value → World → Prop) (w : World) : fnF Tryz.prog cl Tryz.f25 sk25 [.pointer d0, .agg #[.int .i64 s1_0, .int .i64 s1_1, .slice s1_2.a s1_2.len s1_2.cap, .slice s1_3.a s1_3.len s1_3.cap, .slice s1_4.a s1_4.len s1_4.cap]] K w = B25 d0 s1_0 s1_1 s1_2 s1_3 s1_4 K w := by kernel_rfl
theorem call25 (d0 : Option Addr) (s1_0 : Int) (s1_1 : Int) (s1_2 : Sl) (s1_3 : Sl) (s1_4 : Sl) (K : Value → World → Prop) (w : World) (h : B25 d0 s1_0 s1_1 s1_2 s1_3 s1_4 K w) : Gets Tryz.prog 25 #[.pointer d0, .agg #[.int .i64 s1_0, .int .i64 s1_1, .slice s1_2.a s1_2.len s1_2.cap, .slice s1_3.a s1_3.len s1_3.cap, .slice s1_4.a s1_4.len s1_4.cap]] w K :=
  calls_of (sk := sk25) cl_ok mixed Tryz.func25 ok25 (args := [.pointer d0, .agg #[.int .i64 s1_0, .int .i64 s1_1, .slice s1_2.a s1_2.len s1_2.cap, .slice s1_3.a s1_3.len s1_3.cap, .slice s1_4.a s1_4.len s1_4.cap]]) (Nat.le_of_ble_eq_true (by kernel_rfl)) (by rw [eq25]; exact h)

/-- jetway/jetwayref07.LoadSnap. -/
def B33 (d0 : Option Addr) (K : Value → World → Prop) (w : World) : Prop :=
  New (.cells #[.int .i64 0, .int .i64 0, .slice none 0 0, .slice none 0 0, .slice none 0 0] 27 (0, 0)) (fun b_t2 w_1 =>
  Br d0.isNone
   (∃ w_2 : World, ((Instr.storeAt 27 (.pointer ((some ⟨b_t2, 0, none⟩))) (.agg #[.int .i64 0, .int .i64 0, .slice none 0 0, .slice none 0 0, .slice none 0 0])).run Tryz.prog w_1 = .ok () w_2) ∧
    ∃ t3 : Int, ∃ t3_1 : Int, ∃ t3_2 : Sl, ∃ t3_3 : Sl, ∃ t3_4 : Sl, (At (fun w' => w' = w_2) ⟨b_t2, 0, none⟩ [.int .i64 t3, .int .i64 t3_1, .slice t3_2.a t3_2.len t3_2.cap, .slice t3_3.a t3_3.len t3_3.cap, .slice t3_4.a t3_4.len t3_4.cap]) ∧
    K (.tuple #[.agg #[.int .i64 t3, .int .i64 t3_1, .slice t3_2.a t3_2.len t3_2.cap, .slice t3_3.a t3_3.len t3_3.cap, .slice t3_4.a t3_4.len t3_4.cap], .int .i64 1]) w_2)
   (Calls Tryz.prog 70 #[.pointer d0, .string (ByteArray.mk #[115, 110, 97, 112])] w_1 fun e w_3 =>
    ∃ t12 : Sl, ∃ t12_1 : Bool, ∃ t12_2 : Int, (e = .returned (.tuple #[.slice t12.a t12.len t12.cap, .bool t12_1, .int .i64 t12_2])) ∧
    Br (t12_2 != 0)
     (∃ w_4 : World, ((Instr.storeAt 27 (.pointer ((some ⟨b_t2, 0, none⟩))) (.agg #[.int .i64 0, .int .i64 0, .slice none 0 0, .slice none 0 0, .slice none 0 0])).run Tryz.prog w_3 = .ok () w_4) ∧
      ∃ t3_5 : Int, ∃ t3_6 : Int, ∃ t3_7 : Sl, ∃ t3_8 : Sl, ∃ t3_9 : Sl, (At (fun w' => w' = w_4) ⟨b_t2, 0, none⟩ [.int .i64 t3_5, .int .i64 t3_6, .slice t3_7.a t3_7.len t3_7.cap, .slice t3_8.a t3_8.len t3_8.cap, .slice t3_9.a t3_9.len t3_9.cap]) ∧
      K (.tuple #[.agg #[.int .i64 t3_5, .int .i64 t3_6, .slice t3_7.a t3_7.len t3_7.cap, .slice t3_8.a t3_8.len t3_8.cap, .slice t3_9.a t3_9.len t3_9.cap], .int .i64 t12_2]) w_4)
     (Br (!t12_1)
       (∃ w_5 : World, ((Instr.storeAt 27 (.pointer ((some ⟨b_t2, 0, none⟩))) (.agg #[.int .i64 0, .int .i64 0, .slice none 0 0, .slice none 0 0, .slice none 0 0])).run Tryz.prog w_3 = .ok () w_5) ∧
        ∃ t3_10 : Int, ∃ t3_11 : Int, ∃ t3_12 : Sl, ∃ t3_13 : Sl, ∃ t3_14 : Sl, (At (fun w' => w' = w_5) ⟨b_t2, 0, none⟩ [.int .i64 t3_10, .int .i64 t3_11, .slice t3_12.a t3_12.len t3_12.cap, .slice t3_13.a t3_13.len t3_13.cap, .slice t3_14.a t3_14.len t3_14.cap]) ∧
        K (.tuple #[.agg #[.int .i64 t3_10, .int .i64 t3_11, .slice t3_12.a t3_12.len t3_12.cap, .slice t3_13.a t3_13.len t3_13.cap, .slice t3_14.a t3_14.len t3_14.cap], .int .i64 t12_2]) w_5)
       (Calls Tryz.prog 12 #[.slice t12.a t12.len t12.cap] w_3 fun e_1 w_6 =>
        ∃ t25 : Int, ∃ t25_1 : Int, ∃ t25_2 : Sl, ∃ t25_3 : Sl, ∃ t25_4 : Sl, ∃ t25_5 : Int, (e_1 = .returned (.tuple #[.agg #[.int .i64 t25, .int .i64 t25_1, .slice t25_2.a t25_2.len t25_2.cap, .slice t25_3.a t25_3.len t25_3.cap, .slice t25_4.a t25_4.len t25_4.cap], .int .i64 t25_5])) ∧
        ∃ w_7 : World, ((Instr.storeAt 27 (.pointer ((some ⟨b_t2, 0, none⟩))) (.agg #[.int .i64 t25, .int .i64 t25_1, .slice t25_2.a t25_2.len t25_2.cap, .slice t25_3.a t25_3.len t25_3.cap, .slice t25_4.a t25_4.len t25_4.cap])).run Tryz.prog w_6 = .ok () w_7) ∧
        ∃ t3_15 : Int, ∃ t3_16 : Int, ∃ t3_17 : Sl, ∃ t3_18 : Sl, ∃ t3_19 : Sl, (At (fun w' => w' = w_7) ⟨b_t2, 0, none⟩ [.int .i64 t3_15, .int .i64 t3_16, .slice t3_17.a t3_17.len t3_17.cap, .slice t3_18.a t3_18.len t3_18.cap, .slice t3_19.a t3_19.len t3_19.cap]) ∧
        K (.tuple #[.agg #[.int .i64 t3_15, .int .i64 t3_16, .slice t3_17.a t3_17.len t3_17.cap, .slice t3_18.a t3_18.len t3_18.cap, .slice t3_19.a t3_19.len t3_19.cap], .int .i64 t25_5]) w_7)))) w

def sk33 : Sk := .leaf
theorem ok33 : fnOk Tryz.prog Tryz.f33.ntmps Tryz.f33 sk33 = true := by kernel_rfl
theorem eq33 (d0 : Option Addr) (K : Value → World → Prop) (w : World) : fnF Tryz.prog cl Tryz.f33 sk33 [.pointer d0] K w = B33 d0 K w := by kernel_rfl
theorem call33 (d0 : Option Addr) (K : Value → World → Prop) (w : World) (h : B33 d0 K w) : Gets Tryz.prog 33 #[.pointer d0] w K :=
  calls_of (sk := sk33) cl_ok mixed Tryz.func33 ok33 (args := [.pointer d0]) (Nat.le_of_ble_eq_true (by kernel_rfl)) (by rw [eq33]; exact h)

/-- jetway/jetwayref02.Number. -/
def B41 (n0 : Int) (K : Value → World → Prop) (w : World) : Prop :=
  ∃ (I : Int → Sl → World → Prop) (μ : Int → Sl → World → Nat), (I n0 ⟨none, 0, 0⟩ w) ∧ ∀ (z : Env) (n0_1 : Int) (out3 : Sl) (w_1 : World), I n0_1 out3 w_1 →
  Br (decide (n0_1 > 0))
   (New (.cells #[.int .u8 (IntKind.u8.wrap (n0_1.tmod 256))] 5 (0, 0)) (fun b_t9 w_2 =>
    ∃ w_3 : World, ∃ t11 : Sl, ((Builtin.append_ #[25, 25] 25 #[.slice ((some ⟨b_t9, 0, none⟩)) 1 1, .slice out3.a out3.len out3.cap]).run Tryz.prog w_2 = .ok (.slice t11.a t11.len t11.cap) w_3) ∧
    (I (IntKind.u64.wrap (n0_1.tdiv 256)) t11 w_3) ∧ μ (IntKind.u64.wrap (n0_1.tdiv 256)) t11 w_3 < μ n0_1 out3 w_1) w_1)
   (New (.cells #[.int .u8 (IntKind.u8.wrap (↑out3.len : Int))] 5 (0, 0)) (fun b_t17 w_4 =>
    ∃ w_5 : World, ∃ t19 : Sl, ((Builtin.append_ #[25, 25] 25 #[.slice ((some ⟨b_t17, 0, none⟩)) 1 1, .slice out3.a out3.len out3.cap]).run Tryz.prog w_4 = .ok (.slice t19.a t19.len t19.cap) w_5) ∧
    K (.slice t19.a t19.len t19.cap) w_5) w_1)

def sk41 : Sk := (.seq .leaf (.seq .leaf (.seq (.block (.loop [0, 3] [(.int .u64), .sl] [0, 3, 4, 5, 6, 7, 8, 9, 10, 11, 12, 13] .leaf)) .leaf)))
theorem ok41 : fnOk Tryz.prog Tryz.f41.ntmps Tryz.f41 sk41 = true := by kernel_rfl
theorem eq41 (n0 : Int) (K : Value → World → Prop) (w : World) : fnF Tryz.prog cl Tryz.f41 sk41 [.int .u64 n0] K w = B41 n0 K w := by kernel_rfl
theorem call41 (n0 : Int) (K : Value → World → Prop) (w : World) (h : B41 n0 K w) : Gets Tryz.prog 41 #[.int .u64 n0] w K :=
  calls_of (sk := sk41) cl_ok mixed Tryz.func41 ok41 (args := [.int .u64 n0]) (Nat.le_of_ble_eq_true (by kernel_rfl)) (by rw [eq41]; exact h)

/-- jetway/jetwayref02.Text. -/
def B43 (b0 : Sl) (K : Value → World → Prop) (w : World) : Prop :=
  Calls Tryz.prog 41 #[.int .u64 (IntKind.u64.wrap (↑b0.len : Int))] w fun e w_1 =>
  ∃ t6 : Sl, (e = .returned (.slice t6.a t6.len t6.cap)) ∧
  ∃ w_2 : World, ∃ t8 : Sl, ((Builtin.append_ #[25, 25] 25 #[.slice t6.a t6.len t6.cap, .slice b0.a b0.len b0.cap]).run Tryz.prog w_1 = .ok (.slice t8.a t8.len t8.cap) w_2) ∧
  K (.slice t8.a t8.len t8.cap) w_2

def sk43 : Sk := .leaf
theorem ok43 : fnOk Tryz.prog Tryz.f43.ntmps Tryz.f43 sk43 = true := by kernel_rfl
theorem eq43 (b0 : Sl) (K : Value → World → Prop) (w : World) : fnF Tryz.prog cl Tryz.f43 sk43 [.slice b0.a b0.len b0.cap] K w = B43 b0 K w := by kernel_rfl
theorem call43 (b0 : Sl) (K : Value → World → Prop) (w : World) (h : B43 b0 K w) : Gets Tryz.prog 43 #[.slice b0.a b0.len b0.cap] w K :=
  calls_of (sk := sk43) cl_ok mixed Tryz.func43 ok43 (args := [.slice b0.a b0.len b0.cap]) (Nat.le_of_ble_eq_true (by kernel_rfl)) (by rw [eq43]; exact h)

/-- (*jetway/jetwayref02.Reader).next. -/
def B84 (r0 : Option Addr) (K : Value → World → Prop) (w : World) : Prop :=
  ∃ (J : World → Prop), (Drw w fun S w_1 =>
    NilP r0 fun a_t10 =>
    ∃ t12 : Bool, (At S ⟨a_t10.block, a_t10.off + 2, none⟩ [.bool t12]) ∧
    Br t12
     (K (.tuple #[.int .u64 0, .bool false, .int .i64 0]) w_1)
     (NilP r0 fun a_t15 =>
      ∃ t17 : Int, (At S ⟨a_t15.block, a_t15.off + 1, none⟩ [.int .i64 t17]) ∧
      NilP r0 fun a_t19 =>
      ∃ t21 : Sl, (At S (Addr.add a_t19 0) [.slice t21.a t21.len t21.cap]) ∧
      Br (decide (t17 ≥ (↑t21.len : Int)))
       (K (.tuple #[.int .u64 0, .bool false, .int .i64 0]) w_1)
       (J  w_1))) ∧
  ∀ (z : Env)  (w_2 : World), J  w_2 →
  Drw w_2 fun S_1 w_3 =>
  NilP r0 fun a_t26 =>
  ∃ t28 : Sl, (At S_1 (Addr.add a_t26 0) [.slice t28.a t28.len t28.cap]) ∧
  NilP r0 fun a_t30 =>
  ∃ t32 : Int, (At S_1 ⟨a_t30.block, a_t30.off + 1, none⟩ [.int .i64 t32]) ∧
  Rng t32 t28.len (NilP t28.a fun a_t33 =>
  ∃ t34 : Int, (At S_1 (Addr.add a_t33 t32.toNat) [.int .u8 t34]) ∧
  ∃ (J_1 : Int → World → Prop), (Br (decide (IntKind.i64.wrap t34 ≥ 16))
     (J_1 (IntKind.i64.wrap (IntKind.i64.wrap t34 - 16)) w_3)
     (J_1 (IntKind.i64.wrap t34) w_3)) ∧
  ∀ (z_1 : Env) (k5 : Int) (w_4 : World), J_1 k5 w_4 →
  ∃ (J_2 : World → Prop), (Drw w_4 fun S_2 w_5 =>
    Br (decide (k5 > 8))
     (K (.tuple #[.int .u64 0, .bool false, .int .i64 0]) w_5)
     (NilP r0 fun a_t45 =>
      ∃ t47 : Int, (At S_2 ⟨a_t45.block, a_t45.off + 1, none⟩ [.int .i64 t47]) ∧
      NilP r0 fun a_t52 =>
      ∃ t54 : Sl, (At S_2 (Addr.add a_t52 0) [.slice t54.a t54.len t54.cap]) ∧
      Br (decide (IntKind.i64.wrap (IntKind.i64.wrap (t47 + 1) + k5) > (↑t54.len : Int)))
       (K (.tuple #[.int .u64 0, .bool false, .int .i64 0]) w_5)
       (Br (decide (IntKind.i64.wrap t34 ≥ 16))
         (Br (k5 == 0)
           (K (.tuple #[.int .u64 0, .bool false, .int .i64 0]) w_5)
           (Br (decide (k5 > 0))
             (NilP r0 fun a_t70 =>
              ∃ t72 : Sl, (At S_2 (Addr.add a_t70 0) [.slice t72.a t72.len t72.cap]) ∧
              NilP r0 fun a_t74 =>
              ∃ t76 : Int, (At S_2 ⟨a_t74.block, a_t74.off + 1, none⟩ [.int .i64 t76]) ∧
              Rng (IntKind.i64.wrap (t76 + 1)) t72.len (NilP t72.a fun a_t78 =>
              ∃ t79 : Int, (At S_2 (Addr.add a_t78 ((IntKind.i64.wrap (t76 + 1)).toNat)) [.int .u8 t79]) ∧
              Br (t79 == 0)
               (K (.tuple #[.int .u64 0, .bool false, .int .i64 0]) w_5)
               (J_2  w_5)))
             (J_2  w_5)))
         (Br (decide (k5 > 0))
           (NilP r0 fun a_t70_1 =>
            ∃ t72_1 : Sl, (At S_2 (Addr.add a_t70_1 0) [.slice t72_1.a t72_1.len t72_1.cap]) ∧
            NilP r0 fun a_t74_1 =>
            ∃ t76_1 : Int, (At S_2 ⟨a_t74_1.block, a_t74_1.off + 1, none⟩ [.int .i64 t76_1]) ∧
            Rng (IntKind.i64.wrap (t76_1 + 1)) t72_1.len (NilP t72_1.a fun a_t78_1 =>
            ∃ t79_1 : Int, (At S_2 (Addr.add a_t78_1 ((IntKind.i64.wrap (t76_1 + 1)).toNat)) [.int .u8 t79_1]) ∧
            Br (t79_1 == 0)
             (K (.tuple #[.int .u64 0, .bool false, .int .i64 0]) w_5)
             (J_2  w_5)))
           (J_2  w_5))))) ∧
  ∀ (z_2 : Env)  (w_6 : World), J_2  w_6 →
  ∃ (I : Int → Int → World → Prop) (μ : Int → Int → World → Nat), (I 0 0 w_6) ∧ ∀ (z_3 : Env) (n7 : Int) (i8 : Int) (w_7 : World), I n7 i8 w_7 →
  Br (decide (i8 < k5))
   (Drw w_7 fun S_3 w_8 =>
    NilP r0 fun a_t91 =>
    ∃ t93 : Sl, (At S_3 (Addr.add a_t91 0) [.slice t93.a t93.len t93.cap]) ∧
    NilP r0 fun a_t95 =>
    ∃ t97 : Int, (At S_3 ⟨a_t95.block, a_t95.off + 1, none⟩ [.int .i64 t97]) ∧
    Rng (IntKind.i64.wrap (IntKind.i64.wrap (t97 + 1) + i8)) t93.len (NilP t93.a fun a_t101 =>
    ∃ t102 : Int, (At S_3 (Addr.add a_t101 ((IntKind.i64.wrap (IntKind.i64.wrap (t97 + 1) + i8)).toNat)) [.int .u8 t102]) ∧
    (I (IntKind.u64.wrap (IntKind.u64.wrap (n7 * 256) + IntKind.u64.wrap t102)) (IntKind.i64.wrap (i8 + 1)) w_8) ∧ μ (IntKind.u64.wrap (IntKind.u64.wrap (n7 * 256) + IntKind.u64.wrap t102)) (IntKind.i64.wrap (i8 + 1)) w_8 < μ n7 i8 w_7))
   (K (.tuple #[.int .u64 n7, .bool (decide (IntKind.i64.wrap t34 ≥ 16)), .int .i64 (IntKind.i64.wrap (k5 + 1))]) w_7))

def sk84 : Sk := (.seq .leaf (.cut [] [] [2, 3, 4, 9, 10, 11, 12, 13, 14, 15, 16, 17, 18, 19, 20, 21, 22, 23, 24] .leaf (.seq .leaf (.seq .leaf (.cut [5] [(.int .i64)] [5, 38, 39, 40] .leaf (.cut [] [] [2, 3, 4, 41, 42, 43, 44, 45, 46, 47, 48, 49, 50, 51, 52, 53, 54, 55, 56, 57, 58, 59, 60, 61, 62, 63, 64, 65, 66, 67, 68, 69, 70, 71, 72, 73, 74, 75, 76, 77, 78, 79, 80, 81, 82] .leaf (.seq .leaf (.seq (.seq .leaf (.block (.loop [7, 8] [(.int .u64), (.int .i64)] [7, 8, 83, 84, 85, 86, 87, 88, 89, 90, 91, 92, 93, 94, 95, 96, 97, 98, 99, 100, 101, 102, 103, 104] .leaf))) .leaf))))))))
theorem ok84 : fnOk Tryz.prog Tryz.f84.ntmps Tryz.f84 sk84 = true := by kernel_rfl
theorem eq84 (r0 : Option Addr) (K : Value → World → Prop) (w : World) : fnF Tryz.prog cl Tryz.f84 sk84 [.pointer r0] K w = B84 r0 K w := by kernel_rfl
theorem call84 (r0 : Option Addr) (K : Value → World → Prop) (w : World) (h : B84 r0 K w) : Gets Tryz.prog 84 #[.pointer r0] w K :=
  calls_of (sk := sk84) cl_ok mixed Tryz.func84 ok84 (args := [.pointer r0]) (Nat.le_of_ble_eq_true (by kernel_rfl)) (by rw [eq84]; exact h)

/-- (*jetway/jetwayref02.Reader).Number. -/
def B49 (r0 : Option Addr) (most1 : Int) (K : Value → World → Prop) (w : World) : Prop :=
  Calls Tryz.prog 84 #[.pointer r0] w fun e w_1 =>
  ∃ t10 : Int, ∃ t10_1 : Bool, ∃ t10_2 : Int, (e = .returned (.tuple #[.int .u64 t10, .bool t10_1, .int .i64 t10_2])) ∧
  ∃ (J : World → Prop), (Br (t10_2 == 0)
     (NilP r0 fun a_t25 =>
      ∃ w_2 : World, ((Instr.storeAt 4 (.pointer ((some ⟨a_t25.block, a_t25.off + 2, none⟩))) (.bool true)).run Tryz.prog w_1 = .ok () w_2) ∧
      K (.int .u64 0) w_2)
     (Br t10_1
       (NilP r0 fun a_t25_1 =>
        ∃ w_3 : World, ((Instr.storeAt 4 (.pointer ((some ⟨a_t25_1.block, a_t25_1.off + 2, none⟩))) (.bool true)).run Tryz.prog w_1 = .ok () w_3) ∧
        K (.int .u64 0) w_3)
       (Br (decide (t10 > most1))
         (NilP r0 fun a_t25_2 =>
          ∃ w_4 : World, ((Instr.storeAt 4 (.pointer ((some ⟨a_t25_2.block, a_t25_2.off + 2, none⟩))) (.bool true)).run Tryz.prog w_1 = .ok () w_4) ∧
          K (.int .u64 0) w_4)
         (J  w_1)))) ∧
  ∀ (z : Env)  (w_5 : World), J  w_5 →
  NilP r0 fun a_t29 =>
  ∃ t31 : Int, (At (fun w' => w' = w_5) ⟨a_t29.block, a_t29.off + 1, none⟩ [.int .i64 t31]) ∧
  NilP r0 fun a_t34 =>
  ∃ w_6 : World, ((Instr.storeAt 3 (.pointer ((some ⟨a_t34.block, a_t34.off + 1, none⟩))) (.int .i64 (IntKind.i64.wrap (t31 + t10_2)))).run Tryz.prog w_5 = .ok () w_6) ∧
  K (.int .u64 t10) w_6

def sk49 : Sk := (.seq .leaf (.seq .leaf (.cut [] [] [4, 14, 15, 16, 17, 18, 19, 20, 21, 22, 23, 24, 25, 26] .leaf .leaf)))
theorem ok49 : fnOk Tryz.prog Tryz.f49.ntmps Tryz.f49 sk49 = true := by kernel_rfl
theorem eq49 (r0 : Option Addr) (most1 : Int) (K : Value → World → Prop) (w : World) : fnF Tryz.prog cl Tryz.f49 sk49 [.pointer r0, .int .u64 most1] K w = B49 r0 most1 K w := by kernel_rfl
theorem call49 (r0 : Option Addr) (most1 : Int) (K : Value → World → Prop) (w : World) (h : B49 r0 most1 K w) : Gets Tryz.prog 49 #[.pointer r0, .int .u64 most1] w K :=
  calls_of (sk := sk49) cl_ok mixed Tryz.func49 ok49 (args := [.pointer r0, .int .u64 most1]) (Nat.le_of_ble_eq_true (by kernel_rfl)) (by rw [eq49]; exact h)

/-- (*jetway/jetwayref02.Reader).Text. -/
def B51 (r0 : Option Addr) (most1 : Int) (K : Value → World → Prop) (w : World) : Prop :=
  Calls Tryz.prog 84 #[.pointer r0] w fun e w_1 =>
  ∃ t11 : Int, ∃ t11_1 : Bool, ∃ t11_2 : Int, (e = .returned (.tuple #[.int .u64 t11, .bool t11_1, .int .i64 t11_2])) ∧
  ∃ (J : World → Prop), (Drw w_1 fun S w_2 =>
    Br (t11_2 == 0)
     (NilP r0 fun a_t48 =>
      ∃ w_3 : World, ((Instr.storeAt 4 (.pointer ((some ⟨a_t48.block, a_t48.off + 2, none⟩))) (.bool true)).run Tryz.prog w_2 = .ok () w_3) ∧
      K (.slice none 0 0) w_3)
     (Br t11_1
       (NilP r0 fun a_t48_1 =>
        ∃ w_4 : World, ((Instr.storeAt 4 (.pointer ((some ⟨a_t48_1.block, a_t48_1.off + 2, none⟩))) (.bool true)).run Tryz.prog w_2 = .ok () w_4) ∧
        K (.slice none 0 0) w_4)
       (Br (decide (most1 < 0))
         (NilP r0 fun a_t48_2 =>
          ∃ w_5 : World, ((Instr.storeAt 4 (.pointer ((some ⟨a_t48_2.block, a_t48_2.off + 2, none⟩))) (.bool true)).run Tryz.prog w_2 = .ok () w_5) ∧
          K (.slice none 0 0) w_5)
         (Br (decide (t11 > IntKind.u64.wrap most1))
           (NilP r0 fun a_t48_3 =>
            ∃ w_6 : World, ((Instr.storeAt 4 (.pointer ((some ⟨a_t48_3.block, a_t48_3.off + 2, none⟩))) (.bool true)).run Tryz.prog w_2 = .ok () w_6) ∧
            K (.slice none 0 0) w_6)
           (NilP r0 fun a_t33 =>
            ∃ t35 : Sl, (At S (Addr.add a_t33 0) [.slice t35.a t35.len t35.cap]) ∧
            NilP r0 fun a_t38 =>
            ∃ t40 : Int, (At S ⟨a_t38.block, a_t38.off + 1, none⟩ [.int .i64 t40]) ∧
            Br (decide (t11 > IntKind.u64.wrap (IntKind.i64.wrap (IntKind.i64.wrap ((↑t35.len : Int) - t40) - t11_2))))
             (NilP r0 fun a_t48_4 =>
              ∃ w_7 : World, ((Instr.storeAt 4 (.pointer ((some ⟨a_t48_4.block, a_t48_4.off + 2, none⟩))) (.bool true)).run Tryz.prog w_2 = .ok () w_7) ∧
              K (.slice none 0 0) w_7)
             (J  w_2)))))) ∧
  ∀ (z : Env)  (w_8 : World), J  w_8 →
  NilP r0 fun a_t51 =>
  ∃ t53 : Int, (At (fun w' => w' = w_8) ⟨a_t51.block, a_t51.off + 1, none⟩ [.int .i64 t53]) ∧
  NilP r0 fun a_t61 =>
  ∃ w_9 : World, ((Instr.storeAt 3 (.pointer ((some ⟨a_t61.block, a_t61.off + 1, none⟩))) (.int .i64 (IntKind.i64.wrap (IntKind.i64.wrap (t53 + t11_2) + IntKind.i64.wrap t11)))).run Tryz.prog w_8 = .ok () w_9) ∧
  Drw w_9 fun S_1 w_10 =>
  NilP r0 fun a_t65 =>
  ∃ t67 : Sl, (At S_1 (Addr.add a_t65 0) [.slice t67.a t67.len t67.cap]) ∧
  NilP r0 fun a_t70 =>
  ∃ t72 : Int, (At S_1 ⟨a_t70.block, a_t70.off + 1, none⟩ [.int .i64 t72]) ∧
  ((0 : Int) ≤ t72) ∧
  ((t72 : Int) ≤ (↑t67.cap : Int)) ∧
  ((0 : Int) ≤ IntKind.i64.wrap (t53 + t11_2)) ∧
  ((IntKind.i64.wrap (t53 + t11_2) : Int) ≤ (↑t72.toNat : Int)) ∧
  New (.cells #[] 5 (0, 0)) (fun b_t63 w_11 =>
  (S_1 w_11) ∧
  ∃ w_12 : World, ∃ t74 : Sl, ((Builtin.append_ #[25, 25] 25 #[.slice ((some ⟨b_t63, 0, none⟩)) 0 0, .slice (cutA t67.a (IntKind.i64.wrap (t53 + t11_2)).toNat t67.cap 1) (t72.toNat - (IntKind.i64.wrap (t53 + t11_2)).toNat) (t67.cap - (IntKind.i64.wrap (t53 + t11_2)).toNat)]).run Tryz.prog w_11 = .ok (.slice t74.a t74.len t74.cap) w_12) ∧
  (S_1 w_12) ∧
  K (.slice t74.a t74.len t74.cap) w_12) w_10

def sk51 : Sk := (.seq .leaf (.seq .leaf (.cut [] [] [4, 15, 16, 17, 18, 19, 20, 21, 22, 23, 24, 25, 26, 27, 28, 29, 30, 31, 32, 33, 34, 35, 36, 37, 38, 39, 40, 41, 42, 43, 44, 45, 46, 47, 48, 49] .leaf .leaf)))
theorem ok51 : fnOk Tryz.prog Tryz.f51.ntmps Tryz.f51 sk51 = true := by kernel_rfl
theorem eq51 (r0 : Option Addr) (most1 : Int) (K : Value → World → Prop) (w : World) : fnF Tryz.prog cl Tryz.f51 sk51 [.pointer r0, .int .i64 most1] K w = B51 r0 most1 K w := by kernel_rfl
theorem call51 (r0 : Option Addr) (most1 : Int) (K : Value → World → Prop) (w : World) (h : B51 r0 most1 K w) : Gets Tryz.prog 51 #[.pointer r0, .int .i64 most1] w K :=
  calls_of (sk := sk51) cl_ok mixed Tryz.func51 ok51 (args := [.pointer r0, .int .i64 most1]) (Nat.le_of_ble_eq_true (by kernel_rfl)) (by rw [eq51]; exact h)

/-- (*jetway/jetwayref02.Reader).Whole. -/
def B52 (r0 : Option Addr) (K : Value → World → Prop) (w : World) : Prop :=
  Drw w fun S w_1 =>
  NilP r0 fun a_t4 =>
  ∃ t6 : Bool, (At S ⟨a_t4.block, a_t4.off + 2, none⟩ [.bool t6]) ∧
  Br (!t6)
   (NilP r0 fun a_t10 =>
    ∃ t12 : Int, (At S ⟨a_t10.block, a_t10.off + 1, none⟩ [.int .i64 t12]) ∧
    NilP r0 fun a_t14 =>
    ∃ t16 : Sl, (At S (Addr.add a_t14 0) [.slice t16.a t16.len t16.cap]) ∧
    K (.bool (t12 == (↑t16.len : Int))) w_1)
   (K (.bool false) w_1)

def sk52 : Sk := .leaf
theorem ok52 : fnOk Tryz.prog Tryz.f52.ntmps Tryz.f52 sk52 = true := by kernel_rfl
theorem eq52 (r0 : Option Addr) (K : Value → World → Prop) (w : World) : fnF Tryz.prog cl Tryz.f52 sk52 [.pointer r0] K w = B52 r0 K w := by kernel_rfl
theorem call52 (r0 : Option Addr) (K : Value → World → Prop) (w : World) (h : B52 r0 K w) : Gets Tryz.prog 52 #[.pointer r0] w K :=
  calls_of (sk := sk52) cl_ok mixed Tryz.func52 ok52 (args := [.pointer r0]) (Nat.le_of_ble_eq_true (by kernel_rfl)) (by rw [eq52]; exact h)

/-- jetway/jetwayref05.four. -/
def B124 (n0 : Int) (K : Value → World → Prop) (w : World) : Prop :=
  New (.cells #[.int .u8 (IntKind.u8.wrap (IntKind.u32.wrap (n0.tdiv 16777216))), .int .u8 (IntKind.u8.wrap ((IntKind.u32.wrap (n0.tdiv 65536)).tmod 256)), .int .u8 (IntKind.u8.wrap ((IntKind.u32.wrap (n0.tdiv 256)).tmod 256)), .int .u8 (IntKind.u8.wrap (n0.tmod 256))] 5 (0, 0)) (fun b_t17 w_1 =>
  K (.slice ((some ⟨b_t17, 0, none⟩)) 4 4) w_1) w

def sk124 : Sk := .leaf
theorem ok124 : fnOk Tryz.prog Tryz.f124.ntmps Tryz.f124 sk124 = true := by kernel_rfl
theorem eq124 (n0 : Int) (K : Value → World → Prop) (w : World) : fnF Tryz.prog cl Tryz.f124 sk124 [.int .u32 n0] K w = B124 n0 K w := by kernel_rfl
theorem call124 (n0 : Int) (K : Value → World → Prop) (w : World) (h : B124 n0 K w) : Gets Tryz.prog 124 #[.int .u32 n0] w K :=
  calls_of (sk := sk124) cl_ok mixed Tryz.func124 ok124 (args := [.int .u32 n0]) (Nat.le_of_ble_eq_true (by kernel_rfl)) (by rw [eq124]; exact h)

/-- jetway/jetwayref05.Put. -/
def B97 (b0 : Sl) (K : Value → World → Prop) (w : World) : Prop :=
  Br (decide ((↑b0.len : Int) > 65536))
   (K (.tuple #[.slice none 0 0, .int .i64 3]) w)
   (Calls Tryz.prog 124 #[.int .u32 (IntKind.u32.wrap (↑b0.len : Int))] w fun e w_1 =>
    ∃ t13 : Sl, (e = .returned (.slice t13.a t13.len t13.cap)) ∧
    New (.cells #[] 5 (0, 0)) (fun b_t14 w_2 =>
    ∃ w_3 : World, ∃ t16 : Sl, ((Builtin.append_ #[25, 25] 25 #[.slice ((some ⟨b_t14, 0, none⟩)) 0 0, .slice t13.a t13.len t13.cap]).run Tryz.prog w_2 = .ok (.slice t16.a t16.len t16.cap) w_3) ∧
    ∃ w_4 : World, ∃ t18 : Sl, ((Builtin.append_ #[25, 25] 25 #[.slice t16.a t16.len t16.cap, .slice b0.a b0.len b0.cap]).run Tryz.prog w_3 = .ok (.slice t18.a t18.len t18.cap) w_4) ∧
    Calls Tryz.prog 125 #[.slice t18.a t18.len t18.cap] w_4 fun e_1 w_5 =>
    ∃ t19 : Int, (e_1 = .returned (.int .u32 t19)) ∧
    New (.cells #[] 5 (0, 0)) (fun b_t20 w_6 =>
    ∃ w_7 : World, ∃ t22 : Sl, ((Builtin.append_ #[25, 25] 25 #[.slice ((some ⟨b_t20, 0, none⟩)) 0 0, .slice t13.a t13.len t13.cap]).run Tryz.prog w_6 = .ok (.slice t22.a t22.len t22.cap) w_7) ∧
    Calls Tryz.prog 124 #[.int .u32 t19] w_7 fun e_2 w_8 =>
    ∃ t25 : Sl, (e_2 = .returned (.slice t25.a t25.len t25.cap)) ∧
    ∃ w_9 : World, ∃ t26 : Sl, ((Builtin.append_ #[25, 25] 25 #[.slice t22.a t22.len t22.cap, .slice t25.a t25.len t25.cap]).run Tryz.prog w_8 = .ok (.slice t26.a t26.len t26.cap) w_9) ∧
    ∃ w_10 : World, ∃ t29 : Sl, ((Builtin.append_ #[25, 25] 25 #[.slice t26.a t26.len t26.cap, .slice b0.a b0.len b0.cap]).run Tryz.prog w_9 = .ok (.slice t29.a t29.len t29.cap) w_10) ∧
    K (.tuple #[.slice t29.a t29.len t29.cap, .int .i64 0]) w_10) w_5) w_1)

def sk97 : Sk := .leaf
theorem ok97 : fnOk Tryz.prog Tryz.f97.ntmps Tryz.f97 sk97 = true := by kernel_rfl
theorem eq97 (b0 : Sl) (K : Value → World → Prop) (w : World) : fnF Tryz.prog cl Tryz.f97 sk97 [.slice b0.a b0.len b0.cap] K w = B97 b0 K w := by kernel_rfl
theorem call97 (b0 : Sl) (K : Value → World → Prop) (w : World) (h : B97 b0 K w) : Gets Tryz.prog 97 #[.slice b0.a b0.len b0.cap] w K :=
  calls_of (sk := sk97) cl_ok mixed Tryz.func97 ok97 (args := [.slice b0.a b0.len b0.cap]) (Nat.le_of_ble_eq_true (by kernel_rfl)) (by rw [eq97]; exact h)

/-- jetway/jetwayref05.Scan. -/
def B106 (b0 : Sl) (K : Value → World → Prop) (w : World) : Prop :=
  ∃ (I : Sl → Int → World → Prop) (μ : Sl → Int → World → Nat), (I ⟨none, 0, 0⟩ 0 w) ∧ ∀ (z : Env) (out4 : Sl) (at5 : Int) (w_1 : World), I out4 at5 w_1 →
  Br (decide (IntKind.i64.wrap (at5 + 8) ≤ (↑b0.len : Int)))
   (∃ (I_1 : Int → Int → World → Prop) (μ_1 : Int → Int → World → Nat), (I_1 0 0 w_1) ∧ ∀ (z_1 : Env) (n6 : Int) (i7 : Int) (w_2 : World), I_1 n6 i7 w_2 →
    Br (decide (i7 < 4))
     (Rng (IntKind.i64.wrap (at5 + i7)) b0.len (NilP b0.a fun a_t26 =>
      ∃ t27 : Int, (At (fun w' => w' = w_2) (Addr.add a_t26 ((IntKind.i64.wrap (at5 + i7)).toNat)) [.int .u8 t27]) ∧
      (I_1 (IntKind.i64.wrap (IntKind.i64.wrap (n6 * 256) + IntKind.i64.wrap t27)) (IntKind.i64.wrap (i7 + 1)) w_2) ∧ μ_1 (IntKind.i64.wrap (IntKind.i64.wrap (n6 * 256) + IntKind.i64.wrap t27)) (IntKind.i64.wrap (i7 + 1)) w_2 < μ_1 n6 i7 w_2))
     (∃ (J : World → Prop), (Br (decide (n6 > 65536))
         (K (.tuple #[.slice out4.a out4.len out4.cap, .int .i64 at5]) w_2)
         (Br (decide (IntKind.i64.wrap (IntKind.i64.wrap (at5 + 8) + n6) > (↑b0.len : Int)))
           (K (.tuple #[.slice out4.a out4.len out4.cap, .int .i64 at5]) w_2)
           (J  w_2))) ∧
      ∀ (z_2 : Env)  (w_3 : World), J  w_3 →
      ((0 : Int) ≤ IntKind.i64.wrap (IntKind.i64.wrap (at5 + 8) + n6)) ∧
      ((IntKind.i64.wrap (IntKind.i64.wrap (at5 + 8) + n6) : Int) ≤ (↑b0.cap : Int)) ∧
      ((0 : Int) ≤ IntKind.i64.wrap (at5 + 8)) ∧
      ((IntKind.i64.wrap (at5 + 8) : Int) ≤ (↑(IntKind.i64.wrap (IntKind.i64.wrap (at5 + 8) + n6)).toNat : Int)) ∧
      Calls Tryz.prog 97 #[.slice (cutA b0.a (IntKind.i64.wrap (at5 + 8)).toNat b0.cap 1) ((IntKind.i64.wrap (IntKind.i64.wrap (at5 + 8) + n6)).toNat - (IntKind.i64.wrap (at5 + 8)).toNat) (b0.cap - (IntKind.i64.wrap (at5 + 8)).toNat)] w_3 fun e w_4 =>
      ∃ t51 : Sl, ∃ t51_1 : Int, (e = .returned (.tuple #[.slice t51.a t51.len t51.cap, .int .i64 t51_1])) ∧
      Drw w_4 fun S w_5 =>
      ∃ t55 : ByteArray, (∀ w', S w' → ((convert 25 9 (.slice t51.a t51.len t51.cap))).run Tryz.prog w' = .ok (.string t55) w') ∧
      ((0 : Int) ≤ IntKind.i64.wrap (IntKind.i64.wrap (at5 + 8) + n6)) ∧
      ((IntKind.i64.wrap (IntKind.i64.wrap (at5 + 8) + n6) : Int) ≤ (↑b0.cap : Int)) ∧
      ((0 : Int) ≤ at5) ∧
      ((at5 : Int) ≤ (↑(IntKind.i64.wrap (IntKind.i64.wrap (at5 + 8) + n6)).toNat : Int)) ∧
      ∃ t63 : ByteArray, (∀ w', S w' → ((convert 25 9 (.slice (cutA b0.a at5.toNat b0.cap 1) ((IntKind.i64.wrap (IntKind.i64.wrap (at5 + 8) + n6)).toNat - at5.toNat) (b0.cap - at5.toNat)))).run Tryz.prog w' = .ok (.string t63) w') ∧
      Br (!t55.toList == t63.toList)
       (K (.tuple #[.slice out4.a out4.len out4.cap, .int .i64 at5]) w_5)
       (New (.cells #[] 5 (0, 0)) (fun b_t66 w_6 =>
        ∃ w_7 : World, ∃ t68 : Sl, ((Builtin.append_ #[25, 25] 25 #[.slice ((some ⟨b_t66, 0, none⟩)) 0 0, .slice (cutA b0.a (IntKind.i64.wrap (at5 + 8)).toNat b0.cap 1) ((IntKind.i64.wrap (IntKind.i64.wrap (at5 + 8) + n6)).toNat - (IntKind.i64.wrap (at5 + 8)).toNat) (b0.cap - (IntKind.i64.wrap (at5 + 8)).toNat)]).run Tryz.prog w_6 = .ok (.slice t68.a t68.len t68.cap) w_7) ∧
        New (.cells #[.slice t68.a t68.len t68.cap] 25 (0, 0)) (fun b_t69 w_8 =>
        ∃ w_9 : World, ∃ t70 : Sl, ((Builtin.append_ #[135, 135] 135 #[.slice out4.a out4.len out4.cap, .slice ((some ⟨b_t69, 0, none⟩)) 1 1]).run Tryz.prog w_8 = .ok (.slice t70.a t70.len t70.cap) w_9) ∧
        (I t70 (IntKind.i64.wrap (IntKind.i64.wrap (at5 + 8) + n6)) w_9) ∧ μ t70 (IntKind.i64.wrap (IntKind.i64.wrap (at5 + 8) + n6)) w_9 < μ out4 at5 w_1) w_7) w_5)))
   (K (.tuple #[.slice out4.a out4.len out4.cap, .int .i64 at5]) w_1)

def sk106 : Sk := (.seq .leaf (.seq .leaf (.seq .leaf (.seq (.block (.loop [4, 5] [.sl, (.int .i64)] [4, 5, 6, 7, 8, 9, 10, 11, 12, 13, 14, 15, 16, 17, 18, 19, 20, 21, 22, 23, 24, 25, 26, 27, 28, 29, 30, 31, 32, 33, 34, 35, 36, 37, 38, 39, 40, 41, 42, 43, 44, 45, 46, 47, 48, 49, 50, 51, 52, 53, 54, 55, 56, 57, 58, 59, 60, 61, 62, 63, 64, 65, 66, 67, 68, 69, 70, 71, 72, 73, 74] (.seq .leaf (.block (.seq .leaf (.seq (.seq .leaf (.block (.loop [6, 7] [(.int .i64), (.int .i64)] [6, 7, 16, 17, 18, 19, 20, 21, 22, 23, 24, 25, 26, 27, 28, 29] .leaf))) (.cut [] [] [30, 31, 32, 33, 34, 35, 36, 37, 38, 39, 40] .leaf .leaf))))))) .leaf))))
theorem ok106 : fnOk Tryz.prog Tryz.f106.ntmps Tryz.f106 sk106 = true := by kernel_rfl
theorem eq106 (b0 : Sl) (K : Value → World → Prop) (w : World) : fnF Tryz.prog cl Tryz.f106 sk106 [.slice b0.a b0.len b0.cap] K w = B106 b0 K w := by kernel_rfl
theorem call106 (b0 : Sl) (K : Value → World → Prop) (w : World) (h : B106 b0 K w) : Gets Tryz.prog 106 #[.slice b0.a b0.len b0.cap] w K :=
  calls_of (sk := sk106) cl_ok mixed Tryz.func106 ok106 (args := [.slice b0.a b0.len b0.cap]) (Nat.le_of_ble_eq_true (by kernel_rfl)) (by rw [eq106]; exact h)

/-- jetway/jetwayref01.step. -/
def B149 (r0 : Int) (K : Value → World → Prop) (w : World) : Prop :=
  Br (r0.tmod 2 == 1)
   (K (.int .u32 (bitI BinOp.xor IntKind.u32 (IntKind.u32.wrap (r0.tdiv 2)) 2197175160)) w)
   (K (.int .u32 (IntKind.u32.wrap (r0.tdiv 2))) w)

def sk149 : Sk := .leaf
theorem ok149 : fnOk Tryz.prog Tryz.f149.ntmps Tryz.f149 sk149 = true := by kernel_rfl
theorem eq149 (r0 : Int) (K : Value → World → Prop) (w : World) : fnF Tryz.prog cl Tryz.f149 sk149 [.int .u32 r0] K w = B149 r0 K w := by kernel_rfl
theorem call149 (r0 : Int) (K : Value → World → Prop) (w : World) (h : B149 r0 K w) : Gets Tryz.prog 149 #[.int .u32 r0] w K :=
  calls_of (sk := sk149) cl_ok mixed Tryz.func149 ok149 (args := [.int .u32 r0]) (Nat.le_of_ble_eq_true (by kernel_rfl)) (by rw [eq149]; exact h)

/-- jetway/jetwayref01.Add. -/
def B135 (sum0 : Int) (b1 : Sl) (K : Value → World → Prop) (w : World) : Prop :=
  ∃ (I : Int → Int → World → Prop) (μ : Int → Int → World → Nat), (I (bitI BinOp.xor IntKind.u32 sum0 4294967295) 0 w) ∧ ∀ (z : Env) (r5 : Int) (i6 : Int) (w_1 : World), I r5 i6 w_1 →
  Br (decide (i6 < (↑b1.len : Int)))
   (Rng i6 b1.len (NilP b1.a fun a_t19 =>
    ∃ t20 : Int, (At (fun w' => w' = w_1) (Addr.add a_t19 i6.toNat) [.int .u8 t20]) ∧
    ∃ (I_1 : Int → Int → World → Prop) (μ_1 : Int → Int → World → Nat), (I_1 (bitI BinOp.xor IntKind.u32 r5 (IntKind.u32.wrap t20)) 0 w_1) ∧ ∀ (z_1 : Env) (r5_1 : Int) (k7 : Int) (w_2 : World), I_1 r5_1 k7 w_2 →
    Br (decide (k7 < 8))
     (Calls Tryz.prog 149 #[.int .u32 r5_1] w_2 fun e w_3 =>
      ∃ t28 : Int, (e = .returned (.int .u32 t28)) ∧
      (I_1 t28 (IntKind.i64.wrap (k7 + 1)) w_3) ∧ μ_1 t28 (IntKind.i64.wrap (k7 + 1)) w_3 < μ_1 r5_1 k7 w_2)
     ((I r5_1 (IntKind.i64.wrap (i6 + 1)) w_2) ∧ μ r5_1 (IntKind.i64.wrap (i6 + 1)) w_2 < μ r5 i6 w_1)))
   (K (.int .u32 (bitI BinOp.xor IntKind.u32 r5 4294967295)) w_1)

def sk135 : Sk := (.seq .leaf (.seq .leaf (.seq (.seq .leaf (.block (.loop [5, 6] [(.int .u32), (.int .i64)] [5, 6, 7, 10, 11, 12, 13, 14, 15, 16, 17, 18, 19, 20, 21, 22, 23, 24, 25, 26, 27, 28] (.seq .leaf (.seq (.block (.seq .leaf (.seq .leaf (.block (.loop [5, 7] [(.int .u32), (.int .i64)] [5, 7, 23, 24, 25, 26, 27, 28] .leaf))))) .leaf))))) .leaf)))
theorem ok135 : fnOk Tryz.prog Tryz.f135.ntmps Tryz.f135 sk135 = true := by kernel_rfl
theorem eq135 (sum0 : Int) (b1 : Sl) (K : Value → World → Prop) (w : World) : fnF Tryz.prog cl Tryz.f135 sk135 [.int .u32 sum0, .slice b1.a b1.len b1.cap] K w = B135 sum0 b1 K w := by kernel_rfl
theorem call135 (sum0 : Int) (b1 : Sl) (K : Value → World → Prop) (w : World) (h : B135 sum0 b1 K w) : Gets Tryz.prog 135 #[.int .u32 sum0, .slice b1.a b1.len b1.cap] w K :=
  calls_of (sk := sk135) cl_ok mixed Tryz.func135 ok135 (args := [.int .u32 sum0, .slice b1.a b1.len b1.cap]) (Nat.le_of_ble_eq_true (by kernel_rfl)) (by rw [eq135]; exact h)

/-- jetway/jetwayref01.Sum. -/
def B125 (b0 : Sl) (K : Value → World → Prop) (w : World) : Prop :=
  Calls Tryz.prog 135 #[.int .u32 0, .slice b0.a b0.len b0.cap] w fun e w_1 =>
  ∃ t4 : Int, (e = .returned (.int .u32 t4)) ∧
  K (.int .u32 t4) w_1

def sk125 : Sk := .leaf
theorem ok125 : fnOk Tryz.prog Tryz.f125.ntmps Tryz.f125 sk125 = true := by kernel_rfl
theorem eq125 (b0 : Sl) (K : Value → World → Prop) (w : World) : fnF Tryz.prog cl Tryz.f125 sk125 [.slice b0.a b0.len b0.cap] K w = B125 b0 K w := by kernel_rfl
theorem call125 (b0 : Sl) (K : Value → World → Prop) (w : World) (h : B125 b0 K w) : Gets Tryz.prog 125 #[.slice b0.a b0.len b0.cap] w K :=
  calls_of (sk := sk125) cl_ok mixed Tryz.func125 ok125 (args := [.slice b0.a b0.len b0.cap]) (Nat.le_of_ble_eq_true (by kernel_rfl)) (by rw [eq125]; exact h)

end Go.Proofs.YtgfneeoponiibaaGreat
/- SL, part 13: appends of integers; new arrays as slices of one's own. Condition: bounds on lengths. -/
namespace Go.VC

variable {P : Program} {R : Cx} {Hs Rest : List HP} {w : World} {s t : Sl} {T T2 : TypeId}

theorem oneAll_k (k : IntKind) (xs : List Int) : oneAll (xs.map (Value.int k)) = true := by
  induction xs with
  | nil => rfl
  | cons x xs ih => simp only [List.map_cons, oneAll, List.all_cons, Bool.and_eq_true]; exact ⟨rfl, ih⟩
/-- A new array, as a slice. -/
theorem own_lit {b n : Nat} {l : List Value} {fr : Nat × Nat} (hw : Sat R (pts b (.cells l.toArray T fr) :: Hs) w) (hn : n = l.length := by rfl) (hf : okFr l.length fr := by first | assumption | exact Or.inl rfl) : Sat R (Own ⟨some ⟨b, 0, none⟩, n, n⟩ T l :: Hs) w := by
  subst hn
  have := Own.of_pts (xs := l) (rest := []) (by simpa using hw) (by simpa using hf)
  simpa using this
/-- Integers that are only read, behind integers of one's own. -/
theorem appendRI {t1 t2 ty e' : TypeId} {bytes n : Nat} {k : IntKind} (E : El P t1 t2 T bytes) {xs ys : List Int} {K : Sl → World → Prop} (h2 : P.underlying t2 = some (.slice e'))
    (hw : Sat R (Own s T (xs.map (Value.int k)) :: Hs) w) (hy : Ro R t (ys.map (Value.int k))) (hn : xs.length + ys.length ≤ n) (hb : 2 * n * bytes ≤ 281474976710656) (hb' : n ≤ 9223372036854775807)
    (kk : ∀ s' w', Sat R (Own s' T ((xs ++ ys).map (Value.int k)) :: Hs) w' → K s' w') :
    ∃ w', ∃ t' : Sl, (Builtin.append_ #[t1, t2] ty #[.slice s.a s.len s.cap, .slice t.a t.len t.cap]).run P w = .ok (.slice t'.a t'.len t'.cap) w' ∧ K t' w' := by
  have hsrc : Src P 1 t2 (.slice t.a t.len t.cap) ys.length (ys.map (Value.int k)) w := by
    have := srcRo h2 hw hy (oneAll_k _ _)
    simpa using this
  refine append_rule E (s := s) hw hsrc (oneAll_k _ _) ?_ (by rw [List.length_map]; omega) fun s2 w hw => kk s2 w (by simpa using hw)
  rw [List.length_map]
  have : 2 * (xs.length + ys.length) * bytes ≤ 2 * n * bytes := Nat.mul_le_mul_right _ (by omega)
  omega
/-- .. of one's own, kept. -/
theorem appendOO {t1 t2 ty e' : TypeId} {bytes n : Nat} {k : IntKind} (E : El P t1 t2 T bytes) {xs ys : List Int} {K : Sl → World → Prop} (h2 : P.underlying t2 = some (.slice e'))
    (hw : Sat R (Own s T (xs.map (Value.int k)) :: Own t T2 (ys.map (Value.int k)) :: Hs) w) (hn : xs.length + ys.length ≤ n) (hb : 2 * n * bytes ≤ 281474976710656) (hb' : n ≤ 9223372036854775807)
    (kk : ∀ s' w', Sat R (Own s' T ((xs ++ ys).map (Value.int k)) :: Own t T2 (ys.map (Value.int k)) :: Hs) w' → K s' w') :
    ∃ w', ∃ t' : Sl, (Builtin.append_ #[t1, t2] ty #[.slice s.a s.len s.cap, .slice t.a t.len t.cap]).run P w = .ok (.slice t'.a t'.len t'.cap) w' ∧ K t' w' := by
  obtain ⟨R', hr, _, hw, back⟩ := Own.lend hw.swap (by rw [List.length_map]; omega)
  exact appendRI E h2 hw hr hn hb hb' fun s' w' hw => kk s' w' (back hw).swap
/-- Integers that are only read: an index. -/
theorem Ro.ix {k : IntKind} {xs : List Int} {S : World → Prop} {i : Int} (hr : Ro R s (xs.map (Value.int k))) (hS : ∀ w, S w → Sat R Hs w) (j : Nat) (hi : i = j) (hj : j < xs.length) {F : Int → Prop} (h : F xs[j]) :
    Rng i s.len (NilP s.a fun a => ∃ t : Int, (At S (a.add i.toNat) [.int k t]) ∧ F t) := by
  subst hi
  exact hr.idxK hS hj h
theorem SlR.ix {k : IntKind} {xs : List Int} {S : World → Prop} {i : Int} (hr : SlR R.m s (xs.map (Value.int k))) (hS : ∀ w, S w → Sat R Hs w) (j : Nat) (hi : i = j) (hj : j < xs.length) {F : Int → Prop} (h : F xs[j]) :
    Rng i s.len (NilP s.a fun a => ∃ t : Int, (At S (a.add i.toNat) [.int k t]) ∧ F t) := by
  subst hi
  exact hr.idxK hS hj h

end Go.VC
/- References 01, 02: check sums; numbers and bytes as bytes, a reader. Condition: bounds on lengths. -/
namespace Go.Proofs.YtgfneeoponiibaaGreat
open Go Go.VC

variable {R : Cx} {Hs Rest : List HP} {w : World}

/-! ### Check sums -/
theorem rstep_spec {r : Nat} (hr : r < 4294967296) (hw : Sat R Hs w) :
    Gets Tryz.prog 149 #[.int .u32 r] w fun v w' => v = .int .u32 (cstep r : Nat) ∧ Sat R Hs w' := by
  apply call149
  have e1 : (r : Int).tmod 2 = ((r % 2 : Nat) : Int) := by rw [Int.ofNat_tmod]; rfl
  have e2 : IntKind.u32.wrap ((r : Int).tdiv 2) = ((r / 2 : Nat) : Int) := by
    rw [show (r : Int).tdiv 2 = ((r / 2 : Nat) : Int) from (Int.ofNat_tdiv r 2).symm, wrapU32 (by omega) (by omega)]
  unfold B149 cstep
  rw [e1, e2]
  refine Br.mk (fun h => ?_) (fun h => ?_)
  · have h : r % 2 = 1 := by have := of_decide_eq_true h; omega
    rw [if_pos h]
    refine ⟨?_, hw⟩
    rw [show (2197175160 : Int) = ((2197175160 : Nat) : Int) from rfl, xorU32 (by omega) (by omega)]
  · have h : ¬ r % 2 = 1 := by have := of_decide_eq_false h; omega
    rw [if_neg h]
    exact ⟨rfl, hw⟩

set_option maxRecDepth 20000 in
theorem radd_spec {sum : Nat} {s : Sl} {xs : List Int} (hsum : sum < 4294967296) (hxs : ∀ x ∈ xs, 0 ≤ x ∧ x < 256) (hs : Ro R s (b8 xs)) (hw : Sat R Hs w) :
    Gets Tryz.prog 135 #[.int .u32 sum, .slice s.a s.len s.cap] w fun v w' => v = .int .u32 (crcAdd sum xs : Nat) ∧ Sat R Hs w' := by
  have hlen : s.len = xs.length := by have := hs.len; simpa using this
  have hbd : xs.length ≤ 9223372036854775807 := by have := hs.bound; simpa using this
  apply call135
  have hst : sum ^^^ ones32 < 4294967296 := xor32 hsum (by unfold ones32; omega)
  have e0 : bitI BinOp.xor IntKind.u32 (sum : Int) 4294967295 = ((sum ^^^ ones32 : Nat) : Int) := by
    rw [show (4294967295 : Int) = ((ones32 : Nat) : Int) from rfl, xorU32 hsum (by unfold ones32; omega)]
  refine ⟨fun r t w => ∃ k n : Nat, t = k ∧ k ≤ xs.length ∧ r = n ∧ n < 4294967296 ∧ crcRun n (xs.drop k) = crcRun (sum ^^^ ones32) xs ∧ Sat R Hs w, fun _ t _ => xs.length - t.toNat, ⟨0, _, rfl, by omega, e0, hst, rfl, hw⟩, ?_⟩
  rintro _ _ _ w ⟨k, n, rfl, hk, rfl, hn, he, hw⟩
  refine Br.d (fun h => ?_) (fun h => ?_)
  · have hkx : k < xs.length := by omega
    refine hs.ix (eqS hw) k rfl hkx ?_
    have hc := hxs xs[k] (List.getElem_mem _)
    obtain ⟨c, hce⟩ := Int.eq_ofNat_of_zero_le hc.1
    have hc2 : c < 256 := by omega
    have e1 : bitI BinOp.xor IntKind.u32 (n : Int) (IntKind.u32.wrap xs[k]) = ((n ^^^ c : Nat) : Int) := by
      rw [hce, wrapU32 (by omega) (by omega), xorU32 hn (by omega)]
    have hnc : n ^^^ c < 4294967296 := xor32 hn (by omega)
    refine ⟨fun r t w => ∃ j m : Nat, t = j ∧ j ≤ 8 ∧ r = m ∧ m < 4294967296 ∧ cstepN (8 - j) m = cstepN 8 (n ^^^ c) ∧ Sat R Hs w, fun _ t _ => 8 - t.toNat, ⟨0, _, rfl, by omega, e1, hnc, rfl, hw⟩, ?_⟩
    clear hw
    rintro _ _ _ w ⟨j, m, rfl, hj, rfl, hm, hs8, hw⟩
    refine Br.d (fun h => ?_) (fun h => ?_)
    · refine (rstep_spec hm hw).use ?_
      rintro _ w ⟨rfl, hw⟩
      refine ⟨_, rfl, ?_⟩
      rw [wrap64 (by omega) (by omega)]
      refine ⟨⟨j + 1, _, by omega, by omega, rfl, cstep_lt hm, ?_, hw⟩, by dsimp only; omega⟩
      rw [← hs8, show 8 - j = (8 - (j + 1)) + 1 by omega]
      rfl
    · have : j = 8 := by omega
      subst this
      rw [wrap64 (by omega) (by omega)]
      refine ⟨⟨k + 1, m, by omega, by omega, rfl, hm, ?_, hw⟩, by dsimp only; omega⟩
      rw [← he, List.drop_eq_getElem_cons hkx]
      show _ = crcRun (cstepN 8 (n ^^^ xs[k].toNat)) (xs.drop (k + 1))
      rw [hce, Int.toNat_natCast, ← hs8]
      rfl
  · have hkx : k = xs.length := by omega
    subst hkx
    rw [List.drop_length] at he
    have he : n = crcRun (sum ^^^ ones32) xs := he
    refine ⟨?_, hw⟩
    unfold crcAdd
    rw [show (4294967295 : Int) = ((ones32 : Nat) : Int) from rfl, xorU32 hn (by unfold ones32; omega), he]

theorem rsum_spec {s : Sl} {xs : List Int} (hxs : ∀ x ∈ xs, 0 ≤ x ∧ x < 256) (hs : Ro R s (b8 xs)) (hw : Sat R Hs w) :
    Gets Tryz.prog 125 #[.slice s.a s.len s.cap] w fun v w' => v = .int .u32 (crcAdd 0 xs : Nat) ∧ Sat R Hs w' := by
  apply call125
  refine (radd_spec (sum := 0) (by omega) hxs hs hw).use ?_
  rintro _ w ⟨rfl, hw⟩
  exact ⟨_, rfl, rfl, hw⟩

/-! ### Numbers, bytes -/
theorem rnumber_spec {n : Nat} (hn : n < 18446744073709551616) (hw : Sat R Hs w) :
    Gets Tryz.prog 41 #[.int .u64 n] w fun v w' => ∃ t : Sl, v = .slice t.a t.len t.cap ∧ Sat R (Own t 5 (b8 (numB n)) :: Hs) w' := by
  apply call41
  have h8 := dig_len8 hn
  refine ⟨fun x out w => ∃ (m : Nat) (ds : List Int), x = m ∧ m ≤ n ∧ dig m ++ ds = dig n ∧ Sat R (Own out 5 (b8 ds) :: Hs) w, fun x _ _ => x.toNat, ⟨n, [], rfl, by omega, by simp, Own.nil hw⟩, ?_⟩
  clear hw
  rintro _ _ out w ⟨m, ds, rfl, hm, he, hw⟩
  have hdl : ds.length ≤ 8 := by rw [← he, List.length_append] at h8; omega
  refine Br.d (fun h => ?_) (fun h => ?_)
  · have e1 : IntKind.u8.wrap ((m : Int).tmod 256) = ((m % 256 : Nat) : Int) := by
      rw [show (m : Int).tmod 256 = ((m % 256 : Nat) : Int) from (Int.ofNat_tmod m 256).symm, wrapU8 (by omega) (by omega)]
    have e2 : IntKind.u64.wrap ((m : Int).tdiv 256) = ((m / 256 : Nat) : Int) := by
      rw [show (m : Int).tdiv 256 = ((m / 256 : Nat) : Int) from (Int.ofNat_tdiv m 256).symm, wrapU64 (by omega) (by omega)]
    rw [e1, e2]
    refine new_rule hw fun b w hw => ?_
    have hw : Sat R (Own ⟨some ⟨b, 0, none⟩, 1, 1⟩ 5 (b8 [((m % 256 : Nat) : Int)]) :: Own out 5 (b8 ds) :: Hs) w := own_lit hw
    refine appendOO elB8 (s := ⟨some ⟨b, 0, none⟩, 1, 1⟩) (n := 9) Tryz.underlying25 hw (by simp; omega) (by omega) (by omega) fun s' w hw => ?_
    refine ⟨⟨m / 256, [((m % 256 : Nat) : Int)] ++ ds, rfl, by omega, ?_, hw.cons fun _ h => h.drop⟩, by dsimp only; omega⟩
    rw [← List.append_assoc, ← dig_pos (by omega)]
    exact he
  · have hm0 : m = 0 := by omega
    subst hm0
    rw [dig_zero, List.nil_append] at he
    have hol : out.len = ds.length := by have := Own.len hw; simpa using this
    have e1 : IntKind.u8.wrap (out.len : Int) = ((dig n).length : Int) := by rw [wrapU8 (by omega) (by omega), hol, he]
    rw [e1]
    refine new_rule hw fun b w hw => ?_
    have hw : Sat R (Own ⟨some ⟨b, 0, none⟩, 1, 1⟩ 5 (b8 [((dig n).length : Int)]) :: Own out 5 (b8 ds) :: Hs) w := own_lit hw
    refine appendOO elB8 (s := ⟨some ⟨b, 0, none⟩, 1, 1⟩) (n := 9) Tryz.underlying25 hw (by simp; omega) (by omega) (by omega) fun s' w hw => ?_
    have e2 : numB n = [((dig n).length : Int)] ++ ds := by rw [he]; rfl
    rw [e2]
    exact ⟨s', rfl, hw.cons fun _ h => h.drop⟩

theorem rtextB_spec {s : Sl} {bs : List Int} (hs : Ro R s (b8 bs)) (hl : bs.length ≤ 1099511627776) (hw : Sat R Hs w) :
    Gets Tryz.prog 43 #[.slice s.a s.len s.cap] w fun v w' => ∃ t : Sl, v = .slice t.a t.len t.cap ∧ Sat R (Own t 5 (b8 (textB bs)) :: Hs) w' := by
  have hlen : s.len = bs.length := by have := hs.len; simpa using this
  apply call43
  unfold B43
  rw [wrapU64 (by omega) (by omega), hlen]
  refine (rnumber_spec (by omega) hw).use ?_
  rintro _ w ⟨t, rfl, hw⟩
  refine ⟨t, rfl, ?_⟩
  rw [← hlen]
  have hn := numB_len (n := bs.length) (by omega)
  refine appendRI elB8 (n := 1099511627790) Tryz.underlying25 hw hs (by omega) (by omega) (by omega) fun s2 w hw => ?_
  exact ⟨s2, rfl, hw⟩

/-! ### A reader -/
abbrev rrCells (s : Sl) (n : Nat) (bad : Bool) : Obj := .cells [.slice s.a s.len s.cap, .int .i64 n, .bool bad].toArray 81 (0, 0)
/-- The reader r over bs, of which rd is left. -/
def RRdAt (r : Nat) (s : Sl) (bs : List Int) (rd : Rd) : HP := exs fun n : Nat => Star [pur (n ≤ bs.length ∧ bs.drop n = rd.bs), pts r (rrCells s n rd.bad)]
theorem Sat.rrd {r : Nat} {s : Sl} {bs : List Int} {rd : Rd} : Sat R (RRdAt r s bs rd :: Hs) w ↔ ∃ n : Nat, (n ≤ bs.length ∧ bs.drop n = rd.bs) ∧ Sat R (pts r (rrCells s n rd.bad) :: Hs) w := by
  unfold RRdAt
  rw [Sat.exs]
  constructor
  · rintro ⟨n, h⟩
    have h := Sat.star.1 h
    have h : Sat R (pur _ :: pts r _ :: Hs) w := h
    rw [Sat.pur] at h
    exact ⟨n, h⟩
  · rintro ⟨n, h⟩
    exact ⟨n, Sat.star.2 (by show Sat R (pur _ :: pts r _ :: Hs) w; rw [Sat.pur]; exact h)⟩

theorem p256 {a b : Nat} (h : a ≤ b) : (256 : Int) ^ a ≤ 256 ^ b := by
  rw [show (256 : Int) = ((256 : Nat) : Int) from rfl, ← Int.natCast_pow, ← Int.natCast_pow]
  exact Int.ofNat_le.2 (Nat.pow_le_pow_right (by omega) h)
def nextR (rd : Rd) : Int × Bool × Int := if rd.bad then (0, false, 0) else match parse rd.bs with | some (n, neg, k) => (n, neg, (k : Int)) | none => (0, false, 0)

theorem rnext_spec {r : Nat} {s : Sl} {bs : List Int} {n : Nat} {bad : Bool} (hl : bs.length ≤ 1099511627776) (hb : ∀ x ∈ bs, 0 ≤ x ∧ x < 256) (hs : SlR R.m s (b8 bs)) (hn : n ≤ bs.length) (hw : Sat R (pts r (rrCells s n bad) :: Hs) w) :
    Gets Tryz.prog 84 #[.pointer (some ⟨r, 0, none⟩)] w fun v w' => v = .tuple #[.int .u64 (nextR ⟨bs.drop n, bad⟩).1, .bool (nextR ⟨bs.drop n, bad⟩).2.1, .int .i64 (nextR ⟨bs.drop n, bad⟩).2.2] ∧ Sat R (pts r (rrCells s n bad) :: Hs) w' := by
  have hlen : s.len = bs.length := by have := hs.len; simpa using this
  apply call84
  have no : nextR ⟨bs.drop n, bad⟩ = (0, false, 0) → ∀ {w}, Sat R (pts r (rrCells s n bad) :: Hs) w → (Value.tuple #[.int .u64 0, .bool false, .int .i64 0] = .tuple #[.int .u64 (nextR ⟨bs.drop n, bad⟩).1, .bool (nextR ⟨bs.drop n, bad⟩).2.1, .int .i64 (nextR ⟨bs.drop n, bad⟩).2.2] ∧ Sat R (pts r (rrCells s n bad) :: Hs) w) := fun e {w} hw => by
    rw [e]; exact ⟨rfl, hw⟩
  refine ⟨fun w => (bad = false ∧ n < bs.length) ∧ Sat R (pts r (rrCells s n bad) :: Hs) w, drw_rule hw fun w hw => ?_, ?_⟩
  · refine NilP.mk rfl ⟨bad, At.own selfS (by exact ⟨rfl, trivial⟩), Br.mk (fun h => no (by unfold nextR; rw [if_pos h]) hw) (fun h => ?_)⟩
    refine NilP.mk rfl ⟨n, At.own selfS (by exact ⟨rfl, trivial⟩), NilP.mk rfl ⟨s, At.own selfS (by exact ⟨rfl, trivial⟩), ?_⟩⟩
    rw [hlen]
    refine Br.d (fun h2 => no ?_ hw) (fun h2 => ⟨⟨h, by omega⟩, hw⟩)
    unfold nextR
    simp only
    rw [List.drop_eq_nil_of_le (by omega)]
    split <;> rfl
  clear hw
  rintro _ w ⟨⟨hbad, hlt⟩, hw⟩
  have hc := hb bs[n] (List.getElem_mem _)
  have hd : bs.drop n = bs[n] :: bs.drop (n + 1) := List.drop_eq_getElem_cons hlt
  have e0 : IntKind.i64.wrap bs[n] = bs[n] := wrap64 (by omega) (by omega)
  have nx : nextR ⟨bs.drop n, bad⟩ = match parse (bs[n] :: bs.drop (n + 1)) with | some (n, neg, k) => (n, neg, (k : Int)) | none => (0, false, 0) := by
    unfold nextR; rw [hbad, hd]; rfl
  refine drw_rule hw fun w hw => ?_
  refine NilP.mk rfl ⟨s, At.own selfS (by exact ⟨rfl, trivial⟩), NilP.mk rfl ⟨n, At.own selfS (by exact ⟨rfl, trivial⟩), hs.ix selfS n rfl hlt ?_⟩⟩
  rw [e0]
  have hkn : 0 ≤ (if 16 ≤ bs[n] then bs[n] - 16 else bs[n]) := by split <;> omega
  obtain ⟨k, hk⟩ := Int.eq_ofNat_of_zero_le hkn
  have hk2 : (if 16 ≤ bs[n] then bs[n] - 16 else bs[n]).toNat = k := by rw [hk]; rfl
  refine ⟨fun x w => x = (k : Int) ∧ Sat R (pts r (rrCells s n bad) :: Hs) w, Br.d (fun h => ⟨?_, hw⟩) (fun h => ⟨?_, hw⟩), ?_⟩
  · rw [wrap64 (by omega) (by omega), ← hk, if_pos (by omega)]
  · rw [← hk, if_neg (by omega)]
  clear hw
  rintro _ _ w ⟨rfl, hw⟩
  have dl : (bs.drop (n + 1)).length = bs.length - (n + 1) := List.length_drop
  have pno : ¬ (bs[n] < 32 ∧ k ≤ 8 ∧ k ≤ (bs.drop (n + 1)).length ∧ (k = 0 → bs[n] = 0) ∧ (k ≠ 0 → (bs.drop (n + 1)).head? ≠ some 0)) → nextR ⟨bs.drop n, bad⟩ = (0, false, 0) := fun h => by
    rw [nx]; unfold parse; simp only [hk2]; rw [if_neg h]
  have pyes : (bs[n] < 32 ∧ k ≤ 8 ∧ k ≤ (bs.drop (n + 1)).length ∧ (k = 0 → bs[n] = 0) ∧ (k ≠ 0 → (bs.drop (n + 1)).head? ≠ some 0)) → nextR ⟨bs.drop n, bad⟩ = (valI 0 ((bs.drop (n + 1)).take k), decide (16 ≤ bs[n]), ((k + 1 : Nat) : Int)) := fun h => by
    rw [nx]; unfold parse; simp only [hk2]; rw [if_pos h]
  refine ⟨fun w => (bs[n] < 32 ∧ k ≤ 8 ∧ k ≤ (bs.drop (n + 1)).length ∧ (k = 0 → bs[n] = 0) ∧ (k ≠ 0 → (bs.drop (n + 1)).head? ≠ some 0)) ∧ Sat R (pts r (rrCells s n bad) :: Hs) w, drw_rule hw fun w hw => ?_, ?_⟩
  · refine Br.d (fun h => no (pno fun h2 => by omega) hw) (fun h8 => ?_)
    refine NilP.mk rfl ⟨n, At.own selfS (by exact ⟨rfl, trivial⟩), NilP.mk rfl ⟨s, At.own selfS (by exact ⟨rfl, trivial⟩), ?_⟩⟩
    rw [wrap64 (x := (n : Int) + 1) (by omega) (by omega), wrap64 (by omega) (by omega), hlen]
    refine Br.d (fun h => no (pno fun h2 => by omega) hw) (fun hln => ?_)
    have h32 : bs[n] < 32 := by split at hk <;> omega
    have last : (k ≠ 0 ∨ bs[n] = 0) → Br (decide ((k : Int) > 0))
             (NilP (some ⟨r, 0, none⟩) fun a_t70 =>
              ∃ t72 : Sl, (At (Sat R (pts r (rrCells s n bad) :: Hs)) (Addr.add a_t70 0) [.slice t72.a t72.len t72.cap]) ∧
              NilP (some ⟨r, 0, none⟩) fun a_t74 =>
              ∃ t76 : Int, (At (Sat R (pts r (rrCells s n bad) :: Hs)) ⟨a_t74.block, a_t74.off + 1, none⟩ [.int .i64 t76]) ∧
              Rng (IntKind.i64.wrap (t76 + 1)) t72.len (NilP t72.a fun a_t78 =>
              ∃ t79 : Int, (At (Sat R (pts r (rrCells s n bad) :: Hs)) (Addr.add a_t78 ((IntKind.i64.wrap (t76 + 1)).toNat)) [.int .u8 t79]) ∧
              Br (t79 == 0)
               (Value.tuple #[.int .u64 0, .bool false, .int .i64 0] = .tuple #[.int .u64 (nextR ⟨bs.drop n, bad⟩).1, .bool (nextR ⟨bs.drop n, bad⟩).2.1, .int .i64 (nextR ⟨bs.drop n, bad⟩).2.2] ∧ Sat R (pts r (rrCells s n bad) :: Hs) w)
               ((bs[n] < 32 ∧ k ≤ 8 ∧ k ≤ (bs.drop (n + 1)).length ∧ (k = 0 → bs[n] = 0) ∧ (k ≠ 0 → (bs.drop (n + 1)).head? ≠ some 0)) ∧ Sat R (pts r (rrCells s n bad) :: Hs) w)))
             ((bs[n] < 32 ∧ k ≤ 8 ∧ k ≤ (bs.drop (n + 1)).length ∧ (k = 0 → bs[n] = 0) ∧ (k ≠ 0 → (bs.drop (n + 1)).head? ≠ some 0)) ∧ Sat R (pts r (rrCells s n bad) :: Hs) w) := fun hz => by
      refine Br.d (fun h => ?_) (fun h => ⟨⟨h32, by omega, by omega, by omega, fun h2 => by omega⟩, hw⟩)
      refine NilP.mk rfl ⟨s, At.own selfS (by exact ⟨rfl, trivial⟩), NilP.mk rfl ⟨n, At.own selfS (by exact ⟨rfl, trivial⟩), ?_⟩⟩
      rw [wrap64 (by omega) (by omega)]
      have hn1 : n + 1 < bs.length := by omega
      have hh : (bs.drop (n + 1)).head? = some bs[n + 1] := by rw [List.drop_eq_getElem_cons hn1]; rfl
      refine hs.ix selfS (n + 1) (by omega) hn1 ?_
      refine Br.e (fun h0 => no (pno fun h2 => ?_) hw) (fun h0 => ⟨⟨h32, by omega, by omega, by omega, fun h2 => ?_⟩, hw⟩)
      · exact h2.2.2.2.2 (by omega) (by rw [hh, h0])
      · rw [hh]; intro h3; exact h0 (Option.some.inj h3)
    refine Br.d (fun h16 => ?_) (fun h16 => ?_)
    · refine Br.e (fun h0 => no (pno fun h2 => ?_) hw) (fun h0 => last (.inl (by omega)))
      have := h2.2.2.2.1 (by omega)
      omega
    · refine last ?_
      rw [if_neg (by omega)] at hk
      by_cases hk0 : k = 0
      · exact .inr (by omega)
      · exact .inl hk0
  clear hw
  rintro _ w ⟨hp, hw⟩
  have e := pyes hp
  rw [e]
  obtain ⟨h32, hk8, hkl, _, _⟩ := hp
  have hbd : ∀ j, ∀ x ∈ (bs.drop (n + 1)).take j, 0 ≤ x ∧ x < 256 := fun j x hx => hb x (List.mem_of_mem_drop (List.mem_of_mem_take hx))
  have vb : ∀ j, j ≤ 8 → 0 ≤ valI 0 ((bs.drop (n + 1)).take j) ∧ valI 0 ((bs.drop (n + 1)).take j) < 256 ^ j := fun j hj => by
    refine ⟨valI_nn (by omega) (hbd j), ?_⟩
    have h1 := valI_lt (acc := 0) (by omega) (hbd j)
    have h2 : ((bs.drop (n + 1)).take j).length ≤ j := by rw [List.length_take]; omega
    have h3 : (256 : Int) ^ ((bs.drop (n + 1)).take j).length ≤ 256 ^ j := p256 h2
    rw [show (0 : Int) + 1 = 1 from rfl, Int.one_mul] at h1
    omega
  refine ⟨fun x i w => ∃ j : Nat, i = j ∧ j ≤ k ∧ x = valI 0 ((bs.drop (n + 1)).take j) ∧ Sat R (pts r (rrCells s n bad) :: Hs) w, fun _ i _ => k - i.toNat, ⟨0, rfl, by omega, rfl, hw⟩, ?_⟩
  clear hw
  rintro _ _ _ w ⟨j, rfl, hj, rfl, hw⟩
  refine Br.d (fun h => drw_rule hw fun w hw => ?_) (fun h => ?_)
  · refine NilP.mk rfl ⟨s, At.own selfS (by exact ⟨rfl, trivial⟩), NilP.mk rfl ⟨n, At.own selfS (by exact ⟨rfl, trivial⟩), ?_⟩⟩
    rw [wrap64 (x := (n : Int) + 1) (by omega) (by omega), wrap64 (x := (n : Int) + 1 + j) (by omega) (by omega)]
    have hnj : n + 1 + j < bs.length := by omega
    refine hs.ix selfS (n + 1 + j) (by omega) hnj ?_
    have hx := hb bs[n + 1 + j] (List.getElem_mem _)
    have et : (bs.drop (n + 1)).take (j + 1) = (bs.drop (n + 1)).take j ++ [bs[n + 1 + j]] := by
      rw [List.take_add_one, List.getElem?_drop, List.getElem?_eq_getElem hnj]; rfl
    have hv := vb j (by omega)
    have hv2 := vb (j + 1) (by omega)
    rw [et, valI_snoc] at hv2
    have h7 : (256 : Int) ^ j ≤ 256 ^ 7 := p256 (by omega)
    have hv3 := hv.2
    have e7 : (256 : Int) ^ 7 = 72057594037927936 := by decide
    rw [wrapU64 (x := bs[n + 1 + j]) (by omega) (by omega), wrapU64 (x := valI 0 ((bs.drop (n + 1)).take j) * 256) (by omega) (by omega), wrapU64 (by omega) (by omega), wrap64 (by omega) (by omega)]
    exact ⟨⟨j + 1, by omega, by omega, by rw [et, valI_snoc], hw⟩, by dsimp only; omega⟩
  · have : j = k := by omega
    subst this
    rw [wrap64 (by omega) (by omega)]
    refine ⟨?_, hw⟩
    simp

end Go.Proofs.YtgfneeoponiibaaGreat
/- References 02, 05: a reader's Number, Text, Whole; records. Condition: bounds on lengths. -/
namespace Go.Proofs.YtgfneeoponiibaaGreat
open Go Go.VC

variable {R : Cx} {Hs Rest : List HP} {w : World}

theorem rrnum_spec {r : Nat} {s : Sl} {bs : List Int} {rd : Rd} {most : Int} (hl : bs.length ≤ 1099511627776) (hb : ∀ x ∈ bs, 0 ≤ x ∧ x < 256) (hs : SlR R.m s (b8 bs)) (hw : Sat R (RRdAt r s bs rd :: Hs) w) :
    Gets Tryz.prog 49 #[.pointer (some ⟨r, 0, none⟩), .int .u64 most] w fun v w' => v = .int .u64 (rdNum most rd).1 ∧ Sat R (RRdAt r s bs (rdNum most rd).2 :: Hs) w' := by
  obtain ⟨n, ⟨hn, hd⟩, hw⟩ := Sat.rrd.1 hw
  apply call49
  refine (rnext_spec hl hb hs hn hw).use ?_
  rintro _ w ⟨rfl, hw⟩
  refine ⟨_, _, _, rfl, ?_⟩
  rw [hd]
  have bad : rdNum most rd = (0, ⟨rd.bs, true⟩) → NilP (some ⟨r, 0, none⟩) fun a_t25 =>
      ∃ w_2 : World, ((Instr.storeAt 4 (.pointer ((some ⟨a_t25.block, a_t25.off + 2, none⟩))) (.bool true)).run Tryz.prog w = .ok () w_2) ∧
      (Value.int .u64 0 = .int .u64 (rdNum most rd).1 ∧ Sat R (RRdAt r s bs (rdNum most rd).2 :: Hs) w_2) := fun e => by
    refine NilP.mk rfl ?_
    refine store_rule hw (by kernel_rfl) rfl (by simp [Value.cells]) fun w hw => ?_
    have hw := hw.re (pts r (rrCells s n true))
    rw [e]
    exact ⟨rfl, Sat.rrd.2 ⟨n, ⟨hn, hd⟩, hw⟩⟩
  refine ⟨fun w => (∃ x k, rd.bad = false ∧ parse rd.bs = some (x, false, k) ∧ x ≤ most) ∧ Sat R (pts r (rrCells s n rd.bad) :: Hs) w, ?_, ?_⟩
  · by_cases hbd : rd.bad = true
    · have e : nextR ⟨rd.bs, rd.bad⟩ = (0, false, 0) := by unfold nextR; rw [if_pos hbd]
      rw [e]; dsimp only
      refine Br.mk (fun h => bad ?_) (fun h => by simp at h)
      unfold rdNum; rw [if_pos hbd]; rw [show rd = ⟨rd.bs, rd.bad⟩ from rfl, hbd]
    · have hbd : rd.bad = false := by simpa using hbd
      cases hp : parse rd.bs with
      | none =>
        have e : nextR ⟨rd.bs, rd.bad⟩ = (0, false, 0) := by unfold nextR; simp [hp]
        rw [e]; dsimp only
        refine Br.mk (fun h => bad ?_) (fun h => by simp at h)
        unfold rdNum; rw [if_neg (by rw [hbd]; simp), hp]
      | some p =>
        obtain ⟨x, neg, k⟩ := p
        have e : nextR ⟨rd.bs, rd.bad⟩ = (x, neg, (k : Int)) := by unfold nextR; simp [hp, hbd]
        rw [e]; dsimp only
        have hb2 : ∀ x ∈ rd.bs, 0 ≤ x ∧ x < 256 := fun x hx => hb x (by rw [← hd] at hx; exact List.mem_of_mem_drop hx)
        obtain ⟨_, _, k0, _, _⟩ := parse_bd hb2 hp
        have e2 : rdNum most rd = if neg = false ∧ x ≤ most then (x, ⟨rd.bs.drop k, false⟩) else (0, ⟨rd.bs, true⟩) := by
          unfold rdNum; rw [if_neg (by rw [hbd]; simp), hp]
        refine Br.e (fun h => by omega) (fun _ => Br.mk (fun h => bad ?_) (fun h => Br.d (fun h2 => bad ?_) (fun h2 => ?_)))
        · rw [e2, if_neg (by rintro ⟨h3, _⟩; rw [h3] at h; cases h)]
        · rw [e2, if_neg (by rintro ⟨_, h3⟩; omega)]
        · exact ⟨⟨x, k, hbd, by rw [h], by omega⟩, hw⟩
  clear bad hw
  rintro _ w ⟨⟨x, k, hbd, hp, hx⟩, hw⟩
  have hb2 : ∀ x ∈ rd.bs, 0 ≤ x ∧ x < 256 := fun x hx => hb x (by rw [← hd] at hx; exact List.mem_of_mem_drop hx)
  obtain ⟨_, _, k0, _, k2⟩ := parse_bd hb2 hp
  have e : nextR ⟨rd.bs, rd.bad⟩ = (x, false, (k : Int)) := by unfold nextR; simp [hp, hbd]
  have e2 : rdNum most rd = (x, ⟨rd.bs.drop k, false⟩) := by
    unfold rdNum; rw [if_neg (by rw [hbd]; simp), hp]; dsimp only; rw [if_pos ⟨rfl, hx⟩]
  rw [e, e2]
  dsimp only
  have hlen : rd.bs.length = bs.length - n := by rw [← hd, List.length_drop]
  refine NilP.mk rfl ⟨n, At.own (eqS hw) (by exact ⟨rfl, trivial⟩), NilP.mk rfl ?_⟩
  dsimp only
  rw [wrap64 (by omega) (by omega)]
  refine store_rule hw (by kernel_rfl) rfl (by simp [Value.cells]) fun w hw => ?_
  rw [hbd] at hw
  have hw := hw.re (pts r (rrCells s (n + k) false))
  exact ⟨rfl, Sat.rrd.2 ⟨n + k, ⟨by omega, by rw [← List.drop_drop, hd]⟩, hw⟩⟩

theorem rrtext_spec {r : Nat} {s : Sl} {bs : List Int} {rd : Rd} {most : Int} (hm : most < 9223372036854775808) (hl : bs.length ≤ 1099511627776) (hb : ∀ x ∈ bs, 0 ≤ x ∧ x < 256) (hs : SlR R.m s (b8 bs)) (hw : Sat R (RRdAt r s bs rd :: Hs) w) :
    Gets Tryz.prog 51 #[.pointer (some ⟨r, 0, none⟩), .int .i64 most] w fun v w' => ∃ t : Sl, v = .slice t.a t.len t.cap ∧ Sat R (Own t 5 (b8 (rdText most rd).1) :: RRdAt r s bs (rdText most rd).2 :: Hs) w' := by
  have hsl : s.len = bs.length := by have := hs.len; simpa using this
  have hscap := hs.cap
  obtain ⟨n, ⟨hn, hd⟩, hw⟩ := Sat.rrd.1 hw
  have hlen : rd.bs.length = bs.length - n := by rw [← hd, List.length_drop]
  have hb2 : ∀ x ∈ rd.bs, 0 ≤ x ∧ x < 256 := fun x hx => hb x (by rw [← hd] at hx; exact List.mem_of_mem_drop hx)
  apply call51
  refine (rnext_spec hl hb hs hn hw).use ?_
  rintro _ w ⟨rfl, hw⟩
  refine ⟨_, _, _, rfl, ?_⟩
  rw [hd]
  have bad : rdText most rd = ([], ⟨rd.bs, true⟩) → ∀ {w}, Sat R (pts r (rrCells s n rd.bad) :: Hs) w → NilP (some ⟨r, 0, none⟩) fun a_t25 =>
      ∃ w_2 : World, ((Instr.storeAt 4 (.pointer ((some ⟨a_t25.block, a_t25.off + 2, none⟩))) (.bool true)).run Tryz.prog w = .ok () w_2) ∧
      (∃ t : Sl, Value.slice none 0 0 = .slice t.a t.len t.cap ∧ Sat R (Own t 5 (b8 (rdText most rd).1) :: RRdAt r s bs (rdText most rd).2 :: Hs) w_2) := fun e w hw => by
    refine NilP.mk rfl ?_
    refine store_rule hw (by kernel_rfl) rfl (by simp [Value.cells]) fun w hw => ?_
    have hw := hw.re (pts r (rrCells s n true))
    rw [e]
    exact ⟨⟨none, 0, 0⟩, rfl, Own.nil (Sat.rrd.2 ⟨n, ⟨hn, hd⟩, hw⟩)⟩
  refine ⟨fun w => (∃ x k, rd.bad = false ∧ parse rd.bs = some (x, false, k) ∧ 0 ≤ most ∧ x ≤ most ∧ x ≤ (rd.bs.length : Int) - k) ∧ Sat R (pts r (rrCells s n rd.bad) :: Hs) w, drw_rule hw fun w hw => ?_, ?_⟩
  · by_cases hbd : rd.bad = true
    · have e : nextR ⟨rd.bs, rd.bad⟩ = (0, false, 0) := by unfold nextR; rw [if_pos hbd]
      rw [e]; dsimp only
      refine Br.mk (fun h => bad ?_ hw) (fun h => by simp at h)
      unfold rdText; rw [if_pos hbd]; rw [show rd = ⟨rd.bs, rd.bad⟩ from rfl, hbd]
    · have hbd : rd.bad = false := by simpa using hbd
      cases hp : parse rd.bs with
      | none =>
        have e : nextR ⟨rd.bs, rd.bad⟩ = (0, false, 0) := by unfold nextR; simp [hp]
        rw [e]; dsimp only
        refine Br.mk (fun h => bad ?_ hw) (fun h => by simp at h)
        unfold rdText; rw [if_neg (by rw [hbd]; simp), hp]
      | some p =>
        obtain ⟨x, neg, k⟩ := p
        have e : nextR ⟨rd.bs, rd.bad⟩ = (x, neg, (k : Int)) := by unfold nextR; simp [hp, hbd]
        rw [e]; dsimp only
        obtain ⟨x0, x1, k0, k1, k2⟩ := parse_bd hb2 hp
        have e2 : rdText most rd = if neg = false ∧ 0 ≤ most ∧ x ≤ most ∧ x ≤ ((rd.bs.length : Int) - k) then (((rd.bs.drop k).take x.toNat), ⟨rd.bs.drop (k + x.toNat), false⟩) else ([], ⟨rd.bs, true⟩) := by
          unfold rdText; rw [if_neg (by rw [hbd]; simp), hp]
        refine Br.e (fun h => by omega) (fun _ => Br.mk (fun h => bad ?_ hw) (fun h => Br.d (fun h2 => bad ?_ hw) (fun h2 => ?_)))
        · rw [e2, if_neg (by rintro ⟨h3, _⟩; rw [h3] at h; cases h)]
        · rw [e2, if_neg (by rintro ⟨_, h3, _⟩; omega)]
        · rw [wrapU64 (x := most) (by omega) (by omega)]
          refine Br.d (fun h3 => bad ?_ hw) (fun h3 => ?_)
          · rw [e2, if_neg (by rintro ⟨_, _, h4, _⟩; omega)]
          · refine NilP.mk rfl ⟨s, At.own selfS (by exact ⟨rfl, trivial⟩), NilP.mk rfl ⟨n, At.own selfS (by exact ⟨rfl, trivial⟩), ?_⟩⟩
            have e3 : IntKind.u64.wrap (IntKind.i64.wrap (IntKind.i64.wrap ((s.len : Int) - (n : Int)) - (k : Int))) = (rd.bs.length : Int) - k := by
              rw [wrap64 (x := (s.len : Int) - (n : Int)) (by omega) (by omega), wrap64 (by omega) (by omega), wrapU64 (by omega) (by omega)]; omega
            rw [e3]
            refine Br.d (fun h4 => bad ?_ hw) (fun h4 => ⟨⟨x, k, hbd, by rw [h], by omega, by omega, by omega⟩, hw⟩)
            rw [e2, if_neg (by rintro ⟨_, _, _, h5⟩; omega)]
  clear bad hw
  rintro _ w ⟨⟨x, k, hbd, hp, hm0, hxm, hxl⟩, hw⟩
  obtain ⟨x0, x1, k0, k1, k2⟩ := parse_bd hb2 hp
  have e : nextR ⟨rd.bs, rd.bad⟩ = (x, false, (k : Int)) := by unfold nextR; simp [hp, hbd]
  have e2 : rdText most rd = (((rd.bs.drop k).take x.toNat), ⟨rd.bs.drop (k + x.toNat), false⟩) := by
    unfold rdText; rw [if_neg (by rw [hbd]; simp), hp]; dsimp only; rw [if_pos ⟨rfl, hm0, hxm, hxl⟩]
  rw [e, e2]
  dsimp only
  obtain ⟨m, rfl⟩ := Int.eq_ofNat_of_zero_le x0
  refine NilP.mk rfl ⟨n, At.own (eqS hw) (by exact ⟨rfl, trivial⟩), NilP.mk rfl ?_⟩
  have e3 : IntKind.i64.wrap ((n : Int) + (k : Int)) = ((n + k : Nat) : Int) := by rw [wrap64 (by omega) (by omega)]; omega
  have e4 : IntKind.i64.wrap (((n + k : Nat) : Int) + IntKind.i64.wrap (m : Int)) = ((n + k + m : Nat) : Int) := by rw [wrap64 (x := (m : Int)) (by omega) (by omega), wrap64 (by omega) (by omega)]; omega
  dsimp only
  rw [e3, e4]
  refine store_rule hw (by kernel_rfl) rfl (by simp [Value.cells]) fun w hw => ?_
  rw [hbd] at hw
  have hw := hw.re (pts r (rrCells s (n + k + m) false))
  refine drw_ruleT hw fun w hw => ?_
  refine NilP.mk rfl ⟨s, At.own selfS (by exact ⟨rfl, trivial⟩), NilP.mk rfl ⟨((n + k + m : Nat) : Int), At.own selfS (by exact ⟨rfl, trivial⟩), by omega, by omega, by omega, by omega, ?_⟩⟩
  rw [Int.toNat_natCast, Int.toNat_natCast, Int.toNat_natCast]
  refine new_rule hw fun b w hw => ?_
  have e5 : n + k + m - (n + k) = m := by omega
  rw [e5]
  have hro : SlR R.m ⟨(sdrop s (n + k)).a, m, (sdrop s (n + k)).cap⟩ (b8 ((rd.bs.drop k).take m)) := by
    have := (hs.b8drop (k := n + k) (by omega)).b8take (k := m) (by simp; omega)
    rw [← List.drop_drop, hd] at this
    exact this
  have hll : ((rd.bs.drop k).take m).length ≤ 1099511627776 := by simp; omega
  refine ⟨hw.absorb, ?_⟩
  have hw : Sat R (Own ⟨some ⟨b, 0, none⟩, 0, 0⟩ 5 (([] : List Int).map (Value.int .u8)) :: VC.tru :: pts r (rrCells s (n + k + m) false) :: Hs) w := own_lit hw
  refine appendRI elB8 (s := ⟨some ⟨b, 0, none⟩, 0, 0⟩) (t := ⟨(sdrop s (n + k)).a, m, (sdrop s (n + k)).cap⟩) (n := 1099511627776) Tryz.underlying25 hw (hro.ro (by simp; omega)) (by simp; omega) (by omega) (by omega) fun t w hw => ?_
  refine ⟨hw.absorb, t, rfl, ?_⟩
  rw [List.nil_append] at hw
  refine hw.cons fun _ h => Sat.rrd.2 ⟨n + k + m, ⟨by omega, ?_⟩, h.drop⟩
  show bs.drop (n + k + m) = rd.bs.drop (k + m)
  rw [← hd, List.drop_drop, Nat.add_assoc]

theorem rrwhole_spec {r : Nat} {s : Sl} {bs : List Int} {rd : Rd} (hs : SlR R.m s (b8 bs)) (hw : Sat R (RRdAt r s bs rd :: Hs) w) :
    Gets Tryz.prog 52 #[.pointer (some ⟨r, 0, none⟩)] w fun v w' => v = .bool (rdWhole rd) ∧ Sat R (RRdAt r s bs rd :: Hs) w' := by
  have hsl : s.len = bs.length := by have := hs.len; simpa using this
  obtain ⟨n, ⟨hn, hd⟩, hw⟩ := Sat.rrd.1 hw
  have hlen : rd.bs.length = bs.length - n := by rw [← hd, List.length_drop]
  apply call52
  refine drw_rule hw fun w hw => ?_
  refine NilP.mk rfl ⟨rd.bad, At.own selfS (by exact ⟨rfl, trivial⟩), Br.nb (fun h => ?_) (fun h => ?_)⟩
  · refine NilP.mk rfl ⟨n, At.own selfS (by exact ⟨rfl, trivial⟩), NilP.mk rfl ⟨s, At.own selfS (by exact ⟨rfl, trivial⟩), ?_, Sat.rrd.2 ⟨n, ⟨hn, hd⟩, hw⟩⟩⟩
    unfold rdWhole
    rw [h, hsl]
    congr 1
    rw [Bool.not_false, Bool.true_and, hlen]
    show decide ((n : Int) = (bs.length : Int)) = _
    rw [decide_eq_decide]; omega
  · refine ⟨?_, Sat.rrd.2 ⟨n, ⟨hn, hd⟩, hw⟩⟩
    unfold rdWhole
    rw [h]; rfl

/-! ### Records -/
theorem rfour_spec {n : Nat} (hn : n < 4294967296) (hw : Sat R Hs w) :
    Gets Tryz.prog 124 #[.int .u32 n] w fun v w' => ∃ t : Sl, v = .slice t.a t.len t.cap ∧ Sat R (Own t 5 (b8 (word4 n)) :: Hs) w' := by
  apply call124
  unfold B124
  have td : ∀ k : Nat, (n : Int).tdiv (k : Int) = ((n / k : Nat) : Int) := fun k => (Int.ofNat_tdiv n k).symm
  have e1 : IntKind.u8.wrap (IntKind.u32.wrap ((n : Int).tdiv 16777216)) = ((n / 16777216 % 256 : Nat) : Int) := by
    rw [show (n : Int).tdiv 16777216 = ((n / 16777216 : Nat) : Int) from td 16777216, wrapU32 (by omega) (by omega), wrapU8 (by omega) (by omega)]; omega
  have e2 : IntKind.u8.wrap ((IntKind.u32.wrap ((n : Int).tdiv 65536)).tmod 256) = ((n / 65536 % 256 : Nat) : Int) := by
    rw [show (n : Int).tdiv 65536 = ((n / 65536 : Nat) : Int) from td 65536, wrapU32 (by omega) (by omega), show ((n / 65536 : Nat) : Int).tmod 256 = ((n / 65536 % 256 : Nat) : Int) from (Int.ofNat_tmod _ 256).symm, wrapU8 (by omega) (by omega)]
  have e3 : IntKind.u8.wrap ((IntKind.u32.wrap ((n : Int).tdiv 256)).tmod 256) = ((n / 256 % 256 : Nat) : Int) := by
    rw [show (n : Int).tdiv 256 = ((n / 256 : Nat) : Int) from td 256, wrapU32 (by omega) (by omega), show ((n / 256 : Nat) : Int).tmod 256 = ((n / 256 % 256 : Nat) : Int) from (Int.ofNat_tmod _ 256).symm, wrapU8 (by omega) (by omega)]
  have e4 : IntKind.u8.wrap ((n : Int).tmod 256) = ((n % 256 : Nat) : Int) := by
    rw [show (n : Int).tmod 256 = ((n % 256 : Nat) : Int) from (Int.ofNat_tmod _ 256).symm, wrapU8 (by omega) (by omega)]
  rw [e1, e2, e3, e4]
  refine new_rule hw fun b w hw => ?_
  exact ⟨⟨some ⟨b, 0, none⟩, 4, 4⟩, rfl, own_lit hw⟩

theorem word4_n (n : Nat) : (b8 (word4 n)).length = 4 := by simp [word4_len]

theorem rp_spec {s : Sl} {bs : List Int} (hbs : ∀ x ∈ bs, 0 ≤ x ∧ x < 256) (hs : Ro R s (b8 bs)) (hw : Sat R Hs w) :
    Gets Tryz.prog 97 #[.slice s.a s.len s.cap] w fun v w' =>
      (bs.length > 65536 ∧ v = .tuple #[.slice none 0 0, .int .i64 3] ∧ Sat R Hs w') ∨
      (bs.length ≤ 65536 ∧ ∃ t : Sl, v = .tuple #[.slice t.a t.len t.cap, .int .i64 0] ∧ Sat R (Own t 5 (b8 (recB bs)) :: Hs) w') := by
  have hlen : s.len = bs.length := by have := hs.len; simpa using this
  apply call97
  refine Br.mk (fun h => ?_) (fun h => ?_)
  · have := of_decide_eq_true h
    exact .inl ⟨by omega, rfl, hw⟩
  have h := of_decide_eq_false h
  have hl : bs.length ≤ 65536 := by omega
  have w4 : ∀ n, (word4 n).length = 4 := word4_len
  rw [show IntKind.u32.wrap (s.len : Int) = ((bs.length : Nat) : Int) by rw [wrapU32 (by omega) (by omega), hlen]]
  refine (rfour_spec (by omega) hw).use ?_
  rintro _ w ⟨t1, rfl, hw⟩
  refine ⟨t1, rfl, new_rule hw fun b w hw => ?_⟩
  have hw : Sat R (Own ⟨some ⟨b, 0, none⟩, 0, 0⟩ 5 (([] : List Int).map (Value.int .u8)) :: Own t1 5 (b8 (word4 bs.length)) :: Hs) w := own_lit hw
  refine appendOO elB8 (s := ⟨some ⟨b, 0, none⟩, 0, 0⟩) (n := 70000) Tryz.underlying25 hw (by rw [w4]; simp) (by omega) (by omega) fun t2 w hw => ?_
  refine appendRI elB8 (n := 70000) Tryz.underlying25 hw hs (by rw [List.nil_append, w4]; omega) (by omega) (by omega) fun t3 w hw => ?_
  rw [List.nil_append] at hw
  obtain ⟨R1, hr1, keep1, hw, back1⟩ := Own.lend hw (by simp [w4]; omega)
  have hbd : ∀ x ∈ word4 bs.length ++ bs, 0 ≤ x ∧ x < 256 := fun x hx => by
    rcases List.mem_append.1 hx with h | h
    · exact word4_bd _ x h
    · exact hbs x h
  refine (rsum_spec hbd hr1 hw).use ?_
  rintro _ w ⟨rfl, hw⟩
  have hw := (back1 hw).drop
  refine ⟨_, rfl, new_rule hw fun b2 w hw => ?_⟩
  have hw : Sat R (Own ⟨some ⟨b2, 0, none⟩, 0, 0⟩ 5 (([] : List Int).map (Value.int .u8)) :: Own t1 5 (b8 (word4 bs.length)) :: Hs) w := own_lit hw
  refine appendOO elB8 (s := ⟨some ⟨b2, 0, none⟩, 0, 0⟩) (n := 70000) Tryz.underlying25 hw (by rw [w4]; simp) (by omega) (by omega) fun t4 w hw => ?_
  have hw := hw.cons fun _ h => h.drop
  rw [List.nil_append] at hw
  refine (rfour_spec (crcAdd_lt (by omega) hbd) hw).use ?_
  rintro _ w ⟨t5, rfl, hw⟩
  refine ⟨t5, rfl, ?_⟩
  refine appendOO elB8 (s := t4) (n := 70000) Tryz.underlying25 hw.swap (by rw [w4, w4]; omega) (by omega) (by omega) fun t6 w hw => ?_
  refine appendRI elB8 (n := 70000) Tryz.underlying25 hw hs (by rw [List.length_append, w4, w4]; omega) (by omega) (by omega) fun t7 w hw => ?_
  exact .inr ⟨hl, t7, rfl, hw.cons fun _ h => h.drop⟩

end Go.Proofs.YtgfneeoponiibaaGreat
/- Reference 05: Scan. Condition: bounds on lengths. -/
namespace Go.Proofs.YtgfneeoponiibaaGreat
open Go Go.VC

variable {R : Cx} {Hs Rest : List HP} {w : World}

theorem first_eq {l : List Int} (hb : ∀ x ∈ l, 0 ≤ x ∧ x < 256) (h8 : 8 ≤ l.length) {n : Nat} (hn : valI 0 (l.take 4) = n) :
    first l = if n ≤ 65536 ∧ 8 + n ≤ l.length ∧ recB ((l.drop 8).take n) = l.take (8 + n) then some ((l.drop 8).take n) else none := by
  unfold first
  rw [if_pos h8]
  simp only
  rw [hn, Int.toNat_natCast]
  by_cases h1 : n ≤ 65536
  case neg => rw [if_neg (fun h => h1 h.1), if_neg (fun h => h1 h.1)]
  by_cases h2 : 8 + n ≤ l.length
  case neg => rw [if_neg (fun h => h2 (by omega)), if_neg (fun h => h2 h.2.1)]
  have hx : ((l.drop 8).take n).length = n := by simp; omega
  have hb4 : ∀ x ∈ l.take 4, 0 ≤ x ∧ x < 256 := fun x hx => hb x (List.mem_of_mem_take hx)
  have hbm : ∀ x ∈ (l.drop 4).take 4, 0 ≤ x ∧ x < 256 := fun x hx => hb x (List.mem_of_mem_drop (List.mem_of_mem_take hx))
  have hbx : ∀ x ∈ (l.drop 8).take n, 0 ≤ x ∧ x < 256 := fun x hx => hb x (List.mem_of_mem_drop (List.mem_of_mem_take hx))
  have ew : word4 n = l.take 4 := by
    have := val_word4 (l := l.take 4) (by simp; omega) hb4
    rw [hn, Int.toNat_natCast] at this
    exact this
  have el : l.take (8 + n) = l.take 4 ++ (l.drop 4).take 4 ++ (l.drop 8).take n := by
    rw [show 8 + n = 4 + (4 + n) by omega, List.take_add, List.take_add, List.drop_drop, List.append_assoc]
  have er : recB ((l.drop 8).take n) = l.take 4 ++ word4 (crcAdd 0 (l.take 4 ++ (l.drop 8).take n)) ++ (l.drop 8).take n := by
    unfold recB; rw [hx, ew]
  have hc : crcAdd 0 (l.take 4 ++ (l.drop 8).take n) < 4294967296 := crcAdd_lt (by omega) fun x hx => (List.mem_append.1 hx).elim (hb4 x) (hbx x)
  have hv := valI_nn (acc := 0) (by omega) hbm
  have key : (crcAdd 0 (l.take 4 ++ (l.drop 8).take n) = (valI 0 ((l.drop 4).take 4)).toNat) ↔ recB ((l.drop 8).take n) = l.take (8 + n) := by
    rw [er, el]
    constructor
    · intro h
      rw [h, val_word4 (by simp; omega) hbm]
    · intro h
      have h := List.append_cancel_right h
      have h := List.append_cancel_left h
      rw [← h, word4_val hc]; rfl
  by_cases h3 : recB ((l.drop 8).take n) = l.take (8 + n)
  · rw [if_pos ⟨h1, by omega, key.2 h3⟩, if_pos ⟨h1, h2, h3⟩]
  · rw [if_neg (fun h => h3 (key.1 h.2.2)), if_neg (fun h => h3 h.2.2)]

/-- A row of bytes of one's own, behind such rows. -/
theorem BytesL.push {b : Nat} {l t : Sl} {pre : List (List Int)} {x : List Int} {ty : TypeId} {K : Sl → World → Prop} (hl : pre.length ≤ 1099511627776)
    (hw : Sat R (pts b (.cells [Value.slice t.a t.len t.cap].toArray 25 (0, 0)) :: BytesL l pre :: Own t 5 (b8 x) :: Hs) w)
    (k : ∀ l2 w, Sat R (BytesL l2 (pre ++ [x]) :: Hs) w → K l2 w) :
    ∃ w', ∃ t' : Sl, (Builtin.append_ #[ 135, 135 ] ty #[.slice l.a l.len l.cap, .slice (some ⟨b, 0, none⟩) 1 1]).run Tryz.prog w = .ok (.slice t'.a t'.len t'.cap) w' ∧ K t' w' := by
  have hw3 : Sat R (BytesL l pre :: pts b (.cells [Value.slice t.a t.len t.cap].toArray 25 (0, 0)) :: Own t 5 (b8 x) :: Hs) w := hw.swap
  obtain ⟨ps, hps, hw4⟩ := Sat.bytesL.1 hw3
  have hpsl : ps.length = pre.length := by rw [← hps]; simp
  have hsrc : Src Tryz.prog 1 135 (.slice (some ⟨b, 0, none⟩) 1 1) 1 [Value.slice t.a t.len t.cap] w := Src_one elBB.hk 1 hw rfl
  refine append_rule elBB (s := l) hw4 hsrc (one_sl ps) (by rw [List.length_map]; omega) (by rw [List.length_map]; omega) fun l2 w hw => ?_
  refine k l2 w (Sat.bytesL.2 ⟨ps ++ [(t, x)], by simp [hps], ?_⟩)
  have e2 : ((ps ++ [(t, x)]).map fun p => Sl.v p.1) = (ps.map fun p => Sl.v p.1) ++ [Value.slice t.a t.len t.cap] := by simp [Sl.v]
  rw [e2]
  refine hw.cons fun R' hw => Sat.star.2 ?_
  rw [List.map_append, List.append_assoc]
  have h3 : Sat R' (pts b (.cells [Value.slice t.a t.len t.cap].toArray 25 (0, 0)) :: Star (ps.map fun p => Own p.1 5 (b8 p.2)) :: Own t 5 (b8 x) :: Hs) w := hw.arr
  exact Sat.star.1 h3.drop

theorem BytesL.nil (hw : Sat R Hs w) : Sat R (BytesL ⟨none, 0, 0⟩ [] :: Hs) w :=
  Sat.bytesL.2 ⟨[], rfl, Own.nil (Sat.star.2 hw)⟩

theorem strOf_inj {a b : List Int} (ha : ∀ x ∈ a, 0 ≤ x ∧ x < 256) (hb : ∀ x ∈ b, 0 ≤ x ∧ x < 256) (h : VC.strOf a = VC.strOf b) : a = b := by
  rw [← bytesL_strOf ha, ← bytesL_strOf hb, h]

theorem strR {s : Sl} {bs : List Int} {S : World → Prop} (hS : ∀ w, S w → Sat R Hs w) (hs : Ro R s (b8 bs)) : ∀ w', S w' → (convert 25 9 (.slice s.a s.len s.cap)).run Tryz.prog w' = .ok (.string (VC.strOf bs)) w' :=
  fun w' e => convS_ro Tryz.underlying25 Tryz.underlying5 Tryz.underlying9 (hS w' e) hs

set_option maxRecDepth 20000 in
theorem rscan_spec {s : Sl} {bs : List Int} (hb : ∀ x ∈ bs, 0 ≤ x ∧ x < 256) (hlen : bs.length ≤ 1099511627776) (hs : SlR R.m s (b8 bs)) (hw : Sat R Hs w) :
    Gets Tryz.prog 106 #[.slice s.a s.len s.cap] w fun v w' => ∃ l : Sl, v = .tuple #[.slice l.a l.len l.cap, .int .i64 (scanLen (scan bs) : Nat)] ∧ Sat R (BytesL l (scan bs) :: Hs) w' := by
  have hsl : s.len = bs.length := by have := hs.len; simpa using this
  have hcap := hs.cap
  apply call106
  refine ⟨fun out i w => ∃ (pre : List (List Int)) (k : Nat), i = k ∧ k ≤ bs.length ∧ scan bs = pre ++ scan (bs.drop k) ∧ scanLen pre = k ∧ Sat R (BytesL out pre :: Hs) w, fun _ i _ => bs.length - i.toNat, ⟨[], 0, rfl, by omega, by simp, rfl, BytesL.nil hw⟩, ?_⟩
  clear hw
  rintro _ out _ w ⟨pre, k, rfl, hk, hsc, hpl, hw⟩
  have hb' : ∀ x ∈ bs.drop k, 0 ≤ x ∧ x < 256 := fun x hx => hb x (List.mem_of_mem_drop hx)
  have hdl : (bs.drop k).length = bs.length - k := List.length_drop
  have stop : first (bs.drop k) = none → ∀ {w}, Sat R (BytesL out pre :: Hs) w → ∃ l : Sl, Value.tuple #[.slice out.a out.len out.cap, .int .i64 (k : Nat)] = .tuple #[.slice l.a l.len l.cap, .int .i64 (scanLen (scan bs) : Nat)] ∧ Sat R (BytesL l (scan bs) :: Hs) w := fun h {w} hw => by
    rw [hsc, scan_none h, List.append_nil, hpl]
    exact ⟨out, rfl, hw⟩
  have w8 : IntKind.i64.wrap ((k : Int) + 8) = ((k + 8 : Nat) : Int) := by rw [wrap64 (by omega) (by omega)]; omega
  rw [w8]
  refine Br.d (fun h => ?_) (fun h => ?_)
  rotate_left
  · refine stop ?_ hw
    unfold first
    rw [if_neg (by omega)]
  have vb : ∀ j, j ≤ 4 → 0 ≤ valI 0 ((bs.drop k).take j) ∧ valI 0 ((bs.drop k).take j) < 256 ^ j := fun j hj => by
    have hbd : ∀ x ∈ (bs.drop k).take j, 0 ≤ x ∧ x < 256 := fun x hx => hb' x (List.mem_of_mem_take hx)
    refine ⟨valI_nn (by omega) hbd, ?_⟩
    have h1 := valI_lt (acc := 0) (by omega) hbd
    have h2 : ((bs.drop k).take j).length ≤ j := by rw [List.length_take]; omega
    have h3 := p256 h2
    rw [show (0 : Int) + 1 = 1 from rfl, Int.one_mul] at h1
    omega
  refine ⟨fun x i w => ∃ j : Nat, i = j ∧ j ≤ 4 ∧ x = valI 0 ((bs.drop k).take j) ∧ Sat R (BytesL out pre :: Hs) w, fun _ i _ => 4 - i.toNat, ⟨0, rfl, by omega, rfl, hw⟩, ?_⟩
  clear hw
  rintro _ _ _ w ⟨j, rfl, hj, rfl, hw⟩
  refine Br.d (fun h4 => ?_) (fun h4 => ?_)
  · have hkj : k + j < bs.length := by omega
    refine hs.ix (eqS hw) (k + j) (by rw [wrap64 (by omega) (by omega)]; omega) hkj ?_
    have hx := hb bs[k + j] (List.getElem_mem _)
    have et : (bs.drop k).take (j + 1) = (bs.drop k).take j ++ [bs[k + j]] := by
      rw [List.take_add_one, List.getElem?_drop, List.getElem?_eq_getElem hkj]; rfl
    have hv := vb j (by omega)
    have h3 := p256 (a := j) (b := 3) (by omega)
    have e3 : (256 : Int) ^ 3 = 16777216 := by decide
    rw [wrap64 (x := bs[k + j]) (by omega) (by omega), wrap64 (x := valI 0 ((bs.drop k).take j) * 256) (by omega) (by omega), wrap64 (by omega) (by omega), wrap64 (by omega) (by omega)]
    exact ⟨⟨j + 1, by omega, by omega, by rw [et, valI_snoc], hw⟩, by dsimp only; omega⟩
  have : j = 4 := by omega
  subst this
  have hv := vb 4 (by omega)
  have e4 : (256 : Int) ^ 4 = 4294967296 := by decide
  obtain ⟨n, hn⟩ := Int.eq_ofNat_of_zero_le hv.1
  rw [hn] at hv ⊢
  have hf := first_eq hb' (by omega) hn
  have wn : IntKind.i64.wrap (((k + 8 : Nat) : Int) + (n : Int)) = ((k + 8 + n : Nat) : Int) := by rw [wrap64 (by omega) (by omega)]; omega
  rw [wn]
  refine ⟨fun w => (n ≤ 65536 ∧ k + 8 + n ≤ bs.length) ∧ Sat R (BytesL out pre :: Hs) w, ?_, ?_⟩
  · refine Br.d (fun h => stop (by rw [hf, if_neg (by omega)]) hw) (fun h2 => ?_)
    refine Br.d (fun h => stop (by rw [hf, if_neg (by omega)]) hw) (fun h3 => ⟨⟨by omega, by omega⟩, hw⟩)
  clear hw
  rintro _ w ⟨⟨hn1, hn2⟩, hw⟩
  refine ⟨by omega, by omega, by omega, by omega, ?_⟩
  rw [Int.toNat_natCast, Int.toNat_natCast, Int.toNat_natCast]
  have e5 : k + 8 + n - (k + 8) = n := by omega
  have e6 : k + 8 + n - k = 8 + n := by omega
  rw [e5, e6]
  have hx : SlR R.m ⟨(sdrop s (k + 8)).a, n, (sdrop s (k + 8)).cap⟩ (b8 (((bs.drop k).drop 8).take n)) := by
    have := (hs.b8drop (k := k + 8) (by omega)).b8take (k := n) (by simp; omega)
    rw [← List.drop_drop] at this
    exact this
  have hy : SlR R.m ⟨(sdrop s k).a, 8 + n, (sdrop s k).cap⟩ (b8 ((bs.drop k).take (8 + n))) := (hs.b8drop (k := k) (by omega)).b8take (k := 8 + n) (by simp; omega)
  have hxb : ∀ x ∈ ((bs.drop k).drop 8).take n, 0 ≤ x ∧ x < 256 := fun x hx => hb' x (List.mem_of_mem_drop (List.mem_of_mem_take hx))
  have hxl : (((bs.drop k).drop 8).take n).length = n := by simp; omega
  have hro := hx.ro (by simp; omega)
  refine (rp_spec (s := ⟨(sdrop s (k + 8)).a, n, (sdrop s (k + 8)).cap⟩) hxb hro hw).use ?_
  rintro _ w (⟨h, _⟩ | ⟨_, t1, rfl, hw⟩)
  · omega
  refine ⟨t1, 0, rfl, ?_⟩
  have hrl := recB_len (((bs.drop k).drop 8).take n)
  obtain ⟨R1, hr1, keep1, hw, back1⟩ := Own.lend hw (by rw [List.length_map]; omega)
  have hy1 := keep1 _ _ (hy.ro (by simp; omega))
  refine drw_rule hw fun w hw => ?_
  refine ⟨_, strR selfS hr1, by omega, by omega, by omega, by omega, _, strR (s := ⟨(sdrop s k).a, 8 + n, (sdrop s k).cap⟩) selfS hy1, ?_⟩
  have hw := (back1 hw).drop
  refine Br.sne (fun h => stop ?_ hw) (fun h => ?_)
  · rw [hf, if_neg]
    rintro ⟨_, _, h2⟩
    rw [h2] at h
    exact h rfl
  have h := strOf_inj (recB_bd hxb) (fun x hx => hb' x (List.mem_of_mem_take hx)) h
  rw [if_pos ⟨hn1, by omega, h⟩] at hf
  refine new_rule hw fun b w hw => ?_
  have hw : Sat R (Own ⟨some ⟨b, 0, none⟩, 0, 0⟩ 5 (([] : List Int).map (Value.int .u8)) :: BytesL out pre :: Hs) w := own_lit hw
  refine appendRI elB8 (s := ⟨some ⟨b, 0, none⟩, 0, 0⟩) (t := ⟨(sdrop s (k + 8)).a, n, (sdrop s (k + 8)).cap⟩) (n := 70000) Tryz.underlying25 hw hro (by rw [hxl]; simp; omega) (by omega) (by omega) fun t2 w hw => ?_
  rw [List.nil_append] at hw
  refine new_rule hw fun b2 w hw => ?_
  have hpn := len_scanLen pre
  refine BytesL.push (l := out) (b := b2) (by omega) (hw.cons fun _ h => h.swap) fun l2 w hw => ?_
  refine ⟨⟨pre ++ [((bs.drop k).drop 8).take n], k + 8 + n, rfl, hn2, ?_, ?_, hw⟩, by dsimp only; omega⟩
  · have e7 : (bs.drop k).drop (8 + n) = bs.drop (k + 8 + n) := by rw [List.drop_drop, Nat.add_assoc]
    rw [hsc, scan_some hf, hxl, e7, List.append_assoc]
    rfl
  · rw [scanLen_app, scanLen_cons, hpl, hxl]
    show k + (8 + n + 0) = _
    omega

end Go.Proofs.YtgfneeoponiibaaGreat
/- The disk: its state, what its memory holds, and what its small functions give. Condition: none. -/
namespace Go.Proofs.YtgfneeoponiibaaGreat
open Go Go.VC

variable {R : Cx} {Hs Rest : List HP} {w : World}

/-! ### The state -/
structure Fl where
  b : List Int
  sure : Nat
abbrev Fs := List (ByteArray × Fl)
/-- How many bytes all have. -/
def total (fs : Fs) : Int := (fs.map fun e => (e.2.b.length : Int)).foldr (· + ·) 0
structure DS where
  room : Int
  fs : Fs
  fail : Int
  arm : Int
  off : Bool

/-! ### Names -/
def okCh (c : Int) : Bool := (decide (97 ≤ c) && decide (c ≤ 122)) || (decide (48 ≤ c) && decide (c ≤ 57)) || c == 46 || c == 45
def nameOk (s : ByteArray) : Bool := decide (s.size ≠ 0) && decide (s.size ≤ 64) && (bytesL s).all okCh

theorem eql_empty (s : ByteArray) : (s.toList == (ByteArray.mk #[]).toList) = decide (s.size = 0) := by
  have : (ByteArray.mk #[]).toList = [] := by rw [ByteArray.toList_eq]
  rw [ByteArray.toList_eq, this, show s.size = s.data.toList.length from (Array.length_toList (xs := s.data)).symm]
  cases s.data.toList <;> simp

theorem drop_get {α : Type} {l : List α} {k : Nat} (h : k < l.length) : l.drop k = l[k] :: l.drop (k + 1) := List.drop_eq_getElem_cons h

theorem named_spec {s : Sl} {names : List ByteArray} (hw : Sat R Hs w) (hs : Ro R s (names.map Value.string)) (hn : names.length ≤ 1000) :
    Gets Tryz.prog 102 #[.slice s.a s.len s.cap] w fun r w' => r = .bool (names.all nameOk) ∧ Sat R Hs w' := by
  have hl : s.len = names.length := by have := hs.len; simpa using this
  apply call102
  refine ⟨fun i w => ∃ k : Nat, i = k ∧ k ≤ names.length ∧ names.all nameOk = (names.drop k).all nameOk ∧ Sat R Hs w, fun i _ => names.length - i.toNat, ⟨0, rfl, Nat.zero_le _, rfl, hw⟩, ?_⟩
  rintro z _ w ⟨k, rfl, hk, he, hw⟩
  refine Br.mk (fun h => ?_) (fun h => ?_) <;> simp only [decide_eq_true_eq, decide_eq_false_iff_not] at h
  · have hk' : k < names.length := by omega
    rw [drop_get hk', List.all_cons] at he
    refine hs.idxStr (eqS hw) hk' ?_
    refine ⟨fun w => names[k].size ≠ 0 ∧ names[k].size ≤ 64 ∧ Sat R Hs w, ?_, ?_⟩
    · rw [eql_empty]
      refine Br.mk (fun h1 => ⟨?_, hw⟩) (fun h1 => Br.mk (fun h2 => ⟨?_, hw⟩) (fun h2 => ?_))
      · rw [he]; simp only [decide_eq_true_eq] at h1; simp [nameOk, h1]
      · rw [he]; simp only [decide_eq_true_eq] at h2; simp [nameOk]; omega
      · simp only [decide_eq_false_iff_not] at h1 h2; exact ⟨h1, by omega, hw⟩
    rintro z w ⟨h1, h2, hw⟩
    refine convB_rule Tryz.underlying9 Tryz.underlying25 Tryz.underlying5 hw fun t w hw => ?_
    have hbl := bytesL_len names[k]
    have hok : nameOk names[k] = (bytesL names[k]).all okCh := by simp [nameOk, h1, h2]
    have ht := Own.len hw
    rw [List.length_map] at ht
    refine ⟨fun j w => ∃ i : Nat, j = i ∧ i ≤ (bytesL names[k]).length ∧ nameOk names[k] = ((bytesL names[k]).drop i).all okCh ∧ Sat R (Own t 5 ((bytesL names[k]).map (Value.int .u8)) :: Hs) w, fun j _ => (bytesL names[k]).length - j.toNat, ⟨0, rfl, Nat.zero_le _, hok, hw⟩, ?_⟩
    rintro z _ w ⟨i, rfl, hi, hio, hw⟩
    refine Br.mk (fun h3 => ?_) (fun h3 => ?_) <;> simp only [decide_eq_true_eq, decide_eq_false_iff_not] at h3
    · have hi' : i < (bytesL names[k]).length := by omega
      rw [drop_get hi', List.all_cons] at hio
      refine Own.idx hw (eqS hw) hi' ?_
      generalize (bytesL names[k])[i] = c at hio
      rw [wrap64 (by omega) (by omega)]
      have yes : okCh c = true → (∃ i' : Nat, ((i : Int) + 1) = i' ∧ i' ≤ (bytesL names[k]).length ∧ nameOk names[k] = ((bytesL names[k]).drop i').all okCh ∧ Sat R (Own t 5 ((bytesL names[k]).map (Value.int .u8)) :: Hs) w) ∧
          (bytesL names[k]).length - ((i : Int) + 1).toNat < (bytesL names[k]).length - (i : Int).toNat := fun hc => by
        rw [hc, Bool.true_and] at hio
        exact ⟨⟨i + 1, by omega, by omega, hio, hw⟩, by omega⟩
      have no : okCh c = false → Value.bool false = .bool (names.all nameOk) ∧ Sat R Hs w := fun hc => by
        rw [hc, Bool.false_and] at hio
        rw [hio, Bool.false_and] at he
        exact ⟨by rw [he], hw.drop⟩
      have hd : okCh c = ((decide (97 ≤ c) && decide (c ≤ 122)) || (decide (48 ≤ c) && decide (c ≤ 57)) || c == 46 || c == 45) := rfl
      have p : ∀ {q : Prop} [Decidable q], decide q = true → q := of_decide_eq_true
      refine Br.mk (fun a1 => Br.mk (fun a2 => Br.mk (fun a3 => Br.mk (fun a4 => no ?_) (fun a4 => yes ?_)) (fun a3 => yes ?_)) (fun a2 => Br.mk (fun a3 => Br.mk (fun a4 => Br.mk (fun a5 => no ?_) (fun a5 => yes ?_)) (fun a4 => yes ?_)) (fun a3 => yes ?_)))
        (fun a1 => Br.mk (fun a2 => Br.mk (fun a3 => Br.mk (fun a4 => Br.mk (fun a5 => no ?_) (fun a5 => yes ?_)) (fun a4 => yes ?_)) (fun a3 => Br.mk (fun a4 => Br.mk (fun a5 => Br.mk (fun a6 => no ?_) (fun a6 => yes ?_)) (fun a5 => yes ?_)) (fun a4 => yes ?_))) (fun a2 => yes ?_))
      all_goals
        simp only [decide_eq_true_eq, decide_eq_false_iff_not, bne_iff_ne, ne_eq, bne_eq_false_iff_eq] at *
        simp only [okCh, Bool.or_eq_true, Bool.and_eq_true, decide_eq_true_eq, beq_iff_eq, Bool.or_eq_false_iff, Bool.and_eq_false_iff, decide_eq_false_iff_not, beq_eq_false_iff_ne, ne_eq]
        omega
    · have : i = (bytesL names[k]).length := by omega
      subst this
      rw [List.drop_length] at hio
      rw [hio] at he
      rw [wrap64 (by omega) (by omega)]
      exact ⟨⟨k + 1, by omega, by omega, by rw [he]; rfl, hw.drop⟩, by dsimp only; omega⟩
  · have : k = names.length := by omega
    subst this
    rw [List.drop_length] at he
    exact ⟨by rw [he]; rfl, hw⟩

end Go.Proofs.YtgfneeoponiibaaGreat
/- The disk: its memory, its small operations. Condition: none. -/
namespace Go.Proofs.YtgfneeoponiibaaGreat
open Go Go.VC

variable {R : Cx} {Hs Rest : List HP} {w : World}

/-- A file's struct and its bytes. -/
def FileAt (p : Nat) (f : Fl) : HP := exs fun s : Sl => Star [pts p (.cells [.slice s.a s.len s.cap, .int .i64 f.sure].toArray 97 (0, 0)), Own s 5 (b8 f.b)]
/-- Name, block, file. -/
abbrev DE := ByteArray × Nat × Fl
def er (E : List DE) : Fs := E.map fun e => (e.1, e.2.2)
def ptrs (E : List DE) : List (ByteArray × Value) := E.map fun e => (e.1, .pointer (some ⟨e.2.1, 0, none⟩))
def FilesAt (E : List DE) : HP := Star (E.map fun e => FileAt e.2.1 e.2.2)
/-- The disk's own cells. -/
abbrev dCells (st : DS) (m : Nat) : Obj := .cells [.int .i64 st.room, .int .i64 (total st.fs), .map (some m), .int .i64 st.fail, .int .i64 st.arm, .bool st.off].toArray 86 (0, 0)
def DiskAt (d : Nat) (st : DS) : HP := exs fun x : Nat × List DE => Star [pur (er x.2 = st.fs), pts d (dCells st x.1), MapAt x.1 (ptrs x.2), FilesAt x.2]

theorem Sat.disk {d : Nat} {st : DS} : Sat R (DiskAt d st :: Hs) w ↔ ∃ m E, er E = st.fs ∧ Sat R (pts d (dCells st m) :: MapAt m (ptrs E) :: FilesAt E :: Hs) w := by
  unfold DiskAt
  rw [Sat.exs]
  constructor
  · rintro ⟨⟨m, E⟩, h⟩
    have := Sat.star.1 h
    exact ⟨m, E, Sat.pur.1 this⟩
  · rintro ⟨m, E, h1, h2⟩
    exact ⟨⟨m, E⟩, Sat.star.2 (Sat.pur.2 ⟨h1, h2⟩)⟩

theorem Sat.file {p : Nat} {f : Fl} : Sat R (FileAt p f :: Hs) w ↔ ∃ s : Sl, Sat R (pts p (.cells [.slice s.a s.len s.cap, .int .i64 f.sure].toArray 97 (0, 0)) :: Own s 5 (b8 f.b) :: Hs) w := by
  unfold FileAt
  rw [Sat.exs]
  exact ⟨fun ⟨s, h⟩ => ⟨s, Sat.star.1 h⟩, fun ⟨s, h⟩ => ⟨s, Sat.star.2 h⟩⟩

/-- One of the files. -/
theorem Sat.split {a b : List DE} {e : DE} : Sat R (FilesAt (a ++ e :: b) :: Hs) w ↔ Sat R (FileAt e.2.1 e.2.2 :: FilesAt (a ++ b) :: Hs) w := by
  have p : ((a ++ e :: b).map fun e : DE => FileAt e.2.1 e.2.2).Perm (FileAt e.2.1 e.2.2 :: (a ++ b).map fun e : DE => FileAt e.2.1 e.2.2) := by
    rw [List.map_append, List.map_cons, List.map_append]; exact List.perm_middle
  unfold FilesAt
  constructor
  · intro h
    have h1 := (Sat.star.1 h).perm (p.append_right Hs)
    exact h1.cons fun _ h => Sat.star.2 h
  · intro h
    have h1 : Sat R ((FileAt e.2.1 e.2.2 :: (a ++ b).map fun e : DE => FileAt e.2.1 e.2.2) ++ Hs) w := h.cons fun _ h => Sat.star.1 h
    exact Sat.star.2 (h1.perm (p.symm.append_right Hs))

/-! ### New -/

def newErr (room : Int) : Int := if room < 1 ∨ room > 16777216 then 1 else 0

theorem new_spec (room : Int) (hw : Sat R Hs w) : Gets Tryz.prog 14 #[.int .i64 room] w fun v w' =>
    (newErr room = 1 ∧ v = .tuple #[.pointer none, .int .i64 1] ∧ Sat R Hs w') ∨
    (newErr room = 0 ∧ 1 ≤ room ∧ room ≤ 16777216 ∧ ∃ d, v = .tuple #[.pointer (some ⟨d, 0, none⟩), .int .i64 0] ∧ Sat R (DiskAt d ⟨room, [], -1, -1, false⟩ :: Hs) w') := by
  apply call14
  refine Br.mk (fun h => ?_) (fun h => Br.mk (fun h2 => ?_) (fun h2 => ?_)) <;> simp only [decide_eq_true_eq, decide_eq_false_iff_not] at h
  · exact .inl ⟨if_pos (.inl h), rfl, hw⟩
  · simp only [decide_eq_true_eq] at h2
    exact .inl ⟨if_pos (.inr h2), rfl, hw⟩
  · simp only [decide_eq_false_iff_not] at h2
    refine new_rule hw fun m w hw => new_rule hw fun d w hw => .inr ⟨if_neg (by omega), by omega, by omega, d, rfl, ?_⟩
    refine Sat.disk.2 ⟨m, [], rfl, hw.cons fun _ h => (MapAt.new rfl h).cons fun _ h => ?_⟩
    exact Sat.star.2 h

/-! ### Counting down, asking for something later -/

/-- What is left of a count; whether the moment is there. -/
def metN (n : Int) : Int × Bool := if n == -1 then (n, false) else (n - 1, n - 1 == -1)

theorem met_spec {b i : Nat} {l : List Value} {T : TypeId} {n : Int} (hw : Sat R (pts b (.cells l.toArray T (0, 0)) :: Hs) w) (hi : l[i]? = some (.int .i64 n)) (h0 : -1 ≤ n) (h1 : n < 9223372036854775808) :
    Gets Tryz.prog 103 #[.pointer (some ⟨b, i, none⟩)] w fun r w' => r = .bool (metN n).2 ∧ Sat R (pts b (.cells (l.set i (.int .i64 (metN n).1)).toArray T (0, 0)) :: Hs) w' := by
  have hlt : i < l.length := (List.getElem?_eq_some_iff.1 hi).1
  have hat : ∀ {w} {l : List Value} {v : Value}, Sat R (pts b (.cells l.toArray T (0, 0)) :: Hs) w → l[i]? = some v → At (fun w' => w' = w) ⟨b, i, none⟩ [v] := fun {w l v} hw hi => by
    refine At.own (eqS hw) ?_
    obtain ⟨h, rfl⟩ := List.getElem?_eq_some_iff.1 hi
    rw [List.drop_eq_getElem_cons h]; exact ⟨rfl, trivial⟩
  apply call103
  refine NilP.mk rfl ⟨n, hat hw hi, Br.mk (fun h => ?_) (fun h => ?_)⟩
  · refine ⟨by simp [metN, h], ?_⟩
    have : l.set i (.int .i64 (metN n).1) = l := by
      obtain ⟨h', e⟩ := List.getElem?_eq_some_iff.1 hi
      unfold metN; rw [if_pos h, ← e, List.set_getElem_self]
    rw [this]; exact hw
  · simp only [beq_eq_false_iff_ne, ne_eq] at h
    refine NilP.mk rfl ⟨n, hat hw hi, NilP.mk rfl ?_⟩
    rw [wrap64 (by omega) (by omega)]
    refine store_rule hw (by kernel_rfl) rfl (by simp [Value.cells]; omega) fun w' hw => ?_
    have e : putL l i (Value.int .i64 (n - 1)).cells.toList = l.set i (.int .i64 (n - 1)) := by simp [putL, Value.cells]
    rw [e] at hw
    refine NilP.mk rfl ⟨n - 1, hat hw (by simp [hlt]), ?_⟩
    unfold metN
    rw [if_neg (by simpa using h)]
    exact ⟨rfl, hw⟩

theorem later_spec {b i : Nat} {l : List Value} {T : TypeId} {n0 : Int} (n : Int) (hw : Sat R (pts b (.cells l.toArray T (0, 0)) :: Hs) w) (hi : l[i]? = some (.int .i64 n0)) :
    Gets Tryz.prog 62 #[.pointer (some ⟨b, i, none⟩), .int .i64 n] w fun r w' => r = .int .i64 (if n < 0 then 1 else 0) ∧ Sat R (pts b (.cells (l.set i (.int .i64 (if n < 0 then n0 else n))).toArray T (0, 0)) :: Hs) w' := by
  have hlt : i < l.length := (List.getElem?_eq_some_iff.1 hi).1
  apply call62
  refine Br.mk (fun h => ?_) (fun h => ?_) <;> simp only [decide_eq_true_eq, decide_eq_false_iff_not] at h
  · rw [if_pos h, if_pos h]
    refine ⟨rfl, ?_⟩
    obtain ⟨h', e⟩ := List.getElem?_eq_some_iff.1 hi
    rw [← e, List.set_getElem_self]; exact hw
  · rw [if_neg h, if_neg h]
    refine NilP.mk rfl ?_
    refine store_rule hw (by kernel_rfl) rfl (by simp [Value.cells]; omega) fun w' hw => ⟨rfl, ?_⟩
    have e : putL l i (Value.int .i64 n).cells.toList = l.set i (.int .i64 n) := by simp [putL, Value.cells]
    rw [e] at hw; exact hw

theorem fail_spec {d : Nat} {st : DS} (n : Int) (hw : Sat R (DiskAt d st :: Hs) w) :
    Gets Tryz.prog 26 #[.pointer (some ⟨d, 0, none⟩), .int .i64 n] w fun r w' => r = .int .i64 (if n < 0 then 1 else 0) ∧ Sat R (DiskAt d { st with fail := if n < 0 then st.fail else n } :: Hs) w' := by
  obtain ⟨m, E, hE, hw⟩ := Sat.disk.1 hw
  apply call26
  refine NilP.mk rfl ?_
  refine (later_spec n hw (i := 3) rfl).use ?_
  rintro _ w ⟨rfl, hw⟩
  exact ⟨_, rfl, rfl, Sat.disk.2 ⟨m, E, hE, hw⟩⟩

theorem arm_spec {d : Nat} {st : DS} (n : Int) (hw : Sat R (DiskAt d st :: Hs) w) :
    Gets Tryz.prog 22 #[.pointer (some ⟨d, 0, none⟩), .int .i64 n] w fun r w' => r = .int .i64 (if n < 0 then 1 else 0) ∧ Sat R (DiskAt d { st with arm := if n < 0 then st.arm else n } :: Hs) w' := by
  obtain ⟨m, E, hE, hw⟩ := Sat.disk.1 hw
  apply call22
  refine NilP.mk rfl ?_
  refine (later_spec n hw (i := 4) rfl).use ?_
  rintro _ w ⟨rfl, hw⟩
  exact ⟨_, rfl, rfl, Sat.disk.2 ⟨m, E, hE, hw⟩⟩

theorem size_spec {d : Nat} {st : DS} (hw : Sat R (DiskAt d st :: Hs) w) :
    Gets Tryz.prog 35 #[.pointer (some ⟨d, 0, none⟩)] w fun r w' => r = .int .i64 (total st.fs) ∧ Sat R (DiskAt d st :: Hs) w' := by
  have hw0 := hw
  obtain ⟨m, E, hE, hw⟩ := Sat.disk.1 hw
  apply call35
  exact NilP.mk rfl ⟨_, At.own (eqS hw) (by exact ⟨rfl, trivial⟩), rfl, hw0⟩

theorem off_spec {d : Nat} {st : DS} (hw : Sat R (DiskAt d st :: Hs) w) :
    Gets Tryz.prog 34 #[.pointer (some ⟨d, 0, none⟩)] w fun r w' => r = .bool st.off ∧ Sat R (DiskAt d st :: Hs) w' := by
  have hw0 := hw
  obtain ⟨m, E, hE, hw⟩ := Sat.disk.1 hw
  apply call34
  exact NilP.mk rfl ⟨_, At.own (eqS hw) (by exact ⟨rfl, trivial⟩), rfl, hw0⟩

/-! ### A change -/

/-- Ahead of a change: what it leaves of the counts; its errno, 0: go on. -/
def chg (st : DS) (ok : Bool) : DS × Int :=
  if !ok then (st, 1)
  else if st.off then (st, 5)
  else if (metN st.arm).2 then ({ st with arm := (metN st.arm).1, off := true }, 5)
  else ({ st with arm := (metN st.arm).1, fail := (metN st.fail).1 }, if (metN st.fail).2 then 4 else 0)

/-- The counts are. -/
structure Counts (st : DS) : Prop where
  a0 : -1 ≤ st.arm
  a1 : st.arm < 9223372036854775808
  f0 : -1 ≤ st.fail
  f1 : st.fail < 9223372036854775808

theorem change_spec {d : Nat} {st : DS} {s : Sl} {names : List ByteArray} {make : Value} {Q : Int → World → Prop} (hw : Sat R (DiskAt d st :: Hs) w) (c : Counts st) (hs : Ro R s (names.map Value.string)) (hn : names.length ≤ 1000)
    (hmake : (chg st (names.all nameOk)).2 = 0 → ∀ w, Sat R (DiskAt d (chg st (names.all nameOk)).1 :: Hs) w → CalW Tryz.prog cl make [] w (fun e w' => ∃ n : Int, e = .returned (.int .i64 n) ∧ Q n w'))
    (herr : ∀ e, (chg st (names.all nameOk)).2 = e → e ≠ 0 → ∀ w, Sat R (DiskAt d (chg st (names.all nameOk)).1 :: Hs) w → Q e w) :
    Gets Tryz.prog 65 #[.pointer (some ⟨d, 0, none⟩), make, .slice s.a s.len s.cap] w fun r w' => ∃ n : Int, r = .int .i64 n ∧ Q n w' := by
  apply call65
  refine (named_spec hw hs hn).use ?_
  rintro _ w ⟨rfl, hw⟩
  refine ⟨_, rfl, Br.mk (fun h => ?_) (fun h => ?_)⟩
  · simp only [Bool.not_eq_true'] at h
    have e : chg st (names.all nameOk) = (st, 1) := by simp [chg, h]
    rw [e] at herr
    exact ⟨1, rfl, herr 1 rfl (by decide) w hw⟩
  simp only [Bool.not_eq_false'] at h
  rw [h] at hmake herr
  obtain ⟨m, E, hE, hw⟩ := Sat.disk.1 hw
  refine NilP.mk rfl ⟨st.off, At.own (eqS hw) (by exact ⟨rfl, trivial⟩), Br.mk (fun ho => ?_) (fun ho => NilP.mk rfl ?_)⟩
  · have e : chg st true = (st, 5) := by simp [chg, ho]
    rw [e] at herr
    exact ⟨5, rfl, herr 5 rfl (by decide) w (Sat.disk.2 ⟨m, E, hE, hw⟩)⟩
  refine (met_spec hw (i := 4) (n := st.arm) rfl c.a0 c.a1).use ?_
  rintro _ w ⟨rfl, hw⟩
  refine ⟨_, rfl, Br.mk (fun ha => NilP.mk rfl ?_) (fun ha => NilP.mk rfl ?_)⟩
  · have e : chg st true = ({ st with arm := (metN st.arm).1, off := true }, 5) := by simp [chg, ho, ha]
    rw [e] at herr
    refine store_rule hw (by kernel_rfl) rfl (by simp [Value.cells]) fun w hw => ?_
    exact ⟨5, rfl, herr 5 rfl (by decide) w (Sat.disk.2 ⟨m, E, hE, hw⟩)⟩
  refine (met_spec hw (i := 3) (n := st.fail) rfl c.f0 c.f1).use ?_
  rintro _ w ⟨rfl, hw⟩
  have hw : Sat R (DiskAt d { st with arm := (metN st.arm).1, fail := (metN st.fail).1 } :: Hs) w := Sat.disk.2 ⟨m, E, hE, hw⟩
  have e : chg st true = ({ st with arm := (metN st.arm).1, fail := (metN st.fail).1 }, if (metN st.fail).2 then 4 else 0) := by simp [chg, ho, ha]
  rw [e] at herr hmake
  refine ⟨_, rfl, Br.mk (fun hf => ?_) (fun hf => ?_)⟩
  · exact ⟨4, rfl, herr 4 (by simp [hf]) (by decide) w hw⟩
  · refine (hmake (by simp [hf]) w hw).mono ?_
    rintro _ w ⟨n, rfl, hq⟩
    exact ⟨n, rfl, n, rfl, hq⟩

end Go.Proofs.YtgfneeoponiibaaGreat
/- The disk: Append. Condition: none. -/
namespace Go.Proofs.YtgfneeoponiibaaGreat
open Go Go.VC

variable {R : Cx} {Hs Rest : List HP} {w : World}

/-! ### Plain: one file of many -/
def updM {β : Type} (k : ByteArray) (g : β → β) : List (ByteArray × β) → List (ByteArray × β)
  | [] => []
  | e :: es => if k == e.1 then (e.1, g e.2) :: es else e :: updM k g es

theorem ba_rfl (k : ByteArray) : (k == k) = true := (MapKept.bytes_beq k k).2 rfl
theorem ba_ne {a b : ByteArray} (h : a ≠ b) : (a == b) = false := by
  cases hc : (a == b)
  · rfl
  · exact absurd ((MapKept.bytes_beq a b).1 hc) h

theorem updM_app {β : Type} {k : ByteArray} {g : β → β} {v : β} : ∀ {a b : List (ByteArray × β)}, getM k a = none → updM k g (a ++ (k, v) :: b) = a ++ (k, g v) :: b
  | [], b, _ => by simp [updM, ba_rfl]
  | e :: a, b, h => by
    rw [getM] at h
    split at h
    · cases h
    · rename_i hne
      rw [List.cons_append, updM, if_neg hne, updM_app h]; rfl

theorem er_app (a b : List DE) : er (a ++ b) = er a ++ er b := by simp [er]
theorem er_cons (e : DE) (b : List DE) : er (e :: b) = (e.1, e.2.2) :: er b := rfl
theorem er_get (k : ByteArray) (E : List DE) : getM k (er E) = (getM k E).map (·.2) := getM_map (fun x : Nat × Fl => x.2) k E
theorem ptrs_get (k : ByteArray) (E : List DE) : getM k (ptrs E) = (getM k E).map fun x => .pointer (some ⟨x.1, 0, none⟩) := getM_map (fun x : Nat × Fl => Value.pointer (some ⟨x.1, 0, none⟩)) k E
theorem ptrs_app (a b : List DE) : ptrs (a ++ b) = ptrs a ++ ptrs b := by simp [ptrs]

theorem total_nil : total [] = 0 := rfl
theorem total_cons (e : ByteArray × Fl) (l : Fs) : total (e :: l) = e.2.b.length + total l := rfl
theorem total_app (a b : Fs) : total (a ++ b) = total a + total b := by
  induction a with
  | nil => simp [total_nil]
  | cons e a ih => rw [List.cons_append, total_cons, total_cons, ih]; omega
theorem total_nn (l : Fs) : 0 ≤ total l := by
  induction l with
  | nil => exact Int.le_refl 0
  | cons e l ih => rw [total_cons]; omega
theorem total_one {k : ByteArray} {f : Fl} (a b : Fs) : total (a ++ (k, f) :: b) = total (a ++ b) + f.b.length := by
  rw [total_app, total_cons, total_app]; simp only; omega

/-- A file that is not there is made. -/
def ensure (k : ByteArray) (fs : Fs) : Fs := if (getM k fs).isSome then fs else fs ++ [(k, ⟨[], 0⟩)]
def putB (k : ByteArray) (xs : List Int) (fs : Fs) : Fs := updM k (fun f => { f with b := f.b ++ xs }) (ensure k fs)

/-- No name twice. -/
def Uni (fs : Fs) : Prop := (fs.map (·.1)).Nodup
/-- No more is synced than there is. -/
def SureOk (fs : Fs) : Prop := ∀ e ∈ fs, e.2.sure ≤ e.2.b.length

/-- What is true of a disk. -/
structure Inv (st : DS) : Prop extends Counts st where
  r0 : 1 ≤ st.room
  r1 : st.room ≤ 16777216
  full : total st.fs ≤ st.room
  uni : Uni st.fs
  names : ∀ k ∈ st.fs.map (·.1), nameOk k = true
  sure : SureOk st.fs

theorem notin_of_getM {β : Type} {k : ByteArray} : ∀ {l : List (ByteArray × β)}, getM k l = none → k ∉ l.map (·.1)
  | [], _, h => by cases h
  | e :: l, h, hm => by
    rw [getM] at h
    split at h
    · cases h
    · rename_i hne
      rw [List.map_cons, List.mem_cons] at hm
      rcases hm with rfl | hm
      · exact hne (ba_rfl _)
      · exact notin_of_getM h hm
theorem getM_of_notin {β : Type} {k : ByteArray} : ∀ {l : List (ByteArray × β)}, k ∉ l.map (·.1) → getM k l = none
  | [], _ => rfl
  | e :: l, h => by
    rw [List.map_cons, List.mem_cons, not_or] at h
    rw [getM, if_neg (by rw [ba_ne h.1]; simp), getM_of_notin h.2]
theorem updM_keys {β : Type} (k : ByteArray) (g : β → β) : ∀ l : List (ByteArray × β), (updM k g l).map (·.1) = l.map (·.1)
  | [] => rfl
  | e :: l => by
    rw [updM]
    split
    · rename_i h; have := (MapKept.bytes_beq _ _).1 h; simp
    · rw [List.map_cons, List.map_cons, updM_keys k g l]
theorem uni_upd {k : ByteArray} {g : Fl → Fl} {fs : Fs} (h : Uni fs) : Uni (updM k g fs) := by unfold Uni; rw [updM_keys]; exact h
theorem sure_upd {k : ByteArray} {g : Fl → Fl} (hg : ∀ f : Fl, f.sure ≤ f.b.length → (g f).sure ≤ (g f).b.length) : ∀ {fs : Fs}, SureOk fs → SureOk (updM k g fs)
  | [], h => h
  | e :: fs, h => by
    have h0 := h e List.mem_cons_self
    have h1 : SureOk fs := fun x hx => h x (List.mem_cons_of_mem _ hx)
    rw [updM]
    intro x hx
    split at hx
    · rcases List.mem_cons.1 hx with rfl | hx
      · exact hg _ h0
      · exact h1 x hx
    · rcases List.mem_cons.1 hx with rfl | hx
      · exact h0
      · exact sure_upd hg h1 x hx

def appendG (st : DS) (k : ByteArray) (xs : List Int) : DS × Int :=
  if total st.fs + xs.length > st.room then (st, 3) else ({ st with fs := putB k xs st.fs }, 0)

theorem ensure_total (k : ByteArray) (fs : Fs) : total (ensure k fs) = total fs := by
  unfold ensure
  split
  · rfl
  · rw [total_app]; simp [total_cons, total_nil]

theorem uni_app {fs : Fs} (h : Uni fs) {k : ByteArray} {f : Fl} (hk : getM k fs = none) : Uni (fs ++ [(k, f)]) := by
  unfold Uni at *
  rw [List.map_append, List.nodup_append]
  refine ⟨h, by simp, fun x hx y hy => ?_⟩
  simp at hy
  subst hy
  intro he
  subst he
  exact notin_of_getM hk hx
theorem sure_app {fs : Fs} (h : SureOk fs) {k : ByteArray} {f : Fl} (hf : f.sure ≤ f.b.length) : SureOk (fs ++ [(k, f)]) := by
  intro x hx
  rcases List.mem_append.1 hx with hx | hx
  · exact h x hx
  · simp at hx; subst hx; exact hf
theorem uni_ensure {fs : Fs} (h : Uni fs) (k : ByteArray) : Uni (ensure k fs) := by
  unfold ensure; split
  · exact h
  · rename_i hk; exact uni_app h (by simpa using hk)
theorem sure_ensure {fs : Fs} (h : SureOk fs) (k : ByteArray) : SureOk (ensure k fs) := by
  unfold ensure; split
  · exact h
  · exact sure_app h (Nat.le_refl _)

abbrev box (b : Nat) (v : Value) (T : TypeId) : HP := pts b (.cells [v].toArray T (0, 0))

abbrev mapT : MapT Tryz.prog 84 ByteArray 9 95 (.pointer none) := ⟨Tryz.underlying84, Tryz.underlying9, Tryz.zeroValue95⟩

/-- The disk, laid open. -/
abbrev DO (d m : Nat) (E : List DE) (st : DS) (Hs : List HP) : List HP := pts d (dCells st m) :: MapAt m (ptrs E) :: FilesAt E :: Hs

theorem DO.look {d m : Nat} {E : List DE} {st : DS} (hw : Sat R (DO d m E st Hs) w) (k : ByteArray) (c : Bool) :
    (Instr.lookup 84 (.map (some m)) (.string k) c).run Tryz.prog w = .ok (if c then .tuple #[.pointer ((getM k E).map fun x => ⟨x.1, 0, none⟩), .bool (getM k E).isSome] else .pointer ((getM k E).map fun x => ⟨x.1, 0, none⟩)) w := by
  have h := MapAt.look mapT (hw.swap.cons fun _ h => h) k c
  rw [ptrs_get] at h
  have e : ((getM k E).map fun x => Value.pointer (some ⟨x.1, 0, none⟩)).getD (.pointer none) = .pointer ((getM k E).map fun x => ⟨x.1, 0, none⟩) := by cases getM k E <;> rfl
  have e2 : ((getM k E).map fun x => Value.pointer (some ⟨x.1, 0, none⟩)).isSome = (getM k E).isSome := by cases getM k E <;> rfl
  rw [e, e2] at h
  exact h

theorem append1_spec {d bd bb bn : Nat} {st : DS} {k : ByteArray} {x : Sl} {xs : List Int} (i : Inv st) (hx : Ro R x (b8 xs)) (hl : xs.length ≤ 1099511627776)
    (hw : Sat R (DiskAt d st :: box bd (.pointer (some ⟨d, 0, none⟩)) 38 :: box bb (.slice x.a x.len x.cap) 25 :: box bn (.string k) 9 :: Hs) w) :
    Gets Tryz.prog 66 #[.pointer (some ⟨bd, 0, none⟩), .pointer (some ⟨bb, 0, none⟩), .pointer (some ⟨bn, 0, none⟩)] w fun r w' => r = .int .i64 (appendG st k xs).2 ∧
      Sat R (DiskAt d (appendG st k xs).1 :: box bd (.pointer (some ⟨d, 0, none⟩)) 38 :: box bb (.slice x.a x.len x.cap) 25 :: box bn (.string k) 9 :: Hs) w' := by
  have hxl : x.len = xs.length := by have := hx.len; simpa using this
  have hnn := total_nn st.fs
  have r0 := i.r0; have r1 := i.r1; have hfull := i.full
  apply call66
  obtain ⟨m, E, hE, hw⟩ := Sat.disk.1 hw
  refine drw_rule hw fun w hw => ?_
  refine NilP.mk rfl ⟨some ⟨d, 0, none⟩, At.own selfS (by exact ⟨rfl, trivial⟩), NilP.mk rfl ⟨total st.fs, At.own selfS (by exact ⟨rfl, trivial⟩), NilP.mk rfl ⟨x, At.own selfS (by exact ⟨rfl, trivial⟩), NilP.mk rfl ⟨some ⟨d, 0, none⟩, At.own selfS (by exact ⟨rfl, trivial⟩), NilP.mk rfl ⟨st.room, by rw [add_off]; exact At.own selfS (by exact ⟨rfl, trivial⟩), ?_⟩⟩⟩⟩⟩
  rw [wrap64 (by omega) (by omega)]
  refine Br.mk (fun h => ?_) (fun h => ?_) <;> simp only [decide_eq_true_eq, decide_eq_false_iff_not] at h
  · have e : appendG st k xs = (st, 3) := if_pos (by omega)
    rw [e]; exact ⟨rfl, Sat.disk.2 ⟨m, E, hE, hw⟩⟩
  have e : appendG st k xs = ({ st with fs := putB k xs st.fs }, 0) := if_neg (by omega)
  rw [e]
  refine drw_rule hw fun w hw => ?_
  refine NilP.mk rfl ⟨some ⟨d, 0, none⟩, At.own selfS (by exact ⟨rfl, trivial⟩), NilP.mk rfl ⟨some m, At.own selfS (by exact ⟨rfl, trivial⟩), NilP.mk rfl ⟨k, At.own selfS (by exact ⟨rfl, trivial⟩), _, _, fun w' hw' => DO.look hw' k true, ?_⟩⟩⟩
  refine ⟨fun p w => ∃ q a b f, p = some ⟨q, 0, none⟩ ∧ getM k a = none ∧ er (a ++ (k, q, f) :: b) = ensure k st.fs ∧
    Sat R (DO d m (a ++ (k, q, f) :: b) st (box bd (.pointer (some ⟨d, 0, none⟩)) 38 :: box bb (.slice x.a x.len x.cap) 25 :: box bn (.string k) 9 :: Hs)) w, ?_, ?_⟩
  · refine Br.mk (fun hk => ?_) (fun hk => ?_)
    · simp only [Bool.not_eq_true', Option.isSome_eq_false_iff, Option.isNone_iff_eq_none] at hk
      have hk2 : getM k st.fs = none := by rw [← hE, er_get, hk]; rfl
      refine new_rule hw fun q w hw => drw_rule hw fun w hw => ?_
      refine NilP.mk rfl ⟨some ⟨d, 0, none⟩, At.own selfS (by exact ⟨rfl, trivial⟩), NilP.mk rfl ⟨some m, At.own selfS (by exact ⟨rfl, trivial⟩), NilP.mk rfl ⟨k, At.own selfS (by exact ⟨rfl, trivial⟩), ?_⟩⟩⟩
      have hw2 := hw.take (MapAt m (ptrs E))
      refine MapAt.put mapT hw2 k (.pointer (some ⟨q, 0, none⟩)) fun w hw => ⟨q, E, [], ⟨[], 0⟩, rfl, hk, ?_, ?_⟩
      · rw [er_app, hE]; simp [ensure, hk2, er]
      · have ep : putM k (.pointer (some ⟨q, 0, none⟩)) (ptrs E) = ptrs (E ++ [(k, q, ⟨[], 0⟩)]) := by
          unfold putM; rw [ptrs_get, hk]; simp [ptrs]
        rw [ep] at hw
        have hw := hw.take (pts d (dCells st m))
        refine hw.cons fun _ h => h.cons fun _ h => ?_
        refine Sat.split.2 (Sat.file.2 ⟨⟨none, 0, 0⟩, ?_⟩)
        rw [List.append_nil]
        exact h.cons fun _ h => Own.nil h
    · simp only [Bool.not_eq_false'] at hk
      obtain ⟨⟨q, f⟩, hf⟩ := Option.isSome_iff_exists.1 hk
      obtain ⟨a, b, rfl, ha⟩ := getM_split hf
      rw [hf]
      refine ⟨q, a, b, f, rfl, ha, ?_, hw⟩
      rw [hE]; unfold ensure
      rw [if_pos]; rw [← hE, er_get, hf]; rfl
  rintro z _ w ⟨q, a, b, f, rfl, ha, hE2, hw⟩
  have ht2 : total (er (a ++ (k, q, f) :: b)) = total st.fs := by rw [hE2, ensure_total]
  rw [er_app, er_cons, total_one] at ht2
  have hnn2 := total_nn (er a ++ er b)
  simp only at ht2
  -- the file is opened
  have hw : Sat R (FilesAt (a ++ (k, q, f) :: b) :: pts d (dCells st m) :: MapAt m (ptrs (a ++ (k, q, f) :: b)) :: box bd (.pointer (some ⟨d, 0, none⟩)) 38 :: box bb (.slice x.a x.len x.cap) 25 :: box bn (.string k) 9 :: Hs) w := (hw.cons fun _ h => h.swap).swap
  obtain ⟨s, hw⟩ := Sat.file.1 (Sat.split.1 hw)
  refine drw_rule hw fun w hw => ?_
  refine NilP.mk rfl ⟨s, by rw [add_off]; exact At.own selfS (by exact ⟨rfl, trivial⟩), NilP.mk rfl ⟨x, At.own selfS (by exact ⟨rfl, trivial⟩), ?_⟩⟩
  have el : El Tryz.prog 25 25 5 1 := ⟨Tryz.underlying25, ⟨_, Tryz.underlying25⟩, by kernel_rfl⟩
  have hwo := hw.swap
  have hsrc : Src Tryz.prog 1 25 (.slice x.a x.len x.cap) xs.length (b8 xs) w := by
    have := srcRo Tryz.underlying25 hwo hx (by unfold oneAll; simp [Value.oneCell'])
    simpa using this
  refine append_rule (K := fun t w' => NilP (some ⟨q, 0, none⟩) fun a_t44 => ∃ w_9 : World, ((Instr.storeAt 25 (.pointer ((some (Addr.add a_t44 0)))) (.slice t.a t.len t.cap)).run Tryz.prog w' = .ok () w_9) ∧ _) el hwo hsrc (by unfold oneAll; simp [Value.oneCell']) (by simp; omega) (by simp; omega) fun t w hw => NilP.mk rfl ?_
  rw [add_off]
  refine store_rule hw (by kernel_rfl) rfl (by simp [Value.cells]) fun w hw => ?_
  have hw : Sat R (pts q (.cells [.slice t.a t.len t.cap, .int .i64 f.sure].toArray 97 (0, 0)) :: Own t 5 (b8 (f.b ++ xs)) :: FilesAt (a ++ b) :: pts d (dCells st m) :: MapAt m (ptrs (a ++ (k, q, f) :: b)) :: box bd (.pointer (some ⟨d, 0, none⟩)) 38 :: box bb (.slice x.a x.len x.cap) 25 :: box bn (.string k) 9 :: Hs) w := by
    rw [show b8 (f.b ++ xs) = b8 f.b ++ b8 xs by simp]; exact hw
  have hw : Sat R (FilesAt (a ++ (k, q, { f with b := f.b ++ xs }) :: b) :: pts d (dCells st m) :: MapAt m (ptrs (a ++ (k, q, f) :: b)) :: box bd (.pointer (some ⟨d, 0, none⟩)) 38 :: box bb (.slice x.a x.len x.cap) 25 :: box bn (.string k) 9 :: Hs) w :=
    Sat.split.2 (Sat.file.2 ⟨t, hw⟩)
  refine drw_rule hw fun w hw => ?_
  refine NilP.mk rfl ⟨some ⟨d, 0, none⟩, At.own selfS (by exact ⟨rfl, trivial⟩), NilP.mk rfl ⟨total st.fs, At.own selfS (by exact ⟨rfl, trivial⟩), NilP.mk rfl ⟨x, At.own selfS (by exact ⟨rfl, trivial⟩), NilP.mk rfl ?_⟩⟩⟩
  rw [wrap64 (by omega) (by omega)]
  refine store_rule hw (by kernel_rfl) rfl (by simp [Value.cells]) fun w hw => ⟨rfl, ?_⟩
  refine Sat.disk.2 ⟨m, a ++ (k, q, { f with b := f.b ++ xs }) :: b, ?_, ?_⟩
  · simp only [putB]
    rw [← hE2, er_app, er_cons, er_app, er_cons, updM_app]
    rw [er_get, ha]; rfl
  · have ep : ptrs (a ++ (k, q, { f with b := f.b ++ xs }) :: b) = ptrs (a ++ (k, q, f) :: b) := by simp [ptrs]
    have et : total (putB k xs st.fs) = total st.fs + x.len := by
      unfold putB
      rw [← hE2, er_app, er_cons, updM_app (by rw [er_get, ha]; rfl), total_one, ← ht2, hxl]
      simp; omega
    rw [ep]
    have hw := hw.cons fun _ h => h.swap
    unfold dCells
    simp only [et]
    exact hw

end Go.Proofs.YtgfneeoponiibaaGreat
/- The disk: Append, whole; what is true of a disk stays so; DiskFails. Condition: none. -/
namespace Go.Proofs.YtgfneeoponiibaaGreat
open Go Go.VC

variable {R : Cx} {Hs Rest : List HP} {w : World}

theorem metN_bd {n : Int} (h0 : -1 ≤ n) (h1 : n < 9223372036854775808) : -1 ≤ (metN n).1 ∧ (metN n).1 < 9223372036854775808 := by
  unfold metN
  split
  · exact ⟨h0, h1⟩
  · rename_i h; simp at h; exact ⟨by simp only; omega, by simp only; omega⟩

theorem chg_counts {st : DS} (c : Counts st) (ok : Bool) : Counts (chg st ok).1 := by
  have ha := metN_bd c.a0 c.a1
  have hf := metN_bd c.f0 c.f1
  unfold chg
  split
  · exact c
  split
  · exact c
  split
  · exact ⟨ha.1, ha.2, c.f0, c.f1⟩
  · exact ⟨ha.1, ha.2, hf.1, hf.2⟩
theorem chg_fs (st : DS) (ok : Bool) : (chg st ok).1.fs = st.fs ∧ (chg st ok).1.room = st.room := by
  unfold chg
  split
  · exact ⟨rfl, rfl⟩
  split
  · exact ⟨rfl, rfl⟩
  split <;> exact ⟨rfl, rfl⟩
theorem chg_inv {st : DS} (i : Inv st) (ok : Bool) : Inv (chg st ok).1 := by
  obtain ⟨h1, h2⟩ := chg_fs st ok
  exact { toCounts := chg_counts i.toCounts ok, r0 := by rw [h2]; exact i.r0, r1 := by rw [h2]; exact i.r1, full := by rw [h1, h2]; exact i.full, uni := by rw [h1]; exact i.uni, names := by rw [h1]; exact i.names, sure := by rw [h1]; exact i.sure }

/-- A change of so many names: what it is to do is g. -/
def doing (st : DS) (ok : Bool) (g : DS → DS × Int) : DS × Int := if (chg st ok).2 = 0 then g (chg st ok).1 else chg st ok

def appendD (st : DS) (k : ByteArray) (xs : List Int) : DS × Int := doing st (nameOk k) fun st => appendG st k xs

theorem all_one (k : ByteArray) : [k].all nameOk = nameOk k := by simp

/-- A name, given as the one of a list. -/
theorem ro_one {b : Nat} {k : ByteArray} {T : TypeId} (hc : R.m b = .none) : Ro (R.add (Heap.one b (.cells [.string k].toArray T (0, 0)))) ⟨some ⟨b, 0, none⟩, 1, 1⟩ ([k].map Value.string) :=
  ⟨rfl, by simp, fun _ => ⟨b, 0, _, T, (0, 0), rfl, Cx.lent hc, fun i v h => by simpa using h⟩⟩
theorem ro_two {b : Nat} {k k2 : ByteArray} {T : TypeId} (hc : R.m b = .none) : Ro (R.add (Heap.one b (.cells [.string k, .string k2].toArray T (0, 0)))) ⟨some ⟨b, 0, none⟩, 2, 2⟩ ([k, k2].map Value.string) :=
  ⟨rfl, by simp, fun _ => ⟨b, 0, _, T, (0, 0), rfl, Cx.lent hc, fun i v h => by simpa using h⟩⟩

theorem append_spec {d : Nat} {st : DS} {k : ByteArray} {x : Sl} {xs : List Int} (i : Inv st) (hx : Ro R x (b8 xs)) (hl : xs.length ≤ 1099511627776) (hw : Sat R (DiskAt d st :: Hs) w) :
    Gets Tryz.prog 30 #[.pointer (some ⟨d, 0, none⟩), .string k, .slice x.a x.len x.cap] w fun r w' => r = .int .i64 (appendD st k xs).2 ∧ Sat R (DiskAt d (appendD st k xs).1 :: Hs) w' := by
  apply call30
  refine new_rule hw fun bd w hw => new_rule hw fun bn w hw => new_rule hw fun bb w hw => ?_
  have hw : Sat R (box bb (.slice x.a x.len x.cap) 25 :: box bn (.string k) 9 :: box bd (.pointer (some ⟨d, 0, none⟩)) 38 :: DiskAt d st :: Hs) w := hw
  refine ⟨some ⟨d, 0, none⟩, At.own (eqS hw) (by exact ⟨rfl, trivial⟩), k, At.own (eqS hw) (by exact ⟨rfl, trivial⟩), new_rule hw fun bt w hw => ?_⟩
  obtain ⟨hc, hw⟩ := Sat.lend.1 hw
  have hw := hw.take (DiskAt d st)
  refine (change_spec (Q := fun n w => n = (appendD st k xs).2 ∧ Sat R (DiskAt d (appendD st k xs).1 :: Hs) w) hw i.toCounts (ro_one hc) (by simp) ?_ ?_).use ?_
  · rw [all_one]
    intro h0 w hw
    have e : appendD st k xs = appendG (chg st (nameOk k)).1 k xs := if_pos h0
    rw [e]
    have hw : Sat (R.add (Heap.one bt (.cells [.string k].toArray 9 (0, 0)))) (DiskAt d (chg st (nameOk k)).1 :: box bd (.pointer (some ⟨d, 0, none⟩)) 38 :: box bb (.slice x.a x.len x.cap) 25 :: box bn (.string k) 9 :: Hs) w :=
      hw.cons fun _ h => (h.take (box bd (.pointer (some ⟨d, 0, none⟩)) 38))
    refine (append1_spec (chg_inv i _) hx.add hl hw).use ?_
    rintro _ w ⟨rfl, hw⟩
    refine ⟨_, rfl, rfl, ?_⟩
    exact (Sat.lend.2 ⟨hc, hw⟩).drop.cons fun _ h => h.drop.drop.drop
  · rw [all_one]
    intro e h0 hne w hw
    have e2 : appendD st k xs = chg st (nameOk k) := if_neg (by rw [h0]; exact hne)
    rw [e2]
    exact ⟨h0.symm, (Sat.lend.2 ⟨hc, hw⟩).drop.cons fun _ h => h.drop.drop.drop⟩
  · rintro _ w ⟨n, rfl, rfl, hw⟩
    exact ⟨_, rfl, rfl, hw⟩

theorem putB_total (k : ByteArray) (xs : List Int) (fs : Fs) : total (putB k xs fs) = total fs + xs.length := by
  have hsome : (getM k (ensure k fs)).isSome = true := by
    unfold ensure
    split
    · assumption
    · rename_i h
      have : getM k fs = none := by simpa using h
      rw [getM_app this (ba_rfl k)]; rfl
  obtain ⟨f, hf⟩ := Option.isSome_iff_exists.1 hsome
  obtain ⟨a, b, e, ha⟩ := getM_split hf
  have h1 := ensure_total k fs
  unfold putB
  rw [e] at h1 ⊢
  rw [total_one] at h1
  rw [updM_app ha, total_one, ← h1]
  simp; omega

theorem chg_ok {st : DS} {ok : Bool} (h : (chg st ok).2 = 0) : ok = true := by
  cases ok
  · unfold chg at h; simp at h
  · rfl
theorem names_ensure {k : ByteArray} {fs : Fs} (hk : nameOk k = true) (h : ∀ x ∈ fs.map (·.1), nameOk x = true) : ∀ x ∈ (ensure k fs).map (·.1), nameOk x = true := by
  unfold ensure
  by_cases hc : (getM k fs).isSome = true
  · rw [if_pos hc]; exact h
  · rw [if_neg hc]
    intro x hx
    rw [List.map_append, List.mem_append] at hx
    rcases hx with hx | hx
    · exact h x hx
    · simp at hx; subst hx; exact hk
theorem appendG_inv {st : DS} (i : Inv st) {k : ByteArray} (hk : nameOk k = true) (xs : List Int) : Inv (appendG st k xs).1 := by
  unfold appendG
  split
  · exact i
  · exact { toCounts := ⟨i.a0, i.a1, i.f0, i.f1⟩, r0 := i.r0, r1 := i.r1, full := by simp only [putB_total]; omega, uni := uni_upd (uni_ensure i.uni k), names := by simp only [putB, updM_keys]; exact names_ensure hk i.names, sure := sure_upd (fun f h => by simp; omega) (sure_ensure i.sure k) }
theorem appendD_inv {st : DS} (i : Inv st) (k : ByteArray) (xs : List Int) : Inv (appendD st k xs).1 := by
  unfold appendD doing
  split
  · rename_i h; exact appendG_inv (chg_inv i _) (chg_ok h) xs
  · exact chg_inv i _

theorem inv_new {room : Int} (h0 : 1 ≤ room) (h1 : room ≤ 16777216) : Inv ⟨room, [], -1, -1, false⟩ :=
  { a0 := by simp, a1 := by simp, f0 := by simp, f1 := by simp, r0 := h0, r1 := h1, full := by show total [] ≤ room; rw [total_nil]; omega, uni := List.nodup_nil, names := fun _ h => (by cases h), sure := fun _ h => by cases h }

/-- One byte, given as a literal. -/
theorem ro_byte {b : Nat} {x : Int} (hc : R.m b = .none) : Ro (R.add (Heap.one b (.cells [.int .u8 x].toArray 5 (0, 0)))) ⟨some ⟨b, 0, none⟩, 1, 1⟩ (b8 [x]) :=
  ⟨rfl, by simp, fun _ => ⟨b, 0, _, 5, (0, 0), rfl, Cx.lent hc, fun i v h => by simpa using h⟩⟩

/-- The disk that all those laws begin with. -/
theorem new_ok {room : Int} (h0 : 1 ≤ room) (h1 : room ≤ 16777216) (hw : Sat R Hs w) : Gets Tryz.prog 14 #[.int .i64 room] w fun v w' =>
    ∃ d, v = .tuple #[.pointer (some ⟨d, 0, none⟩), .int .i64 0] ∧ Sat R (DiskAt d ⟨room, [], -1, -1, false⟩ :: Hs) w' :=
  Calls.mono (new_spec room hw) fun e w' ⟨v, he, h⟩ => by
    rcases h with ⟨hn, _⟩ | ⟨_, _, _, d, hv, hw⟩
    · unfold newErr at hn; rw [if_neg (by omega)] at hn; cases hn
    · exact ⟨v, he, d, hv, hw⟩

/-! ### DiskFails -/

/-- Behind i of these appends. -/
structure FailsAt (n : Int) (i : Nat) (st : DS) : Prop where
  inv : Inv st
  room : st.room = 10000
  size : total st.fs ≤ 1 + i
  arm : st.arm = -1
  off : st.off = false
  fail : st.fail = if (i : Int) ≤ n then n - i else -1

theorem append_fail {room : Int} {fs : Fs} {k : ByteArray} (xs : List Int) (hk : nameOk k = true) : appendD ⟨room, fs, 0, -1, false⟩ k xs = (⟨room, fs, -1, -1, false⟩, 4) := by
  unfold appendD; rw [hk]; rfl

theorem append_done {room fail : Int} {fs : Fs} {k : ByteArray} {xs : List Int} (hk : nameOk k = true) (hf : (metN fail).2 = false) (ht : total fs + xs.length ≤ room) :
    appendD ⟨room, fs, fail, -1, false⟩ k xs = (⟨room, putB k xs fs, (metN fail).1, -1, false⟩, 0) := by
  have e : chg ⟨room, fs, fail, -1, false⟩ true = (⟨room, fs, (metN fail).1, -1, false⟩, 0) := by
    unfold chg
    simp only [hf]
    rfl
  unfold appendD doing
  rw [hk, e, if_pos rfl]
  exact if_neg (by simp only; omega)

theorem fails_step {n : Int} {i : Nat} {st : DS} {k : ByteArray} (hn : 0 ≤ n) (hn2 : n ≤ 100) (hi : (i : Int) < n + 3) (hk : nameOk k = true) (h : FailsAt n i st) :
    FailsAt n (i + 1) (appendD st k [2]).1 ∧ ((i : Int) = n → (appendD st k [2]).2 = 4 ∧ total (appendD st k [2]).1.fs = total st.fs) ∧ ((i : Int) ≠ n → (appendD st k [2]).2 = 0 ∧ total (appendD st k [2]).1.fs = total st.fs + 1) := by
  have hinv := appendD_inv h.inv k [2]
  obtain ⟨room, fs, fail, arm, off⟩ := st
  obtain ⟨_, hr, hs, ha, ho, hf⟩ := h
  simp only at hr hs ha ho hf
  subst hr ha ho
  by_cases hin : (i : Int) = n
  · have hf0 : fail = 0 := by rw [hf, if_pos (by omega)]; omega
    subst hf0
    rw [append_fail [2] hk] at hinv ⊢
    refine ⟨⟨hinv, rfl, by simp only; omega, rfl, rfl, ?_⟩, fun _ => ⟨rfl, rfl⟩, fun hne => absurd hin hne⟩
    rw [if_neg (by omega)]
  · have e : (metN fail).2 = false ∧ (metN fail).1 = if ((i + 1 : Nat) : Int) ≤ n then n - (i + 1 : Nat) else -1 := by
      by_cases hlt : (i : Int) ≤ n
      · have hfi : fail = n - i := by rw [hf, if_pos hlt]
        have h1 : ¬ (fail == -1) = true := by simp; omega
        unfold metN
        rw [if_neg h1, if_pos (by omega)]
        exact ⟨by simp; omega, by simp only; omega⟩
      · have hfi : fail = -1 := by rw [hf, if_neg hlt]
        rw [hfi, if_neg (by omega)]; exact ⟨rfl, rfl⟩
    have ht := putB_total k [2] fs
    simp only [List.length_cons, List.length_nil] at ht
    rw [append_done hk e.1 (by simp; omega), e.2] at hinv ⊢
    refine ⟨⟨hinv, rfl, by simp only; omega, rfl, rfl, rfl⟩, fun h => absurd h hin, fun _ => ⟨rfl, by simp only; omega⟩⟩

end Go.Proofs.YtgfneeoponiibaaGreat
/- The disk: Sync, Unlink, Rename, Read. Condition: none. -/
namespace Go.Proofs.YtgfneeoponiibaaGreat
open Go Go.VC

variable {R : Cx} {Hs Rest : List HP} {w : World}

instance TakeP.app {b : Nat} {X Hs : List HP} {o : Obj} {Rest : List HP} [t : TakeP b Hs o Rest] : TakeP b (X ++ Hs) o (X ++ Rest) :=
  ⟨(t.perm.append_left X).trans List.perm_middle⟩

/-- The boxes of a change of one name. -/
abbrev bx (bm bn bd d : Nat) (v : Value) (k : ByteArray) (Hs : List HP) : List HP :=
  box bm v 158 :: box bn (.string k) 9 :: box bd (.pointer (some ⟨d, 0, none⟩)) 38 :: Hs

theorem with_spec {d : Nat} {k : ByteArray} {v : Value} (hv : v.cells = #[v]) (hw : Sat R Hs w) :
    Gets Tryz.prog 115 #[.pointer (some ⟨d, 0, none⟩), .string k, v] w fun r w' => ∃ bm bn bd, r = .func (.func 129) #[] #[.pointer (some ⟨bd, 0, none⟩), .pointer (some ⟨bn, 0, none⟩), .pointer (some ⟨bm, 0, none⟩)] ∧ Sat R (bx bm bn bd d v k Hs) w' := by
  apply call115
  refine new_rule hw fun bd w hw => new_rule hw fun bn w hw => ?_
  rw [hv]
  exact new_rule hw fun bm w hw => ⟨bm, bn, bd, rfl, hw⟩

theorem with1_spec {d bm bn bd : Nat} {st : DS} {k : ByteArray} {v : Value} {Q : Int → World → Prop} (hw : Sat R (DiskAt d st :: bx bm bn bd d v k Hs) w)
    (hm : ∀ m a q f b w, getM k a = none → er (a ++ (k, q, f) :: b) = st.fs → Sat R (DO d m (a ++ (k, q, f) :: b) st (bx bm bn bd d v k Hs)) w →
      CalW Tryz.prog cl v [.pointer (some ⟨q, 0, none⟩)] w (fun e w' => e = .returned (.tuple #[]) ∧ Q 0 w'))
    (hn : getM k st.fs = none → ∀ w, Sat R (DiskAt d st :: bx bm bn bd d v k Hs) w → Q 2 w) :
    Gets Tryz.prog 129 #[.pointer (some ⟨bd, 0, none⟩), .pointer (some ⟨bn, 0, none⟩), .pointer (some ⟨bm, 0, none⟩)] w fun r w' => ∃ n : Int, r = .int .i64 n ∧ Q n w' := by
  apply call129
  obtain ⟨m, E, hE, hw⟩ := Sat.disk.1 hw
  refine drw_rule hw fun w hw => ?_
  refine NilP.mk rfl ⟨some ⟨d, 0, none⟩, At.own selfS (by exact ⟨rfl, trivial⟩), NilP.mk rfl ⟨some m, At.own selfS (by exact ⟨rfl, trivial⟩), NilP.mk rfl ⟨k, At.own selfS (by exact ⟨rfl, trivial⟩), _, _, fun w' hw' => DO.look hw' k true, ?_⟩⟩⟩
  refine Br.mk (fun hk => ?_) (fun hk => ?_)
  · simp only [Bool.not_eq_true', Option.isSome_eq_false_iff, Option.isNone_iff_eq_none] at hk
    exact ⟨2, rfl, hn (by rw [← hE, er_get, hk]; rfl) w (Sat.disk.2 ⟨m, E, hE, hw⟩)⟩
  · simp only [Bool.not_eq_false'] at hk
    obtain ⟨⟨q, f⟩, hf⟩ := Option.isSome_iff_exists.1 hk
    obtain ⟨a, b, rfl, ha⟩ := getM_split hf
    rw [hf]
    refine NilP.mk rfl ⟨v, At.own (eqS hw) (by exact ⟨rfl, trivial⟩), (hm m a q f b w ha hE hw).mono ?_⟩
    rintro _ w ⟨rfl, hq⟩
    exact ⟨rfl, 0, rfl, hq⟩

/-- A change of one name, with a function that is called on its file. -/
theorem one_spec {d : Nat} {st : DS} {k : ByteArray} {v : Value} (g : DS → DS × Int) (i : Inv st) (hv : v.cells = #[v]) (hw : Sat R (DiskAt d st :: Hs) w)
    (hm : ∀ (R : Cx) (X : List HP) st m a q f b w, Inv st → getM k a = none → er (a ++ (k, q, f) :: b) = st.fs → Sat R (DO d m (a ++ (k, q, f) :: b) st (X ++ Hs)) w →
      CalW Tryz.prog cl v [.pointer (some ⟨q, 0, none⟩)] w (fun e w' => e = .returned (.tuple #[]) ∧ (g st).2 = 0 ∧ Sat R (DiskAt d (g st).1 :: (X ++ Hs)) w'))
    (hn : ∀ st, getM k st.fs = none → g st = (st, 2)) :
    Gets Tryz.prog 115 #[.pointer (some ⟨d, 0, none⟩), .string k, v] w fun c w => ∃ Hs', Sat R (DiskAt d st :: Hs') w ∧ (∀ R w, Sat R Hs' w → Sat R Hs w) ∧
      ∀ (R' : Cx) (s : Sl) (ks : List ByteArray) w, Sat R' (DiskAt d st :: Hs') w → Ro R' s (ks.map Value.string) → ks.length ≤ 1000 →
        Gets Tryz.prog 65 #[.pointer (some ⟨d, 0, none⟩), c, .slice s.a s.len s.cap] w fun r w' => r = .int .i64 (doing st (ks.all nameOk) g).2 ∧ Sat R' (DiskAt d (doing st (ks.all nameOk) g).1 :: Hs') w' := by
  refine (with_spec hv hw).mono ?_
  rintro _ w ⟨bm, bn, bd, rfl, hw⟩
  refine ⟨bx bm bn bd d v k Hs, hw.take (DiskAt d st), fun R w h => h.drop.drop.drop, fun R' s ks w hw hs hks => ?_⟩
  refine (change_spec (Q := fun n w => n = (doing st (ks.all nameOk) g).2 ∧ Sat R' (DiskAt d (doing st (ks.all nameOk) g).1 :: bx bm bn bd d v k Hs) w) hw i.toCounts hs hks ?_ ?_).mono ?_
  · intro h0 w hw
    have e : doing st (ks.all nameOk) g = g (chg st (ks.all nameOk)).1 := if_pos h0
    rw [e]
    show Calls Tryz.prog _ _ w _
    refine (with1_spec (Q := fun n w => n = (g (chg st (ks.all nameOk)).1).2 ∧ Sat R' (DiskAt d (g (chg st (ks.all nameOk)).1).1 :: bx bm bn bd d v k Hs) w) hw ?_ ?_).use ?_
    · intro m a q f b w ha hE hw
      refine (hm R' [box bm v 158, box bn (.string k) 9, box bd (.pointer (some ⟨d, 0, none⟩)) 38 ] _ m a q f b w (chg_inv i _) ha hE hw).mono ?_
      rintro _ w ⟨rfl, h1, h2⟩
      exact ⟨rfl, h1.symm, h2⟩
    · intro hnone w hw
      rw [hn _ hnone]; exact ⟨rfl, hw⟩
    · rintro _ w ⟨n, rfl, hq⟩; exact ⟨n, rfl, hq⟩
  · intro e h0 hne w hw
    have e2 : doing st (ks.all nameOk) g = chg st (ks.all nameOk) := if_neg (by rw [h0]; exact hne)
    rw [e2]; exact ⟨h0.symm, hw⟩
  · rintro _ w ⟨n, rfl, rfl, hw⟩; exact ⟨rfl, hw⟩

end Go.Proofs.YtgfneeoponiibaaGreat
/- The disk: Sync, Unlink, Rename. Condition: none. -/
namespace Go.Proofs.YtgfneeoponiibaaGreat
open Go Go.VC

variable {R : Cx} {Hs Rest : List HP} {w : World}

theorem updM_total {k : ByteArray} {g : Fl → Fl} (hg : ∀ f, (g f).b.length = f.b.length) : ∀ fs : Fs, total (updM k g fs) = total fs
  | [] => rfl
  | e :: fs => by
    rw [updM]
    split
    · rw [total_cons, total_cons, hg]
    · rw [total_cons, total_cons, updM_total hg fs]
theorem delM_total (k : ByteArray) : ∀ fs : Fs, total (delM k fs) ≤ total fs
  | [] => Int.le_refl _
  | e :: fs => by
    rw [delM]
    split
    · rw [total_cons]; omega
    · rw [total_cons, total_cons]; have := delM_total k fs; omega

/-! ### Sync -/

def syncG (k : ByteArray) (st : DS) : DS × Int := if (getM k st.fs).isSome then ({ st with fs := updM k (fun f => { f with sure := f.b.length }) st.fs }, 0) else (st, 2)
def syncD (st : DS) (k : ByteArray) : DS × Int := doing st (nameOk k) (syncG k)

theorem sync1_spec {d m q : Nat} {st : DS} {a b : List DE} {k : ByteArray} {f : Fl} (ha : getM k a = none) (hE : er (a ++ (k, q, f) :: b) = st.fs) (hw : Sat R (DO d m (a ++ (k, q, f) :: b) st Hs) w) :
    Gets Tryz.prog 118 #[.pointer (some ⟨q, 0, none⟩)] w fun r w' => r = .tuple #[] ∧ (syncG k st).2 = 0 ∧ Sat R (DiskAt d (syncG k st).1 :: Hs) w' := by
  have hk : getM k st.fs = some f := by rw [← hE, er_app, er_cons, getM_app (by rw [er_get, ha]; rfl) (ba_rfl k)]
  have e : syncG k st = ({ st with fs := updM k (fun f => { f with sure := f.b.length }) st.fs }, 0) := if_pos (by rw [hk]; rfl)
  rw [e]
  have hw : Sat R (FilesAt (a ++ (k, q, f) :: b) :: pts d (dCells st m) :: MapAt m (ptrs (a ++ (k, q, f) :: b)) :: Hs) w := (hw.cons fun _ h => h.swap).swap
  obtain ⟨s, hw⟩ := Sat.file.1 (Sat.split.1 hw)
  apply call118
  have hlen : s.len = f.b.length := by have := Own.len hw.swap; rwa [List.length_map] at this
  refine NilP.mk rfl ⟨s, by rw [add_off]; exact At.own (eqS hw) (by exact ⟨rfl, trivial⟩), NilP.mk rfl ?_⟩
  refine store_rule hw (by kernel_rfl) rfl (by simp [Value.cells]) fun w hw => ⟨rfl, rfl, ?_⟩
  have hw : Sat R (pts q (.cells [.slice s.a s.len s.cap, .int .i64 (f.b.length : Nat)].toArray 97 (0, 0)) :: Own s 5 (b8 f.b) :: FilesAt (a ++ b) :: pts d (dCells st m) :: MapAt m (ptrs (a ++ (k, q, f) :: b)) :: Hs) w := by
    rw [← hlen]; exact hw
  have hw : Sat R (FilesAt (a ++ (k, q, { f with sure := f.b.length }) :: b) :: pts d (dCells st m) :: MapAt m (ptrs (a ++ (k, q, f) :: b)) :: Hs) w := Sat.split.2 (Sat.file.2 ⟨s, hw⟩)
  refine Sat.disk.2 ⟨m, a ++ (k, q, { f with sure := f.b.length }) :: b, ?_, ?_⟩
  · rw [← hE, er_app, er_cons, er_app, er_cons, updM_app]
    rw [er_get, ha]; rfl
  · have ep : ptrs (a ++ (k, q, { f with sure := f.b.length }) :: b) = ptrs (a ++ (k, q, f) :: b) := by simp [ptrs]
    rw [ep]
    unfold dCells
    simp only [updM_total (g := fun f => { f with sure := f.b.length }) (fun _ => rfl)]
    exact hw.swap.cons fun _ h => h.swap

/-- The name of a change of one. -/
theorem sync_spec {d : Nat} {st : DS} {k : ByteArray} (i : Inv st) (hw : Sat R (DiskAt d st :: Hs) w) :
    Gets Tryz.prog 89 #[.pointer (some ⟨d, 0, none⟩), .string k] w fun r w' => r = .int .i64 (syncD st k).2 ∧ Sat R (DiskAt d (syncD st k).1 :: Hs) w' := by
  apply call89
  refine (one_spec (v := .func (.func 118) #[] #[]) (syncG k) i rfl hw ?_ ?_).use ?_
  · intro R X st m a q f b w _ ha hE hw
    show Calls Tryz.prog _ _ w _
    refine (sync1_spec ha hE hw).use ?_
    rintro _ w ⟨rfl, h⟩; exact ⟨rfl, h⟩
  · intro st h; unfold syncG; rw [h]; rfl
  · rintro c w ⟨Hs', hw, back, k2⟩
    refine ⟨c, rfl, new_rule hw fun bt w hw => ?_⟩
    obtain ⟨hc, hw⟩ := Sat.lend.1 hw
    refine (k2 _ _ [k] w hw (ro_one hc) (by simp)).use ?_
    rw [all_one]
    rintro _ w ⟨rfl, hw⟩
    exact ⟨_, rfl, rfl, (Sat.lend.2 ⟨hc, hw⟩).drop.cons fun _ h => back _ _ h⟩

theorem sync_inv {st : DS} (i : Inv st) (k : ByteArray) : Inv (syncD st k).1 := by
  have hg : ∀ {st}, Inv st → Inv (syncG k st).1 := fun {st} i => by
    unfold syncG
    split
    · exact { toCounts := ⟨i.a0, i.a1, i.f0, i.f1⟩, r0 := i.r0, r1 := i.r1, full := by simp only; rw [updM_total (g := fun f => { f with sure := f.b.length }) (fun _ => rfl)]; exact i.full, uni := uni_upd i.uni, names := by simp only [updM_keys]; exact i.names, sure := sure_upd (fun f _ => Nat.le_refl _) i.sure }
    · exact i
  unfold syncD doing
  split
  · exact hg (chg_inv i _)
  · exact chg_inv i _

/-! ### A file is gone -/

theorem gone_spec {d : Nat} {st : DS} (i : Inv st) (k : ByteArray) (hw : Sat R (DiskAt d st :: Hs) w) :
    Gets Tryz.prog 117 #[.pointer (some ⟨d, 0, none⟩), .string k] w fun r w' => r = .tuple #[] ∧ Sat R (DiskAt d { st with fs := delM k st.fs } :: Hs) w' := by
  obtain ⟨m, E, hE, hw⟩ := Sat.disk.1 hw
  have hnn := total_nn st.fs
  have r1 := i.r1; have hfull := i.full
  apply call117
  refine NilP.mk rfl ⟨some m, At.own (eqS hw) (by exact ⟨rfl, trivial⟩), _, _, fun w' hw' => DO.look (eqS hw _ hw') k true, ?_⟩
  refine Br.mk (fun hk => ?_) (fun hk => ?_)
  · obtain ⟨⟨q, f⟩, hf⟩ := Option.isSome_iff_exists.1 hk
    obtain ⟨a, b, rfl, ha⟩ := getM_split hf
    rw [hf]
    have ht : total st.fs = total (er a ++ er b) + f.b.length := by rw [← hE, er_app, er_cons, total_one]
    have hnn2 := total_nn (er a ++ er b)
    have hw : Sat R (FilesAt (a ++ (k, q, f) :: b) :: pts d (dCells st m) :: MapAt m (ptrs (a ++ (k, q, f) :: b)) :: Hs) w := (hw.cons fun _ h => h.swap).swap
    obtain ⟨s, hw⟩ := Sat.file.1 (Sat.split.1 hw)
    have hlen : s.len = f.b.length := by have := Own.len hw.swap; rwa [List.length_map] at this
    refine drw_rule hw fun w hw => ?_
    refine NilP.mk rfl ⟨total st.fs, At.own selfS (by exact ⟨rfl, trivial⟩), NilP.mk rfl ⟨s, by rw [add_off]; exact At.own selfS (by exact ⟨rfl, trivial⟩), NilP.mk rfl ?_⟩⟩
    rw [wrap64 (by omega) (by omega)]
    refine store_rule hw (by kernel_rfl) rfl (by simp [Value.cells]) fun w hw => NilP.mk rfl ⟨some m, At.own (eqS hw) (by exact ⟨rfl, trivial⟩), ?_⟩
    refine MapAt.del mapT (hw.take (MapAt m (ptrs (a ++ (k, q, f) :: b)))) k fun w hw => ⟨rfl, ?_⟩
    have ep : delM k (ptrs (a ++ (k, q, f) :: b)) = ptrs (a ++ b) := by
      rw [ptrs_app, show ptrs ((k, q, f) :: b) = (k, Value.pointer (some ⟨q, 0, none⟩)) :: ptrs b from rfl, delM_app (by rw [ptrs_get, ha]; rfl) (ba_rfl k), ← ptrs_app]
    have ef : delM k st.fs = er (a ++ b) := by rw [← hE, er_app, er_cons, delM_app (by rw [er_get, ha]; rfl) (ba_rfl k), ← er_app]
    rw [ep] at hw
    refine Sat.disk.2 ⟨m, a ++ b, ef.symm, ?_⟩
    unfold dCells
    simp only [ef, er_app]
    have e3 : total st.fs - (s.len : Int) = total (er a ++ er b) := by omega
    rw [e3] at hw
    exact hw.swap.cons fun _ h => h.cons fun _ h => h.drop.drop
  · simp only [Option.isSome_eq_false_iff, Option.isNone_iff_eq_none] at hk
    have e : delM k st.fs = st.fs := by
      have hk2 : getM k st.fs = none := by rw [← hE, er_get, hk]; rfl
      have : ∀ l : Fs, getM k l = none → delM k l = l := fun l => by
        induction l with
        | nil => intro _; rfl
        | cons e l ih =>
          intro h
          rw [getM] at h
          split at h
          · cases h
          · rename_i hne; rw [delM, if_neg hne, ih h]
      exact this _ hk2
    refine ⟨rfl, ?_⟩
    rw [e]; exact Sat.disk.2 ⟨m, E, hE, hw⟩

end Go.Proofs.YtgfneeoponiibaaGreat
