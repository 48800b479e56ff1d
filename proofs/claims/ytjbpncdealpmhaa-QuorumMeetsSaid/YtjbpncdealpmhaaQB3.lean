/- The formulas of functions of this seat's translation, printed by a program of mine off the translation; each is proved equal to 'fnF' of the function's body, so it is enough for the call. No condition. -/
import Derived.Test.YtjbpncdealpmhaaQB1
namespace Go.Proofs.Ytjbpncdealpmhaa
open Go Go.VC
set_option linter.unusedVariables false
/-- jetway/quorum.Change. -/
def B23 (g0_0 : Sl) (g0_1 : Sl) (kind1 : Int) (node2 : Int) (K : Value → World → Prop) (w : World) : Prop :=
  New (.cells #[.slice g0_0.a g0_0.len g0_0.cap, .slice g0_1.a g0_1.len g0_1.cap] 24 (0, 0)) (fun b_g3 w_1 =>
  New (.cells #[.int .i64 node2] 3 (0, 0)) (fun b_node5 w_2 =>
  New (.cells #[.slice none 0 0, .slice none 0 0] 24 (0, 0)) (fun b_t6 w_3 =>
  ∃ (J : World → Prop), (∃ t13 : Sl, ∃ t13_1 : Sl, (At (fun w' => w' = w_3) ⟨b_g3, 0, none⟩ [.slice t13.a t13.len t13.cap, .slice t13_1.a t13_1.len t13_1.cap]) ∧
    Calls Try.prog 12 #[.agg #[.slice t13.a t13.len t13.cap, .slice t13_1.a t13_1.len t13_1.cap]] w_3 fun e w_4 =>
    ∃ t14 : Bool, (e = .returned (.bool t14)) ∧
    Br (!t14)
     (∃ w_5 : World, ((Instr.storeAt 24 (.pointer ((some ⟨b_t6, 0, none⟩))) (.agg #[.slice none 0 0, .slice none 0 0])).run Try.prog w_4 = .ok () w_5) ∧
      ∃ t7 : Sl, ∃ t7_1 : Sl, (At (fun w' => w' = w_5) ⟨b_t6, 0, none⟩ [.slice t7.a t7.len t7.cap, .slice t7_1.a t7_1.len t7_1.cap]) ∧
      K (.tuple #[.agg #[.slice t7.a t7.len t7.cap, .slice t7_1.a t7_1.len t7_1.cap], .int .i64 1]) w_5)
     (Br (decide (kind1 < 1))
       (∃ w_6 : World, ((Instr.storeAt 24 (.pointer ((some ⟨b_t6, 0, none⟩))) (.agg #[.slice none 0 0, .slice none 0 0])).run Try.prog w_4 = .ok () w_6) ∧
        ∃ t7_2 : Sl, ∃ t7_3 : Sl, (At (fun w' => w' = w_6) ⟨b_t6, 0, none⟩ [.slice t7_2.a t7_2.len t7_2.cap, .slice t7_3.a t7_3.len t7_3.cap]) ∧
        K (.tuple #[.agg #[.slice t7_2.a t7_2.len t7_2.cap, .slice t7_3.a t7_3.len t7_3.cap], .int .i64 1]) w_6)
       (Br (decide (kind1 > 3))
         (∃ w_7 : World, ((Instr.storeAt 24 (.pointer ((some ⟨b_t6, 0, none⟩))) (.agg #[.slice none 0 0, .slice none 0 0])).run Try.prog w_4 = .ok () w_7) ∧
          ∃ t7_4 : Sl, ∃ t7_5 : Sl, (At (fun w' => w' = w_7) ⟨b_t6, 0, none⟩ [.slice t7_4.a t7_4.len t7_4.cap, .slice t7_5.a t7_5.len t7_5.cap]) ∧
          K (.tuple #[.agg #[.slice t7_4.a t7_4.len t7_4.cap, .slice t7_5.a t7_5.len t7_5.cap], .int .i64 1]) w_7)
         (∃ t25 : Int, (At (fun w' => w' = w_4) ⟨b_node5, 0, none⟩ [.int .i64 t25]) ∧
          Br (decide (t25 < 1))
           (∃ w_8 : World, ((Instr.storeAt 24 (.pointer ((some ⟨b_t6, 0, none⟩))) (.agg #[.slice none 0 0, .slice none 0 0])).run Try.prog w_4 = .ok () w_8) ∧
            ∃ t7_6 : Sl, ∃ t7_7 : Sl, (At (fun w' => w' = w_8) ⟨b_t6, 0, none⟩ [.slice t7_6.a t7_6.len t7_6.cap, .slice t7_7.a t7_7.len t7_7.cap]) ∧
            K (.tuple #[.agg #[.slice t7_6.a t7_6.len t7_6.cap, .slice t7_7.a t7_7.len t7_7.cap], .int .i64 1]) w_8)
           (∃ t29 : Int, (At (fun w' => w' = w_4) ⟨b_node5, 0, none⟩ [.int .i64 t29]) ∧
            Br (decide (t29 > 15))
             (∃ w_9 : World, ((Instr.storeAt 24 (.pointer ((some ⟨b_t6, 0, none⟩))) (.agg #[.slice none 0 0, .slice none 0 0])).run Try.prog w_4 = .ok () w_9) ∧
              ∃ t7_8 : Sl, ∃ t7_9 : Sl, (At (fun w' => w' = w_9) ⟨b_t6, 0, none⟩ [.slice t7_8.a t7_8.len t7_8.cap, .slice t7_9.a t7_9.len t7_9.cap]) ∧
              K (.tuple #[.agg #[.slice t7_8.a t7_8.len t7_8.cap, .slice t7_9.a t7_9.len t7_9.cap], .int .i64 1]) w_9)
             (J  w_4)))))) ∧
  ∀ (z : Env)  (w_10 : World), J  w_10 →
  Drw w_10 fun S w_11 =>
  ∃ t34 : Sl, (At S ⟨b_g3, 0, none⟩ [.slice t34.a t34.len t34.cap]) ∧
  ∃ t36 : Int, (At S ⟨b_node5, 0, none⟩ [.int .i64 t36]) ∧
  ∃ t39 : Sl, (At S ⟨b_g3, 0 + 1, none⟩ [.slice t39.a t39.len t39.cap]) ∧
  ∃ t41 : Int, (At S ⟨b_node5, 0, none⟩ [.int .i64 t41]) ∧
  Calls Try.prog 28 #[.slice t34.a t34.len t34.cap] w_11 fun e_1 w_12 =>
  ∃ t35 : Value, (e_1 = .returned (t35)) ∧
  (S w_12) ∧
  CalW Try.prog cl t35 [.int .i64 t36] w_12 fun e_2 w_13 =>
  ∃ t37 : Bool, (e_2 = .returned (.bool t37)) ∧
  (S w_13) ∧
  Calls Try.prog 28 #[.slice t39.a t39.len t39.cap] w_13 fun e_3 w_14 =>
  ∃ t40 : Value, (e_3 = .returned (t40)) ∧
  (S w_14) ∧
  CalW Try.prog cl t40 [.int .i64 t41] w_14 fun e_4 w_15 =>
  ∃ t42 : Bool, (e_4 = .returned (.bool t42)) ∧
  (S w_15) ∧
  ∃ (J_1 : Option Addr → World → Prop), (Drw w_15 fun S_1 w_16 =>
    ∃ t45 : Sl, (At S_1 ⟨b_g3, 0, none⟩ [.slice t45.a t45.len t45.cap]) ∧
    ∃ t50 : Sl, (At S_1 ⟨b_g3, 0 + 1, none⟩ [.slice t50.a t50.len t50.cap]) ∧
    (Calls Try.prog 34 #[.slice t45.a t45.len t45.cap] w_16 fun e_5 w_17 =>
    ∃ t46 : Sl, (e_5 = .returned (.slice t46.a t46.len t46.cap)) ∧
    (S_1 w_17) ∧
    (Calls Try.prog 33 #[.slice t46.a t46.len t46.cap, .func (.func 32) #[] #[.pointer ((some ⟨b_node5, 0, none⟩))]] w_17 fun e_6 w_18 =>
    ∃ t48 : Sl, (e_6 = .returned (.slice t48.a t48.len t48.cap)) ∧
    (S_1 w_18) ∧
    (Calls Try.prog 34 #[.slice t50.a t50.len t50.cap] w_18 fun e_7 w_19 =>
    ∃ t51 : Sl, (e_7 = .returned (.slice t51.a t51.len t51.cap)) ∧
    (S_1 w_19) ∧
    (Calls Try.prog 33 #[.slice t51.a t51.len t51.cap, .func (.func 32) #[] #[.pointer ((some ⟨b_node5, 0, none⟩))]] w_19 fun e_8 w_20 =>
    ∃ t53 : Sl, (e_8 = .returned (.slice t53.a t53.len t53.cap)) ∧
    (S_1 w_20) ∧
    New (.cells #[.slice none 0 0, .slice none 0 0] 24 (0, 0)) (fun b_out11 w_21 =>
    (S_1 w_21) ∧
    ∃ w_22 : World, ((Instr.storeAt 24 (.pointer ((some ⟨b_out11, 0, none⟩))) (.agg #[.slice t48.a t48.len t48.cap, .slice t53.a t53.len t53.cap])).run Try.prog w_21 = .ok () w_22) ∧
    J_1 ((some ⟨b_out11, 0, none⟩)) w_22) w_20) ∧
    New (.cells #[.slice none 0 0, .slice none 0 0] 24 (0, 0)) (fun b_out11_1 w_23 =>
    (S_1 w_23) ∧
    Calls Try.prog 33 #[.slice t51.a t51.len t51.cap, .func (.func 32) #[] #[.pointer ((some ⟨b_node5, 0, none⟩))]] w_23 fun e_9 w_24 =>
    ∃ t53_1 : Sl, (e_9 = .returned (.slice t53_1.a t53_1.len t53_1.cap)) ∧
    (S_1 w_24) ∧
    ∃ w_25 : World, ((Instr.storeAt 24 (.pointer ((some ⟨b_out11_1, 0, none⟩))) (.agg #[.slice t48.a t48.len t48.cap, .slice t53_1.a t53_1.len t53_1.cap])).run Try.prog w_24 = .ok () w_25) ∧
    J_1 ((some ⟨b_out11_1, 0, none⟩)) w_25) w_19) ∧
    New (.cells #[.slice none 0 0, .slice none 0 0] 24 (0, 0)) (fun b_out11_2 w_26 =>
    (S_1 w_26) ∧
    Calls Try.prog 34 #[.slice t50.a t50.len t50.cap] w_26 fun e_10 w_27 =>
    ∃ t51_1 : Sl, (e_10 = .returned (.slice t51_1.a t51_1.len t51_1.cap)) ∧
    (S_1 w_27) ∧
    Calls Try.prog 33 #[.slice t51_1.a t51_1.len t51_1.cap, .func (.func 32) #[] #[.pointer ((some ⟨b_node5, 0, none⟩))]] w_27 fun e_11 w_28 =>
    ∃ t53_2 : Sl, (e_11 = .returned (.slice t53_2.a t53_2.len t53_2.cap)) ∧
    (S_1 w_28) ∧
    ∃ w_29 : World, ((Instr.storeAt 24 (.pointer ((some ⟨b_out11_2, 0, none⟩))) (.agg #[.slice t48.a t48.len t48.cap, .slice t53_2.a t53_2.len t53_2.cap])).run Try.prog w_28 = .ok () w_29) ∧
    J_1 ((some ⟨b_out11_2, 0, none⟩)) w_29) w_18) ∧
    New (.cells #[.slice none 0 0, .slice none 0 0] 24 (0, 0)) (fun b_out11_3 w_30 =>
    (S_1 w_30) ∧
    Calls Try.prog 33 #[.slice t46.a t46.len t46.cap, .func (.func 32) #[] #[.pointer ((some ⟨b_node5, 0, none⟩))]] w_30 fun e_12 w_31 =>
    ∃ t48_1 : Sl, (e_12 = .returned (.slice t48_1.a t48_1.len t48_1.cap)) ∧
    (S_1 w_31) ∧
    Calls Try.prog 34 #[.slice t50.a t50.len t50.cap] w_31 fun e_13 w_32 =>
    ∃ t51_2 : Sl, (e_13 = .returned (.slice t51_2.a t51_2.len t51_2.cap)) ∧
    (S_1 w_32) ∧
    Calls Try.prog 33 #[.slice t51_2.a t51_2.len t51_2.cap, .func (.func 32) #[] #[.pointer ((some ⟨b_node5, 0, none⟩))]] w_32 fun e_14 w_33 =>
    ∃ t53_3 : Sl, (e_14 = .returned (.slice t53_3.a t53_3.len t53_3.cap)) ∧
    (S_1 w_33) ∧
    ∃ w_34 : World, ((Instr.storeAt 24 (.pointer ((some ⟨b_out11_3, 0, none⟩))) (.agg #[.slice t48_1.a t48_1.len t48_1.cap, .slice t53_3.a t53_3.len t53_3.cap])).run Try.prog w_33 = .ok () w_34) ∧
    J_1 ((some ⟨b_out11_3, 0, none⟩)) w_34) w_17) ∧
    New (.cells #[.slice none 0 0, .slice none 0 0] 24 (0, 0)) (fun b_out11_4 w_35 =>
    (S_1 w_35) ∧
    Calls Try.prog 34 #[.slice t45.a t45.len t45.cap] w_35 fun e_15 w_36 =>
    ∃ t46_1 : Sl, (e_15 = .returned (.slice t46_1.a t46_1.len t46_1.cap)) ∧
    (S_1 w_36) ∧
    Calls Try.prog 33 #[.slice t46_1.a t46_1.len t46_1.cap, .func (.func 32) #[] #[.pointer ((some ⟨b_node5, 0, none⟩))]] w_36 fun e_16 w_37 =>
    ∃ t48_2 : Sl, (e_16 = .returned (.slice t48_2.a t48_2.len t48_2.cap)) ∧
    (S_1 w_37) ∧
    Calls Try.prog 34 #[.slice t50.a t50.len t50.cap] w_37 fun e_17 w_38 =>
    ∃ t51_3 : Sl, (e_17 = .returned (.slice t51_3.a t51_3.len t51_3.cap)) ∧
    (S_1 w_38) ∧
    Calls Try.prog 33 #[.slice t51_3.a t51_3.len t51_3.cap, .func (.func 32) #[] #[.pointer ((some ⟨b_node5, 0, none⟩))]] w_38 fun e_18 w_39 =>
    ∃ t53_4 : Sl, (e_18 = .returned (.slice t53_4.a t53_4.len t53_4.cap)) ∧
    (S_1 w_39) ∧
    ∃ w_40 : World, ((Instr.storeAt 24 (.pointer ((some ⟨b_out11_4, 0, none⟩))) (.agg #[.slice t48_2.a t48_2.len t48_2.cap, .slice t53_4.a t53_4.len t53_4.cap])).run Try.prog w_39 = .ok () w_40) ∧
    J_1 ((some ⟨b_out11_4, 0, none⟩)) w_40) w_16) ∧
  ∀ (z_1 : Env) (out11 : Option Addr) (w_41 : World), J_1 out11 w_41 →
  ∃ (J_2 : Bool → World → Prop), (Br (kind1 == 1)
     (Br (!t37)
       (NilP out11 fun a_t64 =>
        ∃ t65 : Sl, (At (fun w' => w' = w_41) ⟨a_t64.block, a_t64.off + 1, none⟩ [.slice t65.a t65.len t65.cap]) ∧
        ∃ t66 : Int, (At (fun w' => w' = w_41) ⟨b_node5, 0, none⟩ [.int .i64 t66]) ∧
        New (.cells #[.int .i64 t66] 3 (0, 0)) (fun b_t67 w_42 =>
        ∃ w_43 : World, ∃ t68 : Sl, ((Builtin.append_ #[22, 22] 22 #[.slice t65.a t65.len t65.cap, .slice ((some ⟨b_t67, 0, none⟩)) 1 1]).run Try.prog w_42 = .ok (.slice t68.a t68.len t68.cap) w_43) ∧
        NilP out11 fun a_t69 =>
        ∃ w_44 : World, ((Instr.storeAt 22 (.pointer ((some ⟨a_t69.block, a_t69.off + 1, none⟩))) (.slice t68.a t68.len t68.cap)).run Try.prog w_43 = .ok () w_44) ∧
        J_2 (!t42) w_44) w_41)
       (NilP out11 fun a_t64_1 =>
        ∃ t65_1 : Sl, (At (fun w' => w' = w_41) ⟨a_t64_1.block, a_t64_1.off + 1, none⟩ [.slice t65_1.a t65_1.len t65_1.cap]) ∧
        ∃ t66_1 : Int, (At (fun w' => w' = w_41) ⟨b_node5, 0, none⟩ [.int .i64 t66_1]) ∧
        New (.cells #[.int .i64 t66_1] 3 (0, 0)) (fun b_t67_1 w_45 =>
        ∃ w_46 : World, ∃ t68_1 : Sl, ((Builtin.append_ #[22, 22] 22 #[.slice t65_1.a t65_1.len t65_1.cap, .slice ((some ⟨b_t67_1, 0, none⟩)) 1 1]).run Try.prog w_45 = .ok (.slice t68_1.a t68_1.len t68_1.cap) w_46) ∧
        NilP out11 fun a_t69_1 =>
        ∃ w_47 : World, ((Instr.storeAt 22 (.pointer ((some ⟨a_t69_1.block, a_t69_1.off + 1, none⟩))) (.slice t68_1.a t68_1.len t68_1.cap)).run Try.prog w_46 = .ok () w_47) ∧
        J_2 false w_47) w_41))
     (Br (kind1 == 2)
       (NilP out11 fun a_t73 =>
        ∃ t74 : Sl, (At (fun w' => w' = w_41) (Addr.add a_t73 0) [.slice t74.a t74.len t74.cap]) ∧
        ∃ t75 : Int, (At (fun w' => w' = w_41) ⟨b_node5, 0, none⟩ [.int .i64 t75]) ∧
        New (.cells #[.int .i64 t75] 3 (0, 0)) (fun b_t76 w_48 =>
        ∃ w_49 : World, ∃ t77 : Sl, ((Builtin.append_ #[22, 22] 22 #[.slice t74.a t74.len t74.cap, .slice ((some ⟨b_t76, 0, none⟩)) 1 1]).run Try.prog w_48 = .ok (.slice t77.a t77.len t77.cap) w_49) ∧
        NilP out11 fun a_t78 =>
        ∃ w_50 : World, ((Instr.storeAt 22 (.pointer ((some (Addr.add a_t78 0)))) (.slice t77.a t77.len t77.cap)).run Try.prog w_49 = .ok () w_50) ∧
        J_2 t42 w_50) w_41)
       (Br (kind1 == 3)
         (Br t42
           (J_2 true w_41)
           (Br t37
             (NilP out11 fun a_t85 =>
              ∃ t86 : Sl, (At (fun w' => w' = w_41) (Addr.add a_t85 0) [.slice t86.a t86.len t86.cap]) ∧
              J_2 (decide ((↑t86.len : Int) > 0)) w_41)
             (J_2 false w_41)))
         (J_2 false w_41)))) ∧
  ∀ (z_2 : Env) (may12 : Bool) (w_51 : World), J_2 may12 w_51 →
  Br (!may12)
   (∃ w_52 : World, ((Instr.storeAt 24 (.pointer ((some ⟨b_t6, 0, none⟩))) (.agg #[.slice none 0 0, .slice none 0 0])).run Try.prog w_51 = .ok () w_52) ∧
    ∃ t7_10 : Sl, ∃ t7_11 : Sl, (At (fun w' => w' = w_52) ⟨b_t6, 0, none⟩ [.slice t7_10.a t7_10.len t7_10.cap, .slice t7_11.a t7_11.len t7_11.cap]) ∧
    K (.tuple #[.agg #[.slice t7_10.a t7_10.len t7_10.cap, .slice t7_11.a t7_11.len t7_11.cap], .int .i64 7]) w_52)
   (NilP out11 fun a_t94 =>
    ∃ t95 : Sl, (At (fun w' => w' = w_51) (Addr.add a_t94 0) [.slice t95.a t95.len t95.cap]) ∧
    Calls Try.prog 31 #[.slice t95.a t95.len t95.cap] w_51 fun e_19 w_53 =>
    (e_19 = .returned (.tuple #[])) ∧
    NilP out11 fun a_t97 =>
    ∃ t98 : Sl, (At (fun w' => w' = w_53) ⟨a_t97.block, a_t97.off + 1, none⟩ [.slice t98.a t98.len t98.cap]) ∧
    Calls Try.prog 31 #[.slice t98.a t98.len t98.cap] w_53 fun e_20 w_54 =>
    (e_20 = .returned (.tuple #[])) ∧
    NilP out11 fun a_t100 =>
    ∃ t100 : Sl, ∃ t100_1 : Sl, (At (fun w' => w' = w_54) a_t100 [.slice t100.a t100.len t100.cap, .slice t100_1.a t100_1.len t100_1.cap]) ∧
    ∃ w_55 : World, ((Instr.storeAt 24 (.pointer ((some ⟨b_t6, 0, none⟩))) (.agg #[.slice t100.a t100.len t100.cap, .slice t100_1.a t100_1.len t100_1.cap])).run Try.prog w_54 = .ok () w_55) ∧
    ∃ t7_12 : Sl, ∃ t7_13 : Sl, (At (fun w' => w' = w_55) ⟨b_t6, 0, none⟩ [.slice t7_12.a t7_12.len t7_12.cap, .slice t7_13.a t7_13.len t7_13.cap]) ∧
    K (.tuple #[.agg #[.slice t7_12.a t7_12.len t7_12.cap, .slice t7_13.a t7_13.len t7_13.cap], .int .i64 0]) w_55)) w_2) w_1) w

def sk23 : Sk := (.seq .leaf (.cut [] [] [7, 13, 14, 15, 16, 17, 18, 19, 20, 21, 22, 23, 24, 25, 26, 27, 28, 29, 30, 31, 32] .leaf (.seq .leaf (.seq .leaf (.cut [11] [.ptr] [11, 44, 45, 46, 47, 48, 49, 50, 51, 52, 53, 54] .leaf (.seq .leaf (.cut [12] [.bool] [12, 55, 56, 57, 58, 59, 60, 61, 62, 63, 64, 65, 66, 67, 68, 69, 70, 71, 72, 73, 74, 75, 76, 77, 78, 79, 80, 81, 82, 83, 84, 85, 86, 87, 88, 89, 90] .leaf .leaf)))))))
theorem ok23 : fnOk Try.prog Try.f23.ntmps Try.f23 sk23 = true := by kernel_rfl
theorem eq23 (g0_0 : Sl) (g0_1 : Sl) (kind1 : Int) (node2 : Int) (K : Value → World → Prop) (w : World) : fnF Try.prog cl Try.f23 sk23 [.agg #[.slice g0_0.a g0_0.len g0_0.cap, .slice g0_1.a g0_1.len g0_1.cap], .int .i64 kind1, .int .i64 node2] K w = B23 g0_0 g0_1 kind1 node2 K w := by kernel_rfl
theorem call23 (g0_0 : Sl) (g0_1 : Sl) (kind1 : Int) (node2 : Int) (K : Value → World → Prop) (w : World) (h : B23 g0_0 g0_1 kind1 node2 K w) : Gets Try.prog 23 #[.agg #[.slice g0_0.a g0_0.len g0_0.cap, .slice g0_1.a g0_1.len g0_1.cap], .int .i64 kind1, .int .i64 node2] w K :=
  calls_of (sk := sk23) cl_ok mixed Try.func23 ok23 (args := [.agg #[.slice g0_0.a g0_0.len g0_0.cap, .slice g0_1.a g0_1.len g0_1.cap], .int .i64 kind1, .int .i64 node2]) (Nat.le_of_ble_eq_true (by kernel_rfl)) (by rw [eq23]; exact h)

end Go.Proofs.Ytjbpncdealpmhaa
