/- The formulas of functions of this seat's translation, printed by a program of mine off the translation; each is proved equal to 'fnF' of the function's body, so it is enough for the call. No condition. -/
import Derived.Test.YtaacfjdknlglhaaGreatDoorB3
import Derived.Test.YtaacfjdknlglhaaGreatDoorB2
import Derived.Laws.RangeAny
import Derived.Laws.MakeOwn
import GoSem.Core.Float
import Derived.KernelRfl
namespace Go.Proofs.YtaacfjdknlglhaaGreatDoor
open Go Go.VC
set_option linter.unusedVariables false
/-- jetway/jetwaylaw15.FlightDecodes. -/
def B3 (b0 : Sl) (K : Value → World → Prop) (w : World) : Prop :=
  Calls Tryz.prog 9 #[] w fun e w_1 =>
  ∃ t8 : Bool, (e = .returned (.bool t8)) ∧
  Br (decide ((↑b0.len : Int) > 20000))
   (K (.bool t8) w_1)
   (Calls Tryz.prog 10 #[.slice b0.a b0.len b0.cap] w_1 fun e_1 w_2 =>
    ∃ t15 : Option Addr, ∃ t15_1 : Int, (e_1 = .returned (.tuple #[.pointer t15, .int .i64 t15_1])) ∧
    Calls Tryz.prog 11 #[.slice b0.a b0.len b0.cap] w_2 fun e_2 w_3 =>
    ∃ t20 : Option Addr, ∃ t20_1 : Int, (e_2 = .returned (.tuple #[.pointer t20, .int .i64 t20_1])) ∧
    Br (!t8)
     (K (.bool false) w_3)
     (Br (t15_1 != t20_1)
       (K (.bool false) w_3)
       (Br (!t15.isNone == t20.isNone)
         (K (.bool false) w_3)
         (Br t15.isNone
           (K (.bool true) w_3)
           (Calls Tryz.prog 12 #[.pointer t15, .pointer t20] w_3 fun e_3 w_4 =>
            ∃ t42 : Bool, (e_3 = .returned (.bool t42)) ∧
            K (.bool t42) w_4)))))

def sk3 : Sk := .leaf
theorem ok3 : fnOk Tryz.prog Tryz.f3.ntmps Tryz.f3 sk3 = true := by kernel_rfl
theorem eq3 (b0 : Sl) (K : Value → World → Prop) (w : World) : fnF Tryz.prog cl Tryz.f3 sk3 [.slice b0.a b0.len b0.cap] K w = B3 b0 K w := by kernel_rfl
theorem call3 (b0 : Sl) (K : Value → World → Prop) (w : World) (h : B3 b0 K w) : Gets Tryz.prog 3 #[.slice b0.a b0.len b0.cap] w K :=
  calls_of (sk := sk3) cl_ok mixed Tryz.func3 ok3 (args := [.slice b0.a b0.len b0.cap]) (Nat.le_of_ble_eq_true (by kernel_rfl)) (by rw [eq3]; exact h)

/-- jetway/jetwaylaw15.FlightHolds. -/
def B4 (x0_0 : Int) (x0_1 : Int) (x0_2 : Sl) (x0_3 : Sl) (l1 : Sl) (K : Value → World → Prop) (w : World) : Prop :=
  New (.cells #[.int .i64 x0_0, .int .i64 x0_1, .slice x0_2.a x0_2.len x0_2.cap, .slice x0_3.a x0_3.len x0_3.cap] 38 (0, 0)) (fun b_x2 w_1 =>
  Calls Tryz.prog 9 #[] w_1 fun e w_2 =>
  ∃ t20 : Bool, (e = .returned (.bool t20)) ∧
  ∃ t21 : Int, ∃ t21_1 : Int, ∃ t21_2 : Sl, ∃ t21_3 : Sl, (At (fun w' => w' = w_2) ⟨b_x2, 0, none⟩ [.int .i64 t21, .int .i64 t21_1, .slice t21_2.a t21_2.len t21_2.cap, .slice t21_3.a t21_3.len t21_3.cap]) ∧
  Calls Tryz.prog 13 #[.agg #[.int .i64 t21, .int .i64 t21_1, .slice t21_2.a t21_2.len t21_2.cap, .slice t21_3.a t21_3.len t21_3.cap], .slice l1.a l1.len l1.cap] w_2 fun e_1 w_3 =>
  ∃ t23 : Bool, (e_1 = .returned (.bool t23)) ∧
  ∃ (J : World → Prop), (Br (!t20)
     (K (.bool t20) w_3)
     (Br (!t23)
       (K (.bool t20) w_3)
       (J  w_3))) ∧
  ∀ (z : Env)  (w_4 : World), J  w_4 →
  ∃ t32 : Int, ∃ t32_1 : Int, ∃ t32_2 : Sl, ∃ t32_3 : Sl, (At (fun w' => w' = w_4) ⟨b_x2, 0, none⟩ [.int .i64 t32, .int .i64 t32_1, .slice t32_2.a t32_2.len t32_2.cap, .slice t32_3.a t32_3.len t32_3.cap]) ∧
  Calls Tryz.prog 14 #[.agg #[.int .i64 t32, .int .i64 t32_1, .slice t32_2.a t32_2.len t32_2.cap, .slice t32_3.a t32_3.len t32_3.cap]] w_4 fun e_2 w_5 =>
  ∃ t33 : Option Addr, ∃ t33_1 : Option Addr, ∃ t33_2 : Bool, (e_2 = .returned (.tuple #[.pointer t33, .pointer t33_1, .bool t33_2])) ∧
  ∃ (J_1 : World → Prop), (Br (!t33_2)
     (K (.bool t33_2) w_5)
     (Br t33.isNone
       (K (.bool t33_2) w_5)
       (J_1  w_5))) ∧
  ∀ (z_1 : Env)  (w_6 : World), J_1  w_6 →
  ∃ (I : Int → World → Prop) (μ : Int → World → Nat), (I 0 w_6) ∧ ∀ (z_2 : Env) (i10 : Int) (w_7 : World), I i10 w_7 →
  ∃ (J_2 : World → Prop), (Br (decide (i10 < (↑l1.len : Int)))
     (Br (decide (i10 < 100))
       (J_2  w_7)
       (K (.bool true) w_7))
     (K (.bool true) w_7)) ∧
  ∀ (z_3 : Env)  (w_8 : World), J_2  w_8 →
  Rng i10 l1.len (NilP l1.a fun a_t58 =>
  ∃ t59 : Int, ∃ t59_1 : Int, ∃ t59_2 : Int, ∃ t59_3 : Int, ∃ t59_4 : ByteArray, (At (fun w' => w' = w_8) (Addr.add a_t58 (mulS i10.toNat 5)) [.int .i64 t59, .int .i64 t59_1, .int .i64 t59_2, .int .i64 t59_3, .string t59_4]) ∧
  Calls Tryz.prog 15 #[.pointer t33, .pointer t33_1, .agg #[.int .i64 t59, .int .i64 t59_1, .int .i64 t59_2, .int .i64 t59_3, .string t59_4]] w_8 fun e_3 w_9 =>
  ∃ t60 : Bool, (e_3 = .returned (.bool t60)) ∧
  NilP t33_1 fun a_t62 =>
  ∃ t64 : Sl, (At (fun w' => w' = w_9) ⟨a_t62.block, a_t62.off + 3, none⟩ [.slice t64.a t64.len t64.cap]) ∧
  ∃ w_10 : World, ∃ t66 : Sl, ((Instr.makeSlice 33 (.int .i64 ((↑t64.len : Int))) (.int .i64 ((↑t64.len : Int)))).run Tryz.prog w_9 = .ok (.slice t66.a t66.len t66.cap) w_10) ∧
  Calls Tryz.prog 16 #[.pointer t33] w_10 fun e_4 w_11 =>
  ∃ t68 : Sl, (e_4 = .returned (.slice t68.a t68.len t68.cap)) ∧
  ∃ (I_1 : Sl → Int → World → Prop) (μ_1 : Sl → Int → World → Nat), (I_1 ⟨none, 0, 0⟩ 0 w_11) ∧ ∀ (z_4 : Env) (told11 : Sl) (k14 : Int) (w_12 : World), I_1 told11 k14 w_12 →
  Br (decide (k14 < (↑t68.len : Int)))
   (∃ (J_3 : World → Prop), (Drw w_12 fun S w_13 =>
      Rng k14 t68.len (NilP t68.a fun a_t77 =>
      ∃ t79 : Int, (At S ⟨(a_t77.add (mulS k14.toNat 4)).block, (a_t77.add (mulS k14.toNat 4)).off + 1, none⟩ [.int .i64 t79]) ∧
      Br (decide (t79 < 0))
       (K (.bool false) w_13)
       (Rng k14 t68.len (NilP t68.a fun a_t84 =>
        ∃ t86 : Int, (At S ⟨(a_t84.add (mulS k14.toNat 4)).block, (a_t84.add (mulS k14.toNat 4)).off + 1, none⟩ [.int .i64 t86]) ∧
        Br (decide (t86 ≥ (↑t66.len : Int)))
         (K (.bool false) w_13)
         (Rng k14 t68.len (NilP t68.a fun a_t94 =>
          ∃ t96 : Sl, (At S ⟨(a_t94.add (mulS k14.toNat 4)).block, (a_t94.add (mulS k14.toNat 4)).off + 3, none⟩ [.slice t96.a t96.len t96.cap]) ∧
          Rng k14 t68.len (NilP t68.a fun a_t100 =>
          ∃ t102 : Int, (At S ⟨(a_t100.add (mulS k14.toNat 4)).block, (a_t100.add (mulS k14.toNat 4)).off + 2, none⟩ [.int .i64 t102]) ∧
          Br (decide ((↑t96.len : Int) > t102))
           (K (.bool false) w_13)
           (J_3  w_13)))))))) ∧
    ∀ (z_5 : Env)  (w_14 : World), J_3  w_14 →
    Drw w_14 fun S_1 w_15 =>
    Rng k14 t68.len (NilP t68.a fun a_t108 =>
    ∃ t110 : Int, (At S_1 ⟨(a_t108.add (mulS k14.toNat 4)).block, (a_t108.add (mulS k14.toNat 4)).off + 1, none⟩ [.int .i64 t110]) ∧
    Rng k14 t68.len (NilP t68.a fun a_t114 =>
    ∃ t116 : Int, (At S_1 ⟨(a_t114.add (mulS k14.toNat 4)).block, (a_t114.add (mulS k14.toNat 4)).off + 1, none⟩ [.int .i64 t116]) ∧
    Rng t116 t66.len (NilP t66.a fun a_t117 =>
    ∃ t118 : Int, (At S_1 (Addr.add a_t117 t116.toNat) [.int .i64 t118]) ∧
    Rng k14 t68.len (NilP t68.a fun a_t121 =>
    ∃ t123 : Int, (At S_1 ⟨(a_t121.add (mulS k14.toNat 4)).block, (a_t121.add (mulS k14.toNat 4)).off + 2, none⟩ [.int .i64 t123]) ∧
    Rng t110 t66.len (NilP t66.a fun a_t125 =>
    ∃ w_16 : World, ((Instr.storeAt 3 (.pointer ((some (Addr.add a_t125 t110.toNat)))) (.int .i64 (IntKind.i64.wrap (t118 + t123)))).run Tryz.prog w_15 = .ok () w_16) ∧
    ∃ (I_2 : Sl → Int → World → Prop) (μ_2 : Sl → Int → World → Nat), (I_2 told11 0 w_16) ∧ ∀ (z_6 : Env) (told11_1 : Sl) (j15 : Int) (w_17 : World), I_2 told11_1 j15 w_17 →
    Rng k14 t68.len (NilP t68.a fun a_t129 =>
    ∃ t131 : Sl, (At (fun w' => w' = w_17) ⟨(a_t129.add (mulS k14.toNat 4)).block, (a_t129.add (mulS k14.toNat 4)).off + 3, none⟩ [.slice t131.a t131.len t131.cap]) ∧
    Br (decide (j15 < (↑t131.len : Int)))
     (Rng k14 t68.len (NilP t68.a fun a_t139 =>
      ∃ t141 : Sl, (At (fun w' => w' = w_17) ⟨(a_t139.add (mulS k14.toNat 4)).block, (a_t139.add (mulS k14.toNat 4)).off + 3, none⟩ [.slice t141.a t141.len t141.cap]) ∧
      Rng j15 t141.len (NilP t141.a fun a_t143 =>
      ∃ t144 : Int, (At (fun w' => w' = w_17) (Addr.add a_t143 j15.toNat) [.int .i64 t144]) ∧
      Calls Tryz.prog 17 #[.slice told11_1.a told11_1.len told11_1.cap, .int .i64 t144] w_17 fun e_5 w_18 =>
      ∃ t145 : Bool, (e_5 = .returned (.bool t145)) ∧
      Br t145
       (K (.bool false) w_18)
       (Rng k14 t68.len (NilP t68.a fun a_t150 =>
        ∃ t152 : Sl, (At (fun w' => w' = w_18) ⟨(a_t150.add (mulS k14.toNat 4)).block, (a_t150.add (mulS k14.toNat 4)).off + 3, none⟩ [.slice t152.a t152.len t152.cap]) ∧
        Rng j15 t152.len (NilP t152.a fun a_t154 =>
        ∃ t155 : Int, (At (fun w' => w' = w_18) (Addr.add a_t154 j15.toNat) [.int .i64 t155]) ∧
        New (.cells #[.int .i64 t155] 3 (0, 0)) (fun b_t156 w_19 =>
        ∃ w_20 : World, ∃ t157 : Sl, ((Builtin.append_ #[33, 33] 33 #[.slice told11_1.a told11_1.len told11_1.cap, .slice ((some ⟨b_t156, 0, none⟩)) 1 1]).run Tryz.prog w_19 = .ok (.slice t157.a t157.len t157.cap) w_20) ∧
        (I_2 t157 (IntKind.i64.wrap (j15 + 1)) w_20) ∧ μ_2 t157 (IntKind.i64.wrap (j15 + 1)) w_20 < μ_2 told11_1 j15 w_17) w_18))))))
     ((I_1 told11_1 (IntKind.i64.wrap (k14 + 1)) w_17) ∧ μ_1 told11_1 (IntKind.i64.wrap (k14 + 1)) w_17 < μ_1 told11 k14 w_12))))))))
   (NilP t33_1 fun a_t159 =>
    ∃ t161 : Sl, (At (fun w' => w' = w_12) ⟨a_t159.block, a_t159.off + 3, none⟩ [.slice t161.a t161.len t161.cap]) ∧
    Calls Tryz.prog 18 #[.slice t161.a t161.len t161.cap, .slice t66.a t66.len t66.cap] w_12 fun e_6 w_21 =>
    ∃ t163 : Bool, (e_6 = .returned (.bool t163)) ∧
    Br (!t163)
     (K (.bool false) w_21)
     (Rng i10 l1.len (NilP l1.a fun a_t168 =>
      ∃ t170 : Int, (At (fun w' => w' = w_21) (Addr.add (Addr.add a_t168 (mulS i10.toNat 5)) 0) [.int .i64 t170]) ∧
      Br (decide (t170 > 4))
       (Rng i10 l1.len (NilP l1.a fun a_t176 =>
        ∃ t178 : Int, (At (fun w' => w' = w_21) ⟨(a_t176.add (mulS i10.toNat 5)).block, (a_t176.add (mulS i10.toNat 5)).off + 1, none⟩ [.int .i64 t178]) ∧
        Calls Tryz.prog 19 #[.pointer t33, .int .i64 t178] w_21 fun e_7 w_22 =>
        ∃ t179 : Sl, ∃ t179_1 : Int, (e_7 = .returned (.tuple #[.slice t179.a t179.len t179.cap, .int .i64 t179_1])) ∧
        Rng i10 l1.len (NilP l1.a fun a_t185 =>
        ∃ t187 : Int, (At (fun w' => w' = w_22) ⟨(a_t185.add (mulS i10.toNat 5)).block, (a_t185.add (mulS i10.toNat 5)).off + 1, none⟩ [.int .i64 t187]) ∧
        Calls Tryz.prog 20 #[.pointer t33_1, .int .i64 t187] w_22 fun e_8 w_23 =>
        ∃ t188 : Sl, ∃ t188_1 : Int, (e_8 = .returned (.tuple #[.slice t188.a t188.len t188.cap, .int .i64 t188_1])) ∧
        Br (t179_1 != 0)
         (Br (t179_1 != 2)
           (Br (t179_1 != 7)
             (K (.bool false) w_23)
             ((I (IntKind.i64.wrap (i10 + 1)) w_23) ∧ μ (IntKind.i64.wrap (i10 + 1)) w_23 < μ i10 w_7))
           ((I (IntKind.i64.wrap (i10 + 1)) w_23) ∧ μ (IntKind.i64.wrap (i10 + 1)) w_23 < μ i10 w_7))
         ((I (IntKind.i64.wrap (i10 + 1)) w_23) ∧ μ (IntKind.i64.wrap (i10 + 1)) w_23 < μ i10 w_7))))
       ((I (IntKind.i64.wrap (i10 + 1)) w_21) ∧ μ (IntKind.i64.wrap (i10 + 1)) w_21 < μ i10 w_7)))))) w

def sk4 : Sk := (.seq .leaf (.seq .leaf (.seq .leaf (.cut [] [] [4, 24, 25, 26, 27, 28, 29, 30] .leaf (.seq .leaf (.cut [] [] [4, 37, 38, 39, 40, 41, 42, 43] .leaf (.seq (.seq .leaf (.block (.loop [10] [(.int .i64)] [4, 10, 11, 12, 13, 14, 15, 16, 17, 18, 19, 44, 45, 46, 47, 48, 49, 50, 51, 52, 53, 54, 55, 56, 57, 58, 59, 60, 61, 62, 63, 64, 65, 66, 67, 68, 69, 70, 71, 72, 73, 74, 75, 76, 77, 78, 79, 80, 81, 82, 83, 84, 85, 86, 87, 88, 89, 90, 91, 92, 93, 94, 95, 96, 97, 98, 99, 100, 101, 102, 103, 104, 105, 106, 107, 108, 109, 110, 111, 112, 113, 114, 115, 116, 117, 118, 119, 120, 121, 122, 123, 124, 125, 126, 127, 128, 129, 130, 131, 132, 133, 134, 135, 136, 137, 138, 139, 140, 141, 142, 143, 144, 145, 146, 147, 148, 149, 150, 151, 152, 153, 154, 155, 156, 157, 158, 159, 160, 161, 162, 163, 164, 165, 166, 167, 168, 169, 170, 171, 172, 173, 174, 175, 176, 177, 178, 179, 180, 181, 182, 183, 184, 185, 186, 187, 188, 189, 190, 191, 192, 193, 194, 195, 196, 197, 198] (.cut [] [] [44, 45, 46, 47, 48, 49, 50, 51] .leaf (.seq (.block (.seq .leaf (.seq .leaf (.seq .leaf (.seq .leaf (.seq (.seq .leaf (.block (.loop [11, 14] [.sl, (.int .i64)] [4, 11, 14, 15, 16, 69, 70, 71, 72, 73, 74, 75, 76, 77, 78, 79, 80, 81, 82, 83, 84, 85, 86, 87, 88, 89, 90, 91, 92, 93, 94, 95, 96, 97, 98, 99, 100, 101, 102, 103, 104, 105, 106, 107, 108, 109, 110, 111, 112, 113, 114, 115, 116, 117, 118, 119, 120, 121, 122, 123, 124, 125, 126, 127, 128, 129, 130, 131, 132, 133, 134, 135, 136, 137, 138, 139, 140, 141, 142, 143, 144, 145, 146, 147, 148, 149, 150, 151, 152, 153, 154, 155, 156, 157] (.seq .leaf (.seq (.block (.cut [] [] [4, 75, 76, 77, 78, 79, 80, 81, 82, 83, 84, 85, 86, 87, 88, 89, 90, 91, 92, 93, 94, 95, 96, 97, 98, 99, 100, 101, 102, 103, 104] .leaf (.seq .leaf (.seq .leaf (.block (.loop [11, 15] [.sl, (.int .i64)] [4, 11, 15, 16, 126, 127, 128, 129, 130, 131, 132, 133, 134, 135, 136, 137, 138, 139, 140, 141, 142, 143, 144, 145, 146, 147, 148, 149, 150, 151, 152, 153, 154, 155, 156, 157] .leaf)))))) .leaf))))) .leaf)))))) .leaf))))) .leaf)))))))
theorem ok4 : fnOk Tryz.prog Tryz.f4.ntmps Tryz.f4 sk4 = true := by kernel_rfl
theorem eq4 (x0_0 : Int) (x0_1 : Int) (x0_2 : Sl) (x0_3 : Sl) (l1 : Sl) (K : Value → World → Prop) (w : World) : fnF Tryz.prog cl Tryz.f4 sk4 [.agg #[.int .i64 x0_0, .int .i64 x0_1, .slice x0_2.a x0_2.len x0_2.cap, .slice x0_3.a x0_3.len x0_3.cap], .slice l1.a l1.len l1.cap] K w = B4 x0_0 x0_1 x0_2 x0_3 l1 K w := by kernel_rfl
theorem call4 (x0_0 : Int) (x0_1 : Int) (x0_2 : Sl) (x0_3 : Sl) (l1 : Sl) (K : Value → World → Prop) (w : World) (h : B4 x0_0 x0_1 x0_2 x0_3 l1 K w) : Gets Tryz.prog 4 #[.agg #[.int .i64 x0_0, .int .i64 x0_1, .slice x0_2.a x0_2.len x0_2.cap, .slice x0_3.a x0_3.len x0_3.cap], .slice l1.a l1.len l1.cap] w K :=
  calls_of (sk := sk4) cl_ok mixed Tryz.func4 ok4 (args := [.agg #[.int .i64 x0_0, .int .i64 x0_1, .slice x0_2.a x0_2.len x0_2.cap, .slice x0_3.a x0_3.len x0_3.cap], .slice l1.a l1.len l1.cap]) (Nat.le_of_ble_eq_true (by kernel_rfl)) (by rw [eq4]; exact h)

/-- jetway/jetwaylaw15.FlightAuto. -/
def B5 (x0_0 : Int) (x0_1 : Int) (x0_2 : Sl) (x0_3 : Sl) (l1 : Sl) (owner2 : Int) (K : Value → World → Prop) (w : World) : Prop :=
  New (.cells #[.int .i64 x0_0, .int .i64 x0_1, .slice x0_2.a x0_2.len x0_2.cap, .slice x0_3.a x0_3.len x0_3.cap] 38 (0, 0)) (fun b_x3 w_1 =>
  Calls Tryz.prog 9 #[] w_1 fun e w_2 =>
  ∃ t20 : Bool, (e = .returned (.bool t20)) ∧
  ∃ t21 : Int, ∃ t21_1 : Int, ∃ t21_2 : Sl, ∃ t21_3 : Sl, (At (fun w' => w' = w_2) ⟨b_x3, 0, none⟩ [.int .i64 t21, .int .i64 t21_1, .slice t21_2.a t21_2.len t21_2.cap, .slice t21_3.a t21_3.len t21_3.cap]) ∧
  Calls Tryz.prog 13 #[.agg #[.int .i64 t21, .int .i64 t21_1, .slice t21_2.a t21_2.len t21_2.cap, .slice t21_3.a t21_3.len t21_3.cap], .slice l1.a l1.len l1.cap] w_2 fun e_1 w_3 =>
  ∃ t23 : Bool, (e_1 = .returned (.bool t23)) ∧
  ∃ (J : World → Prop), (Br (!t20)
     (K (.bool t20) w_3)
     (Br (!t23)
       (K (.bool t20) w_3)
       (J  w_3))) ∧
  ∀ (z : Env)  (w_4 : World), J  w_4 →
  ∃ t32 : Int, ∃ t32_1 : Int, ∃ t32_2 : Sl, ∃ t32_3 : Sl, (At (fun w' => w' = w_4) ⟨b_x3, 0, none⟩ [.int .i64 t32, .int .i64 t32_1, .slice t32_2.a t32_2.len t32_2.cap, .slice t32_3.a t32_3.len t32_3.cap]) ∧
  Calls Tryz.prog 14 #[.agg #[.int .i64 t32, .int .i64 t32_1, .slice t32_2.a t32_2.len t32_2.cap, .slice t32_3.a t32_3.len t32_3.cap]] w_4 fun e_2 w_5 =>
  ∃ t33 : Option Addr, ∃ t33_1 : Option Addr, ∃ t33_2 : Bool, (e_2 = .returned (.tuple #[.pointer t33, .pointer t33_1, .bool t33_2])) ∧
  ∃ (J_1 : World → Prop), (Br (!t33_2)
     (K (.bool t33_2) w_5)
     (Br t33.isNone
       (K (.bool t33_2) w_5)
       (J_1  w_5))) ∧
  ∀ (z_1 : Env)  (w_6 : World), J_1  w_6 →
  ∃ (J_2 : World → Prop), (∃ (I : Int → World → Prop) (μ : Int → World → Nat), (I 0 w_6) ∧ ∀ (z_2 : Env) (i12 : Int) (w_7 : World), I i12 w_7 →
    Br (decide (i12 < (↑l1.len : Int)))
     (Br (decide (i12 < 60))
       (Rng i12 l1.len (NilP l1.a fun a_t58 =>
        ∃ t59 : Int, ∃ t59_1 : Int, ∃ t59_2 : Int, ∃ t59_3 : Int, ∃ t59_4 : ByteArray, (At (fun w' => w' = w_7) (Addr.add a_t58 (mulS i12.toNat 5)) [.int .i64 t59, .int .i64 t59_1, .int .i64 t59_2, .int .i64 t59_3, .string t59_4]) ∧
        Calls Tryz.prog 15 #[.pointer t33, .pointer t33_1, .agg #[.int .i64 t59, .int .i64 t59_1, .int .i64 t59_2, .int .i64 t59_3, .string t59_4]] w_7 fun e_3 w_8 =>
        ∃ t60 : Bool, (e_3 = .returned (.bool t60)) ∧
        (I (IntKind.i64.wrap (i12 + 1)) w_8) ∧ μ (IntKind.i64.wrap (i12 + 1)) w_8 < μ i12 w_7))
       (J_2  w_7))
     (J_2  w_7)) ∧
  ∀ (z_3 : Env)  (w_9 : World), J_2  w_9 →
  Calls Tryz.prog 16 #[.pointer t33] w_9 fun e_4 w_10 =>
  ∃ t62 : Sl, (e_4 = .returned (.slice t62.a t62.len t62.cap)) ∧
  ∃ (I_1 : Int → World → Prop) (μ_1 : Int → World → Nat), (I_1 0 w_10) ∧ ∀ (z_4 : Env) (i14 : Int) (w_11 : World), I_1 i14 w_11 →
  Br (decide (i14 < (↑t62.len : Int)))
   (∃ (J_3 : World → Prop), (Rng i14 t62.len (NilP t62.a fun a_t71 =>
      ∃ t73 : Int, (At (fun w' => w' = w_11) (Addr.add (Addr.add a_t71 (mulS i14.toNat 4)) 0) [.int .i64 t73]) ∧
      Br (t73 != owner2)
       ((I_1 (IntKind.i64.wrap (i14 + 1)) w_11) ∧ μ_1 (IntKind.i64.wrap (i14 + 1)) w_11 < μ_1 i14 w_11)
       (Rng i14 t62.len (NilP t62.a fun a_t79 =>
        ∃ t81 : Sl, (At (fun w' => w' = w_11) ⟨(a_t79.add (mulS i14.toNat 4)).block, (a_t79.add (mulS i14.toNat 4)).off + 3, none⟩ [.slice t81.a t81.len t81.cap]) ∧
        Br (decide ((↑t81.len : Int) > 0))
         ((I_1 (IntKind.i64.wrap (i14 + 1)) w_11) ∧ μ_1 (IntKind.i64.wrap (i14 + 1)) w_11 < μ_1 i14 w_11)
         (J_3  w_11))))) ∧
    ∀ (z_5 : Env)  (w_12 : World), J_3  w_12 →
    Calls Tryz.prog 19 #[.pointer t33, .int .i64 owner2] w_12 fun e_5 w_13 =>
    ∃ t88 : Sl, ∃ t88_1 : Int, (e_5 = .returned (.tuple #[.slice t88.a t88.len t88.cap, .int .i64 t88_1])) ∧
    Calls Tryz.prog 22 #[.pointer t33, .int .i64 owner2] w_13 fun e_6 w_14 =>
    ∃ t93 : Sl, (e_6 = .returned (.slice t93.a t93.len t93.cap)) ∧
    Calls Tryz.prog 21 #[.slice t93.a t93.len t93.cap, .slice t88.a t88.len t88.cap] w_14 fun e_7 w_15 =>
    ∃ t95 : Bool, (e_7 = .returned (.bool t95)) ∧
    Br (t88_1 == 0)
     (Rng i14 t62.len (NilP t62.a fun a_t103 =>
      ∃ t105 : Int, (At (fun w' => w' = w_15) ⟨(a_t103.add (mulS i14.toNat 4)).block, (a_t103.add (mulS i14.toNat 4)).off + 2, none⟩ [.int .i64 t105]) ∧
      Br ((↑t88.len : Int) == t105)
       (K (.bool t95) w_15)
       (K (.bool false) w_15)))
     (K (.bool false) w_15))
   (Calls Tryz.prog 19 #[.pointer t33, .int .i64 owner2] w_11 fun e_8 w_16 =>
    ∃ t114 : Sl, ∃ t114_1 : Int, (e_8 = .returned (.tuple #[.slice t114.a t114.len t114.cap, .int .i64 t114_1])) ∧
    Br (t114_1 != 0)
     (K (.bool ((↑t114.len : Int) == 0)) w_16)
     (K (.bool false) w_16))) w

def sk5 : Sk := (.seq .leaf (.seq .leaf (.seq .leaf (.cut [] [] [6, 24, 25, 26, 27, 28, 29, 30] .leaf (.seq .leaf (.cut [] [] [6, 37, 38, 39, 40, 41, 42, 43] .leaf (.cut [] [] [12, 44, 45, 46, 47, 48, 49, 50, 51, 52, 53, 54, 55, 56, 57, 58, 59, 60] (.seq .leaf (.block (.loop [12] [(.int .i64)] [12, 44, 45, 46, 47, 48, 49, 50, 51, 52, 53, 54, 55, 56, 57, 58, 59, 60] .leaf))) (.seq .leaf (.seq (.seq .leaf (.block (.loop [14] [(.int .i64)] [6, 14, 15, 16, 17, 63, 64, 65, 66, 67, 68, 69, 70, 71, 72, 73, 74, 75, 76, 77, 78, 79, 80, 81, 82, 83, 84, 85, 86, 87, 88, 89, 90, 91, 92, 93, 94, 95, 96, 97, 98, 99, 100, 101, 102, 103, 104, 105, 106, 107, 108, 109, 110] (.seq .leaf (.seq (.block (.cut [] [] [69, 70, 71, 72, 73, 74, 75, 76, 77, 78, 79, 80, 81, 82, 83, 84] .leaf .leaf)) .leaf))))) .leaf)))))))))
theorem ok5 : fnOk Tryz.prog Tryz.f5.ntmps Tryz.f5 sk5 = true := by kernel_rfl
theorem eq5 (x0_0 : Int) (x0_1 : Int) (x0_2 : Sl) (x0_3 : Sl) (l1 : Sl) (owner2 : Int) (K : Value → World → Prop) (w : World) : fnF Tryz.prog cl Tryz.f5 sk5 [.agg #[.int .i64 x0_0, .int .i64 x0_1, .slice x0_2.a x0_2.len x0_2.cap, .slice x0_3.a x0_3.len x0_3.cap], .slice l1.a l1.len l1.cap, .int .i64 owner2] K w = B5 x0_0 x0_1 x0_2 x0_3 l1 owner2 K w := by kernel_rfl
theorem call5 (x0_0 : Int) (x0_1 : Int) (x0_2 : Sl) (x0_3 : Sl) (l1 : Sl) (owner2 : Int) (K : Value → World → Prop) (w : World) (h : B5 x0_0 x0_1 x0_2 x0_3 l1 owner2 K w) : Gets Tryz.prog 5 #[.agg #[.int .i64 x0_0, .int .i64 x0_1, .slice x0_2.a x0_2.len x0_2.cap, .slice x0_3.a x0_3.len x0_3.cap], .slice l1.a l1.len l1.cap, .int .i64 owner2] w K :=
  calls_of (sk := sk5) cl_ok mixed Tryz.func5 ok5 (args := [.agg #[.int .i64 x0_0, .int .i64 x0_1, .slice x0_2.a x0_2.len x0_2.cap, .slice x0_3.a x0_3.len x0_3.cap], .slice l1.a l1.len l1.cap, .int .i64 owner2]) (Nat.le_of_ble_eq_true (by kernel_rfl)) (by rw [eq5]; exact h)

/-- jetway/jetwaylaw15.FlightUnseats. -/
def B6 (x0_0 : Int) (x0_1 : Int) (x0_2 : Sl) (x0_3 : Sl) (l1 : Sl) (s2_0 : Int) (s2_1 : Int) (s2_2 : Int) (s2_3 : Int) (s2_4 : ByteArray) (K : Value → World → Prop) (w : World) : Prop :=
  New (.cells #[.int .i64 x0_0, .int .i64 x0_1, .slice x0_2.a x0_2.len x0_2.cap, .slice x0_3.a x0_3.len x0_3.cap] 38 (0, 0)) (fun b_x3 w_1 =>
  New (.cells #[.int .i64 s2_0, .int .i64 s2_1, .int .i64 s2_2, .int .i64 s2_3, .string s2_4] 45 (0, 0)) (fun b_s5 w_2 =>
  Calls Tryz.prog 9 #[] w_2 fun e w_3 =>
  ∃ t21 : Bool, (e = .returned (.bool t21)) ∧
  ∃ t22 : Int, ∃ t22_1 : Int, ∃ t22_2 : Sl, ∃ t22_3 : Sl, (At (fun w' => w' = w_3) ⟨b_x3, 0, none⟩ [.int .i64 t22, .int .i64 t22_1, .slice t22_2.a t22_2.len t22_2.cap, .slice t22_3.a t22_3.len t22_3.cap]) ∧
  Calls Tryz.prog 13 #[.agg #[.int .i64 t22, .int .i64 t22_1, .slice t22_2.a t22_2.len t22_2.cap, .slice t22_3.a t22_3.len t22_3.cap], .slice l1.a l1.len l1.cap] w_3 fun e_1 w_4 =>
  ∃ t24 : Bool, (e_1 = .returned (.bool t24)) ∧
  ∃ (J : World → Prop), (Br (!t21)
     (K (.bool t21) w_4)
     (Br (!t24)
       (K (.bool t21) w_4)
       (J  w_4))) ∧
  ∀ (z : Env)  (w_5 : World), J  w_5 →
  ∃ t33 : Int, ∃ t33_1 : Int, ∃ t33_2 : Sl, ∃ t33_3 : Sl, (At (fun w' => w' = w_5) ⟨b_x3, 0, none⟩ [.int .i64 t33, .int .i64 t33_1, .slice t33_2.a t33_2.len t33_2.cap, .slice t33_3.a t33_3.len t33_3.cap]) ∧
  Calls Tryz.prog 14 #[.agg #[.int .i64 t33, .int .i64 t33_1, .slice t33_2.a t33_2.len t33_2.cap, .slice t33_3.a t33_3.len t33_3.cap]] w_5 fun e_2 w_6 =>
  ∃ t34 : Option Addr, ∃ t34_1 : Option Addr, ∃ t34_2 : Bool, (e_2 = .returned (.tuple #[.pointer t34, .pointer t34_1, .bool t34_2])) ∧
  ∃ (J_1 : World → Prop), (Br (!t34_2)
     (K (.bool t34_2) w_6)
     (Br t34.isNone
       (K (.bool t34_2) w_6)
       (J_1  w_6))) ∧
  ∀ (z_1 : Env)  (w_7 : World), J_1  w_7 →
  ∃ (J_2 : World → Prop), (∃ (I : Int → World → Prop) (μ : Int → World → Nat), (I 0 w_7) ∧ ∀ (z_2 : Env) (i12 : Int) (w_8 : World), I i12 w_8 →
    Br (decide (i12 < (↑l1.len : Int)))
     (Br (decide (i12 < 60))
       (Rng i12 l1.len (NilP l1.a fun a_t59 =>
        ∃ t60 : Int, ∃ t60_1 : Int, ∃ t60_2 : Int, ∃ t60_3 : Int, ∃ t60_4 : ByteArray, (At (fun w' => w' = w_8) (Addr.add a_t59 (mulS i12.toNat 5)) [.int .i64 t60, .int .i64 t60_1, .int .i64 t60_2, .int .i64 t60_3, .string t60_4]) ∧
        Calls Tryz.prog 15 #[.pointer t34, .pointer t34_1, .agg #[.int .i64 t60, .int .i64 t60_1, .int .i64 t60_2, .int .i64 t60_3, .string t60_4]] w_8 fun e_3 w_9 =>
        ∃ t61 : Bool, (e_3 = .returned (.bool t61)) ∧
        (I (IntKind.i64.wrap (i12 + 1)) w_9) ∧ μ (IntKind.i64.wrap (i12 + 1)) w_9 < μ i12 w_8))
       (J_2  w_8))
     (J_2  w_8)) ∧
  ∀ (z_3 : Env)  (w_10 : World), J_2  w_10 →
  Calls Tryz.prog 23 #[.pointer t34] w_10 fun e_4 w_11 =>
  ∃ t63 : Sl, (e_4 = .returned (.slice t63.a t63.len t63.cap)) ∧
  ∃ t66 : Int, (At (fun w' => w' = w_11) ⟨b_s5, 0 + 1, none⟩ [.int .i64 t66]) ∧
  ∃ t68 : ByteArray, (At (fun w' => w' = w_11) ⟨b_s5, 0 + 4, none⟩ [.string t68]) ∧
  Calls Tryz.prog 24 #[.pointer t34, .int .i64 t66, .string t68] w_11 fun e_5 w_12 =>
  ∃ t69 : Int, (e_5 = .returned (.int .i64 t69)) ∧
  Br (t69 != 0)
   (Drw w_12 fun S w_13 =>
    Br (t69 == 2)
     (∃ t87 : ByteArray, (∀ w', S w' → ((convert 22 9 (.slice t63.a t63.len t63.cap))).run Tryz.prog w' = .ok (.string t87) w') ∧
      Calls Tryz.prog 23 #[.pointer t34] w_13 fun e_6 w_14 =>
      ∃ t84 : Sl, (e_6 = .returned (.slice t84.a t84.len t84.cap)) ∧
      (S w_14) ∧
      ∃ t85 : ByteArray, (∀ w', (fun w' => w' = w_14) w' → ((convert 22 9 (.slice t84.a t84.len t84.cap))).run Tryz.prog w' = .ok (.string t85) w') ∧
      K (.bool (t85.toList == t87.toList)) w_14)
     (Br (t69 == 7)
       (∃ t87_1 : ByteArray, (∀ w', S w' → ((convert 22 9 (.slice t63.a t63.len t63.cap))).run Tryz.prog w' = .ok (.string t87_1) w') ∧
        Calls Tryz.prog 23 #[.pointer t34] w_13 fun e_7 w_15 =>
        ∃ t84_1 : Sl, (e_7 = .returned (.slice t84_1.a t84_1.len t84_1.cap)) ∧
        (S w_15) ∧
        ∃ t85_1 : ByteArray, (∀ w', (fun w' => w' = w_15) w' → ((convert 22 9 (.slice t84_1.a t84_1.len t84_1.cap))).run Tryz.prog w' = .ok (.string t85_1) w') ∧
        K (.bool (t85_1.toList == t87_1.toList)) w_15)
       (Br (t69 == 3)
         (∃ t87_2 : ByteArray, (∀ w', S w' → ((convert 22 9 (.slice t63.a t63.len t63.cap))).run Tryz.prog w' = .ok (.string t87_2) w') ∧
          Calls Tryz.prog 23 #[.pointer t34] w_13 fun e_8 w_16 =>
          ∃ t84_2 : Sl, (e_8 = .returned (.slice t84_2.a t84_2.len t84_2.cap)) ∧
          (S w_16) ∧
          ∃ t85_2 : ByteArray, (∀ w', (fun w' => w' = w_16) w' → ((convert 22 9 (.slice t84_2.a t84_2.len t84_2.cap))).run Tryz.prog w' = .ok (.string t85_2) w') ∧
          K (.bool (t85_2.toList == t87_2.toList)) w_16)
         (K (.bool false) w_13))))
   (Calls Tryz.prog 16 #[.pointer t34] w_12 fun e_9 w_17 =>
    ∃ t91 : Sl, (e_9 = .returned (.slice t91.a t91.len t91.cap)) ∧
    ∃ (I_1 : Int → Int → World → Prop) (μ_1 : Int → Int → World → Nat), (I_1 0 0 w_17) ∧ ∀ (z_4 : Env) (mine15 : Int) (i17 : Int) (w_18 : World), I_1 mine15 i17 w_18 →
    Br (decide (i17 < (↑t91.len : Int)))
     (Rng i17 t91.len (NilP t91.a fun a_t101 =>
      ∃ t103 : Int, (At (fun w' => w' = w_18) (Addr.add (Addr.add a_t101 (mulS i17.toNat 4)) 0) [.int .i64 t103]) ∧
      Calls Tryz.prog 22 #[.pointer t34, .int .i64 t103] w_18 fun e_10 w_19 =>
      ∃ t104 : Sl, (e_10 = .returned (.slice t104.a t104.len t104.cap)) ∧
      ∃ (I_2 : Int → Int → World → Prop) (μ_2 : Int → Int → World → Nat), (I_2 mine15 0 w_19) ∧ ∀ (z_5 : Env) (mine15_1 : Int) (k19 : Int) (w_20 : World), I_2 mine15_1 k19 w_20 →
      Br (decide (k19 < (↑t104.len : Int)))
       (Drw w_20 fun S_1 w_21 =>
        Rng k19 t104.len (NilP t104.a fun a_t113 =>
        ∃ t114 : ByteArray, (At (fun w' => w' = w_21) (Addr.add a_t113 k19.toNat) [.string t114]) ∧
        ∃ t116 : ByteArray, (At (fun w' => w' = w_21) ⟨b_s5, 0 + 4, none⟩ [.string t116]) ∧
        Br (t114.toList == t116.toList)
         ((I_2 (IntKind.i64.wrap (mine15_1 + 1)) (IntKind.i64.wrap (k19 + 1)) w_21) ∧ μ_2 (IntKind.i64.wrap (mine15_1 + 1)) (IntKind.i64.wrap (k19 + 1)) w_21 < μ_2 mine15_1 k19 w_20)
         ((I_2 mine15_1 (IntKind.i64.wrap (k19 + 1)) w_21) ∧ μ_2 mine15_1 (IntKind.i64.wrap (k19 + 1)) w_21 < μ_2 mine15_1 k19 w_20)))
       ((I_1 mine15_1 (IntKind.i64.wrap (i17 + 1)) w_20) ∧ μ_1 mine15_1 (IntKind.i64.wrap (i17 + 1)) w_20 < μ_1 mine15 i17 w_18)))
     (∃ t122 : Int, (At (fun w' => w' = w_18) ⟨b_s5, 0 + 1, none⟩ [.int .i64 t122]) ∧
      ∃ t124 : ByteArray, (At (fun w' => w' = w_18) ⟨b_s5, 0 + 4, none⟩ [.string t124]) ∧
      Calls Tryz.prog 25 #[.pointer t34, .int .i64 t122, .string t124] w_18 fun e_11 w_22 =>
      ∃ t125 : Int, (e_11 = .returned (.int .i64 t125)) ∧
      Drw w_22 fun S_2 w_23 =>
      Br (t125 == 0)
       (Br (mine15 == 1)
         (∃ t137 : ByteArray, (∀ w', S_2 w' → ((convert 22 9 (.slice t63.a t63.len t63.cap))).run Tryz.prog w' = .ok (.string t137) w') ∧
          Calls Tryz.prog 23 #[.pointer t34] w_23 fun e_12 w_24 =>
          ∃ t134 : Sl, (e_12 = .returned (.slice t134.a t134.len t134.cap)) ∧
          (S_2 w_24) ∧
          ∃ t135 : ByteArray, (∀ w', (fun w' => w' = w_24) w' → ((convert 22 9 (.slice t134.a t134.len t134.cap))).run Tryz.prog w' = .ok (.string t135) w') ∧
          K (.bool (t135.toList == t137.toList)) w_24)
         (K (.bool false) w_23))
       (K (.bool false) w_23)))) w_1) w

def sk6 : Sk := (.seq .leaf (.seq .leaf (.seq .leaf (.cut [] [] [6, 25, 26, 27, 28, 29, 30, 31] .leaf (.seq .leaf (.cut [] [] [6, 38, 39, 40, 41, 42, 43, 44] .leaf (.cut [] [] [12, 45, 46, 47, 48, 49, 50, 51, 52, 53, 54, 55, 56, 57, 58, 59, 60, 61] (.seq .leaf (.block (.loop [12] [(.int .i64)] [12, 45, 46, 47, 48, 49, 50, 51, 52, 53, 54, 55, 56, 57, 58, 59, 60, 61] .leaf))) (.seq .leaf (.seq .leaf (.seq (.seq .leaf (.cond (.seq (.block .leaf) .leaf) .leaf)) (.seq .leaf (.seq .leaf (.seq (.seq .leaf (.block (.loop [15, 17] [(.int .i64), (.int .i64)] [15, 17, 18, 19, 92, 93, 94, 95, 96, 97, 98, 99, 100, 101, 102, 103, 104, 105, 106, 107, 108, 109, 110, 111, 112, 113, 114, 115, 116, 117, 118, 119] (.seq .leaf (.seq (.block (.seq .leaf (.seq .leaf (.block (.loop [15, 19] [(.int .i64), (.int .i64)] [15, 19, 105, 106, 107, 108, 109, 110, 111, 112, 113, 114, 115, 116, 117, 118, 119] (.seq .leaf (.seq (.block (.seq (.block .leaf) .leaf)) .leaf))))))) .leaf))))) (.seq .leaf (.seq (.block .leaf) .leaf)))))))))))))))
theorem ok6 : fnOk Tryz.prog Tryz.f6.ntmps Tryz.f6 sk6 = true := by kernel_rfl
theorem eq6 (x0_0 : Int) (x0_1 : Int) (x0_2 : Sl) (x0_3 : Sl) (l1 : Sl) (s2_0 : Int) (s2_1 : Int) (s2_2 : Int) (s2_3 : Int) (s2_4 : ByteArray) (K : Value → World → Prop) (w : World) : fnF Tryz.prog cl Tryz.f6 sk6 [.agg #[.int .i64 x0_0, .int .i64 x0_1, .slice x0_2.a x0_2.len x0_2.cap, .slice x0_3.a x0_3.len x0_3.cap], .slice l1.a l1.len l1.cap, .agg #[.int .i64 s2_0, .int .i64 s2_1, .int .i64 s2_2, .int .i64 s2_3, .string s2_4]] K w = B6 x0_0 x0_1 x0_2 x0_3 l1 s2_0 s2_1 s2_2 s2_3 s2_4 K w := by kernel_rfl
theorem call6 (x0_0 : Int) (x0_1 : Int) (x0_2 : Sl) (x0_3 : Sl) (l1 : Sl) (s2_0 : Int) (s2_1 : Int) (s2_2 : Int) (s2_3 : Int) (s2_4 : ByteArray) (K : Value → World → Prop) (w : World) (h : B6 x0_0 x0_1 x0_2 x0_3 l1 s2_0 s2_1 s2_2 s2_3 s2_4 K w) : Gets Tryz.prog 6 #[.agg #[.int .i64 x0_0, .int .i64 x0_1, .slice x0_2.a x0_2.len x0_2.cap, .slice x0_3.a x0_3.len x0_3.cap], .slice l1.a l1.len l1.cap, .agg #[.int .i64 s2_0, .int .i64 s2_1, .int .i64 s2_2, .int .i64 s2_3, .string s2_4]] w K :=
  calls_of (sk := sk6) cl_ok mixed Tryz.func6 ok6 (args := [.agg #[.int .i64 x0_0, .int .i64 x0_1, .slice x0_2.a x0_2.len x0_2.cap, .slice x0_3.a x0_3.len x0_3.cap], .slice l1.a l1.len l1.cap, .agg #[.int .i64 s2_0, .int .i64 s2_1, .int .i64 s2_2, .int .i64 s2_3, .string s2_4]]) (Nat.le_of_ble_eq_true (by kernel_rfl)) (by rw [eq6]; exact h)

/-- jetway/jetwaylaw15.FlightScripts. -/
def B7 (x0_0 : Int) (x0_1 : Int) (x0_2 : Sl) (x0_3 : Sl) (l1 : Sl) (K : Value → World → Prop) (w : World) : Prop :=
  New (.cells #[.int .i64 x0_0, .int .i64 x0_1, .slice x0_2.a x0_2.len x0_2.cap, .slice x0_3.a x0_3.len x0_3.cap] 38 (0, 0)) (fun b_x2 w_1 =>
  Calls Tryz.prog 9 #[] w_1 fun e w_2 =>
  ∃ t13 : Bool, (e = .returned (.bool t13)) ∧
  ∃ t14 : Int, ∃ t14_1 : Int, ∃ t14_2 : Sl, ∃ t14_3 : Sl, (At (fun w' => w' = w_2) ⟨b_x2, 0, none⟩ [.int .i64 t14, .int .i64 t14_1, .slice t14_2.a t14_2.len t14_2.cap, .slice t14_3.a t14_3.len t14_3.cap]) ∧
  Calls Tryz.prog 13 #[.agg #[.int .i64 t14, .int .i64 t14_1, .slice t14_2.a t14_2.len t14_2.cap, .slice t14_3.a t14_3.len t14_3.cap], .slice l1.a l1.len l1.cap] w_2 fun e_1 w_3 =>
  ∃ t16 : Bool, (e_1 = .returned (.bool t16)) ∧
  ∃ (J : World → Prop), (Br (!t13)
     (K (.bool t13) w_3)
     (Br (!t16)
       (K (.bool t13) w_3)
       (J  w_3))) ∧
  ∀ (z : Env)  (w_4 : World), J  w_4 →
  ∃ t25 : Int, ∃ t25_1 : Int, ∃ t25_2 : Sl, ∃ t25_3 : Sl, (At (fun w' => w' = w_4) ⟨b_x2, 0, none⟩ [.int .i64 t25, .int .i64 t25_1, .slice t25_2.a t25_2.len t25_2.cap, .slice t25_3.a t25_3.len t25_3.cap]) ∧
  Calls Tryz.prog 14 #[.agg #[.int .i64 t25, .int .i64 t25_1, .slice t25_2.a t25_2.len t25_2.cap, .slice t25_3.a t25_3.len t25_3.cap]] w_4 fun e_2 w_5 =>
  ∃ t26 : Option Addr, ∃ t26_1 : Option Addr, ∃ t26_2 : Bool, (e_2 = .returned (.tuple #[.pointer t26, .pointer t26_1, .bool t26_2])) ∧
  ∃ (J_1 : World → Prop), (Br (!t26_2)
     (K (.bool t26_2) w_5)
     (Br t26.isNone
       (K (.bool t26_2) w_5)
       (J_1  w_5))) ∧
  ∀ (z_1 : Env)  (w_6 : World), J_1  w_6 →
  ∃ (I : Int → World → Prop) (μ : Int → World → Nat), (I 0 w_6) ∧ ∀ (z_2 : Env) (i10 : Int) (w_7 : World), I i10 w_7 →
  ∃ (J_2 : World → Prop), (Br (decide (i10 < (↑l1.len : Int)))
     (Br (decide (i10 < 60))
       (J_2  w_7)
       (Calls Tryz.prog 12 #[.pointer t26, .pointer t26_1] w_7 fun e_3 w_8 =>
        ∃ t65 : Bool, (e_3 = .returned (.bool t65)) ∧
        K (.bool t65) w_8))
     (Calls Tryz.prog 12 #[.pointer t26, .pointer t26_1] w_7 fun e_4 w_9 =>
      ∃ t65_1 : Bool, (e_4 = .returned (.bool t65_1)) ∧
      K (.bool t65_1) w_9)) ∧
  ∀ (z_3 : Env)  (w_10 : World), J_2  w_10 →
  Rng i10 l1.len (NilP l1.a fun a_t51 =>
  ∃ t52 : Int, ∃ t52_1 : Int, ∃ t52_2 : Int, ∃ t52_3 : Int, ∃ t52_4 : ByteArray, (At (fun w' => w' = w_10) (Addr.add a_t51 (mulS i10.toNat 5)) [.int .i64 t52, .int .i64 t52_1, .int .i64 t52_2, .int .i64 t52_3, .string t52_4]) ∧
  Calls Tryz.prog 15 #[.pointer t26, .pointer t26_1, .agg #[.int .i64 t52, .int .i64 t52_1, .int .i64 t52_2, .int .i64 t52_3, .string t52_4]] w_10 fun e_5 w_11 =>
  ∃ t53 : Bool, (e_5 = .returned (.bool t53)) ∧
  Calls Tryz.prog 12 #[.pointer t26, .pointer t26_1] w_11 fun e_6 w_12 =>
  ∃ t56 : Bool, (e_6 = .returned (.bool t56)) ∧
  Br (!t53)
   (K (.bool false) w_12)
   (Br (!t56)
     (K (.bool false) w_12)
     ((I (IntKind.i64.wrap (i10 + 1)) w_12) ∧ μ (IntKind.i64.wrap (i10 + 1)) w_12 < μ i10 w_7)))) w

def sk7 : Sk := (.seq .leaf (.seq .leaf (.seq .leaf (.cut [] [] [4, 17, 18, 19, 20, 21, 22, 23] .leaf (.seq .leaf (.cut [] [] [4, 30, 31, 32, 33, 34, 35, 36] .leaf (.seq (.seq .leaf (.block (.loop [10] [(.int .i64)] [4, 10, 11, 12, 37, 38, 39, 40, 41, 42, 43, 44, 45, 46, 47, 48, 49, 50, 51, 52, 53, 54, 55, 56, 57, 58, 59, 60, 61, 62] (.cut [] [] [37, 38, 39, 40, 41, 42, 43, 44] .leaf .leaf)))) .leaf)))))))
theorem ok7 : fnOk Tryz.prog Tryz.f7.ntmps Tryz.f7 sk7 = true := by kernel_rfl
theorem eq7 (x0_0 : Int) (x0_1 : Int) (x0_2 : Sl) (x0_3 : Sl) (l1 : Sl) (K : Value → World → Prop) (w : World) : fnF Tryz.prog cl Tryz.f7 sk7 [.agg #[.int .i64 x0_0, .int .i64 x0_1, .slice x0_2.a x0_2.len x0_2.cap, .slice x0_3.a x0_3.len x0_3.cap], .slice l1.a l1.len l1.cap] K w = B7 x0_0 x0_1 x0_2 x0_3 l1 K w := by kernel_rfl
theorem call7 (x0_0 : Int) (x0_1 : Int) (x0_2 : Sl) (x0_3 : Sl) (l1 : Sl) (K : Value → World → Prop) (w : World) (h : B7 x0_0 x0_1 x0_2 x0_3 l1 K w) : Gets Tryz.prog 7 #[.agg #[.int .i64 x0_0, .int .i64 x0_1, .slice x0_2.a x0_2.len x0_2.cap, .slice x0_3.a x0_3.len x0_3.cap], .slice l1.a l1.len l1.cap] w K :=
  calls_of (sk := sk7) cl_ok mixed Tryz.func7 ok7 (args := [.agg #[.int .i64 x0_0, .int .i64 x0_1, .slice x0_2.a x0_2.len x0_2.cap, .slice x0_3.a x0_3.len x0_3.cap], .slice l1.a l1.len l1.cap]) (Nat.le_of_ble_eq_true (by kernel_rfl)) (by rw [eq7]; exact h)

/-- jetway/jetwaylaw15.FlightBack. -/
def B8 (x0_0 : Int) (x0_1 : Int) (x0_2 : Sl) (x0_3 : Sl) (l1 : Sl) (s2_0 : Int) (s2_1 : Int) (s2_2 : Int) (s2_3 : Int) (s2_4 : ByteArray) (K : Value → World → Prop) (w : World) : Prop :=
  New (.cells #[.int .i64 x0_0, .int .i64 x0_1, .slice x0_2.a x0_2.len x0_2.cap, .slice x0_3.a x0_3.len x0_3.cap] 38 (0, 0)) (fun b_x3 w_1 =>
  New (.cells #[.int .i64 s2_0, .int .i64 s2_1, .int .i64 s2_2, .int .i64 s2_3, .string s2_4] 45 (0, 0)) (fun b_s5 w_2 =>
  Calls Tryz.prog 9 #[] w_2 fun e w_3 =>
  ∃ t21 : Bool, (e = .returned (.bool t21)) ∧
  ∃ t22 : Int, ∃ t22_1 : Int, ∃ t22_2 : Sl, ∃ t22_3 : Sl, (At (fun w' => w' = w_3) ⟨b_x3, 0, none⟩ [.int .i64 t22, .int .i64 t22_1, .slice t22_2.a t22_2.len t22_2.cap, .slice t22_3.a t22_3.len t22_3.cap]) ∧
  Calls Tryz.prog 13 #[.agg #[.int .i64 t22, .int .i64 t22_1, .slice t22_2.a t22_2.len t22_2.cap, .slice t22_3.a t22_3.len t22_3.cap], .slice l1.a l1.len l1.cap] w_3 fun e_1 w_4 =>
  ∃ t24 : Bool, (e_1 = .returned (.bool t24)) ∧
  ∃ (J : World → Prop), (Br (!t21)
     (K (.bool t21) w_4)
     (Br (!t24)
       (K (.bool t21) w_4)
       (J  w_4))) ∧
  ∀ (z : Env)  (w_5 : World), J  w_5 →
  ∃ t33 : Int, ∃ t33_1 : Int, ∃ t33_2 : Sl, ∃ t33_3 : Sl, (At (fun w' => w' = w_5) ⟨b_x3, 0, none⟩ [.int .i64 t33, .int .i64 t33_1, .slice t33_2.a t33_2.len t33_2.cap, .slice t33_3.a t33_3.len t33_3.cap]) ∧
  Calls Tryz.prog 14 #[.agg #[.int .i64 t33, .int .i64 t33_1, .slice t33_2.a t33_2.len t33_2.cap, .slice t33_3.a t33_3.len t33_3.cap]] w_5 fun e_2 w_6 =>
  ∃ t34 : Option Addr, ∃ t34_1 : Option Addr, ∃ t34_2 : Bool, (e_2 = .returned (.tuple #[.pointer t34, .pointer t34_1, .bool t34_2])) ∧
  ∃ (J_1 : World → Prop), (Br (!t34_2)
     (K (.bool t34_2) w_6)
     (Br t34.isNone
       (K (.bool t34_2) w_6)
       (J_1  w_6))) ∧
  ∀ (z_1 : Env)  (w_7 : World), J_1  w_7 →
  ∃ (J_2 : World → Prop), (∃ (I : Int → World → Prop) (μ : Int → World → Nat), (I 0 w_7) ∧ ∀ (z_2 : Env) (i12 : Int) (w_8 : World), I i12 w_8 →
    Br (decide (i12 < (↑l1.len : Int)))
     (Br (decide (i12 < 60))
       (Rng i12 l1.len (NilP l1.a fun a_t59 =>
        ∃ t60 : Int, ∃ t60_1 : Int, ∃ t60_2 : Int, ∃ t60_3 : Int, ∃ t60_4 : ByteArray, (At (fun w' => w' = w_8) (Addr.add a_t59 (mulS i12.toNat 5)) [.int .i64 t60, .int .i64 t60_1, .int .i64 t60_2, .int .i64 t60_3, .string t60_4]) ∧
        Calls Tryz.prog 15 #[.pointer t34, .pointer t34_1, .agg #[.int .i64 t60, .int .i64 t60_1, .int .i64 t60_2, .int .i64 t60_3, .string t60_4]] w_8 fun e_3 w_9 =>
        ∃ t61 : Bool, (e_3 = .returned (.bool t61)) ∧
        (I (IntKind.i64.wrap (i12 + 1)) w_9) ∧ μ (IntKind.i64.wrap (i12 + 1)) w_9 < μ i12 w_8))
       (J_2  w_8))
     (J_2  w_8)) ∧
  ∀ (z_3 : Env)  (w_10 : World), J_2  w_10 →
  Calls Tryz.prog 23 #[.pointer t34] w_10 fun e_4 w_11 =>
  ∃ t63 : Sl, (e_4 = .returned (.slice t63.a t63.len t63.cap)) ∧
  ∃ t66 : Int, (At (fun w' => w' = w_11) ⟨b_s5, 0 + 1, none⟩ [.int .i64 t66]) ∧
  ∃ t68 : Int, (At (fun w' => w' = w_11) ⟨b_s5, 0 + 2, none⟩ [.int .i64 t68]) ∧
  ∃ t70 : Int, (At (fun w' => w' = w_11) ⟨b_s5, 0 + 3, none⟩ [.int .i64 t70]) ∧
  Calls Tryz.prog 26 #[.pointer t34, .int .i64 t66, .int .i64 t68, .int .i64 t70] w_11 fun e_5 w_12 =>
  ∃ t71 : Int, (e_5 = .returned (.int .i64 t71)) ∧
  ∃ (J_3 : World → Prop), (Br (t71 == 0)
     (∃ t76 : Int, (At (fun w' => w' = w_12) ⟨b_s5, 0 + 1, none⟩ [.int .i64 t76]) ∧
      ∃ t78 : ByteArray, (At (fun w' => w' = w_12) ⟨b_s5, 0 + 4, none⟩ [.string t78]) ∧
      Calls Tryz.prog 24 #[.pointer t34, .int .i64 t76, .string t78] w_12 fun e_6 w_13 =>
      ∃ t79 : Int, (e_6 = .returned (.int .i64 t79)) ∧
      ∃ t82 : Int, (At (fun w' => w' = w_13) ⟨b_s5, 0 + 1, none⟩ [.int .i64 t82]) ∧
      Calls Tryz.prog 27 #[.pointer t34, .int .i64 t82] w_13 fun e_7 w_14 =>
      ∃ t83 : Int, (e_7 = .returned (.int .i64 t83)) ∧
      Br (t83 != 0)
       (K (.bool false) w_14)
       (J_3  w_14))
     (J_3  w_12)) ∧
  ∀ (z_4 : Env)  (w_15 : World), J_3  w_15 →
  Calls Tryz.prog 23 #[.pointer t34] w_15 fun e_8 w_16 =>
  ∃ t87 : Sl, (e_8 = .returned (.slice t87.a t87.len t87.cap)) ∧
  Calls Tryz.prog 10 #[.slice t63.a t63.len t63.cap] w_16 fun e_9 w_17 =>
  ∃ t90 : Option Addr, ∃ t90_1 : Int, (e_9 = .returned (.tuple #[.pointer t90, .int .i64 t90_1])) ∧
  ∃ (J_4 : World → Prop), (Br (t90_1 != 0)
     (K (.bool false) w_17)
     (Br t90.isNone
       (K (.bool false) w_17)
       (J_4  w_17))) ∧
  ∀ (z_5 : Env)  (w_18 : World), J_4  w_18 →
  Calls Tryz.prog 23 #[.pointer t90] w_18 fun e_10 w_19 =>
  ∃ t100 : Sl, (e_10 = .returned (.slice t100.a t100.len t100.cap)) ∧
  Calls Tryz.prog 16 #[.pointer t90] w_19 fun e_11 w_20 =>
  ∃ t102 : Sl, (e_11 = .returned (.slice t102.a t102.len t102.cap)) ∧
  Calls Tryz.prog 16 #[.pointer t34] w_20 fun e_12 w_21 =>
  ∃ t104 : Sl, (e_12 = .returned (.slice t104.a t104.len t104.cap)) ∧
  Calls Tryz.prog 28 #[.slice t102.a t102.len t102.cap, .slice t104.a t104.len t104.cap] w_21 fun e_13 w_22 =>
  ∃ t105 : Bool, (e_13 = .returned (.bool t105)) ∧
  ∃ t107 : ByteArray, (∀ w', (fun w' => w' = w_22) w' → ((convert 22 9 (.slice t63.a t63.len t63.cap))).run Tryz.prog w' = .ok (.string t107) w') ∧
  ∃ t109 : ByteArray, (∀ w', (fun w' => w' = w_22) w' → ((convert 22 9 (.slice t87.a t87.len t87.cap))).run Tryz.prog w' = .ok (.string t109) w') ∧
  Br (t107.toList == t109.toList)
   (∃ t113 : ByteArray, (∀ w', (fun w' => w' = w_22) w' → ((convert 22 9 (.slice t63.a t63.len t63.cap))).run Tryz.prog w' = .ok (.string t113) w') ∧
    ∃ t115 : ByteArray, (∀ w', (fun w' => w' = w_22) w' → ((convert 22 9 (.slice t100.a t100.len t100.cap))).run Tryz.prog w' = .ok (.string t115) w') ∧
    Br (t113.toList == t115.toList)
     (K (.bool t105) w_22)
     (K (.bool false) w_22))
   (K (.bool false) w_22)) w_1) w

def sk8 : Sk := (.seq .leaf (.seq .leaf (.seq .leaf (.cut [] [] [6, 25, 26, 27, 28, 29, 30, 31] .leaf (.seq .leaf (.cut [] [] [6, 38, 39, 40, 41, 42, 43, 44] .leaf (.cut [] [] [12, 45, 46, 47, 48, 49, 50, 51, 52, 53, 54, 55, 56, 57, 58, 59, 60, 61] (.seq .leaf (.block (.loop [12] [(.int .i64)] [12, 45, 46, 47, 48, 49, 50, 51, 52, 53, 54, 55, 56, 57, 58, 59, 60, 61] .leaf))) (.seq .leaf (.seq .leaf (.cut [] [] [6, 15, 72, 73, 74, 75, 76, 77, 78, 79, 80, 81, 82, 83, 84, 85] .leaf (.seq .leaf (.seq .leaf (.cut [] [] [6, 93, 94, 95, 96, 97, 98] .leaf .leaf)))))))))))))
theorem ok8 : fnOk Tryz.prog Tryz.f8.ntmps Tryz.f8 sk8 = true := by kernel_rfl
theorem eq8 (x0_0 : Int) (x0_1 : Int) (x0_2 : Sl) (x0_3 : Sl) (l1 : Sl) (s2_0 : Int) (s2_1 : Int) (s2_2 : Int) (s2_3 : Int) (s2_4 : ByteArray) (K : Value → World → Prop) (w : World) : fnF Tryz.prog cl Tryz.f8 sk8 [.agg #[.int .i64 x0_0, .int .i64 x0_1, .slice x0_2.a x0_2.len x0_2.cap, .slice x0_3.a x0_3.len x0_3.cap], .slice l1.a l1.len l1.cap, .agg #[.int .i64 s2_0, .int .i64 s2_1, .int .i64 s2_2, .int .i64 s2_3, .string s2_4]] K w = B8 x0_0 x0_1 x0_2 x0_3 l1 s2_0 s2_1 s2_2 s2_3 s2_4 K w := by kernel_rfl
theorem call8 (x0_0 : Int) (x0_1 : Int) (x0_2 : Sl) (x0_3 : Sl) (l1 : Sl) (s2_0 : Int) (s2_1 : Int) (s2_2 : Int) (s2_3 : Int) (s2_4 : ByteArray) (K : Value → World → Prop) (w : World) (h : B8 x0_0 x0_1 x0_2 x0_3 l1 s2_0 s2_1 s2_2 s2_3 s2_4 K w) : Gets Tryz.prog 8 #[.agg #[.int .i64 x0_0, .int .i64 x0_1, .slice x0_2.a x0_2.len x0_2.cap, .slice x0_3.a x0_3.len x0_3.cap], .slice l1.a l1.len l1.cap, .agg #[.int .i64 s2_0, .int .i64 s2_1, .int .i64 s2_2, .int .i64 s2_3, .string s2_4]] w K :=
  calls_of (sk := sk8) cl_ok mixed Tryz.func8 ok8 (args := [.agg #[.int .i64 x0_0, .int .i64 x0_1, .slice x0_2.a x0_2.len x0_2.cap, .slice x0_3.a x0_3.len x0_3.cap], .slice l1.a l1.len l1.cap, .agg #[.int .i64 s2_0, .int .i64 s2_1, .int .i64 s2_2, .int .i64 s2_3, .string s2_4]]) (Nat.le_of_ble_eq_true (by kernel_rfl)) (by rw [eq8]; exact h)

/-- jetway/jetwaylaw15.awake. -/
def B9  (K : Value → World → Prop) (w : World) : Prop :=
  New (.cells #[.int .i64 2, .int .i64 2] 3 (0, 0)) (fun b_t6 w_1 =>
  New (.cells #[Value.float FloatKind.f64 4607182418800017408, Value.float FloatKind.f64 4602678819172646912] 66 (0, 0)) (fun b_t8 w_2 =>
  Calls Tryz.prog 14 #[.agg #[.int .i64 7, .int .i64 1, .slice ((some ⟨b_t6, 0, none⟩)) 2 2, .slice ((some ⟨b_t8, 0, none⟩)) 2 2]] w_2 fun e w_3 =>
  ∃ t10 : Option Addr, ∃ t10_1 : Option Addr, ∃ t10_2 : Bool, (e = .returned (.tuple #[.pointer t10, .pointer t10_1, .bool t10_2])) ∧
  ∃ (J : World → Prop), (Br (!t10_2)
     (K (.bool false) w_3)
     (Br t10.isNone
       (K (.bool false) w_3)
       (J  w_3))) ∧
  ∀ (z : Env)  (w_4 : World), J  w_4 →
  Calls Tryz.prog 29 #[.pointer t10] w_4 fun e_1 w_5 =>
  ∃ t21 : Sl, (e_1 = .returned (.slice t21.a t21.len t21.cap)) ∧
  Br ((↑t21.len : Int) == 2)
   (Rng 0 t21.len (NilP t21.a fun a_t27 =>
    ∃ t28 : Int, (At (fun w' => w' = w_5) (Addr.add a_t27 0) [.int .i64 t28]) ∧
    Br (t28 == 4)
     (Rng 1 t21.len (NilP t21.a fun a_t33 =>
      ∃ t34 : Int, (At (fun w' => w' = w_5) (Addr.add a_t33 1) [.int .i64 t34]) ∧
      K (.bool (t34 == 2)) w_5))
     (K (.bool false) w_5)))
   (K (.bool false) w_5)) w_1) w

def sk9 : Sk := (.seq .leaf (.seq .leaf (.cut [] [] [0, 14, 15, 16, 17, 18, 19] .leaf .leaf)))
theorem ok9 : fnOk Tryz.prog Tryz.f9.ntmps Tryz.f9 sk9 = true := by kernel_rfl
theorem eq9  (K : Value → World → Prop) (w : World) : fnF Tryz.prog cl Tryz.f9 sk9 [] K w = B9  K w := by kernel_rfl
theorem call9  (K : Value → World → Prop) (w : World) (h : B9  K w) : Gets Tryz.prog 9 #[] w K :=
  calls_of (sk := sk9) cl_ok mixed Tryz.func9 ok9 (args := []) (Nat.le_of_ble_eq_true (by kernel_rfl)) (by rw [eq9]; exact h)

/-- jetway/jetwaylaw15.alike. -/
def B12 (f0 : Option Addr) (r1 : Option Addr) (K : Value → World → Prop) (w : World) : Prop :=
  Drw w fun S w_1 =>
  NilP r1 fun a_t14 =>
  ∃ t16 : Sl, (At S ⟨a_t14.block, a_t14.off + 4, none⟩ [.slice t16.a t16.len t16.cap]) ∧
  Calls Tryz.prog 16 #[.pointer f0] w_1 fun e w_2 =>
  ∃ t12 : Sl, (e = .returned (.slice t12.a t12.len t12.cap)) ∧
  (S w_2) ∧
  Calls Tryz.prog 28 #[.slice t12.a t12.len t12.cap, .slice t16.a t16.len t16.cap] w_2 fun e_1 w_3 =>
  ∃ t17 : Bool, (e_1 = .returned (.bool t17)) ∧
  Calls Tryz.prog 29 #[.pointer f0] w_3 fun e_2 w_4 =>
  ∃ t19 : Sl, (e_2 = .returned (.slice t19.a t19.len t19.cap)) ∧
  Calls Tryz.prog 45 #[.pointer r1] w_4 fun e_3 w_5 =>
  ∃ t21 : Sl, (e_3 = .returned (.slice t21.a t21.len t21.cap)) ∧
  Calls Tryz.prog 44 #[.slice t19.a t19.len t19.cap, .slice t21.a t21.len t21.cap] w_5 fun e_4 w_6 =>
  ∃ t22 : Bool, (e_4 = .returned (.bool t22)) ∧
  Calls Tryz.prog 46 #[.pointer f0] w_6 fun e_5 w_7 =>
  ∃ t24 : Sl, (e_5 = .returned (.slice t24.a t24.len t24.cap)) ∧
  Calls Tryz.prog 47 #[.pointer r1] w_7 fun e_6 w_8 =>
  ∃ t26 : Sl, (e_6 = .returned (.slice t26.a t26.len t26.cap)) ∧
  Calls Tryz.prog 44 #[.slice t24.a t24.len t24.cap, .slice t26.a t26.len t26.cap] w_8 fun e_7 w_9 =>
  ∃ t27 : Bool, (e_7 = .returned (.bool t27)) ∧
  ∃ (I : Int → World → Prop) (μ : Int → World → Nat), (I 0 w_9) ∧ ∀ (z : Env) (owner8 : Int) (w_10 : World), I owner8 w_10 →
  Br (decide (owner8 < 8))
   (Calls Tryz.prog 22 #[.pointer f0, .int .i64 owner8] w_10 fun e_8 w_11 =>
    ∃ t34 : Sl, (e_8 = .returned (.slice t34.a t34.len t34.cap)) ∧
    Calls Tryz.prog 48 #[.pointer r1, .int .i64 owner8] w_11 fun e_9 w_12 =>
    ∃ t37 : Sl, (e_9 = .returned (.slice t37.a t37.len t37.cap)) ∧
    Calls Tryz.prog 21 #[.slice t34.a t34.len t34.cap, .slice t37.a t37.len t37.cap] w_12 fun e_10 w_13 =>
    ∃ t38 : Bool, (e_10 = .returned (.bool t38)) ∧
    Br (!t38)
     (K (.bool false) w_13)
     ((I (IntKind.i64.wrap (owner8 + 1)) w_13) ∧ μ (IntKind.i64.wrap (owner8 + 1)) w_13 < μ owner8 w_10))
   (Calls Tryz.prog 23 #[.pointer f0] w_10 fun e_11 w_14 =>
    ∃ t42 : Sl, (e_11 = .returned (.slice t42.a t42.len t42.cap)) ∧
    Drw w_14 fun S_1 w_15 =>
    Br t17
     (Br t22
       (Br t27
         (NilP r1 fun a_t54 =>
          ∃ t56 : Int, (At S_1 (Addr.add a_t54 0) [.int .i64 t56]) ∧
          Calls Tryz.prog 49 #[.pointer f0] w_15 fun e_12 w_16 =>
          ∃ t52 : Int, (e_12 = .returned (.int .i64 t52)) ∧
          (S_1 w_16) ∧
          Br (t52 == t56)
           (∃ t61 : ByteArray, (∀ w', S_1 w' → ((convert 22 9 (.slice t42.a t42.len t42.cap))).run Tryz.prog w' = .ok (.string t61) w') ∧
            Calls Tryz.prog 50 #[.pointer r1] w_16 fun e_13 w_17 =>
            ∃ t63 : Sl, (e_13 = .returned (.slice t63.a t63.len t63.cap)) ∧
            (S_1 w_17) ∧
            ∃ t64 : ByteArray, (∀ w', (fun w' => w' = w_17) w' → ((convert 22 9 (.slice t63.a t63.len t63.cap))).run Tryz.prog w' = .ok (.string t64) w') ∧
            K (.bool (t61.toList == t64.toList)) w_17)
           (K (.bool false) w_16))
         (K (.bool false) w_15))
       (K (.bool false) w_15))
     (K (.bool false) w_15))

def sk12 : Sk := (.seq .leaf (.seq (.block .leaf) (.seq .leaf (.seq .leaf (.seq (.seq .leaf (.block (.loop [8] [(.int .i64)] [4, 8, 9, 28, 29, 30, 31, 32, 33, 34, 35, 36, 37, 38, 39, 40] .leaf))) (.seq .leaf (.seq (.block .leaf) .leaf)))))))
theorem ok12 : fnOk Tryz.prog Tryz.f12.ntmps Tryz.f12 sk12 = true := by kernel_rfl
theorem eq12 (f0 : Option Addr) (r1 : Option Addr) (K : Value → World → Prop) (w : World) : fnF Tryz.prog cl Tryz.f12 sk12 [.pointer f0, .pointer r1] K w = B12 f0 r1 K w := by kernel_rfl
theorem call12 (f0 : Option Addr) (r1 : Option Addr) (K : Value → World → Prop) (w : World) (h : B12 f0 r1 K w) : Gets Tryz.prog 12 #[.pointer f0, .pointer r1] w K :=
  calls_of (sk := sk12) cl_ok mixed Tryz.func12 ok12 (args := [.pointer f0, .pointer r1]) (Nat.le_of_ble_eq_true (by kernel_rfl)) (by rw [eq12]; exact h)

/-- jetway/jetwaylaw15.few. -/
def B13 (x0_0 : Int) (x0_1 : Int) (x0_2 : Sl) (x0_3 : Sl) (l1 : Sl) (K : Value → World → Prop) (w : World) : Prop :=
  New (.cells #[.int .i64 x0_0, .int .i64 x0_1, .slice x0_2.a x0_2.len x0_2.cap, .slice x0_3.a x0_3.len x0_3.cap] 38 (0, 0)) (fun b_x2 w_1 =>
  ∃ t7 : Sl, (At (fun w' => w' = w_1) ⟨b_x2, 0 + 1 + 1, none⟩ [.slice t7.a t7.len t7.cap]) ∧
  Br (decide ((↑t7.len : Int) ≤ 100))
   (∃ t12 : Sl, (At (fun w' => w' = w_1) ⟨b_x2, 0 + 3, none⟩ [.slice t12.a t12.len t12.cap]) ∧
    K (.bool (decide ((↑t12.len : Int) ≤ 100))) w_1)
   (K (.bool false) w_1)) w

def sk13 : Sk := .leaf
theorem ok13 : fnOk Tryz.prog Tryz.f13.ntmps Tryz.f13 sk13 = true := by kernel_rfl
theorem eq13 (x0_0 : Int) (x0_1 : Int) (x0_2 : Sl) (x0_3 : Sl) (l1 : Sl) (K : Value → World → Prop) (w : World) : fnF Tryz.prog cl Tryz.f13 sk13 [.agg #[.int .i64 x0_0, .int .i64 x0_1, .slice x0_2.a x0_2.len x0_2.cap, .slice x0_3.a x0_3.len x0_3.cap], .slice l1.a l1.len l1.cap] K w = B13 x0_0 x0_1 x0_2 x0_3 l1 K w := by kernel_rfl
theorem call13 (x0_0 : Int) (x0_1 : Int) (x0_2 : Sl) (x0_3 : Sl) (l1 : Sl) (K : Value → World → Prop) (w : World) (h : B13 x0_0 x0_1 x0_2 x0_3 l1 K w) : Gets Tryz.prog 13 #[.agg #[.int .i64 x0_0, .int .i64 x0_1, .slice x0_2.a x0_2.len x0_2.cap, .slice x0_3.a x0_3.len x0_3.cap], .slice l1.a l1.len l1.cap] w K :=
  calls_of (sk := sk13) cl_ok mixed Tryz.func13 ok13 (args := [.agg #[.int .i64 x0_0, .int .i64 x0_1, .slice x0_2.a x0_2.len x0_2.cap, .slice x0_3.a x0_3.len x0_3.cap], .slice l1.a l1.len l1.cap]) (Nat.le_of_ble_eq_true (by kernel_rfl)) (by rw [eq13]; exact h)

/-- jetway/jetwaylaw15.fresh. -/
def B14 (x0_0 : Int) (x0_1 : Int) (x0_2 : Sl) (x0_3 : Sl) (K : Value → World → Prop) (w : World) : Prop :=
  New (.cells #[.int .i64 x0_0, .int .i64 x0_1, .slice x0_2.a x0_2.len x0_2.cap, .slice x0_3.a x0_3.len x0_3.cap] 38 (0, 0)) (fun b_x1 w_1 =>
  ∃ t11 : Int, (At (fun w' => w' = w_1) ⟨b_x1, 0, none⟩ [.int .i64 t11]) ∧
  ∃ t13 : Int, ∃ t13_1 : Sl, (At (fun w' => w' = w_1) ⟨b_x1, 0 + 1, none⟩ [.int .i64 t13, .slice t13_1.a t13_1.len t13_1.cap]) ∧
  ∃ t15 : Sl, (At (fun w' => w' = w_1) ⟨b_x1, 0 + 3, none⟩ [.slice t15.a t15.len t15.cap]) ∧
  Calls Tryz.prog 51 #[.int .i64 t11, .agg #[.int .i64 t13, .slice t13_1.a t13_1.len t13_1.cap], .slice t15.a t15.len t15.cap] w_1 fun e w_2 =>
  ∃ t16 : Option Addr, ∃ t16_1 : Int, (e = .returned (.tuple #[.pointer t16, .int .i64 t16_1])) ∧
  ∃ t21 : Int, (At (fun w' => w' = w_2) ⟨b_x1, 0, none⟩ [.int .i64 t21]) ∧
  ∃ t23 : Int, ∃ t23_1 : Sl, (At (fun w' => w' = w_2) ⟨b_x1, 0 + 1, none⟩ [.int .i64 t23, .slice t23_1.a t23_1.len t23_1.cap]) ∧
  ∃ t25 : Sl, (At (fun w' => w' = w_2) ⟨b_x1, 0 + 3, none⟩ [.slice t25.a t25.len t25.cap]) ∧
  Calls Tryz.prog 52 #[.int .i64 t21, .agg #[.int .i64 t23, .slice t23_1.a t23_1.len t23_1.cap], .slice t25.a t25.len t25.cap] w_2 fun e_1 w_3 =>
  ∃ t26 : Option Addr, ∃ t26_1 : Int, (e_1 = .returned (.tuple #[.pointer t26, .int .i64 t26_1])) ∧
  Br (t16_1 == t26_1)
   (K (.tuple #[.pointer t16, .pointer t26, .bool (t16.isNone == t26.isNone)]) w_3)
   (K (.tuple #[.pointer t16, .pointer t26, .bool false]) w_3)) w

def sk14 : Sk := .leaf
theorem ok14 : fnOk Tryz.prog Tryz.f14.ntmps Tryz.f14 sk14 = true := by kernel_rfl
theorem eq14 (x0_0 : Int) (x0_1 : Int) (x0_2 : Sl) (x0_3 : Sl) (K : Value → World → Prop) (w : World) : fnF Tryz.prog cl Tryz.f14 sk14 [.agg #[.int .i64 x0_0, .int .i64 x0_1, .slice x0_2.a x0_2.len x0_2.cap, .slice x0_3.a x0_3.len x0_3.cap]] K w = B14 x0_0 x0_1 x0_2 x0_3 K w := by kernel_rfl
theorem call14 (x0_0 : Int) (x0_1 : Int) (x0_2 : Sl) (x0_3 : Sl) (K : Value → World → Prop) (w : World) (h : B14 x0_0 x0_1 x0_2 x0_3 K w) : Gets Tryz.prog 14 #[.agg #[.int .i64 x0_0, .int .i64 x0_1, .slice x0_2.a x0_2.len x0_2.cap, .slice x0_3.a x0_3.len x0_3.cap]] w K :=
  calls_of (sk := sk14) cl_ok mixed Tryz.func14 ok14 (args := [.agg #[.int .i64 x0_0, .int .i64 x0_1, .slice x0_2.a x0_2.len x0_2.cap, .slice x0_3.a x0_3.len x0_3.cap]]) (Nat.le_of_ble_eq_true (by kernel_rfl)) (by rw [eq14]; exact h)

/-- jetway/jetwaylaw15.do. -/
def B15 (f0 : Option Addr) (r1 : Option Addr) (s2_0 : Int) (s2_1 : Int) (s2_2 : Int) (s2_3 : Int) (s2_4 : ByteArray) (K : Value → World → Prop) (w : World) : Prop :=
  New (.cells #[.int .i64 s2_0, .int .i64 s2_1, .int .i64 s2_2, .int .i64 s2_3, .string s2_4] 45 (0, 0)) (fun b_s5 w_1 =>
  ∃ t17 : Int, (At (fun w' => w' = w_1) ⟨b_s5, 0, none⟩ [.int .i64 t17]) ∧
  Br (t17 == 0)
   (∃ t22 : Int, (At (fun w' => w' = w_1) ⟨b_s5, 0 + 1, none⟩ [.int .i64 t22]) ∧
    ∃ t24 : Int, (At (fun w' => w' = w_1) ⟨b_s5, 0 + 2, none⟩ [.int .i64 t24]) ∧
    ∃ t26 : Int, (At (fun w' => w' = w_1) ⟨b_s5, 0 + 3, none⟩ [.int .i64 t26]) ∧
    Calls Tryz.prog 26 #[.pointer f0, .int .i64 t22, .int .i64 t24, .int .i64 t26] w_1 fun e w_2 =>
    ∃ t27 : Int, (e = .returned (.int .i64 t27)) ∧
    ∃ t31 : Int, (At (fun w' => w' = w_2) ⟨b_s5, 0 + 1, none⟩ [.int .i64 t31]) ∧
    ∃ t33 : Int, (At (fun w' => w' = w_2) ⟨b_s5, 0 + 2, none⟩ [.int .i64 t33]) ∧
    ∃ t35 : Int, (At (fun w' => w' = w_2) ⟨b_s5, 0 + 3, none⟩ [.int .i64 t35]) ∧
    Calls Tryz.prog 53 #[.pointer r1, .int .i64 t31, .int .i64 t33, .int .i64 t35] w_2 fun e_1 w_3 =>
    ∃ t36 : Int, (e_1 = .returned (.int .i64 t36)) ∧
    K (.bool (t27 == t36)) w_3)
   (Br (t17 == 1)
     (∃ t42 : Int, (At (fun w' => w' = w_1) ⟨b_s5, 0 + 1, none⟩ [.int .i64 t42]) ∧
      Calls Tryz.prog 27 #[.pointer f0, .int .i64 t42] w_1 fun e_2 w_4 =>
      ∃ t43 : Int, (e_2 = .returned (.int .i64 t43)) ∧
      ∃ t47 : Int, (At (fun w' => w' = w_4) ⟨b_s5, 0 + 1, none⟩ [.int .i64 t47]) ∧
      Calls Tryz.prog 54 #[.pointer r1, .int .i64 t47] w_4 fun e_3 w_5 =>
      ∃ t48 : Int, (e_3 = .returned (.int .i64 t48)) ∧
      K (.bool (t43 == t48)) w_5)
     (Br (t17 == 2)
       (∃ t54 : Int, (At (fun w' => w' = w_1) ⟨b_s5, 0 + 1, none⟩ [.int .i64 t54]) ∧
        ∃ t56 : ByteArray, (At (fun w' => w' = w_1) ⟨b_s5, 0 + 4, none⟩ [.string t56]) ∧
        Calls Tryz.prog 24 #[.pointer f0, .int .i64 t54, .string t56] w_1 fun e_4 w_6 =>
        ∃ t57 : Int, (e_4 = .returned (.int .i64 t57)) ∧
        ∃ t61 : Int, (At (fun w' => w' = w_6) ⟨b_s5, 0 + 1, none⟩ [.int .i64 t61]) ∧
        ∃ t63 : ByteArray, (At (fun w' => w' = w_6) ⟨b_s5, 0 + 4, none⟩ [.string t63]) ∧
        Calls Tryz.prog 55 #[.pointer r1, .int .i64 t61, .string t63] w_6 fun e_5 w_7 =>
        ∃ t64 : Int, (e_5 = .returned (.int .i64 t64)) ∧
        K (.bool (t57 == t64)) w_7)
       (Br (t17 == 3)
         (∃ t70 : Int, (At (fun w' => w' = w_1) ⟨b_s5, 0 + 1, none⟩ [.int .i64 t70]) ∧
          ∃ t72 : ByteArray, (At (fun w' => w' = w_1) ⟨b_s5, 0 + 4, none⟩ [.string t72]) ∧
          Calls Tryz.prog 25 #[.pointer f0, .int .i64 t70, .string t72] w_1 fun e_6 w_8 =>
          ∃ t73 : Int, (e_6 = .returned (.int .i64 t73)) ∧
          ∃ t77 : Int, (At (fun w' => w' = w_8) ⟨b_s5, 0 + 1, none⟩ [.int .i64 t77]) ∧
          ∃ t79 : ByteArray, (At (fun w' => w' = w_8) ⟨b_s5, 0 + 4, none⟩ [.string t79]) ∧
          Calls Tryz.prog 56 #[.pointer r1, .int .i64 t77, .string t79] w_8 fun e_7 w_9 =>
          ∃ t80 : Int, (e_7 = .returned (.int .i64 t80)) ∧
          K (.bool (t73 == t80)) w_9)
         (∃ t85 : Int, (At (fun w' => w' = w_1) ⟨b_s5, 0 + 1, none⟩ [.int .i64 t85]) ∧
          Calls Tryz.prog 19 #[.pointer f0, .int .i64 t85] w_1 fun e_8 w_10 =>
          ∃ t86 : Sl, ∃ t86_1 : Int, (e_8 = .returned (.tuple #[.slice t86.a t86.len t86.cap, .int .i64 t86_1])) ∧
          ∃ t92 : Int, (At (fun w' => w' = w_10) ⟨b_s5, 0 + 1, none⟩ [.int .i64 t92]) ∧
          Calls Tryz.prog 20 #[.pointer r1, .int .i64 t92] w_10 fun e_9 w_11 =>
          ∃ t93 : Sl, ∃ t93_1 : Int, (e_9 = .returned (.tuple #[.slice t93.a t93.len t93.cap, .int .i64 t93_1])) ∧
          Calls Tryz.prog 21 #[.slice t86.a t86.len t86.cap, .slice t93.a t93.len t93.cap] w_11 fun e_10 w_12 =>
          ∃ t98 : Bool, (e_10 = .returned (.bool t98)) ∧
          Br t98
           (K (.bool (t86_1 == t93_1)) w_12)
           (K (.bool false) w_12)))))) w

def sk15 : Sk := .leaf
theorem ok15 : fnOk Tryz.prog Tryz.f15.ntmps Tryz.f15 sk15 = true := by kernel_rfl
theorem eq15 (f0 : Option Addr) (r1 : Option Addr) (s2_0 : Int) (s2_1 : Int) (s2_2 : Int) (s2_3 : Int) (s2_4 : ByteArray) (K : Value → World → Prop) (w : World) : fnF Tryz.prog cl Tryz.f15 sk15 [.pointer f0, .pointer r1, .agg #[.int .i64 s2_0, .int .i64 s2_1, .int .i64 s2_2, .int .i64 s2_3, .string s2_4]] K w = B15 f0 r1 s2_0 s2_1 s2_2 s2_3 s2_4 K w := by kernel_rfl
theorem call15 (f0 : Option Addr) (r1 : Option Addr) (s2_0 : Int) (s2_1 : Int) (s2_2 : Int) (s2_3 : Int) (s2_4 : ByteArray) (K : Value → World → Prop) (w : World) (h : B15 f0 r1 s2_0 s2_1 s2_2 s2_3 s2_4 K w) : Gets Tryz.prog 15 #[.pointer f0, .pointer r1, .agg #[.int .i64 s2_0, .int .i64 s2_1, .int .i64 s2_2, .int .i64 s2_3, .string s2_4]] w K :=
  calls_of (sk := sk15) cl_ok mixed Tryz.func15 ok15 (args := [.pointer f0, .pointer r1, .agg #[.int .i64 s2_0, .int .i64 s2_1, .int .i64 s2_2, .int .i64 s2_3, .string s2_4]]) (Nat.le_of_ble_eq_true (by kernel_rfl)) (by rw [eq15]; exact h)

end Go.Proofs.YtaacfjdknlglhaaGreatDoor
/- Packages seat and reference 13: layouts. Condition: none. -/
namespace Go.Proofs.YtaacfjdknlglhaaGreatDoor
set_option linter.unusedVariables false
open Go Go.VC

variable {R : Cx} {Hs Rest : List HP} {w : World}

/-! ### Plain -/
theorem sum_app : ∀ a b : List Int, (a ++ b).sum = a.sum + b.sum
  | [], b => by simp
  | x :: a, b => by simp only [List.cons_append, List.sum_cons, sum_app a b]; omega
theorem sum_take {g : List Int} {j : Nat} (h : j < g.length) : (g.take (j + 1)).sum = (g.take j).sum + g[j] := by
  rw [List.take_add_one, List.getElem?_eq_getElem h, sum_app]
  simp
theorem sum_bd {g : List Int} (h : ∀ x ∈ g, 0 ≤ x ∧ x ≤ 10) : 0 ≤ g.sum ∧ g.sum ≤ 10 * g.length := by
  induction g with
  | nil => simp
  | cons a g ih =>
    have := ih fun x hx => h x (List.mem_cons_of_mem _ hx)
    have := h a List.mem_cons_self
    simp only [List.sum_cons, List.length_cons]
    omega
/-- Each group has one to ten seats. -/
def grpsOk (g : List Int) : Bool := g.all fun x => decide (1 ≤ x ∧ x ≤ 10)
def layOk (n : Int) (g : List Int) : Bool := decide (1 ≤ n ∧ n ≤ 60 ∧ 1 ≤ g.length ∧ g.length ≤ 4) && (grpsOk g && decide (g.sum ≤ 10))
def layN (n : Int) (g : List Int) : Int := if layOk n g then n * g.sum else 0
theorem grpsOk_iff {g : List Int} : grpsOk g = true ↔ ∀ x ∈ g, 1 ≤ x ∧ x ≤ 10 := by simp [grpsOk]
theorem grpsOk_bd {g : List Int} (h : grpsOk g = true) : ∀ x ∈ g, 0 ≤ x ∧ x ≤ 10 := fun x hx => by have := grpsOk_iff.1 h x hx; omega
theorem layOk_iff {n : Int} {g : List Int} : layOk n g = true ↔ (1 ≤ n ∧ n ≤ 60 ∧ 1 ≤ g.length ∧ g.length ≤ 4) ∧ (∀ x ∈ g, 1 ≤ x ∧ x ≤ 10) ∧ g.sum ≤ 10 := by
  simp [layOk, grpsOk]
theorem sum_pos {g : List Int} (h : ∀ x ∈ g, 1 ≤ x ∧ x ≤ 10) (hl : 1 ≤ g.length) : 1 ≤ g.sum := by
  match g, hl with
  | a :: g, _ =>
    have h1 := h a List.mem_cons_self
    have h2 := sum_bd (g := g) fun x hx => by have := h x (List.mem_cons_of_mem _ hx); omega
    simp only [List.sum_cons]; omega
theorem layN_ok {n : Int} {g : List Int} (h : layOk n g = true) : layN n g = n * g.sum := by unfold layN; rw [if_pos h]
theorem mul_bd {a b : Int} (h0 : 0 ≤ a) (h1 : a ≤ 60) (h2 : 0 ≤ b) (h3 : b ≤ 10) : 0 ≤ a * b ∧ a * b ≤ 600 :=
  ⟨Int.mul_nonneg h0 h2, by have := Int.mul_le_mul h1 h3 h2 (by omega); omega⟩
theorem layN_bd (n : Int) (g : List Int) : 0 ≤ layN n g ∧ layN n g ≤ 600 := by
  unfold layN
  split
  · rename_i h
    obtain ⟨h1, h2, h3⟩ := layOk_iff.1 h
    have := sum_bd (fun x hx => by have := h2 x hx; omega) (g := g)
    exact mul_bd (by omega) (by omega) (by omega) (by omega)
  · omega

/-! ### The width -/
abbrev layC (n : Int) (s : Sl) : Obj := .cells [.int .i64 n, .slice s.a s.len s.cap].toArray 35 (0, 0)

theorem across_spec {n : Int} {s : Sl} {g : List Int} (hs : RoI R s g) (hg : ∀ x ∈ g, 0 ≤ x ∧ x ≤ 10) (hl : g.length ≤ 4) (hw : Sat R Hs w) :
    Gets Tryz.prog 87 #[.agg #[.int .i64 n, .slice s.a s.len s.cap]] w fun v w' => v = .int .i64 g.sum ∧ Sat R Hs w' := by
  have hlen := hs.len
  apply call87
  refine new_rule hw fun p w hw => ?_
  have hw : Sat R (pts p (layC n s) :: Hs) w := hw
  refine ⟨s, At.own (eqS hw) (by exact ⟨rfl, trivial⟩), ?_⟩
  refine ⟨fun m i w => ∃ j : Nat, i = j ∧ j ≤ g.length ∧ m = (g.take j).sum ∧ Sat R (pts p (layC n s) :: Hs) w, fun _ i _ => g.length - i.toNat, ⟨0, rfl, by omega, by simp, hw⟩, ?_⟩
  clear hw
  rintro _ _ _ w ⟨j, rfl, hj, rfl, hw⟩
  refine Br.d (fun h => ?_) (fun h => ?_)
  · have hj2 : j < g.length := by omega
    refine hs.idx (eqS hw) hj2 ?_
    have hb := sum_bd (fun x hx => hg x (List.mem_of_mem_take hx)) (g := g.take j)
    have hb2 : (g.take j).length ≤ 4 := by rw [List.length_take]; omega
    have hx := hg g[j] (List.getElem_mem _)
    rw [wrap64 (x := (j : Int) + 1) (by omega) (by omega), wrap64 (by omega) (by omega)]
    exact ⟨⟨j + 1, by omega, by omega, (sum_take hj2).symm, hw⟩, by dsimp only; omega⟩
  · rw [List.take_of_length_le (by omega)]
    exact ⟨rfl, hw.drop⟩

theorem racross_spec {n : Int} {s : Sl} {g : List Int} (hs : RoI R s g) (hg : ∀ x ∈ g, 0 ≤ x ∧ x ≤ 10) (hl : g.length ≤ 4) (hw : Sat R Hs w) :
    Gets Tryz.prog 110 #[.agg #[.int .i64 n, .slice s.a s.len s.cap]] w fun v w' => v = .int .i64 g.sum ∧ Sat R Hs w' := by
  have hlen := hs.len
  apply call110
  refine new_rule hw fun p w hw => ?_
  have hw : Sat R (pts p (layC n s) :: Hs) w := hw
  refine ⟨fun m i w => ∃ j : Nat, i = j ∧ j ≤ g.length ∧ m = (g.take j).sum ∧ Sat R (pts p (layC n s) :: Hs) w, fun _ i _ => g.length - i.toNat, ⟨0, rfl, by omega, by simp, hw⟩, ?_⟩
  clear hw
  rintro _ _ _ w ⟨j, rfl, hj, rfl, hw⟩
  refine ⟨s, At.own (eqS hw) (by exact ⟨rfl, trivial⟩), Br.d (fun h => ?_) (fun h => ?_)⟩
  · have hj2 : j < g.length := by omega
    refine ⟨s, At.own (eqS hw) (by exact ⟨rfl, trivial⟩), hs.idx (eqS hw) hj2 ?_⟩
    have hb := sum_bd (fun x hx => hg x (List.mem_of_mem_take hx)) (g := g.take j)
    have hb2 : (g.take j).length ≤ 4 := by rw [List.length_take]; omega
    have hx := hg g[j] (List.getElem_mem _)
    rw [wrap64 (x := (j : Int) + 1) (by omega) (by omega), wrap64 (by omega) (by omega)]
    exact ⟨⟨j + 1, by omega, by omega, (sum_take hj2).symm, hw⟩, by dsimp only; omega⟩
  · rw [List.take_of_length_le (by omega)]
    exact ⟨rfl, hw.drop⟩

/-! ### Whether it is right -/
theorem idxF_spec {s : Sl} {l : List Int} {f : Value} {p : Int → Bool} (hs : RoI R s l) (hf : ∀ x w, Sat R Hs w → CalW Tryz.prog cl f [.int .i64 x] w fun e w' => e = .returned (.bool (p x)) ∧ Sat R Hs w') (hw : Sat R Hs w) :
    Gets Tryz.prog 113 #[.slice s.a s.len s.cap, f] w fun v w' => (∃ n : Int, v = .int .i64 n ∧ (l.any p = true ↔ 0 ≤ n)) ∧ Sat R Hs w' := by
  have hlen := hs.len
  have hbd := hs.bound
  apply call113
  refine ⟨fun i w => ∃ j : Nat, i = j ∧ j ≤ l.length ∧ (l.take j).any p = false ∧ Sat R Hs w, fun i _ => l.length - i.toNat, ⟨0, rfl, by omega, by simp, hw⟩, ?_⟩
  clear hw
  rintro _ _ w ⟨j, rfl, hj, hn, hw⟩
  refine Br.d (fun h => ?_) (fun h => ?_)
  · have hj2 : j < l.length := by omega
    refine hs.idx (eqS hw) hj2 ?_
    refine (hf l[j] _ hw).mono ?_
    rintro _ w ⟨rfl, hw⟩
    refine ⟨_, rfl, Br.mk (fun h => ⟨⟨j, rfl, ⟨fun _ => by omega, fun _ => List.any_eq_true.2 ⟨_, List.getElem_mem _, h⟩⟩⟩, hw⟩) (fun h => ?_)⟩
    rw [wrap64 (by omega) (by omega)]
    refine ⟨⟨j + 1, by omega, by omega, ?_, hw⟩, by dsimp only; omega⟩
    rw [List.take_add_one, List.getElem?_eq_getElem hj2, List.any_append, hn]
    simp [h]
  · refine ⟨⟨-1, rfl, ⟨fun h2 => ?_, fun h2 => by omega⟩⟩, hw⟩
    rw [List.take_of_length_le (by omega)] at hn
    rw [hn] at h2; cases h2

theorem contF_spec {s : Sl} {l : List Int} {f : Value} {p : Int → Bool} (hs : RoI R s l) (hf : ∀ x w, Sat R Hs w → CalW Tryz.prog cl f [.int .i64 x] w fun e w' => e = .returned (.bool (p x)) ∧ Sat R Hs w') (hw : Sat R Hs w) :
    Gets Tryz.prog 86 #[.slice s.a s.len s.cap, f] w fun v w' => v = .bool (l.any p) ∧ Sat R Hs w' := by
  apply call86
  refine (idxF_spec hs hf hw).use ?_
  rintro _ w ⟨⟨n, rfl, h⟩, hw⟩
  refine ⟨n, rfl, ?_, hw⟩
  congr 1
  rw [Bool.eq_iff_iff, decide_eq_true_iff]
  exact h.symm

theorem odd_spec {g : Int} (hw : Sat R Hs w) : Gets Tryz.prog 85 #[.int .i64 g] w fun v w' => v = .bool (!decide (1 ≤ g ∧ g ≤ 10)) ∧ Sat R Hs w' := by
  apply call85
  refine Br.d (fun h => ⟨?_, hw⟩) (fun h => ⟨?_, hw⟩)
  · rw [decide_eq_false (by omega)]; rfl
  · congr 1
    rw [← decide_not, decide_eq_decide]; omega

theorem layOk_no {n : Int} {g : List Int} (h : ¬ ((1 ≤ n ∧ n ≤ 60 ∧ 1 ≤ g.length ∧ g.length ≤ 4) ∧ (∀ x ∈ g, 1 ≤ x ∧ x ≤ 10) ∧ g.sum ≤ 10)) : layOk n g = false := by
  rw [← Bool.not_eq_true, layOk_iff]; exact h

theorem right_spec {n : Int} {s : Sl} {g : List Int} (hs : RoI R s g) (hw : Sat R Hs w) :
    Gets Tryz.prog 35 #[.agg #[.int .i64 n, .slice s.a s.len s.cap]] w fun v w' => v = .bool (layOk n g) ∧ Sat R Hs w' := by
  have hlen := hs.len
  apply call35
  refine new_rule hw fun p w hw => ?_
  have hw : Sat R (pts p (layC n s) :: Hs) w := hw
  refine ⟨n, At.own (eqS hw) (by exact ⟨rfl, trivial⟩), Br.d (fun h1 => ⟨by rw [layOk_no (fun h => by omega)], hw.drop⟩) (fun h1 => ?_)⟩
  refine ⟨n, At.own (eqS hw) (by exact ⟨rfl, trivial⟩), Br.d (fun h2 => ⟨by rw [layOk_no (fun h => by omega)], hw.drop⟩) (fun h2 => ?_)⟩
  refine ⟨s, At.own (eqS hw) (by exact ⟨rfl, trivial⟩), Br.d (fun h3 => ⟨by rw [layOk_no (fun h => by omega)], hw.drop⟩) (fun h3 => ?_)⟩
  refine ⟨s, At.own (eqS hw) (by exact ⟨rfl, trivial⟩), Br.d (fun h4 => ⟨by rw [layOk_no (fun h => by omega)], hw.drop⟩) (fun h4 => ?_)⟩
  refine ⟨s, At.own (eqS hw) (by exact ⟨rfl, trivial⟩), ?_⟩
  refine (contF_spec (p := fun x => !decide (1 ≤ x ∧ x ≤ 10)) hs (fun x w hw => CalW.mk (by kernel_rfl) ((odd_spec hw).use fun v w' h => ⟨by rw [h.1], h.2⟩)) hw).use ?_
  rintro _ w ⟨rfl, hw⟩
  refine ⟨_, rfl, Br.mk (fun h5 => ⟨?_, hw.drop⟩) (fun h5 => ?_)⟩
  · rw [layOk_no (fun h => ?_)]
    obtain ⟨x, hx, hx2⟩ := List.any_eq_true.1 h5
    have := h.2.1 x hx
    rw [decide_eq_true this] at hx2; cases hx2
  have hg : ∀ x ∈ g, 1 ≤ x ∧ x ≤ 10 := fun x hx => by
    by_cases h : 1 ≤ x ∧ x ≤ 10
    · exact h
    · have : (g.any fun x => !decide (1 ≤ x ∧ x ≤ 10)) = true := List.any_eq_true.2 ⟨x, hx, by rw [decide_eq_false h]; rfl⟩
      rw [h5] at this; cases this
  refine ⟨n, s, At.own (eqS hw) (by exact ⟨rfl, rfl, trivial⟩), ?_⟩
  refine (across_spec hs (fun x hx => by have := hg x hx; omega) (by omega) hw).use ?_
  rintro _ w ⟨rfl, hw⟩
  refine ⟨_, rfl, ?_, hw.drop⟩
  congr 1
  rw [Bool.eq_iff_iff, decide_eq_true_iff, layOk_iff]
  exact ⟨fun h => ⟨⟨by omega, by omega, by omega, by omega⟩, hg, h⟩, fun h => h.2.2⟩

theorem rright_spec {n : Int} {s : Sl} {g : List Int} (hs : RoI R s g) (hw : Sat R Hs w) :
    Gets Tryz.prog 91 #[.agg #[.int .i64 n, .slice s.a s.len s.cap]] w fun v w' => v = .bool (layOk n g) ∧ Sat R Hs w' := by
  have hlen := hs.len
  have hbd := hs.bound
  apply call91
  refine new_rule hw fun p w hw => ?_
  have hw : Sat R (pts p (layC n s) :: Hs) w := hw
  refine ⟨fun w => (1 ≤ n ∧ n ≤ 60 ∧ 1 ≤ g.length ∧ g.length ≤ 4) ∧ Sat R (pts p (layC n s) :: Hs) w, ?_, ?_⟩
  · refine ⟨n, At.own (eqS hw) (by exact ⟨rfl, trivial⟩), Br.d (fun h1 => ⟨by rw [layOk_no (fun h => by omega)], hw.drop⟩) (fun h1 => ?_)⟩
    refine ⟨n, At.own (eqS hw) (by exact ⟨rfl, trivial⟩), Br.d (fun h2 => ⟨by rw [layOk_no (fun h => by omega)], hw.drop⟩) (fun h2 => ?_)⟩
    refine ⟨s, At.own (eqS hw) (by exact ⟨rfl, trivial⟩), Br.d (fun h3 => ⟨by rw [layOk_no (fun h => by omega)], hw.drop⟩) (fun h3 => ?_)⟩
    refine ⟨s, At.own (eqS hw) (by exact ⟨rfl, trivial⟩), Br.d (fun h4 => ⟨by rw [layOk_no (fun h => by omega)], hw.drop⟩) (fun h4 => ⟨⟨by omega, by omega, by omega, by omega⟩, hw⟩)⟩
  clear hw
  rintro _ w ⟨h0, hw⟩
  refine ⟨fun i w => ∃ j : Nat, i = j ∧ j ≤ g.length ∧ (∀ x ∈ g.take j, 1 ≤ x ∧ x ≤ 10) ∧ Sat R (pts p (layC n s) :: Hs) w, fun i _ => g.length - i.toNat, ⟨0, rfl, by omega, by simp, hw⟩, ?_⟩
  clear hw
  rintro _ _ w ⟨j, rfl, hj, hn, hw⟩
  refine ⟨s, At.own (eqS hw) (by exact ⟨rfl, trivial⟩), Br.d (fun h => ?_) (fun h => ?_)⟩
  · have hj2 : j < g.length := by omega
    have no : ¬ (1 ≤ g[j] ∧ g[j] ≤ 10) → layOk n g = false := fun h => layOk_no fun h2 => h (h2.2.1 _ (List.getElem_mem _))
    refine ⟨s, At.own (eqS hw) (by exact ⟨rfl, trivial⟩), hs.idx (eqS hw) hj2 ?_⟩
    refine Br.d (fun h1 => ⟨by rw [no (by omega)], hw.drop⟩) (fun h1 => ?_)
    refine ⟨s, At.own (eqS hw) (by exact ⟨rfl, trivial⟩), hs.idx (eqS hw) hj2 ?_⟩
    refine Br.d (fun h2 => ⟨by rw [no (by omega)], hw.drop⟩) (fun h2 => ?_)
    rw [wrap64 (by omega) (by omega)]
    refine ⟨⟨j + 1, by omega, by omega, ?_, hw⟩, by dsimp only; omega⟩
    rw [List.take_add_one, List.getElem?_eq_getElem hj2]
    intro x hx
    simp only [Option.toList_some, List.mem_append, List.mem_singleton] at hx
    rcases hx with hx | rfl
    · exact hn x hx
    · omega
  · rw [List.take_of_length_le (by omega)] at hn
    refine ⟨n, s, At.own (eqS hw) (by exact ⟨rfl, rfl, trivial⟩), ?_⟩
    refine (racross_spec hs (fun x hx => by have := hn x hx; omega) (by omega) hw).use ?_
    rintro _ w ⟨rfl, hw⟩
    refine ⟨_, rfl, ?_, hw.drop⟩
    congr 1
    rw [Bool.eq_iff_iff, decide_eq_true_iff, layOk_iff]
    exact ⟨fun h => ⟨h0, hn, h⟩, fun h => h.2.2⟩

/-! ### How many seats -/
theorem count_spec {n : Int} {s : Sl} {g : List Int} (hs : RoI R s g) (hw : Sat R Hs w) :
    Gets Tryz.prog 37 #[.agg #[.int .i64 n, .slice s.a s.len s.cap]] w fun v w' => v = .int .i64 (layN n g) ∧ Sat R Hs w' := by
  apply call37
  refine new_rule hw fun p w hw => ?_
  have hw : Sat R (pts p (layC n s) :: Hs) w := hw
  refine ⟨n, s, At.own (eqS hw) (by exact ⟨rfl, rfl, trivial⟩), ?_⟩
  refine (right_spec hs hw).use ?_
  rintro _ w ⟨rfl, hw⟩
  refine ⟨_, rfl, Br.nb (fun h => ⟨?_, hw.drop⟩) (fun h => ?_)⟩
  · unfold layN; rw [h]; rfl
  obtain ⟨h1, h2, h3⟩ := layOk_iff.1 h
  refine drw_rule hw fun w hw => ?_
  refine ⟨n, At.own selfS (by exact ⟨rfl, trivial⟩), n, s, At.own selfS (by exact ⟨rfl, rfl, trivial⟩), ?_⟩
  refine (across_spec hs (fun x hx => by have := h2 x hx; omega) (by omega) hw).use ?_
  rintro _ w ⟨rfl, hw⟩
  have hb := layN_bd n g
  rw [layN_ok h] at hb ⊢
  refine ⟨_, rfl, hw, ?_, hw.drop⟩
  rw [wrap64 (by omega) (by omega)]

theorem rcount_spec {n : Int} {s : Sl} {g : List Int} (hs : RoI R s g) (hw : Sat R Hs w) :
    Gets Tryz.prog 92 #[.agg #[.int .i64 n, .slice s.a s.len s.cap]] w fun v w' => v = .int .i64 (layN n g) ∧ Sat R Hs w' := by
  apply call92
  refine new_rule hw fun p w hw => ?_
  have hw : Sat R (pts p (layC n s) :: Hs) w := hw
  refine ⟨n, s, At.own (eqS hw) (by exact ⟨rfl, rfl, trivial⟩), ?_⟩
  refine (rright_spec hs hw).use ?_
  rintro _ w ⟨rfl, hw⟩
  refine ⟨_, rfl, Br.nb (fun h => ⟨?_, hw.drop⟩) (fun h => ?_)⟩
  · unfold layN; rw [h]; rfl
  obtain ⟨h1, h2, h3⟩ := layOk_iff.1 h
  refine drw_rule hw fun w hw => ?_
  refine ⟨n, At.own selfS (by exact ⟨rfl, trivial⟩), n, s, At.own selfS (by exact ⟨rfl, rfl, trivial⟩), ?_⟩
  refine (racross_spec hs (fun x hx => by have := h2 x hx; omega) (by omega) hw).use ?_
  rintro _ w ⟨rfl, hw⟩
  have hb := layN_bd n g
  rw [layN_ok h] at hb ⊢
  refine ⟨_, rfl, hw, ?_, hw.drop⟩
  rw [wrap64 (by omega) (by omega)]

theorem shas_spec {n k : Int} {s : Sl} {g : List Int} (hs : RoI R s g) (hw : Sat R Hs w) :
    Gets Tryz.prog 102 #[.agg #[.int .i64 n, .slice s.a s.len s.cap], .int .i64 k] w fun v w' => v = .bool (decide (0 ≤ k ∧ k < layN n g)) ∧ Sat R Hs w' := by
  apply call102
  refine new_rule hw fun p w hw => ?_
  have hw : Sat R (pts p (layC n s) :: Hs) w := hw
  refine Br.d (fun h => ?_) (fun h => ⟨by rw [decide_eq_false (by omega)], hw.drop⟩)
  refine ⟨n, s, At.own (eqS hw) (by exact ⟨rfl, rfl, trivial⟩), ?_⟩
  refine (count_spec hs hw).use ?_
  rintro _ w ⟨rfl, hw⟩
  refine ⟨_, rfl, ?_, hw.drop⟩
  congr 1
  rw [decide_eq_decide]; omega

theorem has_spec {s : Sl} {l : List Int} {k : Int} (hs : RoI R s l) (hw : Sat R Hs w) :
    Gets Tryz.prog 17 #[.slice s.a s.len s.cap, .int .i64 k] w fun v w' => v = .bool (decide (k ∈ l)) ∧ Sat R Hs w' := by
  have hlen := hs.len
  have hbd := hs.bound
  apply call17
  refine ⟨fun i w => ∃ j : Nat, i = j ∧ j ≤ l.length ∧ k ∉ l.take j ∧ Sat R Hs w, fun i _ => l.length - i.toNat, ⟨0, rfl, by omega, by simp, hw⟩, ?_⟩
  clear hw
  rintro _ _ w ⟨j, rfl, hj, hn, hw⟩
  refine Br.d (fun h => ?_) (fun h => ?_)
  · have hj2 : j < l.length := by omega
    refine hs.idx (eqS hw) hj2 ?_
    refine Br.e (fun h => ⟨?_, hw⟩) (fun h => ?_)
    · rw [decide_eq_true (show k ∈ l by rw [← h]; exact List.getElem_mem _)]
    rw [wrap64 (by omega) (by omega)]
    refine ⟨⟨j + 1, by omega, by omega, ?_, hw⟩, by dsimp only; omega⟩
    rw [List.take_add_one, List.getElem?_eq_getElem hj2]
    simp only [Option.toList_some, List.mem_append, List.mem_singleton, not_or]
    exact ⟨hn, fun h2 => h h2.symm⟩
  · rw [List.take_of_length_le (by omega)] at hn
    exact ⟨by rw [decide_eq_false hn], hw⟩
end Go.Proofs.YtaacfjdknlglhaaGreatDoor
/- The names of seats, plain: digits of the row, a letter. No program in sight. Condition: none. -/
namespace Go.Proofs.YtaacfjdknlglhaaGreatDoor
set_option linter.unusedVariables false
open Go Go.VC

/-- The letters, as numbers. -/
def letterL : List Int := [65, 66, 67, 68, 69, 70, 71, 72, 74, 75]
def letterI (c : Nat) : Int := letterL.getD c 0
def rowL (r : Nat) : List Int := (if 10 ≤ r then [48 + ((r / 10 : Nat) : Int)] else []) ++ [48 + ((r % 10 : Nat) : Int)]
def labelL (r c : Nat) : List Int := rowL r ++ [letterI c]
/-- The name of seat k, in a cabin of width w. -/
def labS (w k : Int) : ByteArray := VC.strOf (labelL (k / w + 1).toNat (k % w).toNat)

def letterB : ByteArray := ByteArray.mk #[65, 66, 67, 68, 69, 70, 71, 72, 74, 75]
theorem letter_ext : ∀ c : Fin 10, letterB.extract c.1 (c.1 + 1) = VC.strOf [letterI c.1] := by decide +kernel
theorem letter_at : ∀ c : Fin 10, ∃ b : UInt8, letterB[c.1]? = some b ∧ (b.toNat : Int) = letterI c.1 := by decide +kernel
theorem label_app : ∀ r : Fin 61, ∀ c : Fin 10, VC.strOf (rowL r.1) ++ VC.strOf [letterI c.1] = VC.strOf (labelL r.1 c.1) := by decide +kernel

/-- The letter's place; -1: there is none. -/
def colI (c : Int) : Int := match letterL.findIdx? (· == c) with | some i => i | none => -1
def isDig (c : Int) : Bool := decide (48 ≤ c ∧ c ≤ 57)

/-- What is read out of a name: row and letter. -/
def prs : List Int → Bool → Int → Int → Option (Int × Int)
  | [], _, row, last => some (row, last)
  | c :: l, first, row, last =>
    if 0 ≤ last ∨ (first = true ∧ c = 48) ∨ row > 60 then none
    else if isDig c then prs l false (10 * row + (c - 48)) last
    else if colI c < 0 then none
    else prs l false row (colI c)

def findP (n w : Int) (lab : ByteArray) : Int × Int :=
  match prs (bytesL lab) true 0 (-1) with
  | none => (0, 2)
  | some (row, last) => if row < 1 ∨ row > n ∨ last < 0 ∨ last ≥ w then (0, 2) else ((row - 1) * w + last, 0)

theorem prs_label : ∀ r : Fin 60, ∀ c : Fin 10, prs (labelL (r.1 + 1) c.1) true 0 (-1) = some ((r.1 : Int) + 1, (c.1 : Int)) := by decide +kernel

/-- The digits of a row, as far as they may go. -/
def DigI (l : List Int) (row : Int) : Prop :=
  (l = [] ∧ row = 0) ∨ (∃ d : Int, 1 ≤ d ∧ d ≤ 9 ∧ l = [48 + d] ∧ row = d) ∨ (∃ d e : Int, 1 ≤ d ∧ d ≤ 9 ∧ 0 ≤ e ∧ e ≤ 9 ∧ l = [48 + d, 48 + e] ∧ row = 10 * d + e) ∨ 100 ≤ row
def PrsI (l : List Int) (row last : Int) : Prop := (last = -1 ∧ DigI l row) ∨ (0 ≤ last ∧ last < 10 ∧ ∃ l', l = l' ++ [letterI last.toNat] ∧ DigI l' row)

theorem colI_out {c : Int} (h : ¬ colI c < 0) : 0 ≤ colI c ∧ colI c < 10 ∧ letterI (colI c).toNat = c := by
  unfold colI at *
  split at h
  · rename_i i hi
    obtain ⟨hlt, hp, _⟩ := List.findIdx?_eq_some_iff_getElem.1 hi
    have hlt' : i < 10 := hlt
    refine ⟨by omega, by omega, ?_⟩
    unfold letterI
    rw [Int.toNat_natCast, List.getD_eq_getElem?_getD, List.getElem?_eq_getElem hlt]
    simpa using hp
  · omega

theorem prs_inv : ∀ (l a : List Int) (first : Bool) (row last row' last' : Int), (first = true ↔ a = []) → PrsI a row last → prs l first row last = some (row', last') → PrsI (a ++ l) row' last'
  | [], a, _, row, last, row', last', _, h, e => by
    simp only [prs, Option.some.injEq, Prod.mk.injEq] at e
    rw [List.append_nil, ← e.1, ← e.2]; exact h
  | c :: l, a, first, row, last, row', last', hf, h, e => by
    have hne : (false = true ↔ a ++ [c] = []) := by simp
    unfold prs at e
    split at e
    · cases e
    rename_i h1
    have hl : last < 0 := by omega
    have hd : DigI a row := by
      rcases h with h | h
      · exact h.2
      · omega
    split at e
    · rename_i h2
      have h2 := of_decide_eq_true h2
      have := prs_inv l (a ++ [c]) false _ last row' last' hne (.inl ⟨?_, ?_⟩) e
      · rw [List.append_assoc] at this; exact this
      · rcases h with h | h
        · exact h.1
        · omega
      · rcases hd with ⟨rfl, rfl⟩ | ⟨d, hd1, hd2, rfl, rfl⟩ | ⟨d, e2, hd1, hd2, he1, he2, rfl, rfl⟩ | hbig
        · have : first = true := hf.2 rfl
          refine .inr (.inl ⟨c - 48, ?_, by omega, ?_, by omega⟩)
          · have : c ≠ 48 := fun hc => h1 (.inr (.inl ⟨this, hc⟩))
            omega
          · rw [show (48 : Int) + (c - 48) = c by omega]; rfl
        · refine .inr (.inr (.inl ⟨row, c - 48, hd1, hd2, by omega, by omega, ?_, by omega⟩))
          rw [show (48 : Int) + (c - 48) = c by omega]; rfl
        · exact .inr (.inr (.inr (by omega)))
        · omega
    · split at e
      · cases e
      rename_i h2 h3
      obtain ⟨c0, c1, c2⟩ := colI_out h3
      have := prs_inv l (a ++ [c]) false row (colI c) row' last' hne (.inr ⟨c0, c1, a, by rw [c2], hd⟩) e
      rw [List.append_assoc] at this; exact this

theorem digI_row {l : List Int} {row : Int} (h : DigI l row) (h1 : 1 ≤ row) (h2 : row ≤ 60) : l = rowL row.toNat := by
  rcases h with ⟨rfl, rfl⟩ | ⟨d, hd1, hd2, rfl, rfl⟩ | ⟨d, e, hd1, hd2, he1, he2, rfl, rfl⟩ | hbig
  · omega
  · unfold rowL
    rw [if_neg (by omega)]
    simp only [List.nil_append, List.cons.injEq, and_true]
    omega
  · unfold rowL
    rw [if_pos (by omega)]
    simp only [List.cons_append, List.nil_append, List.cons.injEq, and_true]
    constructor <;> omega
  · omega

/-- A name that is read is the name of that seat. -/
theorem prs_out {l : List Int} {row last : Int} (h : prs l true 0 (-1) = some (row, last)) (h1 : 1 ≤ row) (h2 : row ≤ 60) (h3 : 0 ≤ last) : last < 10 ∧ l = labelL row.toNat last.toNat := by
  have := prs_inv l [] true 0 (-1) row last (by simp) (.inl ⟨rfl, .inl ⟨rfl, rfl⟩⟩) h
  rw [List.nil_append] at this
  rcases this with ⟨h, _⟩ | ⟨_, h4, l', rfl, hd⟩
  · omega
  · exact ⟨h4, by unfold labelL; rw [digI_row hd h1 h2]⟩

theorem labelL_bytes : ∀ r : Fin 60, ∀ c : Fin 10, ∀ n ∈ labelL (r.1 + 1) c.1, 0 ≤ n ∧ n < 256 := by decide +kernel

/-- Which seat has which name. -/
theorem find_iff {n w k : Int} {lab : ByteArray} (hn : n ≤ 60) (hw : 1 ≤ w) (hw2 : w ≤ 10) : (findP n w lab = (k, 0)) ↔ (0 ≤ k ∧ k < n * w ∧ labS w k = lab) := by
  constructor
  · intro h
    unfold findP at h
    split at h
    · simp at h
    rename_i row last hp
    split at h
    · simp at h
    rename_i hr
    simp only [Prod.mk.injEq, and_true] at h
    obtain ⟨h4, h5⟩ := prs_out hp (by omega) (by omega) (by omega)
    have hm : (row - 1) * w ≤ (n - 1) * w := Int.mul_le_mul_of_nonneg_right (by omega) (by omega)
    have hm0 : 0 ≤ (row - 1) * w := Int.mul_nonneg (by omega) (by omega)
    have hm2 : (n - 1) * w = n * w - w := by rw [Int.sub_mul]; omega
    refine ⟨by omega, by omega, ?_⟩
    have e1 : k / w = row - 1 := by
      rw [← h, Int.mul_comm, Int.add_comm, Int.add_mul_ediv_left _ _ (by omega), Int.ediv_eq_zero_of_lt (by omega) (by omega)]; omega
    have e2 : k % w = last := by
      rw [← h, Int.mul_comm, Int.add_comm, Int.add_mul_emod_self_left, Int.emod_eq_of_lt (by omega) (by omega)]
    unfold labS
    rw [e1, e2, show row - 1 + 1 = row by omega, ← h5, strOf_bytesL]
  · rintro ⟨h0, h1, rfl⟩
    have e0 : 0 ≤ k / w := Int.ediv_nonneg h0 (by omega)
    have e1 : k / w < n := Int.ediv_lt_of_lt_mul (by omega) h1
    have e2 : 0 ≤ k % w := Int.emod_nonneg _ (by omega)
    have e3 : k % w < w := Int.emod_lt_of_pos _ (by omega)
    have e4 := Int.mul_ediv_add_emod k w
    generalize hq : k / w = q at *
    generalize hm : k % w = m at *
    obtain ⟨a, rfl⟩ := Int.eq_ofNat_of_zero_le e0
    obtain ⟨b, rfl⟩ := Int.eq_ofNat_of_zero_le e2
    unfold findP labS
    rw [hq, hm, show ((a : Int) + 1).toNat = a + 1 by omega, Int.toNat_natCast]
    have hb := labelL_bytes ⟨a, by omega⟩ ⟨b, by omega⟩
    have hp := prs_label ⟨a, by omega⟩ ⟨b, by omega⟩
    rw [bytesL_strOf hb, hp]
    dsimp only
    rw [if_neg (by omega)]
    simp only [Prod.mk.injEq, and_true]
    rw [← e4, show (a : Int) + 1 - 1 = a by omega, Int.mul_comm]

theorem find_no {n w : Int} {lab : ByteArray} (h : (findP n w lab).2 ≠ 0) : findP n w lab = (0, 2) := by
  unfold findP at *
  split at h
  · rfl
  · split at h
    · rename_i h2; rw [if_pos h2]
    · simp at h

/-- A byte that begins no ASCII letter. -/
theorem decode_hi (s : ByteArray) (i : Nat) (h : ¬ (s.get! (i + 0)).toNat < 128) : 128 ≤ (Utf8.decode s i).1 := by
  unfold Utf8.decode
  dsimp only
  rw [if_neg h]
  split
  · split
    · assumption
    · decide
  · split
    · split
      · rename_i h; simp only [Bool.and_eq_true, decide_eq_true_iff] at h; have := h.1; dsimp only; omega
      · decide
    · split
      · split
        · rename_i h; simp only [Bool.and_eq_true, decide_eq_true_iff] at h; have := h.1; dsimp only; omega
        · decide
      · decide
end Go.Proofs.YtaacfjdknlglhaaGreatDoor
/- The formulas of functions of this seat's translation, printed by a program of mine off the translation; each is proved equal to 'fnF' of the function's body, so it is enough for the call. No condition. -/
namespace Go.Proofs.YtaacfjdknlglhaaGreatDoor
open Go Go.VC
set_option linter.unusedVariables false
/-- internal/strconv.Itoa. -/
def B142 (i0 : Int) (K : Value → World → Prop) (w : World) : Prop :=
  Calls Tryz.prog 151 #[.int .i64 i0, .int .i64 10] w fun e w_1 =>
  ∃ t4 : ByteArray, (e = .returned (.string t4)) ∧
  K (.string t4) w_1

def sk142 : Sk := .leaf
theorem ok142 : fnOk Tryz.prog Tryz.f142.ntmps Tryz.f142 sk142 = true := by kernel_rfl
theorem eq142 (i0 : Int) (K : Value → World → Prop) (w : World) : fnF Tryz.prog cl Tryz.f142 sk142 [.int .i64 i0] K w = B142 i0 K w := by kernel_rfl
theorem call142 (i0 : Int) (K : Value → World → Prop) (w : World) (h : B142 i0 K w) : Gets Tryz.prog 142 #[.int .i64 i0] w K :=
  calls_of (sk := sk142) cl_ok mixed Tryz.func142 ok142 (args := [.int .i64 i0]) (Nat.le_of_ble_eq_true (by kernel_rfl)) (by rw [eq142]; exact h)

/-- internal/strconv.FormatInt. -/
def B151 (i0 : Int) (base1 : Int) (K : Value → World → Prop) (w : World) : Prop :=
  Br (base1 == 10)
   (∃ (J : World → Prop), (Br (decide (0 ≤ i0))
       (Br (decide (i0 < 100))
         (Calls Tryz.prog 156 #[.int .i64 i0] w fun e w_1 =>
          ∃ t19 : ByteArray, (e = .returned (.string t19)) ∧
          K (.string t19) w_1)
         (J  w))
       (J  w)) ∧
    ∀ (z : Env)  (w_2 : World), J  w_2 →
    New (.cells #[.int .u8 0, .int .u8 0, .int .u8 0, .int .u8 0, .int .u8 0, .int .u8 0, .int .u8 0, .int .u8 0, .int .u8 0, .int .u8 0, .int .u8 0, .int .u8 0, .int .u8 0, .int .u8 0, .int .u8 0, .int .u8 0, .int .u8 0, .int .u8 0, .int .u8 0, .int .u8 0, .int .u8 0, .int .u8 0, .int .u8 0, .int .u8 0] 179 (0, 0)) (fun b_a5 w_3 =>
    ∃ (J_1 : Int → World → Prop), (Br (decide (i0 < 0))
       (J_1 (IntKind.u64.wrap (0 - IntKind.u64.wrap i0)) w_3)
       (J_1 (IntKind.u64.wrap i0) w_3)) ∧
    ∀ (z_1 : Env) (u6 : Int) (w_4 : World), J_1 u6 w_4 →
    Calls Tryz.prog 157 #[.int .u64 u6] w_4 fun e_1 w_5 =>
    ∃ t27 : Int, (e_1 = .returned (.int .i64 t27)) ∧
    ∃ t30 : Addr, (some (Addr.mk b_a5 0 none) = some t30) ∧
    ((0 : Int) ≤ IntKind.i64.wrap (1 + t27)) ∧
    ((IntKind.i64.wrap (1 + t27) : Int) ≤ 24) ∧
    ((0 : Int) ≤ 1) ∧
    ((1 : Int) ≤ (↑(IntKind.i64.wrap (1 + t27)).toNat : Int)) ∧
    Calls Tryz.prog 158 #[.slice (cutA (some t30) (Int.toNat 1) 24 1) ((IntKind.i64.wrap (1 + t27)).toNat - Int.toNat 1) 23, .int .u64 u6] w_5 fun e_2 w_6 =>
    (e_2 = .returned (.tuple #[])) ∧
    Br (decide (i0 < 0))
     (∃ w_7 : World, ((Instr.storeAt 5 (.pointer ((some (Addr.add ⟨b_a5, 0, none⟩ 0)))) (.int .u8 45)).run Tryz.prog w_6 = .ok () w_7) ∧
      ∃ t38 : Addr, (some (Addr.mk b_a5 0 none) = some t38) ∧
      ((0 : Int) ≤ IntKind.i64.wrap (1 + t27)) ∧
      ((IntKind.i64.wrap (1 + t27) : Int) ≤ 24) ∧
      ∃ t39 : ByteArray, (∀ w', (fun w' => w' = w_7) w' → ((convert 22 9 (.slice ((some (t38))) ((IntKind.i64.wrap (1 + t27)).toNat) 24))).run Tryz.prog w' = .ok (.string t39) w') ∧
      K (.string t39) w_7)
     (∃ t42 : Addr, (some (Addr.mk b_a5 0 none) = some t42) ∧
      ((0 : Int) ≤ IntKind.i64.wrap (1 + t27)) ∧
      ((IntKind.i64.wrap (1 + t27) : Int) ≤ 24) ∧
      ((0 : Int) ≤ 1) ∧
      ((1 : Int) ≤ (↑(IntKind.i64.wrap (1 + t27)).toNat : Int)) ∧
      ∃ t43 : ByteArray, (∀ w', (fun w' => w' = w_6) w' → ((convert 22 9 (.slice (cutA (some t42) (Int.toNat 1) 24 1) ((IntKind.i64.wrap (1 + t27)).toNat - Int.toNat 1) 23))).run Tryz.prog w' = .ok (.string t43) w') ∧
      K (.string t43) w_6)) w_2)
   (Calls Tryz.prog 159 #[.slice none 0 0, .int .u64 (IntKind.u64.wrap i0), .int .i64 base1, .bool (decide (i0 < 0)), .bool false] w fun e_3 w_8 =>
    ∃ t50 : Sl, ∃ t50_1 : ByteArray, (e_3 = .returned (.tuple #[.slice t50.a t50.len t50.cap, .string t50_1])) ∧
    K (.string t50_1) w_8)

def sk151 : Sk := (.seq .leaf (.seq (.seq .leaf (.cond (.cut [] [] [4, 12, 13, 14, 15, 16, 17, 18, 19] .leaf (.seq .leaf (.seq .leaf (.cut [6] [(.int .u64)] [6, 22, 23, 24, 25] .leaf .leaf)))) .leaf)) .leaf))
theorem ok151 : fnOk Tryz.prog Tryz.f151.ntmps Tryz.f151 sk151 = true := by kernel_rfl
theorem eq151 (i0 : Int) (base1 : Int) (K : Value → World → Prop) (w : World) : fnF Tryz.prog cl Tryz.f151 sk151 [.int .i64 i0, .int .i64 base1] K w = B151 i0 base1 K w := by kernel_rfl
theorem call151 (i0 : Int) (base1 : Int) (K : Value → World → Prop) (w : World) (h : B151 i0 base1 K w) : Gets Tryz.prog 151 #[.int .i64 i0, .int .i64 base1] w K :=
  calls_of (sk := sk151) cl_ok mixed Tryz.func151 ok151 (args := [.int .i64 i0, .int .i64 base1]) (Nat.le_of_ble_eq_true (by kernel_rfl)) (by rw [eq151]; exact h)

/-- internal/strconv.small. -/
def B156 (i0 : Int) (K : Value → World → Prop) (w : World) : Prop :=
  Br (decide (i0 < 10))
   (((0 : Int) ≤ IntKind.i64.wrap (i0 + 1)) ∧
    ((IntKind.i64.wrap (i0 + 1) : Int) ≤ 36) ∧
    ((0 : Int) ≤ i0) ∧
    ((i0 : Int) ≤ (↑(IntKind.i64.wrap (i0 + 1)).toNat : Int)) ∧
    K (.string ((ByteArray.mk #[48, 49, 50, 51, 52, 53, 54, 55, 56, 57, 97, 98, 99, 100, 101, 102, 103, 104, 105, 106, 107, 108, 109, 110, 111, 112, 113, 114, 115, 116, 117, 118, 119, 120, 121, 122]).extract i0.toNat (IntKind.i64.wrap (i0 + 1)).toNat)) w)
   (((0 : Int) ≤ IntKind.i64.wrap (IntKind.i64.wrap (i0 * 2) + 2)) ∧
    ((IntKind.i64.wrap (IntKind.i64.wrap (i0 * 2) + 2) : Int) ≤ 200) ∧
    ((0 : Int) ≤ IntKind.i64.wrap (i0 * 2)) ∧
    ((IntKind.i64.wrap (i0 * 2) : Int) ≤ (↑(IntKind.i64.wrap (IntKind.i64.wrap (i0 * 2) + 2)).toNat : Int)) ∧
    K (.string ((ByteArray.mk (([48, 48, 48, 49, 48, 50, 48, 51, 48, 52, 48, 53, 48, 54, 48, 55, 48, 56, 48, 57, 49, 48, 49, 49, 49, 50, 49, 51, 49, 52, 49, 53, 49, 54, 49, 55, 49, 56, 49, 57, 50, 48, 50, 49, 50, 50, 50, 51, 50, 52].append [50, 53, 50, 54, 50, 55, 50, 56, 50, 57, 51, 48, 51, 49, 51, 50, 51, 51, 51, 52, 51, 53, 51, 54, 51, 55, 51, 56, 51, 57, 52, 48, 52, 49, 52, 50, 52, 51, 52, 52, 52, 53, 52, 54, 52, 55, 52, 56, 52, 57]).append ([53, 48, 53, 49, 53, 50, 53, 51, 53, 52, 53, 53, 53, 54, 53, 55, 53, 56, 53, 57, 54, 48, 54, 49, 54, 50, 54, 51, 54, 52, 54, 53, 54, 54, 54, 55, 54, 56, 54, 57, 55, 48, 55, 49, 55, 50, 55, 51, 55, 52].append [55, 53, 55, 54, 55, 55, 55, 56, 55, 57, 56, 48, 56, 49, 56, 50, 56, 51, 56, 52, 56, 53, 56, 54, 56, 55, 56, 56, 56, 57, 57, 48, 57, 49, 57, 50, 57, 51, 57, 52, 57, 53, 57, 54, 57, 55, 57, 56, 57, 57])).toArray).extract (IntKind.i64.wrap (i0 * 2)).toNat (IntKind.i64.wrap (IntKind.i64.wrap (i0 * 2) + 2)).toNat)) w)

def sk156 : Sk := .leaf
theorem ok156 : fnOk Tryz.prog Tryz.f156.ntmps Tryz.f156 sk156 = true := by kernel_rfl
theorem eq156 (i0 : Int) (K : Value → World → Prop) (w : World) : fnF Tryz.prog cl Tryz.f156 sk156 [.int .i64 i0] K w = B156 i0 K w := by kernel_rfl
theorem call156 (i0 : Int) (K : Value → World → Prop) (w : World) (h : B156 i0 K w) : Gets Tryz.prog 156 #[.int .i64 i0] w K :=
  calls_of (sk := sk156) cl_ok mixed Tryz.func156 ok156 (args := [.int .i64 i0]) (Nat.le_of_ble_eq_true (by kernel_rfl)) (by rw [eq156]; exact h)

end Go.Proofs.YtaacfjdknlglhaaGreatDoor
/- The names of seats: packages seat, strconv and reference 13. Condition: none. -/
namespace Go.Proofs.YtaacfjdknlglhaaGreatDoor
set_option linter.unusedVariables false
open Go Go.VC

variable {R : Cx} {Hs Rest : List HP} {w : World}

/-! ### Numbers below 100 as text -/
def smallD : ByteArray := ByteArray.mk #[48, 49, 50, 51, 52, 53, 54, 55, 56, 57, 97, 98, 99, 100, 101, 102, 103, 104, 105, 106, 107, 108, 109, 110, 111, 112, 113, 114, 115, 116, 117, 118, 119, 120, 121, 122]
def smallS : ByteArray := ByteArray.mk (([48, 48, 48, 49, 48, 50, 48, 51, 48, 52, 48, 53, 48, 54, 48, 55, 48, 56, 48, 57, 49, 48, 49, 49, 49, 50, 49, 51, 49, 52, 49, 53, 49, 54, 49, 55, 49, 56, 49, 57, 50, 48, 50, 49, 50, 50, 50, 51, 50, 52].append [50, 53, 50, 54, 50, 55, 50, 56, 50, 57, 51, 48, 51, 49, 51, 50, 51, 51, 51, 52, 51, 53, 51, 54, 51, 55, 51, 56, 51, 57, 52, 48, 52, 49, 52, 50, 52, 51, 52, 52, 52, 53, 52, 54, 52, 55, 52, 56, 52, 57]).append ([53, 48, 53, 49, 53, 50, 53, 51, 53, 52, 53, 53, 53, 54, 53, 55, 53, 56, 53, 57, 54, 48, 54, 49, 54, 50, 54, 51, 54, 52, 54, 53, 54, 54, 54, 55, 54, 56, 54, 57, 55, 48, 55, 49, 55, 50, 55, 51, 55, 52].append [55, 53, 55, 54, 55, 55, 55, 56, 55, 57, 56, 48, 56, 49, 56, 50, 56, 51, 56, 52, 56, 53, 56, 54, 56, 55, 56, 56, 56, 57, 57, 48, 57, 49, 57, 50, 57, 51, 57, 52, 57, 53, 57, 54, 57, 55, 57, 56, 57, 57])).toArray
theorem smallD_row : ∀ r : Fin 10, smallD.extract r.1 (r.1 + 1) = VC.strOf (rowL r.1) := by decide +kernel
theorem smallS_row : ∀ r : Fin 100, 10 ≤ r.1 → smallS.extract (r.1 * 2) (r.1 * 2 + 2) = VC.strOf (rowL r.1) := by decide +kernel

theorem itoa_spec {n : Nat} (h : n < 100) (hw : Sat R Hs w) : Gets Tryz.prog 128 #[.int .i64 n] w fun v w' => v = .string (VC.strOf (rowL n)) ∧ Sat R Hs w' := by
  apply call128
  have h3 : Gets Tryz.prog 156 #[.int .i64 n] w fun v w' => v = .string (VC.strOf (rowL n)) ∧ Sat R Hs w' := by
    apply call156
    have w1 : IntKind.i64.wrap ((n : Int) + 1) = ((n + 1 : Nat) : Int) := wrap64 (by omega) (by omega)
    have w2 : IntKind.i64.wrap ((n : Int) * 2) = ((n * 2 : Nat) : Int) := wrap64 (by omega) (by omega)
    have w3 : IntKind.i64.wrap (((n * 2 : Nat) : Int) + 2) = ((n * 2 + 2 : Nat) : Int) := wrap64 (by omega) (by omega)
    rw [B156, w2, w3, w1]
    refine Br.d (fun h => ?_) (fun h => ?_)
    · refine ⟨by omega, by omega, by omega, by omega, ?_, hw⟩
      exact congrArg Value.string (smallD_row ⟨n, by omega⟩)
    · refine ⟨by omega, by omega, by omega, by omega, ?_, hw⟩
      exact congrArg Value.string (smallS_row ⟨n, by omega⟩ (by dsimp only; omega))
  have h2 : Gets Tryz.prog 151 #[.int .i64 n, .int .i64 10] w fun v w' => v = .string (VC.strOf (rowL n)) ∧ Sat R Hs w' := by
    apply call151
    refine Br.t rfl ⟨fun _ => False, Br.t (decide_eq_true (by omega)) (Br.t (decide_eq_true (by omega)) ?_), fun _ _ h => h.elim⟩
    refine h3.use ?_
    rintro _ w ⟨rfl, hw⟩
    exact ⟨_, rfl, rfl, hw⟩
  have h1 : Gets Tryz.prog 142 #[.int .i64 n] w fun v w' => v = .string (VC.strOf (rowL n)) ∧ Sat R Hs w' := by
    apply call142
    refine h2.use ?_
    rintro _ w ⟨rfl, hw⟩
    exact ⟨_, rfl, rfl, hw⟩
  refine h1.use ?_
  rintro _ w ⟨rfl, hw⟩
  exact ⟨_, rfl, rfl, hw⟩

/-! ### A seat's name -/
def labT (n : Int) (g : List Int) (k : Int) : ByteArray × Int := if 0 ≤ k ∧ k < layN n g then (labS g.sum k, 0) else (⟨#[]⟩, 1)

theorem labT_in {n : Int} {g : List Int} {k : Int} (h : 0 ≤ k ∧ k < layN n g) : ∃ a b q m : Nat, k = a ∧ g.sum = b ∧ 1 ≤ b ∧ b ≤ 10 ∧ q < 60 ∧ m < b ∧ labS g.sum k = VC.strOf (labelL (q + 1) m) ∧ (∀ x ∈ g, 1 ≤ x ∧ x ≤ 10) ∧ g.length ≤ 4 ∧ ((a : Int)).tmod (b : Int) = (m : Int) ∧ ((a : Int)).tdiv (b : Int) = (q : Int) := by
  have hok : layOk n g = true := by
    by_cases hok : layOk n g = true
    · exact hok
    · unfold layN at h; rw [if_neg hok] at h; omega
  obtain ⟨h1, h2, h3⟩ := layOk_iff.1 hok
  have hp := sum_pos h2 (by omega)
  rw [layN_ok hok] at h
  obtain ⟨a, rfl⟩ := Int.eq_ofNat_of_zero_le h.1
  obtain ⟨b, hb⟩ := Int.eq_ofNat_of_zero_le (show 0 ≤ g.sum by omega)
  rw [hb] at h hp h3
  have hd : (a : Int) / (b : Int) < n := Int.ediv_lt_of_lt_mul (by omega) h.2
  refine ⟨a, b, a / b, a % b, rfl, hb, by omega, by omega, ?_, Nat.mod_lt _ (by omega), ?_, h2, by omega, rfl, rfl⟩
  · rw [← Int.natCast_ediv] at hd; omega
  · unfold labS
    rw [hb, ← Int.natCast_ediv, ← Int.natCast_emod]
    rfl

theorem label_spec {n k : Int} {s : Sl} {g : List Int} (hs : RoI R s g) (hw : Sat R Hs w) :
    Gets Tryz.prog 108 #[.agg #[.int .i64 n, .slice s.a s.len s.cap], .int .i64 k] w fun v w' => v = .tuple #[.string (labT n g k).1, .int .i64 (labT n g k).2] ∧ Sat R Hs w' := by
  apply call108
  refine new_rule hw fun p w hw => ?_
  have hw : Sat R (pts p (layC n s) :: Hs) w := hw
  refine ⟨n, s, At.own (eqS hw) (by exact ⟨rfl, rfl, trivial⟩), ?_⟩
  refine (shas_spec hs hw).use ?_
  rintro _ w ⟨rfl, hw⟩
  refine ⟨_, rfl, Br.nd (fun h => ⟨?_, hw.drop⟩) (fun h => ?_)⟩
  · unfold labT; rw [if_neg h]
  have e : labT n g k = (labS g.sum k, 0) := by unfold labT; rw [if_pos h]
  rw [e]
  obtain ⟨a, b, q, m, rfl, hb, b1, b2, a1, a2, hl, hg, hg2, e1, e2⟩ := labT_in h
  rw [hl]
  refine ⟨n, s, At.own (eqS hw) (by exact ⟨rfl, rfl, trivial⟩), ?_⟩
  refine (across_spec hs (fun x hx => by have := hg x hx; omega) hg2 hw).use ?_
  rintro _ w ⟨rfl, hw⟩
  rw [hb]
  refine ⟨_, rfl, ?_⟩
  refine drw_rule hw fun w hw => ?_
  have w1 : IntKind.i64.wrap ((m : Int) + 1) = ((m + 1 : Nat) : Int) := wrap64 (by omega) (by omega)
  have w2 : IntKind.i64.wrap (q : Int) = (q : Int) := wrap64 (by omega) (by omega)
  have w3 : IntKind.i64.wrap ((q : Int) + 1) = ((q + 1 : Nat) : Int) := wrap64 (by omega) (by omega)
  rw [e1, e2, w1, w2, w3]
  refine Nz.mk (by omega) (Nz.mk (by omega) (Nz.mk (by omega) ⟨by omega, by omega, by omega, by omega, ?_⟩))
  refine (itoa_spec (by omega) hw).use ?_
  rintro _ w ⟨rfl, hw⟩
  have eL : (ByteArray.mk #[65, 66, 67, 68, 69, 70, 71, 72, 74, 75]).extract ((m : Int)).toNat (((m + 1 : Nat) : Int)).toNat = VC.strOf [letterI (m)] := letter_ext ⟨m, by omega⟩
  rw [eL]
  refine ⟨_, rfl, ?_, ?_, hw.drop⟩
  · have : (VC.strOf (rowL (q + 1))).size ≤ 2 := by
      show ((rowL (q + 1)).map _).toArray.size ≤ 2
      rw [List.size_toArray, List.length_map]; unfold rowL; split <;> simp
    have h1 : (VC.strOf [letterI (m)]).size = 1 := rfl
    omega
  · rw [label_app ⟨q + 1, by omega⟩ ⟨m, by omega⟩]

theorem colI_at {c : Int} {j : Nat} (hj : j < 10) (hn : ∀ i, i < j → letterI i ≠ c) (h : letterI j = c) : colI c = j := by
  have hl : letterL.findIdx? (· == c) = some j := by
    rw [List.findIdx?_eq_some_iff_getElem]
    refine ⟨hj, ?_, fun i hi => ?_⟩
    · unfold letterI at h
      rw [List.getD_eq_getElem?_getD, List.getElem?_eq_getElem (show j < letterL.length from hj)] at h
      exact beq_iff_eq.2 h
    · have := hn i hi
      unfold letterI at this
      rw [List.getD_eq_getElem?_getD, List.getElem?_eq_getElem (show i < letterL.length from by show i < 10; omega)] at this
      simpa using this
  unfold colI; rw [hl]
theorem colI_no {c : Int} (hn : ∀ i, i < 10 → letterI i ≠ c) : colI c = -1 := by
  unfold colI
  split
  · rename_i i hi
    obtain ⟨hlt, hp, _⟩ := List.findIdx?_eq_some_iff_getElem.1 hi
    have := hn i hlt
    unfold letterI at this
    rw [List.getD_eq_getElem?_getD, List.getElem?_eq_getElem hlt] at this
    exact absurd (by simpa using hp) this
  · rfl

theorem column_spec {c : Int} (hw : Sat R Hs w) : Gets Tryz.prog 129 #[.int .i32 c] w fun v w' => v = .int .i64 (colI c) ∧ Sat R Hs w' := by
  apply call129
  refine ⟨fun i w => ∃ j : Nat, i = j ∧ j ≤ 10 ∧ (∀ k, k < j → letterI k ≠ c) ∧ Sat R Hs w, fun i _ => 10 - i.toNat, ⟨0, rfl, by omega, fun k h => by omega, hw⟩, ?_⟩
  clear hw
  rintro _ _ w ⟨j, rfl, hj, hn, hw⟩
  refine Br.d (fun h => ?_) (fun h => ?_)
  · obtain ⟨b, hb, hv⟩ := letter_at ⟨j, by omega⟩
    refine ⟨b, by omega, hb, ?_⟩
    have hbd := b.toNat_lt
    rw [show IntKind.i32.wrap (b.toNat : Int) = (b.toNat : Int) by rw [IntKind.wrap_i32]; omega]
    refine Br.e (fun h2 => ⟨?_, hw⟩) (fun h2 => ?_)
    · rw [colI_at (by omega) hn (hv.symm.trans h2)]
    · rw [wrap64 (by omega) (by omega)]
      refine ⟨⟨j + 1, by omega, by omega, fun k hk => ?_, hw⟩, by dsimp only; omega⟩
      by_cases hkj : k = j
      · subst hkj; rw [← hv]; exact h2
      · exact hn k (by omega)
  · exact ⟨by rw [colI_no (fun i hi => hn i (by omega))], hw⟩

/-! ### The seat of a name -/
def findT (n : Int) (g : List Int) (lab : ByteArray) : Int × Int := if layOk n g then findP n g.sum lab else (0, 1)

theorem prs_step (c : Int) (l : List Int) (first : Bool) (row last : Int) : prs (c :: l) first row last = if 0 ≤ last ∨ (first = true ∧ c = 48) ∨ row > 60 then none
    else if isDig c then prs l false (10 * row + (c - 48)) last else if colI c < 0 then none else prs l false row (colI c) := rfl
theorem prs_cons {lab : ByteArray} {pos : Nat} (h : pos < lab.size) : (bytesL lab).drop pos = ((lab[pos]'h).toNat : Int) :: (bytesL lab).drop (pos + 1) := by
  have hl : pos < (bytesL lab).length := by rw [bytesL_len]; exact h
  rw [List.drop_eq_getElem_cons hl]
  congr 1
  simp [bytesL]
  rfl

theorem letterI_le : ∀ i : Fin 10, letterI i.1 ≤ 75 := by decide +kernel
theorem colI_hi {c : Int} (h : 128 ≤ c) : colI c < 0 := by
  by_cases h2 : colI c < 0
  · exact h2
  · obtain ⟨h0, h1, h3⟩ := colI_out h2
    have := letterI_le ⟨(colI c).toNat, by omega⟩
    dsimp only at this
    omega

theorem find_spec {n : Int} {s : Sl} {g : List Int} {lab : ByteArray} (hs : RoI R s g) (hsz : lab.size ≤ 9223372036854775807) (hw : Sat R Hs w) :
    Gets Tryz.prog 112 #[.agg #[.int .i64 n, .slice s.a s.len s.cap], .string lab] w fun v w' => v = .tuple #[.int .i64 (findT n g lab).1, .int .i64 (findT n g lab).2] ∧ Sat R Hs w' := by
  apply call112
  refine new_rule hw fun p w hw => ?_
  have hw : Sat R (pts p (layC n s) :: Hs) w := hw
  refine ⟨n, s, At.own (eqS hw) (by exact ⟨rfl, rfl, trivial⟩), ?_⟩
  refine (right_spec hs hw).use ?_
  rintro _ w ⟨rfl, hw⟩
  refine ⟨_, rfl, Br.nb (fun h => ⟨?_, hw.drop⟩) (fun hok => ?_)⟩
  · unfold findT; rw [h]; rfl
  have e : findT n g lab = findP n g.sum lab := by unfold findT; rw [if_pos hok]
  rw [e]
  obtain ⟨l1, l2, l3⟩ := layOk_iff.1 hok
  have hp := sum_pos l2 (by omega)
  refine new_rule hw fun b w hw => ?_
  have no : prs (bytesL lab) true 0 (-1) = none → findP n g.sum lab = (0, 2) := fun h => by unfold findP; rw [h]
  refine ⟨fun row last w => ∃ pos : Nat, pos ≤ lab.size ∧ prs ((bytesL lab).drop pos) (decide (pos = 0)) row last = prs (bytesL lab) true 0 (-1) ∧ 0 ≤ row ∧ row ≤ 700 ∧ -1 ≤ last ∧ last < 10 ∧ Sat R (pts b (.stringIter lab pos) :: pts p (layC n s) :: Hs) w,
    fun _ _ w => lab.size - w.iterPos b, ⟨0, by omega, rfl, by omega, by omega, by omega, by omega, hw⟩, ?_⟩
  clear hw
  rintro _ row last w ⟨pos, hpos, hprs, r0, r1, t0, t1, hw⟩
  have hpw : w.iterPos b = pos := by have := hw.at; simp [World.iterPos, this]
  refine ⟨b, lab, pos, rfl, hw.at, fun hlt => ?_, fun hlt => ?_⟩
  · rw [prs_cons hlt] at hprs
    have hbyte := (lab[pos]'hlt).toNat_lt
    have hw2 := hw.setPts (.stringIter lab (pos + (Utf8.decode lab pos).2))
    generalize hw' : w.setBlock b (.stringIter lab (pos + (Utf8.decode lab pos).2)) = w2 at hw2
    have : ({ w with heap := w.heap.setIfInBounds b (.stringIter lab (pos + (Utf8.decode lab pos).2)) } : World) = w2 := hw'
    rw [this]
    have hc : ((lab[pos]'hlt).toNat < 128 ∧ Utf8.decode lab pos = ((lab[pos]'hlt).toNat, 1)) ∨ (128 ≤ (lab[pos]'hlt).toNat ∧ 128 ≤ (Utf8.decode lab pos).1) := by
      by_cases h : (lab[pos]'hlt).toNat < 128
      · exact .inl ⟨h, decode_ascii lab pos hlt h⟩
      · refine .inr ⟨by omega, decode_hi lab pos ?_⟩
        have e : lab.get! (pos + 0) = lab[pos]'hlt := by
          show lab.get! pos = _
          simp [ByteArray.get!, getElem!_pos, hlt]
          rfl
        rw [e]; exact h
    clear this hw'
    generalize hdc : Utf8.decode lab pos = dc at *
    obtain ⟨c, wd⟩ := dc
    dsimp only at hc hw2 ⊢
    generalize hby : (lab[pos]'hlt).toNat = by0 at *
    have hc0 : (c : Int) = by0 ∧ wd = 1 ∨ 128 ≤ by0 ∧ 128 ≤ c := by
      rcases hc with ⟨_, h⟩ | h
      · simp only [Prod.mk.injEq] at h; exact .inl ⟨by omega, h.2⟩
      · exact .inr h
    have h48 : (by0 : Int) = 48 ↔ (c : Int) = 48 := by omega
    refine ⟨fun t w => t = decide (0 ≤ last ∨ (decide (pos = 0) = true ∧ (by0 : Int) = 48) ∨ row > 60) ∧ Sat R (pts b (.stringIter lab (pos + wd)) :: pts p (layC n s) :: Hs) w, ?_, ?_⟩
    · refine Br.d (fun h => ⟨?_, hw2⟩) (fun h => Br.e (fun h2 => Br.e (fun h3 => ⟨?_, hw2⟩) (fun h3 => ⟨?_, hw2⟩)) (fun h2 => ⟨?_, hw2⟩))
      · rw [decide_eq_true (.inl h)]
      · rw [decide_eq_true (.inr (.inl ⟨decide_eq_true (by omega), h48.2 h3⟩))]
      · rw [decide_eq_decide]
        constructor
        · intro h4; exact .inr (.inr h4)
        · rintro (h4 | ⟨_, h4⟩ | h4)
          · omega
          · exact absurd (h48.1 h4) h3
          · exact h4
      · rw [decide_eq_decide]
        constructor
        · intro h4; exact .inr (.inr h4)
        · rintro (h4 | ⟨h4, _⟩ | h4)
          · omega
          · have := of_decide_eq_true h4; omega
          · exact h4
    clear hw hw2
    rintro _ _ w3 ⟨rfl, hw⟩
    refine Br.d (fun h => ⟨?_, hw.drop.drop⟩) (fun h => ?_)
    · rw [prs_step] at hprs
      rw [if_pos h] at hprs
      rw [no hprs.symm]
    rw [prs_step] at hprs
    rw [if_neg h] at hprs
    refine ⟨fun t w => t = isDig c ∧ Sat R (pts b (.stringIter lab (pos + wd)) :: pts p (layC n s) :: Hs) w, ?_, ?_⟩
    · unfold isDig
      refine Br.d (fun h => ⟨?_, hw⟩) (fun h => ⟨?_, hw⟩)
      · rw [decide_eq_decide]; omega
      · rw [decide_eq_false (by omega)]
    clear hw
    rintro _ _ w4 ⟨rfl, hw⟩
    refine Br.mk (fun h2 => ?_) (fun h2 => ?_)
    · have h3 := of_decide_eq_true h2
      rcases hc0 with ⟨hcb, rfl⟩ | hc0
      · rw [← hcb, if_pos h2] at hprs
        rw [show IntKind.i32.wrap ((c : Int) - 48) = (c : Int) - 48 by rw [IntKind.wrap_i32]; omega, wrap64 (x := 10 * row) (by omega) (by omega), wrap64 (x := (c : Int) - 48) (by omega) (by omega), wrap64 (by omega) (by omega)]
        refine ⟨⟨pos + 1, by omega, ?_, by omega, by omega, by omega, by omega, hw⟩, ?_⟩
        · rw [decide_eq_false (by omega)]; exact hprs
        · have : w4.iterPos b = pos + 1 := by have := hw.at; simp [World.iterPos, this]
          rw [this, hpw]; omega
      · omega
    · refine (column_spec hw).use ?_
      rintro _ w5 ⟨rfl, hw⟩
      refine ⟨_, rfl, Br.d (fun h3 => ⟨?_, hw.drop.drop⟩) (fun h3 => ?_)⟩
      · have hno : colI (by0 : Int) < 0 := by
          rcases hc0 with ⟨hcb, rfl⟩ | hc0
          · rw [← hcb]; exact h3
          · exact colI_hi (by omega)
        have hnd : isDig (by0 : Int) = false := by
          rcases hc0 with ⟨hcb, rfl⟩ | hc0
          · rw [← hcb]; exact h2
          · exact decide_eq_false (by omega)
        rw [hnd, if_neg (by simp), if_pos hno] at hprs
        rw [no hprs.symm]
      · obtain ⟨c0, c1, c2⟩ := colI_out h3
        rcases hc0 with ⟨hcb, rfl⟩ | hc0
        · rw [← hcb, h2, if_neg (by simp), if_neg h3] at hprs
          refine ⟨⟨pos + 1, by omega, ?_, by omega, by omega, by omega, by omega, hw⟩, ?_⟩
          · rw [decide_eq_false (by omega)]; exact hprs
          · have : w5.iterPos b = pos + 1 := by have := hw.at; simp [World.iterPos, this]
            rw [this, hpw]; omega
        · have := colI_hi (c := (c : Int)) (by omega); omega
  · rw [List.drop_eq_nil_of_le (by rw [bytesL_len]; omega)] at hprs
    have hw := hw.drop
    have ef : findP n g.sum lab = if row < 1 ∨ row > n ∨ last < 0 ∨ last ≥ g.sum then (0, 2) else ((row - 1) * g.sum + last, 0) := by
      unfold findP; rw [← hprs]; rfl
    rw [ef]
    refine Br.d (fun h => ⟨by rw [if_pos (.inl h)], hw.drop⟩) (fun h1 => ?_)
    refine ⟨n, At.own (eqS hw) (by exact ⟨rfl, trivial⟩), Br.d (fun h => ⟨by rw [if_pos (.inr (.inl h))], hw.drop⟩) (fun h2 => ?_)⟩
    refine Br.d (fun h => ⟨by rw [if_pos (.inr (.inr (.inl h)))], hw.drop⟩) (fun h3 => ?_)
    refine ⟨n, s, At.own (eqS hw) (by exact ⟨rfl, rfl, trivial⟩), ?_⟩
    refine (across_spec hs (fun x hx => by have := l2 x hx; omega) (by omega) hw).use ?_
    rintro _ w ⟨rfl, hw⟩
    refine ⟨_, rfl, Br.d (fun h => ⟨by rw [if_pos (.inr (.inr (.inr h)))], hw.drop⟩) (fun h4 => ?_)⟩
    refine ⟨n, s, At.own (eqS hw) (by exact ⟨rfl, rfl, trivial⟩), ?_⟩
    refine (across_spec hs (fun x hx => by have := l2 x hx; omega) (by omega) hw).use ?_
    rintro _ w ⟨rfl, hw⟩
    refine ⟨_, rfl, ?_, hw.drop⟩
    have hm := mul_bd (a := row - 1) (b := g.sum) (by omega) (by omega) (by omega) (by omega)
    rw [if_neg (by omega), wrap64 (x := row - 1) (by omega) (by omega), wrap64 (x := (row - 1) * g.sum) (by omega) (by omega), wrap64 (by omega) (by omega)]
end Go.Proofs.YtaacfjdknlglhaaGreatDoor
/- The names of seats: reference 13; groups of a row. Condition: none. -/
namespace Go.Proofs.YtaacfjdknlglhaaGreatDoor
set_option linter.unusedVariables false
open Go Go.VC

variable {R : Cx} {Hs Rest : List HP} {w : World}

theorem wrap8 {x : Int} (h0 : 0 ≤ x) (h1 : x < 256) : IntKind.u8.wrap x = x := by rw [IntKind.wrap_u8]; omega

theorem rlabel_spec {n k : Int} {s : Sl} {g : List Int} (hs : RoI R s g) (hw : Sat R Hs w) :
    Gets Tryz.prog 70 #[.agg #[.int .i64 n, .slice s.a s.len s.cap], .int .i64 k] w fun v w' => v = .tuple #[.string (labT n g k).1, .int .i64 (labT n g k).2] ∧ Sat R Hs w' := by
  apply call70
  refine new_rule hw fun p w hw => ?_
  have hw : Sat R (pts p (layC n s) :: Hs) w := hw
  refine ⟨fun w => (0 ≤ k ∧ k < layN n g) ∧ Sat R (pts p (layC n s) :: Hs) w, Br.d (fun h => ⟨?_, hw.drop⟩) (fun h1 => ?_), ?_⟩
  · unfold labT; rw [if_neg (by omega)]
  · refine ⟨n, s, At.own (eqS hw) (by exact ⟨rfl, rfl, trivial⟩), ?_⟩
    refine (rcount_spec hs hw).use ?_
    rintro _ w ⟨rfl, hw⟩
    refine ⟨_, rfl, Br.d (fun h => ⟨?_, hw.drop⟩) (fun h => ⟨⟨by omega, by omega⟩, hw⟩)⟩
    unfold labT; rw [if_neg (by omega)]
  clear hw
  rintro _ w ⟨h, hw⟩
  have e : labT n g k = (labS g.sum k, 0) := by unfold labT; rw [if_pos h]
  rw [e]
  obtain ⟨a, b, q, m, rfl, hb, b1, b2, a1, a2, hl, hg, hg2, e1, e2⟩ := labT_in h
  rw [hl]
  refine ⟨n, s, At.own (eqS hw) (by exact ⟨rfl, rfl, trivial⟩), ?_⟩
  refine (racross_spec hs (fun x hx => by have := hg x hx; omega) hg2 hw).use ?_
  rintro _ w ⟨rfl, hw⟩
  refine ⟨b, by rw [hb], ?_⟩
  have w2 : IntKind.i64.wrap (q : Int) = (q : Int) := wrap64 (by omega) (by omega)
  have w3 : IntKind.i64.wrap ((q : Int) + 1) = ((q + 1 : Nat) : Int) := wrap64 (by omega) (by omega)
  rw [e2, w2, w3]
  have t1 : (((q + 1 : Nat) : Int)).tdiv 10 = (((q + 1) / 10 : Nat) : Int) := rfl
  have t2 : (((q + 1 : Nat) : Int)).tmod 10 = (((q + 1) % 10 : Nat) : Int) := rfl
  rw [t1, t2]
  refine Nz.mk (by omega) ⟨fun t w => Sat R (Own t 5 (b8 (if 10 ≤ q + 1 then [48 + (((q + 1) / 10 : Nat) : Int)] else [])) :: pts p (layC n s) :: Hs) w, Br.d (fun h => ?_) (fun h => ?_), ?_⟩
  · refine push_rule elB8 (s := ⟨none, 0, 0⟩) (xs := []) (Own.nil hw) rfl rfl (by simp) (by simp) fun t w hw => ?_
    rw [if_pos (by omega)]
    rw [wrap64 (x := (((q + 1) / 10 : Nat) : Int)) (by omega) (by omega), wrap64 (by omega) (by omega), wrap8 (by omega) (by omega)] at hw
    exact hw
  · rw [if_neg (by omega)]
    exact Own.nil hw
  clear hw
  rintro _ t w hw
  refine ⟨n, s, At.own (eqS hw) (by exact ⟨rfl, rfl, trivial⟩), ?_⟩
  refine (racross_spec hs (fun x hx => by have := hg x hx; omega) hg2 hw).use ?_
  rintro _ w ⟨rfl, hw⟩
  refine ⟨b, by rw [hb], Nz.mk (by omega) ?_⟩
  obtain ⟨c, hc, hv⟩ := letter_at ⟨m, by omega⟩
  refine ⟨c, by omega, ?_, ?_⟩
  · rw [e1]; exact hc
  rw [hv, wrap64 (by omega) (by omega), wrap8 (by omega) (by omega)]
  dsimp only
  refine new_rule hw fun b2 w hw => ?_
  have hw : Sat R (Own ⟨some ⟨b2, 0, none⟩, 2, 2⟩ 5 (b8 [48 + (((q + 1) % 10 : Nat) : Int), letterI m]) :: Own t 5 (b8 (if 10 ≤ q + 1 then [48 + (((q + 1) / 10 : Nat) : Int)] else [])) :: pts p (layC n s) :: Hs) w := own_lit hw
  refine appendOO elB8 (t := ⟨some ⟨b2, 0, none⟩, 2, 2⟩) (n := 5) Tryz.underlying22 hw.swap (by split <;> simp) (by omega) (by omega) fun t3 w hw => ?_
  obtain ⟨R', hr, _, hw', back⟩ := Own.lend hw (by rw [List.length_map]; split <;> simp)
  refine ⟨VC.strOf ((if 10 ≤ q + 1 then [48 + (((q + 1) / 10 : Nat) : Int)] else []) ++ [48 + (((q + 1) % 10 : Nat) : Int), letterI m]), fun w' e => ?_, ?_, (back hw').drop.drop.drop⟩
  · subst e; exact convS_ro (T := 5) Tryz.underlying22 Tryz.underlying5 Tryz.underlying9 hw' hr
  · have e : (if 10 ≤ q + 1 then [48 + (((q + 1) / 10 : Nat) : Int)] else []) ++ [48 + (((q + 1) % 10 : Nat) : Int), letterI m] = labelL (q + 1) m := by
      unfold labelL rowL
      split <;> rfl
    rw [e]

theorem rfind_spec {n : Int} {s : Sl} {g : List Int} {lab : ByteArray} (hs : RoI R s g) (hw : Sat R Hs w) :
    Gets Tryz.prog 98 #[.agg #[.int .i64 n, .slice s.a s.len s.cap], .string lab] w fun v w' => v = .tuple #[.int .i64 (findT n g lab).1, .int .i64 (findT n g lab).2] ∧ Sat R Hs w' := by
  apply call98
  refine new_rule hw fun p w hw => ?_
  have hw : Sat R (pts p (layC n s) :: Hs) w := hw
  refine ⟨n, s, At.own (eqS hw) (by exact ⟨rfl, rfl, trivial⟩), ?_⟩
  refine (rright_spec hs hw).use ?_
  rintro _ w ⟨rfl, hw⟩
  refine ⟨_, rfl, Br.nb (fun h => ⟨?_, hw.drop⟩) (fun hok => ?_)⟩
  · unfold findT; rw [h]; rfl
  have e : findT n g lab = findP n g.sum lab := by unfold findT; rw [if_pos hok]
  rw [e]
  obtain ⟨l1, l2, l3⟩ := layOk_iff.1 hok
  have hp := sum_pos l2 (by omega)
  have hbd := layN_bd n g
  have hN := layN_ok hok
  refine ⟨fun i w => ∃ j : Nat, i = j ∧ (j : Int) ≤ layN n g ∧ (∀ k : Int, 0 ≤ k → k < j → labS g.sum k ≠ lab) ∧ Sat R (pts p (layC n s) :: Hs) w, fun i _ => 600 - i.toNat, ⟨0, rfl, by omega, fun k h0 h1 => by omega, hw⟩, ?_⟩
  clear hw
  rintro _ _ w ⟨j, rfl, hj, hn, hw⟩
  refine ⟨n, s, At.own (eqS hw) (by exact ⟨rfl, rfl, trivial⟩), ?_⟩
  refine (rcount_spec hs hw).use ?_
  rintro _ w ⟨rfl, hw⟩
  refine ⟨_, rfl, Br.d (fun h => ?_) (fun h => ⟨?_, hw.drop⟩)⟩
  · refine ⟨n, s, At.own (eqS hw) (by exact ⟨rfl, rfl, trivial⟩), ?_⟩
    refine (rlabel_spec hs hw).use ?_
    have e : labT n g j = (labS g.sum j, 0) := by unfold labT; rw [if_pos ⟨by omega, h⟩]
    rw [e]
    rintro _ w ⟨rfl, hw⟩
    refine ⟨_, _, rfl, Br.se (fun h2 => ⟨?_, hw.drop⟩) (fun h2 => ?_)⟩
    · rw [(find_iff (by omega) (by omega) l3).2 ⟨by omega, by omega, h2⟩]
    · rw [wrap64 (by omega) (by omega)]
      refine ⟨⟨j + 1, by omega, by omega, fun k h0 h1 => ?_, hw⟩, by dsimp only; omega⟩
      by_cases hk : k = j
      · rw [hk]; exact h2
      · exact hn k h0 (by omega)
  · have : (findP n g.sum lab).2 ≠ 0 := fun h2 => by
      obtain ⟨k0, k1, k2⟩ := (find_iff (n := n) (w := g.sum) (k := (findP n g.sum lab).1) (lab := lab) (by omega) (by omega) l3).1 (Prod.ext rfl h2)
      exact hn _ k0 (by omega) k2
    rw [find_no this]

/-! ### Groups of a row -/
def grpIx : List Int → Int → Nat
  | [], _ => 0
  | x :: g, a => if a < x then 0 else grpIx g (a - x) + 1
def sideF : List Int → Int → Int × Int
  | [], _ => (0, 0)
  | x :: g, a => if a < x then (a, x - 1 - a) else sideF g (a - x)

theorem sideF_cons (x : Int) (g : List Int) (a : Int) : sideF (x :: g) a = if a < x then (a, x - 1 - a) else sideF g (a - x) := rfl
theorem grpIx_cons (x : Int) (g : List Int) (a : Int) : grpIx (x :: g) a = if a < x then 0 else grpIx g (a - x) + 1 := rfl

theorem sides_spec {n k : Int} {s : Sl} {g : List Int} (hs : RoI R s g) (hg : ∀ x ∈ g, 1 ≤ x ∧ x ≤ 10) (hl : g.length ≤ 4) (hl1 : 1 ≤ g.length) (hk : 0 ≤ k) (hw : Sat R Hs w) :
    Gets Tryz.prog 103 #[.agg #[.int .i64 n, .slice s.a s.len s.cap], .int .i64 k] w fun v w' => v = .tuple #[.int .i64 (sideF g (k % g.sum)).1, .int .i64 (sideF g (k % g.sum)).2] ∧ Sat R Hs w' := by
  have hlen := hs.len
  have hp := sum_pos hg hl1
  apply call103
  refine new_rule hw fun p w hw => ?_
  have hw : Sat R (pts p (layC n s) :: Hs) w := hw
  refine ⟨n, s, At.own (eqS hw) (by exact ⟨rfl, rfl, trivial⟩), ?_⟩
  refine (across_spec hs (fun x hx => by have := hg x hx; omega) hl hw).use ?_
  rintro _ w ⟨rfl, hw⟩
  refine ⟨_, rfl, Nz.mk (by omega) ⟨s, At.own (eqS hw) (by exact ⟨rfl, trivial⟩), ?_⟩⟩
  rw [Int.tmod_eq_emod_of_nonneg hk]
  have m0 := Int.emod_nonneg k (show g.sum ≠ 0 by omega)
  have m1 := Int.emod_lt_of_pos k (show 0 < g.sum by omega)
  have hsb := sum_bd (g := g) (fun x hx => by have := hg x hx; omega)
  generalize k % g.sum = a at *
  refine ⟨fun at' i w => ∃ j : Nat, i = j ∧ j ≤ g.length ∧ 0 ≤ at' ∧ at' ≤ a ∧ sideF (g.drop j) at' = sideF g a ∧ Sat R (pts p (layC n s) :: Hs) w, fun _ i _ => g.length - i.toNat, ⟨0, rfl, by omega, by omega, by omega, rfl, hw⟩, ?_⟩
  clear hw
  rintro _ at' _ w ⟨j, rfl, hj, h0, h1, hn, hw⟩
  refine Br.d (fun h => ?_) (fun h => ?_)
  · have hj2 : j < g.length := by omega
    have hx := hg g[j] (List.getElem_mem _)
    rw [List.drop_eq_getElem_cons hj2, sideF_cons] at hn
    refine hs.idx (eqS hw) hj2 ?_
    refine Br.d (fun h2 => ⟨?_, hw.drop⟩) (fun h2 => ?_)
    · rw [if_pos h2] at hn
      rw [wrap64 (x := g[j] - 1) (by omega) (by omega), wrap64 (by omega) (by omega)]
      have := hn.symm
      rw [show sideF g a = (at', g[j] - 1 - at') from this]
    · rw [if_neg h2] at hn
      rw [wrap64 (x := at' - g[j]) (by omega) (by omega), wrap64 (by omega) (by omega)]
      exact ⟨⟨j + 1, by omega, by omega, by omega, by omega, hn, hw⟩, by dsimp only; omega⟩
  · rw [List.drop_eq_nil_of_le (by omega)] at hn
    refine ⟨?_, hw.drop⟩
    rw [show sideF g a = (0, 0) from hn.symm]

end Go.Proofs.YtaacfjdknlglhaaGreatDoor
/- Seats side by side, plain: the first that are free, of one group; else the first that are free. No program in sight. Condition: none. -/
namespace Go.Proofs.YtaacfjdknlglhaaGreatDoor
set_option linter.unusedVariables false
open Go Go.VC

section
variable (u z : Nat → Bool)
/-- The free ones below j. -/
def freeL : Nat → List Nat
  | 0 => []
  | j + 1 => freeL j ++ (if u j then [] else [j])
/-- How many free ones, of one group, end at j. -/
def runL : Nat → Nat
  | 0 => 0
  | j + 1 => if u j then 0 else (if z j then 0 else runL j) + 1
/-- so many, ending below j. -/
def upTo (j many : Nat) : List Nat := (List.range many).map fun t => j - many + t
def bestF (N many : Nat) : List Nat × Int :=
  match (List.range N).find? fun j => runL u z (j + 1) == many with
  | some j => (upTo (j + 1) many, 0)
  | none => if (freeL u N).length < many then ([], 3) else ((freeL u N).take many, 0)
variable {u z}

theorem freeL_succ (j : Nat) : freeL u (j + 1) = freeL u j ++ (if u j then [] else [j]) := rfl
theorem freeL_pre {j : Nat} : ∀ {N : Nat}, j ≤ N → ∃ l, freeL u N = freeL u j ++ l
  | 0, h => ⟨[], by rw [show j = 0 by omega]; rfl⟩
  | N + 1, h => by
    by_cases hj : j = N + 1
    · exact ⟨[], by rw [hj]; simp⟩
    · obtain ⟨l, hl⟩ := freeL_pre (N := N) (j := j) (by omega)
      exact ⟨l ++ (if u N then [] else [N]), by rw [freeL_succ, hl, List.append_assoc]⟩
theorem free_at {j N : Nat} (hj : j < N) (hu : u j = false) : (freeL u N)[(freeL u j).length]? = some j := by
  obtain ⟨l, hl⟩ := freeL_pre (u := u) (j := j + 1) (N := N) (by omega)
  rw [hl, freeL_succ, hu]
  simp
theorem free_of {i j : Nat} : ∀ {N : Nat}, (freeL u N)[i]? = some j → j < N ∧ u j = false ∧ (freeL u j).length = i
  | 0, h => by simp [freeL] at h
  | N + 1, h => by
    rw [freeL_succ] at h
    by_cases hi : i < (freeL u N).length
    · rw [List.getElem?_append_left hi] at h
      obtain ⟨h1, h2⟩ := free_of h
      exact ⟨by omega, h2⟩
    · rw [List.getElem?_append_right (by omega)] at h
      split at h
      · simp at h
      · rename_i hu
        rcases hk : i - (freeL u N).length with _ | k
        · rw [hk] at h
          simp at h; subst h
          exact ⟨by omega, by simpa using hu, by omega⟩
        · rw [hk] at h; simp at h
theorem free_step (j : Nat) : (freeL u (j + 1)).length = (freeL u j).length + (if u j then 0 else 1) := by
  rw [freeL_succ, List.length_append]; split <;> rfl
theorem free_le {j : Nat} : ∀ t : Nat, (freeL u (j + t)).length ≤ (freeL u j).length + t
  | 0 => by simp
  | t + 1 => by
    have := free_le (j := j) t
    rw [← Nat.add_assoc, free_step]; split <;> omega
theorem free_ge {j : Nat} : ∀ t : Nat, (freeL u j).length ≤ (freeL u (j + t)).length
  | 0 => by simp
  | t + 1 => by
    have := free_ge (j := j) t
    rw [← Nat.add_assoc, free_step]; omega
theorem free_all {j t : Nat} (h : ∀ x, j ≤ x → x < j + t → u x = false) : (freeL u (j + t)).length = (freeL u j).length + t := by
  induction t with
  | zero => simp
  | succ t ih =>
    rw [← Nat.add_assoc, free_step, ih fun x h1 h2 => h x h1 (by omega), h (j + t) (by omega) (by omega)]
    simp; omega
theorem free_full {j t : Nat} (h : (freeL u (j + t)).length = (freeL u j).length + t) : ∀ x, j ≤ x → x < j + t → u x = false := by
  intro x h1 h2
  cases hu : u x with
  | false => rfl
  | true =>
    have a := free_le (u := u) (j := j) (x - j)
    have b := free_le (u := u) (j := x + 1) (j + t - (x + 1))
    have c := free_step (u := u) x
    rw [hu] at c
    simp only [if_true] at c
    rw [show j + (x - j) = x by omega] at a
    rw [show x + 1 + (j + t - (x + 1)) = j + t by omega] at b
    omega

theorem runL_succ (j : Nat) : runL u z (j + 1) = if u j then 0 else (if z j then 0 else runL u z j) + 1 := rfl
theorem runL_ge : ∀ {j m : Nat}, m ≤ runL u z j ↔ m ≤ j ∧ ∀ x, j - m ≤ x → x < j → u x = false ∧ (j - m < x → z x = false)
  | j, 0 => ⟨fun _ => ⟨by omega, fun x h1 h2 => by omega⟩, fun _ => by omega⟩
  | 0, m + 1 => ⟨fun h => by simp [runL] at h, fun h => by omega⟩
  | j + 1, m + 1 => by
    rw [runL_succ]
    cases hu : u j with
    | true =>
      refine ⟨fun h => by simp at h, fun h => ?_⟩
      have := (h.2 j (by omega) (by omega)).1
      rw [hu] at this; cases this
    | false =>
      simp only [Bool.false_eq_true, if_false]
      cases hz : z j with
      | true =>
        simp only [if_true]
        constructor
        · intro h
          obtain rfl : m = 0 := by omega
          exact ⟨by omega, fun x h1 h2 => by
            obtain rfl : x = j := by omega
            exact ⟨hu, fun h => by omega⟩⟩
        · intro h
          by_cases hm : m = 0
          · omega
          · have := (h.2 j (by omega) (by omega)).2 (by omega)
            rw [hz] at this; cases this
      | false =>
        simp only [Bool.false_eq_true, if_false]
        have ih := runL_ge (j := j) (m := m)
        constructor
        · intro h
          obtain ⟨h1, h2⟩ := ih.1 (by omega)
          refine ⟨by omega, fun x h3 h4 => ?_⟩
          by_cases hx : x = j
          · subst hx; exact ⟨hu, fun _ => hz⟩
          · obtain ⟨h5, h6⟩ := h2 x (by omega) (by omega)
            exact ⟨h5, fun h => h6 (by omega)⟩
        · rintro ⟨h1, h2⟩
          have := ih.2 ⟨by omega, fun x h3 h4 => by
            obtain ⟨h5, h6⟩ := h2 x (by omega) (by omega)
            exact ⟨h5, fun h => h6 (by omega)⟩⟩
          omega

variable {N many : Nat} {grp : Nat → Int}
theorem grp_le (h0 : ∀ k, k + 1 < N → z (k + 1) = true → grp k < grp (k + 1)) (h1 : ∀ k, k + 1 < N → z (k + 1) = false → grp k = grp (k + 1)) {a : Nat} :
    ∀ t : Nat, a + t < N → grp a ≤ grp (a + t) ∧ (grp a = grp (a + t) ↔ ∀ x, a < x → x ≤ a + t → z x = false)
  | 0, h => ⟨Int.le_refl _, ⟨fun _ x h1 h2 => by omega, fun _ => rfl⟩⟩
  | t + 1, h => by
    obtain ⟨i1, i2⟩ := grp_le h0 h1 (a := a) t (by omega)
    cases hz : z (a + t + 1) with
    | true =>
      have := h0 (a + t) (by omega) hz
      refine ⟨by rw [← Nat.add_assoc]; omega, ⟨fun h => by rw [← Nat.add_assoc] at h; omega, fun h => ?_⟩⟩
      have := h (a + t + 1) (by omega) (by omega)
      rw [hz] at this; cases this
    | false =>
      have := h1 (a + t) (by omega) hz
      rw [← Nat.add_assoc]
      refine ⟨by omega, ⟨fun h x h2 h3 => ?_, fun h => ?_⟩⟩
      · by_cases hx : x = a + t + 1
        · rw [hx]; exact hz
        · exact i2.1 (by omega) x h2 (by omega)
      · rw [← this]; exact i2.2 fun x h2 h3 => h x h2 (by omega)

/-- What the reference asks of place i of the free ones: the seats from there on are side by side, in one group. -/
def winP (f : List Nat) (grp : Nat → Int) (many i : Nat) : Prop := ∃ a b, f[i]? = some a ∧ f[i + many - 1]? = some b ∧ b - a = many - 1 ∧ a ≤ b ∧ grp a = grp b

theorem winP_iff (h0 : ∀ k, k + 1 < N → z (k + 1) = true → grp k < grp (k + 1)) (h1 : ∀ k, k + 1 < N → z (k + 1) = false → grp k = grp (k + 1)) (hm : 1 ≤ many) {i j : Nat} (hj : (freeL u N)[i + many - 1]? = some j) :
    winP (freeL u N) grp many i ↔ many ≤ runL u z (j + 1) := by
  obtain ⟨j1, j2, j3⟩ := free_of hj
  rw [runL_ge]
  constructor
  · rintro ⟨a, b, ha, hb, hd, hab, hg⟩
    rw [hj] at hb
    obtain rfl : j = b := Option.some.inj hb
    obtain ⟨a1, a2, a3⟩ := free_of ha
    have hfull := free_full (u := u) (j := a) (t := many - 1) (by rw [show a + (many - 1) = j by omega]; omega)
    have hgr := (grp_le h0 h1 (a := a) (many - 1) (by omega)).2
    rw [show a + (many - 1) = j by omega] at hgr
    refine ⟨by omega, fun x h3 h4 => ⟨?_, fun h5 => hgr.1 hg x (by omega) (by omega)⟩⟩
    by_cases hx : x = j
    · rw [hx]; exact j2
    · exact hfull x (by omega) (by omega)
  · rintro ⟨h2, h3⟩
    have hall := free_all (u := u) (j := j + 1 - many) (t := many - 1) fun x h4 h5 => (h3 x (by omega) (by omega)).1
    rw [show j + 1 - many + (many - 1) = j by omega] at hall
    have ha := free_at (u := u) (j := j + 1 - many) (N := N) (by omega) (h3 _ (by omega) (by omega)).1
    rw [show (freeL u (j + 1 - many)).length = i by omega] at ha
    refine ⟨j + 1 - many, j, ha, hj, by omega, by omega, ?_⟩
    have hgr := (grp_le h0 h1 (a := j + 1 - many) (many - 1) (by omega)).2
    rw [show j + 1 - many + (many - 1) = j by omega] at hgr
    exact hgr.2 fun x h4 h5 => (h3 x (by omega) (by omega)).2 (by omega)

/-- A place at which so many end. -/
theorem run_place (hm : 1 ≤ many) {j : Nat} (hj : j < N) (h : many ≤ runL u z (j + 1)) : ∃ i, (freeL u j).length = i + many - 1 ∧ (freeL u N)[i + many - 1]? = some j ∧ i + many ≤ (freeL u N).length := by
  have hr := (runL_ge.1 h)
  have hall := free_all (u := u) (j := j + 1 - many) (t := many - 1) fun x h4 h5 => (hr.2 x (by omega) (by omega)).1
  rw [show j + 1 - many + (many - 1) = j by omega] at hall
  have hat := free_at (u := u) hj (hr.2 j (by omega) (by omega)).1
  refine ⟨(freeL u (j + 1 - many)).length, by omega, by rw [show (freeL u (j + 1 - many)).length + many - 1 = (freeL u j).length by omega]; exact hat, ?_⟩
  have := (List.getElem?_eq_some_iff.1 hat).1
  omega

theorem best_none (hm : 1 ≤ many) (h : ∀ j, j < N → ¬ many ≤ runL u z (j + 1)) : bestF u z N many = if (freeL u N).length < many then ([], 3) else ((freeL u N).take many, 0) := by
  unfold bestF
  have : ((List.range N).find? fun j => runL u z (j + 1) == many) = none := by
    rw [List.find?_eq_none]
    intro j hj h2
    have h2 := beq_iff_eq.1 h2
    exact h j (List.mem_range.1 hj) (by omega)
  rw [this]

theorem best_some (hm : 1 ≤ many) {j : Nat} (hj : j < N) (h : runL u z (j + 1) = many) (hn : ∀ k, k < j → ¬ many ≤ runL u z (k + 1)) : bestF u z N many = (upTo (j + 1) many, 0) := by
  unfold bestF
  have : ((List.range N).find? fun j => runL u z (j + 1) == many) = some j := by
    rw [List.find?_range_eq_some]
    exact ⟨by simpa using h, List.mem_range.2 hj, fun k hk => by
      have := hn k hk
      simp only [Bool.not_eq_true', beq_eq_false_iff_ne]; omega⟩
  rw [this]

theorem free_win {i a : Nat} (ha : (freeL u N)[i]? = some a) (hb : (freeL u N)[i + many - 1]? = some (a + many - 1)) (hm : 1 ≤ many) : ((freeL u N).drop i).take many = upTo (a + many) many := by
  obtain ⟨a1, a2, a3⟩ := free_of ha
  obtain ⟨b1, b2, b3⟩ := free_of hb
  have hfull := free_full (u := u) (j := a) (t := many - 1) (by rw [show a + (many - 1) = a + many - 1 by omega]; omega)
  have hl := (List.getElem?_eq_some_iff.1 hb).1
  apply List.ext_getElem?
  intro t
  by_cases ht : t < many
  · rw [List.getElem?_take_of_lt ht, List.getElem?_drop]
    have hx : u (a + t) = false := by
      by_cases hx : a + t = a + many - 1
      · rw [hx]; exact b2
      · exact hfull _ (by omega) (by omega)
    have hc : (freeL u (a + t)).length = i + t := by
      rw [free_all (u := u) (j := a) (t := t) fun x h1 h2 => by exact hfull x h1 (by omega)]; omega
    have := free_at (u := u) (j := a + t) (N := N) (by omega) hx
    rw [hc] at this
    rw [this]
    unfold upTo
    rw [List.getElem?_map, List.getElem?_range ht]
    simp
  · rw [List.getElem?_eq_none (by rw [List.length_take]; omega), List.getElem?_eq_none (by unfold upTo; simp; omega)]

/-- What the reference finds. -/
theorem best_ref (h0 : ∀ k, k + 1 < N → z (k + 1) = true → grp k < grp (k + 1)) (h1 : ∀ k, k + 1 < N → z (k + 1) = false → grp k = grp (k + 1)) (hm : 1 ≤ many) {i : Nat}
    (hP : winP (freeL u N) grp many i) (hn : ∀ k, k < i → ¬ winP (freeL u N) grp many k) : bestF u z N many = (((freeL u N).drop i).take many, 0) := by
  obtain ⟨a, j, ha, hj, hd, hab, hg⟩ := hP
  have hrun := (winP_iff h0 h1 hm hj).1 ⟨a, j, ha, hj, hd, hab, hg⟩
  obtain ⟨j1, j2, j3⟩ := free_of hj
  have hfst : ∀ k, k < j → ¬ many ≤ runL u z (k + 1) := fun k hk hr => by
    obtain ⟨i', hi1, hi2, hi3⟩ := run_place hm (N := N) (by omega) hr
    have hc : i' + many - 1 < i + many - 1 := by
      have h2 := free_ge (u := u) (j := k + 1) (j - (k + 1))
      rw [show k + 1 + (j - (k + 1)) = j by omega, free_step] at h2
      have h3 := (free_of hi2).2.1
      rw [h3] at h2
      simp only [Bool.false_eq_true, if_false] at h2
      omega
    exact hn i' (by omega) ((winP_iff h0 h1 hm hi2).2 hr)
  have heq : runL u z (j + 1) = many := by
    by_cases he : runL u z (j + 1) = many
    · exact he
    · exfalso
      have h2 : many ≤ runL u z j := by
        have := runL_succ (u := u) (z := z) j
        rw [j2] at this
        simp only [Bool.false_eq_true, if_false] at this
        split at this <;> omega
      have hj0 : 0 < j := by
        by_cases h : j = 0
        · rw [h] at h2; simp [runL] at h2; omega
        · omega
      exact hfst (j - 1) (by omega) (by rw [show j - 1 + 1 = j by omega]; exact h2)
  rw [best_some hm j1 heq hfst, free_win ha (by rw [show a + many - 1 = j by omega]; exact hj) hm, show a + many = j + 1 by omega]
theorem best_refN (h0 : ∀ k, k + 1 < N → z (k + 1) = true → grp k < grp (k + 1)) (h1 : ∀ k, k + 1 < N → z (k + 1) = false → grp k = grp (k + 1)) (hm : 1 ≤ many)
    (hn : ∀ k, k + many ≤ (freeL u N).length → ¬ winP (freeL u N) grp many k) : bestF u z N many = if (freeL u N).length < many then ([], 3) else ((freeL u N).take many, 0) := by
  refine best_none hm fun j hj hr => ?_
  obtain ⟨i', hi1, hi2, hi3⟩ := run_place hm hj hr
  exact hn i' hi3 ((winP_iff h0 h1 hm hi2).2 hr)
end

/-! ### Which group a seat is of -/
theorem side_grp : ∀ {g : List Int} {a : Int}, (∀ x ∈ g, 1 ≤ x ∧ x ≤ 10) → 0 ≤ a → a < g.sum → 0 ≤ (sideF g a).1 ∧ grpIx g a < g.length ∧ ((sideF g a).1 = 0 → 1 ≤ a → grpIx g (a - 1) + 1 = grpIx g a) ∧ ((sideF g a).1 ≠ 0 → 1 ≤ a ∧ grpIx g (a - 1) = grpIx g a)
  | [], a, _, h0, h1 => by simp at h1; omega
  | x :: g, a, hg, h0, h1 => by
    have hx := hg x List.mem_cons_self
    rw [sideF_cons, grpIx_cons, grpIx_cons]
    by_cases h : a < x
    · rw [if_pos h, if_pos h, if_pos (by omega)]
      simp only [List.length_cons]
      exact ⟨h0, by omega, fun h2 h3 => by omega, fun h2 => ⟨by omega, trivial⟩⟩
    · rw [if_neg h, if_neg h]
      have ih := side_grp (g := g) (a := a - x) (fun y hy => hg y (List.mem_cons_of_mem _ hy)) (by omega) (by simp only [List.sum_cons] at h1; omega)
      obtain ⟨i0, i1, i2, i3⟩ := ih
      simp only [List.length_cons]
      refine ⟨i0, by omega, fun h2 h3 => ?_, fun h2 => ?_⟩
      · by_cases hax : a = x
        · subst hax
          rw [if_pos (by omega)]
          match g, i1, h1 with
          | [], i1, _ => simp at i1
          | y :: g, _, _ =>
            have := hg y (by simp)
            rw [grpIx_cons, if_pos (by omega)]
        · rw [if_neg (by omega), show a - 1 - x = a - x - 1 by omega]
          have := i2 h2 (by omega)
          omega
      · obtain ⟨h4, h5⟩ := i3 h2
        rw [if_neg (by omega), show a - 1 - x = a - x - 1 by omega, h5]
        exact ⟨by omega, rfl⟩

def grpN (g : List Int) (k : Nat) : Int := (k : Int) / g.sum * g.length + grpIx g ((k : Int) % g.sum)
/-- The seat begins a group. -/
def zF (g : List Int) (k : Nat) : Bool := (sideF g ((k : Int) % g.sum)).1 == 0

theorem grpN_step {g : List Int} (hg : ∀ x ∈ g, 1 ≤ x ∧ x ≤ 10) (hl : 1 ≤ g.length) (k : Nat) : (zF g (k + 1) = true → grpN g k < grpN g (k + 1)) ∧ (zF g (k + 1) = false → grpN g k = grpN g (k + 1)) := by
  have hp := sum_pos hg hl
  have m0 := Int.emod_nonneg ((k + 1 : Nat) : Int) (show g.sum ≠ 0 by omega)
  have m1 := Int.emod_lt_of_pos ((k + 1 : Nat) : Int) (show 0 < g.sum by omega)
  have n0 := Int.emod_nonneg (k : Int) (show g.sum ≠ 0 by omega)
  have n1 := Int.emod_lt_of_pos (k : Int) (show 0 < g.sum by omega)
  have e1 := Int.mul_ediv_add_emod ((k + 1 : Nat) : Int) g.sum
  have hs := side_grp hg m0 m1
  unfold zF grpN
  obtain ⟨s0, s1, s2, s3⟩ := hs
  have ek : (k : Int) = ((k + 1 : Nat) : Int) % g.sum - 1 + g.sum * (((k + 1 : Nat) : Int) / g.sum) := by omega
  by_cases hm : ((k + 1 : Nat) : Int) % g.sum = 0
  · -- a row begins
    have hq : (k : Int) / g.sum = ((k + 1 : Nat) : Int) / g.sum - 1 ∧ (k : Int) % g.sum = g.sum - 1 := by
      have : (k : Int) = (g.sum - 1) + g.sum * (((k + 1 : Nat) : Int) / g.sum - 1) := by rw [Int.mul_sub]; omega
      constructor
      · rw [this, Int.add_mul_ediv_left _ _ (by omega), Int.ediv_eq_zero_of_lt (by omega) (by omega)]
        omega
      · rw [this, Int.add_mul_emod_self_left, Int.emod_eq_of_lt (by omega) (by omega)]
    obtain ⟨_, t1, _, _⟩ := side_grp hg (a := g.sum - 1) (by omega) (by omega)
    have hlt : (k : Int) / g.sum * g.length + grpIx g ((k : Int) % g.sum) < ((k + 1 : Nat) : Int) / g.sum * g.length + grpIx g (((k + 1 : Nat) : Int) % g.sum) := by
      rw [hq.1, hq.2, Int.sub_mul]; omega
    refine ⟨fun _ => hlt, fun h => ?_⟩
    have h := beq_eq_false_iff_ne.1 h
    have := (s3 h).1
    omega
  · have hq : (k : Int) / g.sum = ((k + 1 : Nat) : Int) / g.sum ∧ (k : Int) % g.sum = ((k + 1 : Nat) : Int) % g.sum - 1 := by
      constructor
      · rw [ek, Int.add_mul_ediv_left _ _ (by omega), Int.ediv_eq_zero_of_lt (by omega) (by omega)]; omega
      · rw [ek, Int.add_mul_emod_self_left, Int.emod_eq_of_lt (by omega) (by omega)]
    rw [hq.1, hq.2]
    refine ⟨fun h => ?_, fun h => ?_⟩
    · have := s2 (beq_iff_eq.1 h) (by omega); omega
    · have := (s3 (beq_eq_false_iff_ne.1 h)).2; omega
end Go.Proofs.YtaacfjdknlglhaaGreatDoor
/- SL, part 15: new rows of so many zeros; elements of any one cell. Condition: bounds on lengths. -/
namespace Go.VC
set_option linter.unusedVariables false
variable {P : Program} {R : Cx} {Hs Rest : List HP} {w : World} {s : Sl} {T : TypeId}

/-- 'make([]T, n)'. -/
theorem make_rule {t : TypeId} {bytes n : Nat} {kl kc : IntKind} {z : Value} {K : Sl → World → Prop} (ht : P.underlying t = some (.slice T)) (hi : elB P T bytes = true) (hv : ∀ w, (zeroValue T).run P w = .ok z w) (h1 : z.cells = #[z])
    (hn : bytes * n ≤ 281474976710656) (h63 : n ≤ 9223372036854775807) (hw : Sat R Hs w) (k : ∀ s' w', Sat R (Own s' T (List.replicate n z) :: Hs) w' → K s' w') :
    ∃ w', ∃ t' : Sl, (Instr.makeSlice t (.int kl (n : Int)) (.int kc (n : Int))).run P w = .ok (.slice t'.a t'.len t'.cap) w' ∧ K t' w' := by
  obtain ⟨i, z', hi, hz, hs, hb, hc⟩ := elB_out hi
  have hzz : z' = z := by
    have := hv w
    simp [zeroValue, hi, hz, typeInfo] at this
    exact this
  subst hzz
  have hb' : (i.bytes : Int) * (n : Int) ≤ 281474976710656 := by
    rw [hb]
    have h : ((bytes * n : Nat) : Int) ≤ 281474976710656 := by omega
    rwa [Int.natCast_mul] at h
  have hr := run_make (P := P) w t T i z' ht hi hz kl kc n n (by omega) (Int.le_refl _) hb' (by omega)
  simp only [Int.toNat_natCast, hs, Nat.mul_one, h1] at hr
  refine ⟨_, ⟨some ⟨w.heap.size, 0, none⟩, n, n⟩, hr, k _ _ ?_⟩
  have e : madeCells #[z'] n = (List.replicate n z').toArray := by
    apply Array.ext
    · simp [size_madeCells]
    · intro j h1 h2
      simp [madeCells, Nat.mod_one]
  rw [e]
  exact own_lit (hw.alloc _) (by simp)

/-- An element of one's own: a bool. -/
theorem Own.idxB {xs : List Bool} {S : World → Prop} {Hs' : List HP} {i : Int} (hw : Sat R (Own s T (xs.map Value.bool) :: Hs) w) (hS : ∀ w, S w → Sat R (Own s T (xs.map Value.bool) :: Hs') w) (k : Nat) (hi : i = k) (hk : k < xs.length) {F : Bool → Prop} (h : F xs[k]) :
    Rng i s.len (NilP s.a fun a => ∃ t : Bool, (At S (a.add i.toNat) [.bool t]) ∧ F t) := by
  subst hi
  obtain ⟨b, ha, hat⟩ := Own.addr hw (k := k) (by simpa using hk)
  have hl := Own.len hw
  rw [List.length_map] at hl
  refine Rng.mk (by omega) (by omega) (NilP.mk ha ⟨xs[k], ?_, h⟩)
  have := hat hS
  simpa using this

/-- A store of one cell. -/
theorem Own.storeV {t : TypeId} {xs : List Value} {v : Value} {i : Int} (hsz : (P.info? t).map (·.size) = some 1) (hv : v.cells = #[v]) (h1 : v.oneCell' = true) (hw : Sat R (Own s T xs :: Hs) w) (k : Nat) (hi : i = k) (hk : k < xs.length) {K : World → Prop}
    (h : ∀ w', Sat R (Own s T (xs.set k v) :: Hs) w' → K w') :
    Rng i s.len (NilP s.a fun a => ∃ w', (Instr.storeAt t (.pointer (some (Addr.add a i.toNat))) v).run P w = .ok () w' ∧ K w') := by
  subst hi
  have hl := Own.len hw
  rcases Own.cases hw with ⟨_, h0, _⟩ | ⟨b, rest, fr, rfl, hfr, hp⟩
  · subst h0; simp at hk
  · refine Rng.mk (by omega) (by simp only at hl ⊢; omega) (NilP.mk rfl ?_)
    rw [add_off]
    refine store_rule hp (by rw [hsz, hv]; rfl) (by rw [hv]; simp [oneAll, h1]) (by rw [hv]; simp; omega) fun w' h2 => h w' ?_
    have e : putL (xs ++ rest) (0 + (k : Int).toNat) v.cells.toList = xs.set k v ++ rest := by
      rw [hv]
      simp only [putL, Nat.zero_add, Int.toNat_natCast]
      rw [List.set_append_left _ _ hk]
    rw [e] at h2
    have h3 := Own.of_pts h2 (hfr.le (by simp))
    simpa using h3

/-- An element of one's own: an integer, wherever in the list of what one has. -/
theorem Own.ix {kd : IntKind} {xs : List Int} {S : World → Prop} {Hs' : List HP} {i : Int} (hw : Sat R (Own s T (xs.map (Value.int kd)) :: Hs) w) (hS : ∀ w, S w → Sat R (Own s T (xs.map (Value.int kd)) :: Hs') w) (k : Nat) (hi : i = k) (hk : k < xs.length) {F : Int → Prop} (h : F xs[k]) :
    Rng i s.len (NilP s.a fun a => ∃ t : Int, (At S (a.add i.toNat) [.int kd t]) ∧ F t) := by
  subst hi; exact Own.idx hw hS hk h
end Go.VC
/- Seats side by side: packages seat and reference 13. Condition: none. -/
namespace Go.Proofs.YtaacfjdknlglhaaGreatDoor
set_option linter.unusedVariables false
open Go Go.VC

variable {R : Cx} {Hs Rest : List HP} {w : World}

theorem elI8 : El Tryz.prog 33 33 3 8 := ⟨Tryz.underlying33, ⟨_, Tryz.underlying33⟩, by kernel_rfl⟩

abbrev ints (l : List Nat) : List Value := (l.map fun (j : Nat) => (j : Int)).map (Value.int .i64)
def usedF (taken : List Int) (j : Nat) : Bool := decide ((j : Int) ∈ taken)
def bestT (n : Int) (g : List Int) (taken : List Int) (many : Int) : List Int × Int :=
  if many < 1 ∨ many > layN n g then ([], 1)
  else ((bestF (usedF taken) (zF g) (layN n g).toNat many.toNat).1.map fun (j : Nat) => (j : Int), (bestF (usedF taken) (zF g) (layN n g).toNat many.toNat).2)

theorem runL_le {u z : Nat → Bool} : ∀ j, runL u z j ≤ j
  | 0 => Nat.le_refl _
  | j + 1 => by
    have := runL_le (u := u) (z := z) j
    rw [runL_succ]; split
    · omega
    · split <;> omega
theorem upTo_succ {j m : Nat} (h : m ≤ j) : upTo (j + 1) (m + 1) = upTo j m ++ [j] := by
  unfold upTo
  rw [List.range_succ, List.map_append]
  congr 1
  · refine List.map_congr_left fun t _ => by omega
  · simp; omega
theorem upTo_len (j m : Nat) : (upTo j m).length = m := by unfold upTo; simp
theorem freeL_len {u : Nat → Bool} : ∀ j, (freeL u j).length ≤ j
  | 0 => Nat.le_refl _
  | j + 1 => by
    have := freeL_len (u := u) j
    rw [free_step]; split <;> omega
theorem ints_len (l : List Nat) : (ints l).length = l.length := by simp [ints]

/-- The head of a slice of one's own. -/
theorem own_take {s : Sl} {T : TypeId} {xs : List Value} {k : Nat} (hk : k ≤ xs.length) (hw : Sat R (Own s T xs :: Hs) w) : Sat R (Own ⟨s.a, k, s.cap⟩ T (xs.take k) :: Hs) w := by
  rcases Own.cases hw with ⟨rfl, rfl, hn⟩ | ⟨b, rest, fr, rfl, hfr, hp⟩
  · obtain rfl : k = 0 := by simpa using hk
    exact Own.nil hn
  · have e : xs ++ rest = xs.take k ++ (xs.drop k ++ rest) := by rw [← List.append_assoc, List.take_append_drop]
    rw [e] at hp hfr ⊢
    have := Own.of_pts hp hfr
    rw [show (xs.take k).length = k by rw [List.length_take]; omega] at this
    exact this

theorem best_spec {n many : Int} {s st : Sl} {g taken : List Int} (hs : RoI R s g) (ht : RoI R st taken) (hw : Sat R Hs w) :
    Gets Tryz.prog 62 #[.agg #[.int .i64 n, .slice s.a s.len s.cap], .slice st.a st.len st.cap, .int .i64 many] w fun v w' => ∃ t : Sl, v = .tuple #[.slice t.a t.len t.cap, .int .i64 (bestT n g taken many).2] ∧ Sat R (Reads t ((bestT n g taken many).1.map (Value.int .i64)) :: Hs) w' := by
  have hbd := layN_bd n g
  have htl := ht.len
  have htb := ht.bound
  have bad : (many < 1 ∨ many > layN n g) → ∀ w, Sat R (pts 0 (.cells #[] 0 (0, 0)) :: Hs) w ∨ Sat R Hs w → ∃ t : Sl, Value.tuple #[.slice none 0 0, .int .i64 1] = .tuple #[.slice t.a t.len t.cap, .int .i64 (bestT n g taken many).2] ∧ Sat R (Reads t ((bestT n g taken many).1.map (Value.int .i64)) :: Hs) w := fun h w hw => by
    have e : bestT n g taken many = ([], 1) := by unfold bestT; rw [if_pos h]
    rw [e]
    exact ⟨⟨none, 0, 0⟩, rfl, Own.reads (T := 0) (Own.nil (by rcases hw with h | h; exact h.drop; exact h))⟩
  apply call62
  refine new_rule hw fun p w hw => ?_
  have hw : Sat R (pts p (layC n s) :: Hs) w := hw
  refine ⟨fun w => (1 ≤ many ∧ many ≤ layN n g) ∧ Sat R (pts p (layC n s) :: Hs) w, Br.d (fun h => bad (.inl h) _ (.inr hw.drop)) (fun h1 => ?_), ?_⟩
  · refine ⟨n, s, At.own (eqS hw) (by exact ⟨rfl, rfl, trivial⟩), ?_⟩
    refine (count_spec hs hw).use ?_
    rintro _ w ⟨rfl, hw⟩
    exact ⟨_, rfl, Br.d (fun h => bad (.inr h) _ (.inr hw.drop)) (fun h => ⟨⟨by omega, by omega⟩, hw⟩)⟩
  clear hw
  rintro _ w ⟨⟨hm1, hm2⟩, hw⟩
  have hok : layOk n g = true := by
    by_cases hok : layOk n g = true
    · exact hok
    · unfold layN at hm2; rw [if_neg hok] at hm2; omega
  obtain ⟨l1, l2, l3⟩ := layOk_iff.1 hok
  have eT : bestT n g taken many = ((bestF (usedF taken) (zF g) (layN n g).toNat many.toNat).1.map fun (j : Nat) => (j : Int), (bestF (usedF taken) (zF g) (layN n g).toNat many.toNat).2) := by
    unfold bestT; rw [if_neg (by omega)]
  rw [eT]
  obtain ⟨N, hN⟩ := Int.eq_ofNat_of_zero_le hbd.1
  obtain ⟨m, rfl⟩ := Int.eq_ofNat_of_zero_le (show 0 ≤ many by omega)
  rw [hN] at hbd hm2 ⊢
  rw [Int.toNat_natCast, Int.toNat_natCast]
  clear bad eT
  generalize hu : usedF taken = u
  generalize hz : zF g = z
  refine ⟨n, s, At.own (eqS hw) (by exact ⟨rfl, rfl, trivial⟩), ?_⟩
  refine (count_spec hs hw).use ?_
  rw [hN]
  rintro _ w ⟨rfl, hw⟩
  refine ⟨_, rfl, ?_⟩
  refine make_rule (bytes := 1) (z := .bool false) Tryz.underlying134 (by kernel_rfl) Tryz.zeroValue4 rfl (by omega) (by omega) hw fun su w hw => ?_
  -- which ones are taken
  refine ⟨fun i w => ∃ j : Nat, i = j ∧ j ≤ taken.length ∧ Sat R (Own su 4 (((List.range N).map (usedF (taken.take j))).map Value.bool) :: pts p (layC n s) :: Hs) w, fun i _ => taken.length - i.toNat, ⟨0, rfl, by omega, ?_⟩, ?_⟩
  · have e : ((List.range N).map (usedF (taken.take 0))).map Value.bool = List.replicate N (.bool false) := by
      apply List.ext_getElem
      · simp
      · intro i h1 h2; simp [usedF]
    rw [e]; exact hw
  clear hw
  rintro _ _ w ⟨j, rfl, hj, hw⟩
  have hsl := Own.len hw
  simp only [List.length_map, List.length_range] at hsl
  refine Br.d (fun h => ?_) (fun h => ?_)
  · have hj2 : j < taken.length := by omega
    refine ht.idx (eqS hw) hj2 ?_
    refine ⟨n, s, At.own (eqS hw) (by exact ⟨rfl, rfl, trivial⟩), ?_⟩
    refine (shas_spec hs hw).use ?_
    rw [hN]
    rintro _ w ⟨rfl, hw⟩
    have hset : ∀ k : Nat, usedF (taken.take (j + 1)) k = (usedF (taken.take j) k || decide ((k : Int) = taken[j])) := fun k => by
      unfold usedF
      rw [List.take_add_one, List.getElem?_eq_getElem hj2]
      simp only [Option.toList_some, List.mem_append, List.mem_singleton]
      rw [Bool.decide_or]
    rw [wrap64 (by omega) (by omega)]
    refine ⟨_, rfl, Br.d (fun h2 => ?_) (fun h2 => ?_)⟩
    · obtain ⟨k, hk⟩ := Int.eq_ofNat_of_zero_le h2.1
      refine Own.storeV (by kernel_rfl) rfl rfl hw k hk (by simp; omega) fun w hw => ?_
      refine ⟨⟨j + 1, by omega, by omega, ?_⟩, by dsimp only; omega⟩
      have e : (((List.range N).map (usedF (taken.take j))).map Value.bool).set k (.bool true) = ((List.range N).map (usedF (taken.take (j + 1)))).map Value.bool := by
        rw [← List.map_set]
        congr 1
        apply List.ext_getElem
        · simp
        · intro i h3 h4
          simp only [List.length_map, List.length_range, List.length_set] at h3 h4
          rw [List.getElem_set]
          simp only [List.getElem_map, List.getElem_range]
          rw [hset]
          split
          · rename_i h5; subst h5; rw [decide_eq_true hk.symm, Bool.or_true]
          · rw [decide_eq_false (by omega), Bool.or_false]
      rw [e] at hw; exact hw
    · refine ⟨⟨j + 1, by omega, by omega, ?_⟩, by dsimp only; omega⟩
      have e : (List.range N).map (usedF (taken.take j)) = (List.range N).map (usedF (taken.take (j + 1))) := by
        refine List.map_congr_left fun i hi => ?_
        have hi := List.mem_range.1 hi
        rw [hset, decide_eq_false (by omega), Bool.or_false]
      rw [e] at hw; exact hw
  rw [List.take_of_length_le (show taken.length ≤ j by omega), hu] at hw
  -- the seats, one behind the other
  refine ⟨n, s, At.own (eqS hw) (by exact ⟨rfl, rfl, trivial⟩), ?_⟩
  refine (count_spec hs hw).use ?_
  rw [hN]
  rintro _ w ⟨rfl, hw⟩
  refine ⟨_, rfl, ?_⟩
  clear h hj hsl
  refine ⟨fun sf sr i w => ∃ j : Nat, i = j ∧ j ≤ N ∧ (∀ k, k < j → ¬ m ≤ runL u z (k + 1)) ∧ Sat R (Own sf 3 (ints (freeL u j)) :: Own sr 3 (ints (upTo j (runL u z j))) :: Own su 4 (((List.range N).map u).map Value.bool) :: pts p (layC n s) :: Hs) w,
    fun _ _ i _ => N - i.toNat, ⟨0, rfl, by omega, fun k h => by omega, Own.nil (Own.nil hw)⟩, ?_⟩
  clear hw
  rintro _ sf sr _ w ⟨j, rfl, hj, hn, hw⟩
  have hfl := freeL_len (u := u) j
  have hrl := runL_le (u := u) (z := z) j
  refine Br.d (fun h => ?_) (fun h => ?_)
  · have hjN : j < N := by omega
    have hused : ((List.range N).map u)[j]? = some (u j) := by rw [List.getElem?_map, List.getElem?_range hjN]; rfl
    have hgu : ∀ (hh : j < ((List.range N).map u).length), ((List.range N).map u)[j] = u j := fun hh => by simp
    refine ⟨fun sr w => Sat R (Own sf 3 (ints (freeL u j)) :: Own sr 3 (ints (if z j || u j then [] else upTo j (runL u z j))) :: Own su 4 (((List.range N).map u).map Value.bool) :: pts p (layC n s) :: Hs) w, ?_, ?_⟩
    · refine ⟨n, s, At.own (eqS hw) (by exact ⟨rfl, rfl, trivial⟩), ?_⟩
      refine (sides_spec hs l2 (by omega) (by omega) (by omega) hw).use ?_
      rintro _ w ⟨rfl, hw⟩
      have hzj : z j = ((sideF g ((j : Int) % g.sum)).1 == 0) := by rw [← hz]; rfl
      refine ⟨_, _, rfl, ?_⟩
      rw [← hzj]
      refine Br.mk (fun h2 => ?_) (fun h2 => ?_)
      · rw [h2]; exact Own.nil (hw.swap.drop) |>.swap
      · refine Own.idxB (hw.take (Own su 4 (((List.range N).map u).map Value.bool))) (eqS (hw.take (Own su 4 (((List.range N).map u).map Value.bool)))) j rfl (by simp; omega) ?_
        rw [hgu]
        refine Br.mk (fun h3 => ?_) (fun h3 => ?_)
        · rw [h2, h3]; exact Own.nil (hw.swap.drop) |>.swap
        · rw [h2, h3]; exact hw
    clear hw
    rintro _ sr w hw
    refine Own.idxB (hw.take (Own su 4 (((List.range N).map u).map Value.bool))) (eqS (hw.take (Own su 4 (((List.range N).map u).map Value.bool)))) j rfl (by simp; omega) ?_
    rw [hgu, wrap64 (by omega) (by omega)]
    refine Br.mk (fun h3 => ?_) (fun h3 => ?_)
    · refine ⟨⟨j + 1, by omega, by omega, fun k hk => ?_, ?_⟩, by dsimp only; omega⟩
      · by_cases hkj : k = j
        · rw [hkj, runL_succ, h3]; simp; omega
        · exact hn k (by omega)
      · rw [h3, Bool.or_true, if_pos rfl] at hw
        rw [freeL_succ, runL_succ, h3]
        simp only [if_true, List.append_nil]
        exact hw
    · refine pushI_rule elI8 hw (by rw [List.length_map]; omega) fun sf' w hw => ?_
      have hrun : (if z j || u j then [] else upTo j (runL u z j)) ++ [j] = upTo (j + 1) (runL u z (j + 1)) := by
        rw [runL_succ, h3, Bool.or_false]
        simp only [Bool.false_eq_true, if_false]
        cases hzz : z j with
        | true => simp [upTo]
        | false =>
          simp only [Bool.false_eq_true, if_false]
          exact (upTo_succ hrl).symm
      have hrl2 := runL_le (u := u) (z := z) (j + 1)
      refine pushI_rule elI8 hw.swap (by rw [List.length_map]; split <;> simp [upTo_len] <;> omega) fun sr' w hw => ?_
      have hw : Sat R (Own sr' 3 (ints (upTo (j + 1) (runL u z (j + 1)))) :: Own sf' 3 (ints (freeL u (j + 1))) :: Own su 4 (((List.range N).map u).map Value.bool) :: pts p (layC n s) :: Hs) w := by
        have e1 : ints (freeL u (j + 1)) = (((freeL u j).map fun (j : Nat) => (j : Int)) ++ [(j : Int)]).map (Value.int .i64) := by rw [freeL_succ, h3]; simp [ints]
        have e2 : ints (upTo (j + 1) (runL u z (j + 1))) = (((if z j || u j then [] else upTo j (runL u z j)).map fun (j : Nat) => (j : Int)) ++ [(j : Int)]).map (Value.int .i64) := by rw [← hrun]; simp only [ints, List.map_append, List.map_cons, List.map_nil]
        rw [e1, e2]; exact hw
      have hrlen := Own.len hw
      rw [ints_len, upTo_len] at hrlen
      refine Br.e (fun h4 => ?_) (fun h4 => ?_)
      · have hbs := best_some (u := u) (z := z) (many := m) (N := N) (by omega) hjN (by omega) hn
        rw [hbs]
        refine ⟨sr', rfl, ?_⟩
        have := Own.reads hw
        rw [show runL u z (j + 1) = m by omega] at this
        exact Sat.cons (fun R' h => h.drop.drop.drop) this
      · refine ⟨⟨j + 1, by omega, by omega, fun k hk hr => ?_, hw.swap⟩, by dsimp only; omega⟩
        by_cases hkj : k = j
        · subst hkj
          have : runL u z (k + 1) ≤ runL u z k + 1 := by rw [runL_succ]; split <;> (try split) <;> omega
          have : runL u z k < m := by
            by_cases hk0 : k = 0
            · rw [hk0]; simp only [runL]; omega
            · have := hn (k - 1) (by omega)
              rw [show k - 1 + 1 = k by omega] at this; omega
          omega
        · exact hn k (by omega) hr
  · obtain rfl : j = N := by omega
    have hbn := best_none (u := u) (z := z) (many := m) (N := j) (by omega) hn
    have hfl2 := Own.len hw
    have hcap := Own.cap hw
    rw [ints_len] at hfl2
    rw [hbn]
    refine Br.d (fun h4 => ?_) (fun h4 => ?_)
    · rw [if_pos (by omega)]
      exact ⟨⟨none, 0, 0⟩, rfl, Own.reads (T := 0) (Own.nil hw.drop.drop.drop.drop)⟩
    · rw [if_neg (by omega)]
      refine ⟨by omega, by omega, ⟨sf.a, m, sf.cap⟩, rfl, ?_⟩
      have := Own.reads (own_take (k := m) (by rw [ints_len]; omega) hw)
      rw [show (ints (freeL u j)).take m = ints ((freeL u j).take m) by simp [ints, List.map_take]] at this
      exact Sat.cons (fun R' h => h.drop.drop.drop) this
end Go.Proofs.YtaacfjdknlglhaaGreatDoor
/- Seats side by side: reference 13. Condition: none. -/
namespace Go.Proofs.YtaacfjdknlglhaaGreatDoor
set_option linter.unusedVariables false
open Go Go.VC

variable {R : Cx} {Hs Rest : List HP} {w : World}

theorem _root_.Go.VC.Sat.imp {A B : HP} (h : ∀ m, A m → B m) (hw : Sat R (A :: Hs) w) : Sat R (B :: Hs) w := let ⟨m, a, b, c⟩ := hw; ⟨m, h m a, b, c⟩

theorem rgroup_spec {n k : Int} {s : Sl} {g : List Int} (hs : RoI R s g) (hg : ∀ x ∈ g, 1 ≤ x ∧ x ≤ 10) (hl : g.length ≤ 4) (hl1 : 1 ≤ g.length) (hk : 0 ≤ k) (hk2 : k ≤ 1000) (hw : Sat R Hs w) :
    Gets Tryz.prog 109 #[.agg #[.int .i64 n, .slice s.a s.len s.cap], .int .i64 k] w fun v w' => v = .int .i64 (grpN g k.toNat) ∧ Sat R Hs w' := by
  have hlen := hs.len
  have hp := sum_pos hg hl1
  apply call109
  refine new_rule hw fun p w hw => ?_
  have hw : Sat R (pts p (layC n s) :: Hs) w := hw
  refine ⟨n, s, At.own (eqS hw) (by exact ⟨rfl, rfl, trivial⟩), ?_⟩
  refine (racross_spec hs (fun x hx => by have := hg x hx; omega) hl hw).use ?_
  rintro _ w ⟨rfl, hw⟩
  refine ⟨_, rfl, Nz.mk (by omega) ?_⟩
  rw [Int.tmod_eq_emod_of_nonneg hk]
  have m0 := Int.emod_nonneg k (show g.sum ≠ 0 by omega)
  have m1 := Int.emod_lt_of_pos k (show 0 < g.sum by omega)
  have hsb := sum_bd (g := g) (fun x hx => by have := hg x hx; omega)
  have q0 := Int.ediv_nonneg hk (show 0 ≤ g.sum by omega)
  have q1 : k / g.sum ≤ k := Int.ediv_le_self _ hk
  have eg : grpN g k.toNat = k / g.sum * g.length + grpIx g (k % g.sum) := by unfold grpN; rw [Int.toNat_of_nonneg hk]
  rw [eg]
  generalize k % g.sum = a at *
  generalize hqq : k / g.sum = q at *
  have hix := (side_grp hg m0 m1).2.1
  refine ⟨fun at' i w => ∃ j : Nat, i = j ∧ j ≤ g.length ∧ 0 ≤ at' ∧ at' < (g.drop j).sum ∧ at' ≤ a ∧ j + grpIx (g.drop j) at' = grpIx g a ∧ Sat R (pts p (layC n s) :: Hs) w, fun _ i _ => g.length - i.toNat, ⟨0, rfl, by omega, by omega, m1, by omega, by simp, hw⟩, ?_⟩
  clear hw
  rintro _ at' _ w ⟨j, rfl, hj, h0, h1, h2, hn, hw⟩
  have hj2 : j < g.length := by
    by_cases hj2 : j < g.length
    · exact hj2
    · rw [List.drop_eq_nil_of_le (by omega)] at h1; simp at h1; omega
  have hx := hg g[j] (List.getElem_mem _)
  rw [List.drop_eq_getElem_cons hj2, grpIx_cons] at hn
  rw [List.drop_eq_getElem_cons hj2, List.sum_cons] at h1
  refine ⟨s, At.own (eqS hw) (by exact ⟨rfl, trivial⟩), hs.idx (eqS hw) hj2 ?_⟩
  refine Br.d (fun h => ?_) (fun h => ?_)
  · refine ⟨s, At.own (eqS hw) (by exact ⟨rfl, trivial⟩), hs.idx (eqS hw) hj2 ?_⟩
    rw [if_neg (by omega)] at hn
    rw [wrap64 (x := at' - g[j]) (by omega) (by omega), wrap64 (by omega) (by omega)]
    exact ⟨⟨j + 1, by omega, by omega, by omega, by omega, by omega, by omega, hw⟩, by dsimp only; omega⟩
  · rw [if_pos (by omega)] at hn
    refine drw_rule hw fun w hw => ?_
    refine ⟨n, s, At.own selfS (by exact ⟨rfl, rfl, trivial⟩), s, At.own selfS (by exact ⟨rfl, trivial⟩), ?_⟩
    refine (racross_spec hs (fun x hx => by have := hg x hx; omega) hl hw).use ?_
    rintro _ w ⟨rfl, hw⟩
    refine ⟨_, rfl, hw, Nz.mk (by omega) ⟨?_, hw.drop⟩⟩
    rw [hlen, Int.tdiv_eq_ediv_of_nonneg hk, hqq]
    have hb : 0 ≤ q * (g.length : Int) ∧ q * (g.length : Int) ≤ 4000 := ⟨Int.mul_nonneg q0 (by omega), by
      have := Int.mul_le_mul (show q ≤ 1000 by omega) (show (g.length : Int) ≤ 4 by omega) (by omega) (by omega)
      omega⟩
    rw [wrap64 (x := q) (by omega) (by omega), wrap64 (x := q * (g.length : Int)) (by omega) (by omega), wrap64 (by omega) (by omega)]
    congr 1; omega

theorem reads_sub {s : Sl} {xs : List Value} {i m : Nat} (h : i + m ≤ xs.length) (hw : Sat R (Reads s xs :: Hs) w) : Sat R (Reads ⟨cutA s.a i s.cap 1, m, s.cap - i⟩ ((xs.drop i).take m) :: Hs) w :=
  Sat.imp (fun _ a => by
    have b := SlR.drop (k := i) a (by omega)
    exact SlR.take (k := m) b (by rw [List.length_drop]; omega)) hw

theorem rbest_spec {n many : Int} {s st : Sl} {g taken : List Int} (hs : RoI R s g) (ht : RoI R st taken) (hw : Sat R Hs w) :
    Gets Tryz.prog 68 #[.agg #[.int .i64 n, .slice s.a s.len s.cap], .slice st.a st.len st.cap, .int .i64 many] w fun v w' => ∃ t : Sl, v = .tuple #[.slice t.a t.len t.cap, .int .i64 (bestT n g taken many).2] ∧ Sat R (Reads t ((bestT n g taken many).1.map (Value.int .i64)) :: Hs) w' := by
  have hbd := layN_bd n g
  have bad : (many < 1 ∨ many > layN n g) → ∀ w, Sat R Hs w → ∃ t : Sl, Value.tuple #[.slice none 0 0, .int .i64 1] = .tuple #[.slice t.a t.len t.cap, .int .i64 (bestT n g taken many).2] ∧ Sat R (Reads t ((bestT n g taken many).1.map (Value.int .i64)) :: Hs) w := fun h w hw => by
    have e : bestT n g taken many = ([], 1) := by unfold bestT; rw [if_pos h]
    rw [e]
    exact ⟨⟨none, 0, 0⟩, rfl, Own.reads (T := 0) (Own.nil hw)⟩
  apply call68
  refine new_rule hw fun p w hw => ?_
  have hw : Sat R (pts p (layC n s) :: Hs) w := hw
  refine ⟨fun w => (1 ≤ many ∧ many ≤ layN n g) ∧ Sat R (pts p (layC n s) :: Hs) w, Br.d (fun h => bad (.inl h) _ hw.drop) (fun h1 => ?_), ?_⟩
  · refine ⟨n, s, At.own (eqS hw) (by exact ⟨rfl, rfl, trivial⟩), ?_⟩
    refine (rcount_spec hs hw).use ?_
    rintro _ w ⟨rfl, hw⟩
    exact ⟨_, rfl, Br.d (fun h => bad (.inr h) _ hw.drop) (fun h => ⟨⟨by omega, by omega⟩, hw⟩)⟩
  clear hw
  rintro _ w ⟨⟨hm1, hm2⟩, hw⟩
  have hok : layOk n g = true := by
    by_cases hok : layOk n g = true
    · exact hok
    · unfold layN at hm2; rw [if_neg hok] at hm2; omega
  obtain ⟨l1, l2, l3⟩ := layOk_iff.1 hok
  have eT : bestT n g taken many = ((bestF (usedF taken) (zF g) (layN n g).toNat many.toNat).1.map fun (j : Nat) => (j : Int), (bestF (usedF taken) (zF g) (layN n g).toNat many.toNat).2) := by
    unfold bestT; rw [if_neg (by omega)]
  rw [eT]
  obtain ⟨N, hN⟩ := Int.eq_ofNat_of_zero_le hbd.1
  obtain ⟨m, rfl⟩ := Int.eq_ofNat_of_zero_le (show 0 ≤ many by omega)
  rw [hN] at hbd hm2 ⊢
  rw [Int.toNat_natCast, Int.toNat_natCast]
  clear bad eT
  have g0 := fun k (_ : k + 1 < N) => (grpN_step l2 (by omega) k).1
  have g1 := fun k (_ : k + 1 < N) => (grpN_step l2 (by omega) k).2
  generalize hu : usedF taken = u
  generalize zF g = z at *
  refine ⟨fun sf i w => ∃ j : Nat, i = j ∧ j ≤ N ∧ Sat R (Own sf 3 (ints (freeL u j)) :: pts p (layC n s) :: Hs) w, fun _ i _ => N - i.toNat, ⟨0, rfl, by omega, Own.nil hw⟩, ?_⟩
  clear hw
  rintro _ sf _ w ⟨j, rfl, hj, hw⟩
  have hfl := freeL_len (u := u) j
  refine ⟨n, s, At.own (eqS hw) (by exact ⟨rfl, rfl, trivial⟩), ?_⟩
  refine (rcount_spec hs hw).use ?_
  rw [hN]
  rintro _ w ⟨rfl, hw⟩
  refine ⟨_, rfl, Br.d (fun h => ?_) (fun h => ?_)⟩
  · refine (has_spec ht hw).use ?_
    rintro _ w ⟨rfl, hw⟩
    have huj : u j = decide ((j : Int) ∈ taken) := by rw [← hu]; rfl
    refine ⟨_, rfl, ?_⟩
    rw [← huj, wrap64 (by omega) (by omega)]
    refine Br.nb (fun h2 => ?_) (fun h2 => ?_)
    · refine pushI_rule elI8 hw (by rw [List.length_map]; omega) fun sf' w hw => ?_
      refine ⟨⟨j + 1, by omega, by omega, ?_⟩, by dsimp only; omega⟩
      have e1 : ints (freeL u (j + 1)) = (((freeL u j).map fun (j : Nat) => (j : Int)) ++ [(j : Int)]).map (Value.int .i64) := by rw [freeL_succ, h2]; simp [ints]
      rw [e1]; exact hw
    · refine ⟨⟨j + 1, by omega, by omega, ?_⟩, by dsimp only; omega⟩
      rw [freeL_succ, h2, if_pos rfl, List.append_nil]; exact hw
  obtain rfl : j = N := by omega
  have hfl2 := Own.len hw
  have hcap := Own.cap hw
  rw [ints_len] at hfl2
  have gen : ∀ k, (freeL u j)[k]? = some ((freeL u j).getD k 0) ↔ k < (freeL u j).length := fun k => by
    rw [List.getD_eq_getElem?_getD]
    constructor
    · intro h; exact (List.getElem?_eq_some_iff.1 h).1
    · intro h; rw [List.getElem?_eq_getElem h]; rfl
  generalize hf : freeL u j = f at *
  refine Br.d (fun h4 => ?_) (fun h4 => ?_)
  · have := best_refN (u := u) (z := z) (grp := grpN g) (many := m) (N := j) g0 g1 (by omega) (fun k hk => by rw [hf] at hk; omega)
    rw [this, hf, if_pos (by omega)]
    exact ⟨⟨none, 0, 0⟩, rfl, Own.reads (T := 0) (Own.nil hw.drop.drop)⟩
  refine ⟨fun i w => ∃ k : Nat, i = k ∧ k ≤ f.length ∧ (∀ k', k' < k → ¬ winP f (grpN g) m k') ∧ Sat R (Own sf 3 (ints f) :: pts p (layC n s) :: Hs) w, fun i _ => f.length - i.toNat, ⟨0, rfl, by omega, fun k h => by omega, hw⟩, ?_⟩
  clear hw h
  rintro _ _ w ⟨k, rfl, hk, hn, hw⟩
  rw [wrap64 (x := (k : Int) + m) (by omega) (by omega), wrap64 (x := (k : Int) + m - 1) (by omega) (by omega), wrap64 (x := (m : Int) - 1) (by omega) (by omega), wrap64 (x := (k : Int) + 1) (by omega) (by omega)]
  refine Br.d (fun h => ?_) (fun h => ?_)
  · have hx1 : k < f.length := by omega
    have hx2 : k + m - 1 < f.length := by omega
    have hfk := fun i (hi : i < f.length) => by
      have h2 : (freeL u j)[i]? = some f[i] := by rw [hf]; exact List.getElem?_eq_getElem hi
      exact (free_of h2).1
    have b1 := hfk k hx1
    have b2 := hfk (k + m - 1) hx2
    have next : ¬ winP f (grpN g) m k → ∀ w, Sat R (Own sf 3 (ints f) :: pts p (layC n s) :: Hs) w → (∃ k' : Nat, (k : Int) + 1 = k' ∧ k' ≤ f.length ∧ (∀ k'', k'' < k' → ¬ winP f (grpN g) m k'') ∧ Sat R (Own sf 3 (ints f) :: pts p (layC n s) :: Hs) w) ∧ f.length - ((k : Int) + 1).toNat < f.length - (k : Int).toNat := fun hno w hw =>
      ⟨⟨k + 1, by omega, by omega, fun k' hk' => by
        by_cases hkk : k' = k
        · rw [hkk]; exact hno
        · exact hn k' (by omega), hw⟩, by omega⟩
    have hwin : winP f (grpN g) m k ↔ ((f[k + m - 1] : Int) - f[k] = m - 1 ∧ grpN g f[k] = grpN g f[k + m - 1]) := by
      unfold winP
      constructor
      · rintro ⟨a, b, ha, hb, hd, hab, hg⟩
        rw [List.getElem?_eq_getElem hx1] at ha
        rw [List.getElem?_eq_getElem hx2] at hb
        obtain rfl := Option.some.inj ha
        obtain rfl := Option.some.inj hb
        exact ⟨by omega, hg⟩
      · rintro ⟨hd, hg⟩
        exact ⟨_, _, List.getElem?_eq_getElem hx1, List.getElem?_eq_getElem hx2, by omega, by omega, hg⟩
    have hval : ∀ i (hi : i < f.length), (f.map fun (j : Nat) => (j : Int))[i]'(by rw [List.length_map]; exact hi) = (f[i] : Int) := fun i hi => by simp
    refine Own.ix (xs := f.map fun (j : Nat) => (j : Int)) hw (eqS hw) (k + m - 1) (by omega) (by rw [List.length_map]; exact hx2) ?_
    rw [hval _ hx2]
    refine drw_rule hw fun w hw => ?_
    refine Own.ix (xs := f.map fun (j : Nat) => (j : Int)) hw selfS k rfl (by rw [List.length_map]; exact hx1) ?_
    rw [hval _ hx1, wrap64 (x := (f[k + m - 1] : Int) - f[k]) (by omega) (by omega)]
    refine Br.e (fun h5 => ?_) (fun h5 => next (fun hw => h5 (hwin.1 hw).1) _ hw)
    refine ⟨n, s, At.own selfS (by exact ⟨rfl, rfl, trivial⟩), ?_⟩
    refine Own.ix (xs := f.map fun (j : Nat) => (j : Int)) hw selfS k rfl (by rw [List.length_map]; exact hx1) ?_
    rw [hval _ hx1]
    refine ⟨n, s, At.own selfS (by exact ⟨rfl, rfl, trivial⟩), ?_⟩
    refine (rgroup_spec hs l2 (by omega) (by omega) (by omega) (by omega) hw).use ?_
    rintro _ w ⟨rfl, hw⟩
    refine ⟨_, rfl, hw, ?_⟩
    refine (rgroup_spec hs l2 (by omega) (by omega) (by omega) (by omega) hw).use ?_
    rintro _ w ⟨rfl, hw⟩
    refine ⟨_, rfl, hw, ?_⟩
    rw [Int.toNat_natCast, Int.toNat_natCast]
    refine Br.e (fun h6 => ?_) (fun h6 => next (fun hw => h6 (hwin.1 hw).2) _ hw)
    refine ⟨by omega, by omega, by omega, by omega, ⟨cutA sf.a k sf.cap 1, m, sf.cap - k⟩, ?_, ?_⟩
    · rw [best_ref (u := u) (z := z) (grp := grpN g) (many := m) (N := j) g0 g1 (by omega) (by rw [hf]; exact hwin.2 ⟨h5, h6⟩) (by rw [hf]; exact hn), show ((k : Int) + m).toNat - (k : Int).toNat = m by omega]
      rfl
    · rw [best_ref (u := u) (z := z) (grp := grpN g) (many := m) (N := j) g0 g1 (by omega) (by rw [hf]; exact hwin.2 ⟨h5, h6⟩) (by rw [hf]; exact hn), hf]
      have := reads_sub (i := k) (m := m) (by rw [ints_len]; omega) (Own.reads hw)
      rw [show ((ints f).drop k).take m = ints ((f.drop k).take m) by simp [ints, List.map_take, List.map_drop]] at this
      exact Sat.cons (fun R' h => h.drop) this
  · have := best_refN (u := u) (z := z) (grp := grpN g) (many := m) (N := j) g0 g1 (by omega) (fun k' hk' => by rw [hf] at hk' ⊢; exact hn k' (by omega))
    rw [this, hf, if_neg (by omega)]
    refine ⟨by omega, by omega, ⟨sf.a, m, sf.cap⟩, rfl, ?_⟩
    have := Own.reads (own_take (k := m) (by rw [ints_len]; omega) hw)
    rw [show (ints f).take m = ints (f.take m) by simp [ints, List.map_take]] at this
    exact Sat.cons (fun R' h => h.drop) this
end Go.Proofs.YtaacfjdknlglhaaGreatDoor
/- Classes and limits: package nest. Condition: none. -/
namespace Go.Proofs.YtaacfjdknlglhaaGreatDoor
set_option linter.unusedVariables false
open Go Go.VC

variable {R : Cx} {Hs Rest : List HP} {w : World}

/-! ### Plain -/
def inR (x : Int) : Bool := decide (0 ≤ x ∧ x ≤ 10000)
def limOk (l : List Int) : Bool := decide (1 ≤ l.length ∧ l.length ≤ 8) && decide (∀ k, k < l.length → (0 ≤ l.getD k 0 ∧ l.getD k 0 ≤ 10000) ∧ (0 < k → l.getD k 0 ≤ l.getD (k - 1) 0))
/-- What class k and the lower ones have sold. -/
def fromN (sold : List Int) (k : Nat) : Int := (sold.drop k).sum
def nestOk (lim sold : List Int) : Bool := limOk lim && (decide (sold.length = lim.length) && decide (∀ k, k < lim.length → (0 ≤ sold.getD k 0 ∧ sold.getD k 0 ≤ 10000) ∧ fromN sold k ≤ lim.getD k 0))
/-- The least of 10000 and the first so many. -/
def mnF (x : Nat → Int) : Nat → Int
  | 0 => 10000
  | k + 1 => if x k < mnF x k then x k else mnF x k
def roomF (lim sold : List Int) (k : Nat) : Int := lim.getD k 0 - fromN sold k
def leftT (lim sold : List Int) (c : Int) : Int × Int := if nestOk lim sold = true ∧ 0 ≤ c ∧ c < lim.length then (mnF (roomF lim sold) (c.toNat + 1), 0) else (0, 1)
def sellT (lim sold : List Int) (c many : Int) : List Int × Int :=
  if (leftT lim sold c).2 ≠ 0 ∨ many < 1 ∨ many > 10000 then ([], 1) else if many > (leftT lim sold c).1 then ([], 3)
  else (sold.set c.toNat (sold.getD c.toNat 0 + many), 0)
def backT (lim sold : List Int) (c many : Int) : List Int × Int :=
  if (leftT lim sold c).2 ≠ 0 ∨ many < 1 ∨ many > sold.getD c.toNat 0 then ([], 1) else (sold.set c.toNat (sold.getD c.toNat 0 - many), 0)

/-- L is the least of 10000 and those from a on, below b. -/
def IsMn (x : Nat → Int) (a b : Nat) (L : Int) : Prop := L ≤ 10000 ∧ (∀ k, a ≤ k → k < b → L ≤ x k) ∧ (L = 10000 ∨ ∃ k, a ≤ k ∧ k < b ∧ L = x k)
theorem mnF_is (x : Nat → Int) : ∀ k, IsMn x 0 k (mnF x k)
  | 0 => ⟨by simp [mnF], fun k h0 h1 => by omega, .inl rfl⟩
  | k + 1 => by
    obtain ⟨h1, h2, h3⟩ := mnF_is x k
    unfold mnF
    split
    · exact ⟨by omega, fun j a b => by
        by_cases hj : j = k
        · rw [hj]; exact Int.le_refl _
        · have := h2 j a (by omega); omega, .inr ⟨k, by omega, by omega, rfl⟩⟩
    · refine ⟨h1, fun j a b => ?_, ?_⟩
      · by_cases hj : j = k
        · rw [hj]; omega
        · exact h2 j a (by omega)
      · rcases h3 with h3 | ⟨j, a, b, c⟩
        · exact .inl h3
        · exact .inr ⟨j, a, by omega, c⟩
theorem IsMn.eq {x : Nat → Int} {a b : Nat} {L L' : Int} (h : IsMn x a b L) (h' : IsMn x a b L') : L = L' := by
  obtain ⟨h1, h2, h3⟩ := h
  obtain ⟨h1', h2', h3'⟩ := h'
  have a1 : L ≤ L' := by
    rcases h3' with h | ⟨k, k1, k2, k3⟩
    · omega
    · rw [k3]; exact h2 k k1 k2
  have a2 : L' ≤ L := by
    rcases h3 with h | ⟨k, k1, k2, k3⟩
    · omega
    · rw [k3]; exact h2' k k1 k2
  omega
theorem IsMn.step {x : Nat → Int} {a b : Nat} {L : Int} (h : IsMn x (a + 1) b L) (hab : a < b) : IsMn x a b (if x a < L then x a else L) := by
  obtain ⟨h1, h2, h3⟩ := h
  split
  · exact ⟨by omega, fun k k1 k2 => by
      by_cases hk : k = a
      · rw [hk]; exact Int.le_refl _
      · have := h2 k (by omega) k2; omega, .inr ⟨a, by omega, hab, rfl⟩⟩
  · refine ⟨h1, fun k k1 k2 => ?_, ?_⟩
    · by_cases hk : k = a
      · rw [hk]; omega
      · exact h2 k (by omega) k2
    · rcases h3 with h | ⟨k, k1, k2, k3⟩
      · exact .inl h
      · exact .inr ⟨k, by omega, k2, k3⟩
theorem IsMn.skip {x : Nat → Int} {a b : Nat} {L : Int} (h : IsMn x (a + 1) b L) (hab : ¬ a < b) : IsMn x a b L := by
  obtain ⟨h1, h2, h3⟩ := h
  refine ⟨h1, fun k k1 k2 => by omega, ?_⟩
  rcases h3 with h | ⟨k, k1, k2, k3⟩
  · exact .inl h
  · omega

theorem fromN_step {sold : List Int} {k : Nat} (h : k < sold.length) : fromN sold k = sold[k] + fromN sold (k + 1) := by
  unfold fromN; rw [List.drop_eq_getElem_cons h, List.sum_cons]
theorem fromN_end {sold : List Int} {k : Nat} (h : sold.length ≤ k) : fromN sold k = 0 := by
  unfold fromN; rw [List.drop_eq_nil_of_le h]; rfl
theorem fromN_bd {sold : List Int} (h : ∀ x ∈ sold, 0 ≤ x ∧ x ≤ 10000) : ∀ k, 0 ≤ fromN sold k ∧ fromN sold k ≤ 10000 * (sold.length - k : Nat) := by
  intro k
  unfold fromN
  rw [← List.length_drop]
  have : ∀ x ∈ sold.drop k, 0 ≤ x ∧ x ≤ 10000 := fun x hx => h x (List.mem_of_mem_drop hx)
  generalize sold.drop k = l at *
  induction l with
  | nil => simp
  | cons a l ih =>
    have := ih fun x hx => this x (List.mem_cons_of_mem _ hx)
    have := ‹∀ x ∈ a :: l, 0 ≤ x ∧ x ≤ 10000› a List.mem_cons_self
    simp only [List.sum_cons, List.length_cons]; omega
theorem getD_lt {l : List Int} {k : Nat} (h : k < l.length) : l.getD k 0 = l[k] := by rw [List.getD_eq_getElem?_getD, List.getElem?_eq_getElem h]; rfl

theorem limOk_iff {l : List Int} : limOk l = true ↔ (1 ≤ l.length ∧ l.length ≤ 8) ∧ ∀ k (h : k < l.length), (0 ≤ l[k] ∧ l[k] ≤ 10000) ∧ (0 < k → l[k] ≤ l.getD (k - 1) 0) := by
  unfold limOk
  rw [Bool.and_eq_true, decide_eq_true_iff, decide_eq_true_iff]
  constructor
  · rintro ⟨h1, h2⟩
    exact ⟨h1, fun k h => by have := h2 k h; rw [getD_lt h] at this; exact this⟩
  · rintro ⟨h1, h2⟩
    exact ⟨h1, fun k h => by rw [getD_lt h]; exact h2 k h⟩
theorem nestOk_iff {lim sold : List Int} : nestOk lim sold = true ↔ limOk lim = true ∧ sold.length = lim.length ∧ ∀ k, k < lim.length → (0 ≤ sold.getD k 0 ∧ sold.getD k 0 ≤ 10000) ∧ fromN sold k ≤ lim.getD k 0 := by
  unfold nestOk
  rw [Bool.and_eq_true, Bool.and_eq_true, decide_eq_true_iff, decide_eq_true_iff]
theorem nestOk_no {lim sold : List Int} (h : ¬ (limOk lim = true ∧ sold.length = lim.length ∧ ∀ k, k < lim.length → (0 ≤ sold.getD k 0 ∧ sold.getD k 0 ≤ 10000) ∧ fromN sold k ≤ lim.getD k 0)) : nestOk lim sold = false := by
  rw [← Bool.not_eq_true, nestOk_iff]; exact h

/-! ### Package nest -/
theorem within_spec {x : Int} (hw : Sat R Hs w) : Gets Tryz.prog 118 #[.int .i64 x] w fun v w' => v = .bool (inR x) ∧ Sat R Hs w' := by
  apply call118
  unfold inR
  refine Br.d (fun h => ⟨?_, hw⟩) (fun h => ⟨?_, hw⟩)
  · congr 1; rw [decide_eq_decide]; omega
  · rw [decide_eq_false (by omega)]

theorem lefts_spec {sl ss : Sl} {lim sold : List Int} {ask : Value} {A : Nat → List HP} (hl : RoI R sl lim) (hs : RoI R ss sold)
    (hask : ∀ j w, j < lim.length → Sat R (A (j + 1)) w → CalW Tryz.prog cl ask [.int .i64 j, .int .i64 (roomF lim sold j)] w fun e w' => e = .returned (.tuple #[]) ∧ Sat R (A j) w')
    (hw : Sat R (A lim.length) w) :
    Gets Tryz.prog 88 #[.slice sl.a sl.len sl.cap, .slice ss.a ss.len ss.cap, ask] w fun v w' => v = .bool (nestOk lim sold) ∧ ∃ j, Sat R (A j) w' ∧ (nestOk lim sold = true → j = 0) := by
  have hll := hl.len
  have hsl := hs.len
  have hlb := hl.bound
  have hsb := hs.bound
  apply call88
  have no : ∀ j w, Sat R (A j) w → nestOk lim sold = false → Value.bool false = .bool (nestOk lim sold) ∧ ∃ j, Sat R (A j) w ∧ (nestOk lim sold = true → j = 0) := fun j w h e => ⟨by rw [e], j, h, fun h => by rw [e] at h; cases h⟩
  have nl : ¬ (1 ≤ lim.length ∧ lim.length ≤ 8) → nestOk lim sold = false := fun h => nestOk_no fun h2 => h (limOk_iff.1 h2.1).1
  refine ⟨fun w => (1 ≤ lim.length ∧ lim.length ≤ 8 ∧ sold.length = lim.length) ∧ Sat R (A lim.length) w, ?_, ?_⟩
  · refine Br.d (fun h => no _ _ hw (nl (by omega))) (fun h1 => Br.d (fun h => no _ _ hw (nl (by omega))) (fun h2 => Br.ne (fun h => no _ _ hw (nestOk_no fun h3 => by omega)) (fun h3 => ⟨⟨by omega, by omega, by omega⟩, hw⟩)))
  clear hw
  rintro _ w ⟨⟨h1, h2, h3⟩, hw⟩
  refine ⟨fun sum fine i w => ∃ j : Nat, i = (j : Int) - 1 ∧ j ≤ lim.length ∧ sum = fromN sold j ∧ (∀ x ∈ sold.drop j, 0 ≤ x ∧ x ≤ 10000) ∧
      (∀ k (h : k < lim.length), j ≤ k → (0 ≤ lim[k] ∧ lim[k] ≤ 10000) ∧ (0 < k → lim[k] ≤ lim.getD (k - 1) 0)) ∧ fine = decide (∀ k, k < lim.length → j ≤ k → fromN sold k ≤ lim.getD k 0) ∧ Sat R (A j) w,
    fun _ _ i _ => (i + 1).toNat, ⟨lim.length, ?_, by omega, ?_, ?_, fun k h h' => by omega, ?_, hw⟩, ?_⟩
  · rw [hll, wrap64 (by omega) (by omega)]
  · rw [fromN_end (by omega)]
  · rw [List.drop_eq_nil_of_le (by omega)]; simp
  · rw [decide_eq_true]; intro k h h'; omega
  clear hw
  rintro _ _ fine _ w ⟨j, rfl, hj, rfl, hsm, hlm, rfl, hw⟩
  refine Br.d (fun h => ?_) (fun h => ?_)
  · obtain ⟨i, rfl⟩ : ∃ i, j = i + 1 := ⟨j - 1, by omega⟩
    rw [show ((i + 1 : Nat) : Int) - 1 = (i : Int) by omega]
    have hil : i < lim.length := by omega
    have his : i < sold.length := by omega
    have nlim : ¬ ((0 ≤ lim[i] ∧ lim[i] ≤ 10000) ∧ (0 < i → lim[i] ≤ lim.getD (i - 1) 0)) → nestOk lim sold = false := fun h => nestOk_no fun h2 => h ((limOk_iff.1 h2.1).2 i hil)
    have nsold : ¬ (0 ≤ sold[i] ∧ sold[i] ≤ 10000) → nestOk lim sold = false := fun h => nestOk_no fun h2 => h (by have := (h2.2.2 i hil).1; rw [getD_lt his] at this; exact this)
    refine ⟨fun w => (inR lim[i] = true ∧ inR sold[i] = true ∧ (0 < i → lim[i] ≤ lim.getD (i - 1) 0)) ∧ Sat R (A (i + 1)) w, ?_, ?_⟩
    · refine drw_rule hw fun w hw => ?_
      refine Ro.ix hl selfS i rfl hil ?_
      refine (within_spec hw).use ?_
      rintro _ w ⟨rfl, hw⟩
      refine ⟨_, rfl, hw, Br.nb (fun h => no _ _ hw (nlim fun h2 => by unfold inR at h; have := of_decide_eq_false h; omega)) (fun h4 => ?_)⟩
      refine Ro.ix hs selfS i rfl his ?_
      refine (within_spec hw).use ?_
      rintro _ w ⟨rfl, hw⟩
      refine ⟨_, rfl, hw, Br.nb (fun h => no _ _ hw (nsold fun h2 => by unfold inR at h; have := of_decide_eq_false h; omega)) (fun h5 => ?_)⟩
      refine Br.d (fun h6 => ?_) (fun h6 => ⟨⟨h4, h5, fun h => by omega⟩, hw⟩)
      refine Ro.ix hl selfS i rfl hil ?_
      refine Ro.ix hl selfS (i - 1) (by rw [wrap64 (by omega) (by omega)]; omega) (by omega) ?_
      refine Br.d (fun h7 => no _ _ hw (nlim fun h8 => ?_)) (fun h7 => ⟨⟨h4, h5, fun _ => by rw [getD_lt (by omega)]; omega⟩, hw⟩)
      have := h8.2 (by omega)
      rw [getD_lt (by omega)] at this; omega
    clear hw
    rintro _ w ⟨⟨h4, h5, h6⟩, hw⟩
    have h4 := of_decide_eq_true h4
    have h5 := of_decide_eq_true h5
    have hsm' : ∀ x ∈ sold.drop i, 0 ≤ x ∧ x ≤ 10000 := fun x hx => by
      rw [List.drop_eq_getElem_cons his] at hx
      rcases List.mem_cons.1 hx with rfl | hx
      · exact h5
      · exact hsm x hx
    have hfs := fromN_step his
    have hfb : 0 ≤ fromN sold (i + 1) ∧ fromN sold (i + 1) ≤ 80000 := by
      have := fromN_bd (sold := sold.drop (i + 1)) hsm 0
      unfold fromN at this ⊢
      rw [List.drop_zero] at this
      rw [List.length_drop] at this
      omega
    have hroom : IntKind.i64.wrap (lim[i] - fromN sold i) = roomF lim sold i := by
      rw [wrap64 (by omega) (by omega)]
      unfold roomF; rw [getD_lt hil]
    have hsum : IntKind.i64.wrap (fromN sold (i + 1) + sold[i]) = fromN sold i := by rw [wrap64 (by omega) (by omega)]; omega
    have hk : IntKind.i64.wrap ((i : Int) - 1) = (i : Int) - 1 := wrap64 (by omega) (by omega)
    have fin : ∀ w, Sat R (A i) w → ∀ b : Bool, b = (decide (∀ k, k < lim.length → i + 1 ≤ k → fromN sold k ≤ lim.getD k 0) && decide (fromN sold i ≤ lim[i])) →
        (∃ j : Nat, (i : Int) - 1 = (j : Int) - 1 ∧ j ≤ lim.length ∧ fromN sold i = fromN sold j ∧ (∀ x ∈ sold.drop j, 0 ≤ x ∧ x ≤ 10000) ∧
          (∀ k (h : k < lim.length), j ≤ k → (0 ≤ lim[k] ∧ lim[k] ≤ 10000) ∧ (0 < k → lim[k] ≤ lim.getD (k - 1) 0)) ∧ b = decide (∀ k, k < lim.length → j ≤ k → fromN sold k ≤ lim.getD k 0) ∧ Sat R (A j) w) ∧ ((i : Int) - 1 + 1).toNat < ((i : Int) + 1).toNat := fun w hw b hb => by
      refine ⟨⟨i, rfl, by omega, rfl, hsm', fun k h h' => ?_, ?_, hw⟩, by omega⟩
      · by_cases hki : k = i
        · subst hki; exact ⟨h4, h6⟩
        · exact hlm k h (by omega)
      · rw [hb, ← Bool.decide_and, decide_eq_decide]
        constructor
        · rintro ⟨a, b⟩ k c d
          by_cases hki : k = i
          · subst hki; rw [getD_lt hil]; exact b
          · exact a k c (by omega)
        · intro a
          exact ⟨fun k c d => a k c (by omega), by have := a i hil (by omega); rw [getD_lt hil] at this; exact this⟩
    refine Ro.ix hs (eqS hw) i rfl his ?_
    rw [hsum, hk]
    refine Br.d (fun h7 => ?_) (fun h7 => ?_)
    · refine Ro.ix hl (eqS hw) i rfl hil (Ro.ix hl (eqS hw) i rfl hil ?_)
      rw [hroom]
      refine (hask i w hil hw).mono ?_
      rintro _ w ⟨rfl, hw⟩
      exact ⟨rfl, fin w hw _ (by rw [decide_eq_true h7]; rfl)⟩
    · refine Ro.ix hl (eqS hw) i rfl hil ?_
      rw [hroom]
      refine (hask i w hil hw).mono ?_
      rintro _ w ⟨rfl, hw⟩
      exact ⟨rfl, fin w hw _ (by rw [decide_eq_false h7]; rfl)⟩
  · obtain rfl : j = 0 := by omega
    have e : nestOk lim sold = decide (∀ k, k < lim.length → 0 ≤ k → fromN sold k ≤ lim.getD k 0) := by
      rw [Bool.eq_iff_iff, nestOk_iff, decide_eq_true_iff]
      constructor
      · intro h k h4 _; exact (h.2.2 k h4).2
      · intro h
        refine ⟨limOk_iff.2 ⟨⟨h1, h2⟩, fun k h4 => hlm k h4 (by omega)⟩, h3, fun k h4 => ⟨?_, h k h4 (by omega)⟩⟩
        rw [getD_lt (by omega)]
        exact hsm _ (by rw [List.drop_zero]; exact List.getElem_mem _)
    exact ⟨by rw [e], 0, hw, fun _ => rfl⟩
end Go.Proofs.YtaacfjdknlglhaaGreatDoor
/- Classes and limits: package nest, reference 14: what is left, selling, giving back. Condition: none. -/
namespace Go.Proofs.YtaacfjdknlglhaaGreatDoor
set_option linter.unusedVariables false
open Go Go.VC

variable {R : Cx} {Hs Rest : List HP} {w : World}

theorem nright_spec {sl ss : Sl} {lim sold : List Int} (hl : RoI R sl lim) (hs : RoI R ss sold) (hw : Sat R Hs w) :
    Gets Tryz.prog 36 #[.slice sl.a sl.len sl.cap, .slice ss.a ss.len ss.cap] w fun v w' => v = .bool (nestOk lim sold) ∧ Sat R Hs w' := by
  apply call36
  refine (lefts_spec (A := fun _ => Hs) hl hs (fun j w _ hw => CalW.mk (by kernel_rfl) (Gets.use (Q := fun v w' => v = .tuple #[] ∧ Sat R Hs w') (call89 _ _ _ _ ⟨rfl, hw⟩) fun v w' h => ⟨by rw [h.1], h.2⟩)) hw).use ?_
  rintro _ w ⟨rfl, _, hw, _⟩
  exact ⟨_, rfl, rfl, hw⟩

def leastH (b : Nat) (x : Nat → Int) (j c : Nat) : HP := fun h => ∃ L, IsMn x j c L ∧ pts b (.cells [.int .i64 L].toArray 3 (0, 0)) h
theorem leastH_out {b j c : Nat} {x : Nat → Int} (hw : Sat R (leastH b x j c :: Hs) w) : ∃ L, IsMn x j c L ∧ Sat R (pts b (.cells [.int .i64 L].toArray 3 (0, 0)) :: Hs) w :=
  let ⟨h, ⟨L, hL, hp⟩, hd, hs⟩ := hw
  ⟨L, hL, h, hp, hd, hs⟩
theorem leastH_in {b j c : Nat} {x : Nat → Int} {L : Int} (hL : IsMn x j c L) (hw : Sat R (pts b (.cells [.int .i64 L].toArray 3 (0, 0)) :: Hs) w) : Sat R (leastH b x j c :: Hs) w :=
  Sat.imp (fun _ h => ⟨L, hL, h⟩) hw

theorem left1_spec {bc bl : Nat} {c : Int} {x : Nat → Int} {j : Nat} (hw : Sat R (leastH bl x (j + 1) (c + 1).toNat :: pts bc (.cells [.int .i64 c].toArray 3 (0, 0)) :: Hs) w) :
    Gets Tryz.prog 115 #[.int .i64 j, .int .i64 (x j), .pointer (some ⟨bc, 0, none⟩), .pointer (some ⟨bl, 0, none⟩)] w fun v w' => v = .tuple #[] ∧ Sat R (leastH bl x j (c + 1).toNat :: pts bc (.cells [.int .i64 c].toArray 3 (0, 0)) :: Hs) w' := by
  obtain ⟨L, hL, hw⟩ := leastH_out hw
  apply call115
  refine NilP.mk rfl ⟨c, At.own (eqS hw) (by exact ⟨rfl, trivial⟩), Br.d (fun h => ?_) (fun h => ⟨rfl, leastH_in (hL.skip (by omega)) hw⟩)⟩
  refine NilP.mk rfl ⟨L, At.own (eqS hw) (by exact ⟨rfl, trivial⟩), ?_⟩
  refine store_rule hw (by kernel_rfl) rfl (by simp [Value.cells]) fun w hw => ?_
  exact ⟨rfl, leastH_in (hL.step (by omega)) hw⟩

theorem left_spec {sl ss : Sl} {lim sold : List Int} {c : Int} (hl : RoI R sl lim) (hs : RoI R ss sold) (hw : Sat R Hs w) :
    Gets Tryz.prog 79 #[.slice sl.a sl.len sl.cap, .slice ss.a ss.len ss.cap, .int .i64 c] w fun v w' => v = .tuple #[.int .i64 (leftT lim sold c).1, .int .i64 (leftT lim sold c).2] ∧ Sat R Hs w' := by
  have hll := hl.len
  have hlb := hl.bound
  have no : ¬ (nestOk lim sold = true ∧ 0 ≤ c ∧ c < lim.length) → leftT lim sold c = (0, 1) := fun h => by unfold leftT; rw [if_neg h]
  apply call79
  refine new_rule hw fun bc w hw => ?_
  refine new_rule hw fun bl w hw => ?_
  have hw : Sat R (pts bl (.cells [.int .i64 0].toArray 3 (0, 0)) :: pts bc (.cells [.int .i64 c].toArray 3 (0, 0)) :: Hs) w := hw
  refine store_rule hw (by kernel_rfl) rfl (by simp [Value.cells]) fun w hw => ?_
  have hw : Sat R (pts bl (.cells [.int .i64 10000].toArray 3 (0, 0)) :: pts bc (.cells [.int .i64 c].toArray 3 (0, 0)) :: Hs) w := hw
  by_cases hc : c < lim.length
  · have h0 : IsMn (roomF lim sold) lim.length (c + 1).toNat 10000 := ⟨by omega, fun k h1 h2 => by omega, .inl rfl⟩
    refine (lefts_spec (A := fun j => leastH bl (roomF lim sold) j (c + 1).toNat :: pts bc (.cells [.int .i64 c].toArray 3 (0, 0)) :: Hs) hl hs (fun j w _ hw => CalW.mk (by kernel_rfl) ((left1_spec hw).use fun v w' h => ⟨by rw [h.1], h.2⟩)) (leastH_in h0 hw)).use ?_
    rintro _ w ⟨rfl, j, hw, hj⟩
    refine ⟨_, rfl, Br.nb (fun h => ⟨?_, hw.drop.drop⟩) (fun h1 => ?_)⟩
    · rw [no (fun h2 => by rw [h] at h2; cases h2.1)]
    obtain rfl := hj h1
    obtain ⟨L, hL, hw⟩ := leastH_out hw
    refine ⟨c, At.own (eqS hw) (by exact ⟨rfl, trivial⟩), Br.d (fun h => ⟨by rw [no (fun h2 => by omega)], hw.drop.drop⟩) (fun h2 => ?_)⟩
    refine ⟨c, At.own (eqS hw) (by exact ⟨rfl, trivial⟩), Br.d (fun h => ⟨by rw [no (fun h2 => by omega)], hw.drop.drop⟩) (fun h3 => ?_)⟩
    refine ⟨L, At.own (eqS hw) (by exact ⟨rfl, trivial⟩), ?_, hw.drop.drop⟩
    have e : leftT lim sold c = (mnF (roomF lim sold) (c.toNat + 1), 0) := by unfold leftT; rw [if_pos ⟨h1, by omega, hc⟩]
    rw [e, show c.toNat + 1 = (c + 1).toNat by omega]
    rw [hL.eq (mnF_is _ _)]
  · have h0 : IsMn (fun _ => 0) 0 0 10000 := ⟨by omega, fun k h1 h2 => by omega, .inl rfl⟩
    refine (lefts_spec (A := fun j => exs (fun L => pts bl (.cells [.int .i64 L].toArray 3 (0, 0))) :: pts bc (.cells [.int .i64 c].toArray 3 (0, 0)) :: Hs) hl hs (fun j w _ hw => CalW.mk (by kernel_rfl) ?_) (Sat.exs.2 ⟨10000, hw⟩)).use ?_
    · obtain ⟨L, hw⟩ := Sat.exs.1 hw
      refine Gets.use (Q := fun v w' => v = .tuple #[] ∧ Sat R (exs (fun L => pts bl (.cells [.int .i64 L].toArray 3 (0, 0))) :: pts bc (.cells [.int .i64 c].toArray 3 (0, 0)) :: Hs) w') (call115 _ _ _ _ _ _ ?_) fun v w' h => ⟨by rw [h.1], h.2⟩
      refine NilP.mk rfl ⟨c, At.own (eqS hw) (by exact ⟨rfl, trivial⟩), Br.d (fun h => ?_) (fun h => ⟨rfl, Sat.exs.2 ⟨L, hw⟩⟩)⟩
      refine NilP.mk rfl ⟨L, At.own (eqS hw) (by exact ⟨rfl, trivial⟩), ?_⟩
      refine store_rule hw (by kernel_rfl) rfl (by simp [Value.cells]) fun w hw => ?_
      exact ⟨rfl, Sat.exs.2 ⟨_, hw⟩⟩
    rintro _ w ⟨rfl, j, hw, hj⟩
    obtain ⟨L, hw⟩ := Sat.exs.1 hw
    have e := no (fun h2 => by omega)
    refine ⟨_, rfl, Br.nb (fun h => ⟨by rw [e], hw.drop.drop⟩) (fun h1 => ?_)⟩
    refine ⟨c, At.own (eqS hw) (by exact ⟨rfl, trivial⟩), Br.d (fun h => ⟨by rw [e], hw.drop.drop⟩) (fun h2 => ?_)⟩
    refine ⟨c, At.own (eqS hw) (by exact ⟨rfl, trivial⟩), Br.d (fun h => ⟨by rw [e], hw.drop.drop⟩) (fun h3 => by omega)⟩

/-! ### A copy of numbers -/
theorem cloneI_spec {s : Sl} {l : List Int} (hs : RoI R s l) (hl : l.length ≤ 1000000000) (hw : Sat R Hs w) :
    Gets Tryz.prog 59 #[.slice s.a s.len s.cap] w fun v w' => ∃ t : Sl, v = .slice t.a t.len t.cap ∧ Sat R (Own t 3 (l.map (Value.int .i64)) :: Hs) w' := by
  apply call59
  refine Br.mk (fun h => ?_) (fun h => ?_)
  · have hnil : l = [] := by
      by_cases hn : l = []
      · exact hn
      · obtain ⟨b, off, l', T, fr, ha, _⟩ := hs.mem (by simpa using hn)
        rw [ha] at h; cases h
    subst hnil
    exact ⟨⟨none, 0, 0⟩, rfl, Own.nil hw⟩
  · refine new_rule hw fun b w hw => ?_
    have hw : Sat R (Own ⟨some ⟨b, 0, none⟩, 0, 0⟩ 3 (([] : List Int).map (Value.int .i64)) :: Hs) w := own_lit hw
    refine appendRI elI8 (s := ⟨some ⟨b, 0, none⟩, 0, 0⟩) (n := 1000000000) Tryz.underlying33 hw hs (by simpa using hl) (by omega) (by omega) fun t w hw => ?_
    exact ⟨t, rfl, hw⟩

theorem more_spec {s : Sl} {l : List Int} {c many : Int} (hs : RoI R s l) (hl : l.length ≤ 1000) (hc : 0 ≤ c) (hc2 : c < l.length) (hb : ∀ x ∈ l, 0 ≤ x ∧ x ≤ 10000) (hm : -10000 ≤ many ∧ many ≤ 10000) (hw : Sat R Hs w) :
    Gets Tryz.prog 114 #[.slice s.a s.len s.cap, .int .i64 c, .int .i64 many] w fun v w' => ∃ t : Sl, v = .slice t.a t.len t.cap ∧ Sat R (Own t 3 ((l.set c.toNat (l.getD c.toNat 0 + many)).map (Value.int .i64)) :: Hs) w' := by
  obtain ⟨k, rfl⟩ := Int.eq_ofNat_of_zero_le hc
  have hk : k < l.length := by omega
  have hx := hb l[k] (List.getElem_mem _)
  apply call114
  refine (cloneI_spec hs (by omega) hw).use ?_
  rintro _ w ⟨t, rfl, hw⟩
  refine ⟨t, rfl, ?_⟩
  refine Own.ix hw (eqS hw) k rfl hk ?_
  refine Own.store (by kernel_rfl) hw hk fun w hw => ?_
  rw [wrap64 (by omega) (by omega)] at hw
  rw [Int.toNat_natCast, getD_lt hk]
  exact ⟨t, rfl, hw⟩

theorem nest_sold {lim sold : List Int} (h : nestOk lim sold = true) : (∀ x ∈ sold, 0 ≤ x ∧ x ≤ 10000) ∧ sold.length = lim.length ∧ lim.length ≤ 8 := by
  obtain ⟨h1, h2, h3⟩ := nestOk_iff.1 h
  obtain ⟨⟨_, h4⟩, _⟩ := limOk_iff.1 h1
  refine ⟨fun x hx => ?_, h2, h4⟩
  obtain ⟨k, hk, rfl⟩ := List.getElem_of_mem hx
  have := (h3 k (by omega)).1
  rw [getD_lt hk] at this; exact this
theorem left_ok {lim sold : List Int} {c : Int} (h : (leftT lim sold c).2 = 0) : nestOk lim sold = true ∧ 0 ≤ c ∧ c < lim.length := by
  unfold leftT at h
  split at h
  · assumption
  · simp at h

theorem sell_spec {sl ss : Sl} {lim sold : List Int} {c many : Int} (hl : RoI R sl lim) (hs : RoI R ss sold) (hw : Sat R Hs w) :
    Gets Tryz.prog 77 #[.slice sl.a sl.len sl.cap, .slice ss.a ss.len ss.cap, .int .i64 c, .int .i64 many] w fun v w' => ∃ t : Sl, v = .tuple #[.slice t.a t.len t.cap, .int .i64 (sellT lim sold c many).2] ∧ Sat R (Own t 3 ((sellT lim sold c many).1.map (Value.int .i64)) :: Hs) w' := by
  apply call77
  refine (left_spec hl hs hw).use ?_
  rintro _ w ⟨rfl, hw⟩
  have bad : ((leftT lim sold c).2 ≠ 0 ∨ many < 1 ∨ many > 10000) → ∃ t : Sl, Value.tuple #[.slice none 0 0, .int .i64 1] = .tuple #[.slice t.a t.len t.cap, .int .i64 (sellT lim sold c many).2] ∧ Sat R (Own t 3 ((sellT lim sold c many).1.map (Value.int .i64)) :: Hs) w := fun h => by
    unfold sellT; rw [if_pos h]; exact ⟨⟨none, 0, 0⟩, rfl, Own.nil hw⟩
  refine ⟨_, _, rfl, Br.ne (fun h => bad (.inl h)) (fun h1 => Br.d (fun h => bad (.inr (.inl h))) (fun h2 => Br.d (fun h => bad (.inr (.inr h))) (fun h3 => ?_)))⟩
  have e : sellT lim sold c many = if many > (leftT lim sold c).1 then ([], 3) else (sold.set c.toNat (sold.getD c.toNat 0 + many), 0) := by
    unfold sellT; rw [if_neg (by omega)]
  rw [e]
  obtain ⟨n1, n2, n3⟩ := left_ok h1
  obtain ⟨n4, n5, n6⟩ := nest_sold n1
  refine Br.d (fun h => ?_) (fun h => ?_)
  · rw [if_pos h]; exact ⟨⟨none, 0, 0⟩, rfl, Own.nil hw⟩
  · rw [if_neg h]
    refine (more_spec hs (by omega) n2 (by omega) n4 ⟨by omega, by omega⟩ hw).use ?_
    rintro _ w ⟨t, rfl, hw⟩
    exact ⟨t, rfl, t, rfl, hw⟩

theorem back_spec {sl ss : Sl} {lim sold : List Int} {c many : Int} (hl : RoI R sl lim) (hs : RoI R ss sold) (hw : Sat R Hs w) :
    Gets Tryz.prog 78 #[.slice sl.a sl.len sl.cap, .slice ss.a ss.len ss.cap, .int .i64 c, .int .i64 many] w fun v w' => ∃ t : Sl, v = .tuple #[.slice t.a t.len t.cap, .int .i64 (backT lim sold c many).2] ∧ Sat R (Own t 3 ((backT lim sold c many).1.map (Value.int .i64)) :: Hs) w' := by
  have hsl := hs.len
  apply call78
  refine (left_spec hl hs hw).use ?_
  rintro _ w ⟨rfl, hw⟩
  have bad : ((leftT lim sold c).2 ≠ 0 ∨ many < 1 ∨ many > sold.getD c.toNat 0) → ∃ t : Sl, Value.tuple #[.slice none 0 0, .int .i64 1] = .tuple #[.slice t.a t.len t.cap, .int .i64 (backT lim sold c many).2] ∧ Sat R (Own t 3 ((backT lim sold c many).1.map (Value.int .i64)) :: Hs) w := fun h => by
    unfold backT; rw [if_pos h]; exact ⟨⟨none, 0, 0⟩, rfl, Own.nil hw⟩
  refine ⟨_, _, rfl, Br.ne (fun h => bad (.inl h)) (fun h1 => Br.d (fun h => bad (.inr (.inl h))) (fun h2 => ?_))⟩
  obtain ⟨n1, n2, n3⟩ := left_ok h1
  obtain ⟨n4, n5, n6⟩ := nest_sold n1
  have hx := n4 (sold[c.toNat]'(by omega)) (List.getElem_mem _)
  refine Ro.ix hs (eqS hw) c.toNat (by omega) (by omega) ?_
  refine Br.d (fun h => bad (.inr (.inr (by rw [getD_lt (by omega)]; exact h)))) (fun h3 => ?_)
  have e : backT lim sold c many = (sold.set c.toNat (sold.getD c.toNat 0 - many), 0) := by
    unfold backT; rw [if_neg (by rw [getD_lt (by omega)]; omega)]
  rw [e, show IntKind.i64.wrap (0 - many) = -many by rw [wrap64 (by omega) (by omega)]; omega]
  refine (more_spec hs (by omega) n2 (by omega) n4 ⟨by omega, by omega⟩ hw).use ?_
  rintro _ w ⟨t, rfl, hw⟩
  rw [← Int.sub_eq_add_neg] at hw
  exact ⟨t, rfl, t, rfl, hw⟩
end Go.Proofs.YtaacfjdknlglhaaGreatDoor
/- Classes and limits: reference 14. Condition: none. -/
namespace Go.Proofs.YtaacfjdknlglhaaGreatDoor
set_option linter.unusedVariables false
open Go Go.VC

variable {R : Cx} {Hs Rest : List HP} {w : World}

theorem rlim_spec {sl : Sl} {lim : List Int} (hl : RoI R sl lim) (hw : Sat R Hs w) :
    Gets Tryz.prog 60 #[.slice sl.a sl.len sl.cap] w fun v w' => v = .bool (limOk lim) ∧ Sat R Hs w' := by
  have hll := hl.len
  have hlb := hl.bound
  have no : ¬ ((1 ≤ lim.length ∧ lim.length ≤ 8) ∧ ∀ k (h : k < lim.length), (0 ≤ lim[k] ∧ lim[k] ≤ 10000) ∧ (0 < k → lim[k] ≤ lim.getD (k - 1) 0)) → Value.bool false = .bool (limOk lim) := fun h => by
    have : limOk lim = false := by rw [← Bool.not_eq_true, limOk_iff]; exact h
    rw [this]
  apply call60
  refine ⟨fun w => (1 ≤ lim.length ∧ lim.length ≤ 8) ∧ Sat R Hs w, Br.d (fun h => ⟨no (fun h2 => by omega), hw⟩) (fun h1 => Br.d (fun h => ⟨no (fun h2 => by omega), hw⟩) (fun h2 => ⟨⟨by omega, by omega⟩, hw⟩)), ?_⟩
  clear hw
  rintro _ w ⟨h0, hw⟩
  refine ⟨fun i w => ∃ j : Nat, i = j ∧ j ≤ lim.length ∧ (∀ k (h : k < lim.length), k < j → (0 ≤ lim[k] ∧ lim[k] ≤ 10000) ∧ (0 < k → lim[k] ≤ lim.getD (k - 1) 0)) ∧ Sat R Hs w, fun i _ => lim.length - i.toNat, ⟨0, rfl, by omega, fun k h h' => by omega, hw⟩, ?_⟩
  clear hw
  rintro _ _ w ⟨j, rfl, hj, hn, hw⟩
  refine Br.d (fun h => ?_) (fun h => ⟨by rw [limOk_iff.2 ⟨h0, fun k hk => hn k hk (by omega)⟩], hw⟩)
  have hj2 : j < lim.length := by omega
  refine drw_rule hw fun w hw => ?_
  refine Ro.ix hl selfS j rfl hj2 ?_
  refine Br.d (fun h => ⟨no (fun h2 => by have := (h2.2 j hj2).1; omega), hw⟩) (fun h1 => ?_)
  refine Ro.ix hl selfS j rfl hj2 ?_
  refine Br.d (fun h => ⟨no (fun h2 => by have := (h2.2 j hj2).1; omega), hw⟩) (fun h2 => ?_)
  have next : (0 < j → lim[j] ≤ lim.getD (j - 1) 0) → (∃ j' : Nat, IntKind.i64.wrap ((j : Int) + 1) = j' ∧ j' ≤ lim.length ∧ (∀ k (h : k < lim.length), k < j' → (0 ≤ lim[k] ∧ lim[k] ≤ 10000) ∧ (0 < k → lim[k] ≤ lim.getD (k - 1) 0)) ∧ Sat R Hs w) ∧ lim.length - (IntKind.i64.wrap ((j : Int) + 1)).toNat < lim.length - (j : Int).toNat := fun h3 => by
    rw [wrap64 (by omega) (by omega)]
    refine ⟨⟨j + 1, by omega, by omega, fun k hk hk2 => ?_, hw⟩, by omega⟩
    by_cases hkj : k = j
    · subst hkj; exact ⟨⟨by omega, by omega⟩, h3⟩
    · exact hn k hk (by omega)
  refine Br.d (fun h3 => ?_) (fun h3 => next fun h => by omega)
  refine Ro.ix hl selfS j rfl hj2 ?_
  refine Ro.ix hl selfS (j - 1) (by rw [wrap64 (by omega) (by omega)]; omega) (by omega) ?_
  refine Br.d (fun h4 => ⟨no (fun h2 => ?_), hw⟩) (fun h4 => next fun _ => by rw [getD_lt (by omega)]; omega)
  have := (h2.2 j hj2).2 (by omega)
  rw [getD_lt (by omega)] at this; omega

theorem rfrom_spec {ss : Sl} {sold : List Int} {k : Nat} (hs : RoI R ss sold) (hb : ∀ x ∈ sold, 0 ≤ x ∧ x ≤ 10000) (hlen : sold.length ≤ 1000) (hk : k ≤ 1000) (hw : Sat R Hs w) :
    Gets Tryz.prog 61 #[.slice ss.a ss.len ss.cap, .int .i64 k] w fun v w' => v = .int .i64 (fromN sold k) ∧ Sat R Hs w' := by
  have hsl := hs.len
  have hfb := fromN_bd hb
  apply call61
  refine ⟨fun n i w => ∃ j : Nat, i = j ∧ k ≤ j ∧ (j ≤ k ∨ j ≤ sold.length) ∧ n + fromN sold j = fromN sold k ∧ Sat R Hs w, fun _ i _ => sold.length - i.toNat, ⟨k, rfl, by omega, .inl (by omega), by omega, hw⟩, ?_⟩
  clear hw
  rintro n _ _ w ⟨j, rfl, hj, hj2, hn, hw⟩
  refine Br.d (fun h => ?_) (fun h => ?_)
  · have hj3 : j < sold.length := by omega
    have hst := fromN_step hj3
    have hx := hb sold[j] (List.getElem_mem _)
    have h1 := hfb (j + 1)
    have h2 := hfb k
    have h3 := hfb j
    refine Ro.ix hs (eqS hw) j rfl hj3 ?_
    rw [wrap64 (x := (j : Int) + 1) (by omega) (by omega), wrap64 (by omega) (by omega)]
    exact ⟨⟨j + 1, by omega, by omega, .inr (by omega), by omega, hw⟩, by dsimp only; omega⟩
  · rw [fromN_end (show sold.length ≤ j by omega)] at hn
    exact ⟨by rw [← hn]; congr 1; omega, hw⟩

theorem rnright_spec {sl ss : Sl} {lim sold : List Int} (hl : RoI R sl lim) (hs : RoI R ss sold) (hw : Sat R Hs w) :
    Gets Tryz.prog 18 #[.slice sl.a sl.len sl.cap, .slice ss.a ss.len ss.cap] w fun v w' => v = .bool (nestOk lim sold) ∧ Sat R Hs w' := by
  have hll := hl.len
  have hsl := hs.len
  have no : ¬ (limOk lim = true ∧ sold.length = lim.length ∧ ∀ k, k < lim.length → (0 ≤ sold.getD k 0 ∧ sold.getD k 0 ≤ 10000) ∧ fromN sold k ≤ lim.getD k 0) → Value.bool false = .bool (nestOk lim sold) := fun h => by rw [nestOk_no h]
  apply call18
  refine (rlim_spec hl hw).use ?_
  rintro _ w ⟨rfl, hw⟩
  refine ⟨_, rfl, fun w => (limOk lim = true ∧ sold.length = lim.length) ∧ Sat R Hs w, Br.nb (fun h => ⟨no (fun h2 => by rw [h] at h2; cases h2.1), hw⟩) (fun h1 => Br.ne (fun h => ⟨no (fun h2 => by omega), hw⟩) (fun h2 => ⟨⟨h1, by omega⟩, hw⟩)), ?_⟩
  clear hw
  rintro _ w ⟨⟨h1, h2⟩, hw⟩
  have h8 := (limOk_iff.1 h1).1.2
  refine ⟨fun i w => ∃ j : Nat, i = j ∧ j ≤ sold.length ∧ (∀ k, k < j → 0 ≤ sold.getD k 0 ∧ sold.getD k 0 ≤ 10000) ∧ Sat R Hs w, fun i _ => sold.length - i.toNat, ⟨0, rfl, by omega, fun k h => by omega, hw⟩, ?_⟩
  clear hw
  rintro _ _ w ⟨j, rfl, hj, hn, hw⟩
  refine Br.d (fun h => ?_) (fun h => ?_)
  · have hj2 : j < sold.length := by omega
    have nn : ¬ (0 ≤ sold[j] ∧ sold[j] ≤ 10000) → Value.bool false = .bool (nestOk lim sold) := fun h => no fun h3 => h (by have := (h3.2.2 j (by omega)).1; rw [getD_lt hj2] at this; exact this)
    refine Ro.ix hs (eqS hw) j rfl hj2 ?_
    refine Br.d (fun h => ⟨nn (by omega), hw⟩) (fun h3 => ?_)
    refine Ro.ix hs (eqS hw) j rfl hj2 ?_
    refine Br.d (fun h => ⟨nn (by omega), hw⟩) (fun h4 => ?_)
    rw [wrap64 (by omega) (by omega)]
    refine ⟨⟨j + 1, by omega, by omega, fun k hk => ?_, hw⟩, by dsimp only; omega⟩
    by_cases hkj : k = j
    · subst hkj; rw [getD_lt hj2]; omega
    · exact hn k (by omega)
  have hjs : sold.length ≤ j := by omega
  have hsb : ∀ x ∈ sold, 0 ≤ x ∧ x ≤ 10000 := fun x hx => by
    obtain ⟨k, hk, rfl⟩ := List.getElem_of_mem hx
    have := hn k (by omega)
    rw [getD_lt hk] at this; exact this
  refine ⟨fun i w => ∃ j : Nat, i = j ∧ j ≤ lim.length ∧ (∀ k, k < j → fromN sold k ≤ lim.getD k 0) ∧ Sat R Hs w, fun i _ => lim.length - i.toNat, ⟨0, rfl, by omega, fun k h => by omega, hw⟩, ?_⟩
  clear hw h
  rintro _ _ w ⟨i, rfl, hi, hni, hw⟩
  refine Br.d (fun h => ?_) (fun h => ?_)
  · have hi2 : i < lim.length := by omega
    refine drw_rule hw fun w hw => ?_
    refine Ro.ix hl selfS i rfl hi2 ?_
    refine (rfrom_spec hs hsb (by omega) (by omega) hw).use ?_
    rintro _ w ⟨rfl, hw⟩
    refine ⟨_, rfl, hw, Br.d (fun h => ⟨no (fun h3 => ?_), hw⟩) (fun h3 => ?_)⟩
    · have := (h3.2.2 i hi2).2
      rw [getD_lt hi2] at this; omega
    · rw [wrap64 (by omega) (by omega)]
      refine ⟨⟨i + 1, by omega, by omega, fun k hk => ?_, hw⟩, by dsimp only; omega⟩
      by_cases hki : k = i
      · subst hki; rw [getD_lt hi2]; omega
      · exact hni k (by omega)
  · refine ⟨?_, hw⟩
    rw [nestOk_iff.2 ⟨h1, h2, fun k hk => ⟨hn k (by omega), hni k (by omega)⟩⟩]

theorem rleft_spec {sl ss : Sl} {lim sold : List Int} {c : Int} (hl : RoI R sl lim) (hs : RoI R ss sold) (hw : Sat R Hs w) :
    Gets Tryz.prog 93 #[.slice sl.a sl.len sl.cap, .slice ss.a ss.len ss.cap, .int .i64 c] w fun v w' => v = .tuple #[.int .i64 (leftT lim sold c).1, .int .i64 (leftT lim sold c).2] ∧ Sat R Hs w' := by
  have hll := hl.len
  have no : ¬ (nestOk lim sold = true ∧ 0 ≤ c ∧ c < lim.length) → leftT lim sold c = (0, 1) := fun h => by unfold leftT; rw [if_neg h]
  apply call93
  refine (rnright_spec hl hs hw).use ?_
  rintro _ w ⟨rfl, hw⟩
  refine ⟨_, rfl, fun w => (nestOk lim sold = true ∧ 0 ≤ c ∧ c < lim.length) ∧ Sat R Hs w, Br.nb (fun h => ⟨by rw [no (fun h2 => by rw [h] at h2; cases h2.1)], hw⟩) (fun h1 => Br.d (fun h => ⟨by rw [no (fun h2 => by omega)], hw⟩) (fun h2 => Br.d (fun h => ⟨by rw [no (fun h2 => by omega)], hw⟩) (fun h3 => ⟨⟨h1, by omega, by omega⟩, hw⟩))), ?_⟩
  clear hw
  rintro _ w ⟨h0, hw⟩
  have e : leftT lim sold c = (mnF (roomF lim sold) (c.toNat + 1), 0) := by unfold leftT; rw [if_pos h0]
  rw [e]
  obtain ⟨h1, h2, h3⟩ := h0
  obtain ⟨n4, n5, n6⟩ := nest_sold h1
  have hlim := (limOk_iff.1 (nestOk_iff.1 h1).1).2
  obtain ⟨m, rfl⟩ := Int.eq_ofNat_of_zero_le h2
  rw [Int.toNat_natCast]
  refine ⟨fun L i w => ∃ j : Nat, i = j ∧ j ≤ m + 1 ∧ L = mnF (roomF lim sold) j ∧ Sat R Hs w, fun _ i _ => m + 1 - i.toNat, ⟨0, rfl, by omega, rfl, hw⟩, ?_⟩
  clear hw
  rintro _ _ _ w ⟨j, rfl, hj, rfl, hw⟩
  refine Br.d (fun h => ?_) (fun h => ?_)
  · have hj2 : j < lim.length := by omega
    refine drw_rule hw fun w hw => ?_
    refine Ro.ix hl selfS j rfl hj2 ?_
    refine (rfrom_spec hs n4 (by omega) (by omega) hw).use ?_
    rintro _ w ⟨rfl, hw⟩
    have hb := fromN_bd n4 j
    have hx := (hlim j hj2).1
    have hroom : IntKind.i64.wrap (lim[j] - fromN sold j) = roomF lim sold j := by
      rw [wrap64 (by omega) (by omega)]; unfold roomF; rw [getD_lt hj2]
    refine ⟨_, rfl, hw, ?_⟩
    rw [hroom, wrap64 (by omega) (by omega)]
    exact ⟨⟨j + 1, by omega, by omega, rfl, hw⟩, by dsimp only; omega⟩
  · obtain rfl : j = m + 1 := by omega
    exact ⟨rfl, hw⟩

theorem rsell_spec {sl ss : Sl} {lim sold : List Int} {c many : Int} (hl : RoI R sl lim) (hs : RoI R ss sold) (hw : Sat R Hs w) :
    Gets Tryz.prog 97 #[.slice sl.a sl.len sl.cap, .slice ss.a ss.len ss.cap, .int .i64 c, .int .i64 many] w fun v w' => ∃ t : Sl, v = .tuple #[.slice t.a t.len t.cap, .int .i64 (sellT lim sold c many).2] ∧ Sat R (Own t 3 ((sellT lim sold c many).1.map (Value.int .i64)) :: Hs) w' := by
  apply call97
  refine (rleft_spec hl hs hw).use ?_
  rintro _ w ⟨rfl, hw⟩
  have bad : ((leftT lim sold c).2 ≠ 0 ∨ many < 1 ∨ many > 10000) → ∃ t : Sl, Value.tuple #[.slice none 0 0, .int .i64 1] = .tuple #[.slice t.a t.len t.cap, .int .i64 (sellT lim sold c many).2] ∧ Sat R (Own t 3 ((sellT lim sold c many).1.map (Value.int .i64)) :: Hs) w := fun h => by
    unfold sellT; rw [if_pos h]; exact ⟨⟨none, 0, 0⟩, rfl, Own.nil hw⟩
  refine ⟨_, _, rfl, fun w => ((leftT lim sold c).2 = 0 ∧ 1 ≤ many ∧ many ≤ 10000) ∧ Sat R Hs w, Br.ne (fun h => bad (.inl h)) (fun h1 => Br.d (fun h => bad (.inr (.inl h))) (fun h2 => Br.d (fun h => bad (.inr (.inr h))) (fun h3 => ⟨⟨h1, by omega, by omega⟩, hw⟩))), ?_⟩
  clear bad hw
  rintro _ w ⟨⟨h1, h2, h3⟩, hw⟩
  have e : sellT lim sold c many = if many > (leftT lim sold c).1 then ([], 3) else (sold.set c.toNat (sold.getD c.toNat 0 + many), 0) := by
    unfold sellT; rw [if_neg (by omega)]
  rw [e]
  obtain ⟨n1, n2, n3⟩ := left_ok h1
  obtain ⟨n4, n5, n6⟩ := nest_sold n1
  refine Br.d (fun h => ?_) (fun h => ?_)
  · rw [if_pos h]; exact ⟨⟨none, 0, 0⟩, rfl, Own.nil hw⟩
  · rw [if_neg h]
    obtain ⟨k, rfl⟩ := Int.eq_ofNat_of_zero_le n2
    have hk : k < sold.length := by omega
    have hx := n4 sold[k] (List.getElem_mem _)
    refine new_rule hw fun b w hw => ?_
    have hw : Sat R (Own ⟨some ⟨b, 0, none⟩, 0, 0⟩ 3 (([] : List Int).map (Value.int .i64)) :: Hs) w := own_lit hw
    refine appendRI elI8 (s := ⟨some ⟨b, 0, none⟩, 0, 0⟩) (n := 1000000000) Tryz.underlying33 hw hs (by simp; omega) (by omega) (by omega) fun t w hw => ?_
    rw [List.nil_append] at hw
    refine Own.ix hw (eqS hw) k rfl hk ?_
    refine Own.store (by kernel_rfl) hw hk fun w hw => ?_
    rw [wrap64 (by omega) (by omega)] at hw
    rw [Int.toNat_natCast, getD_lt hk]
    exact ⟨t, rfl, hw⟩
end Go.Proofs.YtaacfjdknlglhaaGreatDoor
/- Floats, plain: a part of some seats, as a whole number of them. No program. No condition. -/
namespace Go.VC
set_option linter.unusedVariables false
open Ieee

/-- The word of a small whole number. -/
abbrev fw (n : Nat) : Nat := double.nearest false n 0

def fwOk (n : Nat) : Bool := match double.read (fw n) with
  | .number false m e => decide (e ≤ 0) && (m == n <<< (-e).toNat)
  | _ => false
set_option maxRecDepth 100000 in
theorem fw_all : (List.range 10002).all fwOk = true := by kernel_rfl
theorem fw_read {n : Nat} (h : n ≤ 10001) : ∃ d : Nat, double.read (fw n) = .number false (n * 2 ^ d) (-(d : Int)) := by
  have := List.all_eq_true.1 fw_all n (List.mem_range.2 (by omega))
  unfold fwOk at this
  split at this
  · rename_i m e he
    simp only [Bool.and_eq_true, decide_eq_true_eq, beq_iff_eq] at this
    refine ⟨(-e).toNat, ?_⟩
    rw [he, this.2, Nat.shiftLeft_eq, show (-((-e).toNat : Int)) = e by omega]
  · cases this

/-- To cut a number that is less than B gaps gives B at most. -/
theorem cut_le {n drop B : Nat} (h : n < B * 2 ^ drop) : Toward.even.cut false n drop ≤ B := by
  unfold Toward.cut
  simp only
  generalize hg : 1 <<< min drop (n.log2 + 2) = gap
  rw [Nat.shiftLeft_eq, Nat.one_mul] at hg
  have hb : ∀ b : Bool, b.toNat ≤ 1 := fun b => by cases b <;> simp
  by_cases hd : drop ≤ n.log2 + 2
  · rw [Nat.min_eq_left hd] at hg
    subst hg
    have h1 : n / 2 ^ drop < B := (Nat.div_lt_iff_lt_mul (Nat.two_pow_pos drop)).2 h
    have := hb (decide (2 ^ drop < 2 * (n % 2 ^ drop)) || (2 ^ drop == 2 * (n % 2 ^ drop) && n / 2 ^ drop % 2 == 1))
    omega
  · rw [Nat.min_eq_right (by omega)] at hg
    have hn : n < 2 ^ (n.log2 + 1) := Nat.lt_log2_self
    have hp : 2 ^ (n.log2 + 2) = 2 * 2 ^ (n.log2 + 1) := by rw [Nat.pow_succ]; omega
    subst hg
    have h0 : n / 2 ^ (n.log2 + 2) = 0 := Nat.div_eq_of_lt (by omega)
    have h1 : n % 2 ^ (n.log2 + 2) = n := Nat.mod_eq_of_lt (by omega)
    rw [h0, h1]
    have e1 : decide (2 ^ (n.log2 + 2) < 2 * n) = false := decide_eq_false (by omega)
    have e2 : (2 ^ (n.log2 + 2) == 2 * n) = false := by
      rw [beq_eq_false_iff_ne]; omega
    rw [e1, e2]
    simp

end Go.VC
/- Floats, plain, part 2. No program. No condition. -/
namespace Go.VC
set_option linter.unusedVariables false
open Ieee

theorem dbl_least : double.leastPlace = -1074 := by decide
theorem dbl_binade : double.binade = 4503599627370496 := by decide
theorem dbl_inf : double.infRung = 2047 * 4503599627370496 := by decide
theorem dbl_sign : double.signWeight = 9223372036854775808 := by decide
theorem dbl_frac : (double.fractionBits : Nat) = 52 := rfl

theorem cut_down {n drop : Nat} : Toward.down.cut false n drop = n / 2 ^ drop := by
  unfold Toward.cut
  simp only
  rw [Nat.shiftLeft_eq, Nat.one_mul]
  have e : (false && n % 2 ^ min drop (n.log2 + 2) != 0).toNat = 0 := by simp
  rw [e, Nat.add_zero]
  by_cases hd : drop ≤ n.log2 + 2
  · rw [Nat.min_eq_left hd]
  · rw [Nat.min_eq_right (by omega)]
    have hn : n < 2 ^ (n.log2 + 1) := Nat.lt_log2_self
    have h1 : 2 ^ (n.log2 + 1) ≤ 2 ^ (n.log2 + 2) := Nat.pow_le_pow_right (by omega) (by omega)
    have h2 : 2 ^ (n.log2 + 2) ≤ 2 ^ drop := Nat.pow_le_pow_right (by omega) (by omega)
    rw [Nat.div_eq_of_lt (by omega), Nat.div_eq_of_lt (by omega)]

/-- What a cut keeps: the whole of it, or one more. -/
theorem cut_bd {n drop : Nat} (h : drop ≤ n.log2 + 2) : n / 2 ^ drop ≤ Toward.even.cut false n drop ∧ Toward.even.cut false n drop ≤ n / 2 ^ drop + 1 := by
  unfold Toward.cut
  simp only
  rw [Nat.shiftLeft_eq, Nat.one_mul, Nat.min_eq_left h]
  have hb : ∀ b : Bool, b.toNat ≤ 1 := fun b => by cases b <;> simp
  have := hb (decide (2 ^ drop < 2 * (n % 2 ^ drop)) || (2 ^ drop == 2 * (n % 2 ^ drop) && n / 2 ^ drop % 2 == 1))
  omega

/-- Reading a word by its rung. -/
theorem read_rung {i kept : Nat} (hi : i ≤ 1074) (hk : kept ≤ 9007199254740992) (hk2 : 0 < i → 4503599627370496 ≤ kept) :
    ∃ mp : Nat, ∃ j : Nat, double.read (i * 4503599627370496 + kept) = .number false mp (-1074 + (j : Int)) ∧ ((mp = kept ∧ j = i) ∨ (mp = 4503599627370496 ∧ kept = 9007199254740992 ∧ j = i + 1)) := by
  have hr : i * 4503599627370496 + kept < 9223372036854775808 := by omega
  unfold Format.read
  simp only
  rw [dbl_sign, dbl_binade, dbl_inf, dbl_least]
  rw [Nat.mod_eq_of_lt hr, Nat.div_eq_of_lt hr]
  have e0 : (0 % 2 == 1) = false := by decide
  rw [e0]
  by_cases h1 : i * 4503599627370496 + kept < 4503599627370496
  · rw [if_pos h1]
    have : i = 0 := by omega
    subst this
    exact ⟨_, 0, rfl, .inl ⟨by omega, rfl⟩⟩
  rw [if_neg h1, if_pos (by omega)]
  by_cases h2 : kept < 9007199254740992
  · have h3 : 4503599627370496 ≤ kept := by
      by_cases hi0 : 0 < i
      · exact hk2 hi0
      · omega
    have d1 : (i * 4503599627370496 + kept) / 4503599627370496 = i + 1 := by omega
    have d2 : (i * 4503599627370496 + kept) % 4503599627370496 = kept - 4503599627370496 := by omega
    rw [d1, d2]
    refine ⟨_, i, ?_, .inl ⟨rfl, rfl⟩⟩
    rw [show 4503599627370496 + (kept - 4503599627370496) = kept by omega, show i + 1 - 1 = i by omega]
  · have : kept = 9007199254740992 := by omega
    subst this
    have d1 : (i * 4503599627370496 + 9007199254740992) / 4503599627370496 = i + 2 := by omega
    have d2 : (i * 4503599627370496 + 9007199254740992) % 4503599627370496 = 0 := by omega
    rw [d1, d2]
    exact ⟨_, i + 1, rfl, .inr ⟨by omega, rfl, rfl⟩⟩

theorem plc1 {j L : Nat} (h : j = 1074 - L) (h2 : L ≤ 1074) : -1074 + (j : Int) = -(L : Int) := by omega
theorem plc2 {j L : Nat} (h : j = 1074 - L + 1) (h2 : L ≤ 1074) (h1 : 39 ≤ L) : -1074 + (j : Int) = -((L - 1 : Nat) : Int) := by omega
theorem half_le {B L kept : Nat} (h1 : kept ≤ B * 2 ^ L) (h2 : kept = 9007199254740992) (h3 : 39 ≤ L) : 4503599627370496 ≤ B * 2 ^ (L - 1) := by
  have h4 : 2 ^ L = 2 * 2 ^ (L - 1) := by rw [← Nat.pow_succ']; congr 1; omega
  rw [h4, Nat.mul_left_comm] at h1
  clear h4
  generalize B * 2 ^ (L - 1) = y at *
  omega

/-- A number below B, rounded: at most B. -/
theorem near_read {M d B : Nat} (hB : B ≤ 10000) (hlt : M < B * 2 ^ d) :
    ∃ mp dp : Nat, double.read (double.nearest false M (-(d : Int))) = .number false mp (-(dp : Int)) ∧ mp ≤ B * 2 ^ dp := by
  by_cases hM : M = 0
  · subst hM
    refine ⟨0, 1074, ?_, by omega⟩
    unfold Format.nearest
    rw [if_pos rfl]
    decide
  unfold Format.nearest
  rw [if_neg hM, dbl_least, dbl_binade, dbl_inf, dbl_frac]
  have hlog : 2 ^ M.log2 ≤ M := Nat.log2_self_le hM
  have hlog2 : M < 2 ^ (M.log2 + 1) := Nat.lt_log2_self
  have hl14 : M.log2 < 14 + d := by
    have : 2 ^ M.log2 < 2 ^ (14 + d) := by
      rw [Nat.pow_add]
      have : B * 2 ^ d ≤ 2 ^ 14 * 2 ^ d := Nat.mul_le_mul_right _ (by omega)
      omega
    exact (Nat.pow_lt_pow_iff_right (by omega)).1 this
  simp only
  generalize hlast : max (-(d : Int) + (M.log2 : Int) - ((52 : Nat) : Int)) (-1074) = last
  obtain ⟨L, hL⟩ : ∃ L : Nat, last = -(L : Int) := ⟨(-last).toNat, by omega⟩
  have hL1 : 39 ≤ L := by omega
  have hL2 : L ≤ 1074 := by omega
  subst hL
  have hi : (-(L : Int) - -1074).toNat = 1074 - L := by omega
  rw [hi]
  -- what is kept
  obtain ⟨kept, hkd, hk1, hk2, hk3⟩ : ∃ kept, Toward.even.cut false (M <<< (-(d : Int) - -(L : Int)).toNat) (-(L : Int) - -(d : Int)).toNat = kept ∧ kept ≤ B * 2 ^ L ∧ kept ≤ 9007199254740992 ∧ (0 < 1074 - L → 4503599627370496 ≤ kept) := by
    refine ⟨_, rfl, ?_⟩
    by_cases hdl : d ≤ L
    · have e1 : (-(d : Int) - -(L : Int)).toNat = L - d := by omega
      have e2 : (-(L : Int) - -(d : Int)).toNat = 0 := by omega
      rw [e1, e2, Nat.shiftLeft_eq]
      have hp : 2 ^ L = 2 ^ d * 2 ^ (L - d) := by rw [← Nat.pow_add]; congr 1; omega
      have hlt' : M * 2 ^ (L - d) < B * 2 ^ L := by
        rw [hp, ← Nat.mul_assoc]
        exact Nat.mul_lt_mul_of_pos_right hlt (Nat.two_pow_pos _)
      have c1 := cut_le (n := M * 2 ^ (L - d)) (drop := 0) (B := B * 2 ^ L) (by simpa using hlt')
      have c2 := cut_bd (n := M * 2 ^ (L - d)) (drop := 0) (by omega)
      rw [Nat.pow_zero, Nat.div_one] at c2
      -- no rest, so it is the number itself
      have c3 : Toward.even.cut false (M * 2 ^ (L - d)) 0 = M * 2 ^ (L - d) := by
        unfold Toward.cut
        simp [Nat.mod_one]
      rw [c3] at c1 ⊢
      have hup : M * 2 ^ (L - d) < 2 ^ (M.log2 + 1) * 2 ^ (L - d) := Nat.mul_lt_mul_of_pos_right hlog2 (Nat.two_pow_pos _)
      rw [← Nat.pow_add] at hup
      have hle : M.log2 + 1 + (L - d) ≤ 53 := by omega
      have h53 : 2 ^ (M.log2 + 1 + (L - d)) ≤ 2 ^ 53 := Nat.pow_le_pow_right (by omega) hle
      refine ⟨c1, by omega, fun h => ?_⟩
      have hlo : 2 ^ M.log2 * 2 ^ (L - d) ≤ M * 2 ^ (L - d) := Nat.mul_le_mul_right _ hlog
      rw [← Nat.pow_add] at hlo
      have he : M.log2 + (L - d) = 52 := by omega
      rw [he] at hlo
      omega
    · have e1 : (-(d : Int) - -(L : Int)).toNat = 0 := by omega
      have e2 : (-(L : Int) - -(d : Int)).toNat = d - L := by omega
      rw [e1, e2, Nat.shiftLeft_zero]
      have hp : 2 ^ d = 2 ^ L * 2 ^ (d - L) := by rw [← Nat.pow_add]; congr 1; omega
      have c1 := cut_le (n := M) (drop := d - L) (B := B * 2 ^ L) (by rw [Nat.mul_assoc, ← hp]; exact hlt)
      by_cases hdr : d - L ≤ M.log2 + 2
      · have c2 := cut_bd hdr
        have hup : M / 2 ^ (d - L) < 2 ^ 53 := by
          rw [Nat.div_lt_iff_lt_mul (Nat.two_pow_pos _), ← Nat.pow_add]
          have : 2 ^ (M.log2 + 1) ≤ 2 ^ (53 + (d - L)) := Nat.pow_le_pow_right (by omega) (by omega)
          omega
        refine ⟨c1, by omega, fun h => ?_⟩
        have hlo : 2 ^ 52 ≤ M / 2 ^ (d - L) := by
          rw [Nat.le_div_iff_mul_le (Nat.two_pow_pos _), ← Nat.pow_add]
          have : 2 ^ (52 + (d - L)) ≤ 2 ^ M.log2 := Nat.pow_le_pow_right (by omega) (by omega)
          omega
        omega
      · -- all of it is dropped
        have hL3 : L = 1074 := by omega
        have c0 : Toward.even.cut false M (d - L) ≤ 1 := cut_le (by
          have h1 : 2 ^ (M.log2 + 1) ≤ 2 ^ (d - L) := Nat.pow_le_pow_right (by omega) (by omega)
          omega)
        exact ⟨c1, by omega, fun h => by omega⟩
  rw [hkd]
  obtain ⟨mp, j, hr, hc⟩ := read_rung (i := 1074 - L) (by omega) hk2 hk3
  have hmin : min ((1074 - L) * 4503599627370496 + kept) (2047 * 4503599627370496) = (1074 - L) * 4503599627370496 + kept := Nat.min_eq_left (by omega)
  have hword : double.word false (min ((1074 - L) * 4503599627370496 + kept) (2047 * 4503599627370496)) = (1074 - L) * 4503599627370496 + kept := by rw [hmin]; unfold Format.word; rw [if_neg (by simp)]
  rw [hword, hr]
  rcases hc with ⟨hmk, hj⟩ | ⟨hmk, hkk, hj⟩
  · exact ⟨mp, L, by rw [plc1 hj hL2], by rw [hmk]; exact hk1⟩
  · exact ⟨mp, L - 1, by rw [plc2 hj hL2 hL1], by rw [hmk]; exact half_le hk1 hkk hL1⟩

theorem pow_mul_sub {a b : Nat} (h : b ≤ a) : 2 ^ a = 2 ^ b * 2 ^ (a - b) := by rw [← Nat.pow_add]; congr 1; omega

/-- Numbers, compared. -/
theorem ord_num {m n d e : Nat} : Datum.order (.number false m (-(d : Int))) (.number false n (-(e : Int))) = some (compare ((m * 2 ^ e : Nat) : Int) ((n * 2 ^ d : Nat) : Int)) := by
  unfold Datum.order signed
  simp only [Bool.false_eq_true, if_false, Nat.shiftLeft_eq]
  congr 1
  have key : ∀ (x y k : Nat), compare ((x * 2 ^ k : Nat) : Int) ((y * 2 ^ k : Nat) : Int) = compare (x : Int) (y : Int) := fun x y k => by
    have hp := Nat.two_pow_pos k
    rcases Nat.lt_trichotomy x y with h | h | h
    · rw [Int.compare_eq_lt.2 (Int.ofNat_lt.2 h), Int.compare_eq_lt.2 (Int.ofNat_lt.2 (Nat.mul_lt_mul_of_pos_right h hp))]
    · subst h; rw [Int.compare_eq_eq.2 rfl, Int.compare_eq_eq.2 rfl]
    · rw [Int.compare_eq_gt.2 (Int.ofNat_lt.2 h), Int.compare_eq_gt.2 (Int.ofNat_lt.2 (Nat.mul_lt_mul_of_pos_right h hp))]
  by_cases hde : d ≤ e
  · have e1 : (-(d : Int) - min (-(d : Int)) (-(e : Int))).toNat = e - d := by omega
    have e2 : (-(e : Int) - min (-(d : Int)) (-(e : Int))).toNat = 0 := by omega
    rw [e1, e2, Nat.pow_zero, Nat.mul_one, ← key (m * 2 ^ (e - d)) n d, Nat.mul_assoc, Nat.mul_comm (2 ^ (e - d)), ← pow_mul_sub hde]
  · have e1 : (-(d : Int) - min (-(d : Int)) (-(e : Int))).toNat = 0 := by omega
    have e2 : (-(e : Int) - min (-(d : Int)) (-(e : Int))).toNat = d - e := by omega
    rw [e1, e2, Nat.pow_zero, Nat.mul_one, ← key m (n * 2 ^ (d - e)) e, Nat.mul_assoc, Nat.mul_comm (2 ^ (d - e)), ← pow_mul_sub (show e ≤ d by omega)]

end Go.VC
/- Floats, plain, part 3: the part of some seats. No program. No condition. -/
namespace Go.VC
set_option linter.unusedVariables false
open Ieee

/-- A word that stands for a number that is not below 0: what it is. -/
def NumW (p mp dp : Nat) : Prop := double.read p = .number false mp (-(dp : Int))

theorem ord_words {p q m n d e : Nat} (hp : NumW p m d) (hq : NumW q n e) : double.order p q = some (compare ((m * 2 ^ e : Nat) : Int) ((n * 2 ^ d : Nat) : Int)) := by
  unfold Format.order
  rw [hp, hq, ord_num]

theorem fw_num {n : Nat} (h : n ≤ 10001) : ∃ d, NumW (fw n) (n * 2 ^ d) d := fw_read h

/-- 'float(k) <= p'. -/
theorem fw_le {k p mp dp : Nat} (hk : k ≤ 10001) (hp : NumW p mp dp) : (double.order (fw k) p == some .lt || double.order (fw k) p == some .eq) = decide (k ≤ mp / 2 ^ dp) := by
  obtain ⟨d, hd⟩ := fw_num hk
  rw [ord_words hd hp]
  have h2 := Nat.two_pow_pos d
  have e : k * 2 ^ d * 2 ^ dp = k * 2 ^ dp * 2 ^ d := by rw [Nat.mul_assoc, Nat.mul_comm (2 ^ d), ← Nat.mul_assoc]
  rw [e]
  have h : k ≤ mp / 2 ^ dp ↔ k * 2 ^ dp ≤ mp := Nat.le_div_iff_mul_le (Nat.two_pow_pos dp)
  rcases Nat.lt_trichotomy (k * 2 ^ dp) mp with h1 | h1 | h1
  · rw [Int.compare_eq_lt.2 (Int.ofNat_lt.2 (Nat.mul_lt_mul_of_pos_right h1 h2)), decide_eq_true (h.2 (by omega))]; rfl
  · rw [h1, Int.compare_eq_eq.2 rfl, decide_eq_true (h.2 (by omega))]; rfl
  · rw [Int.compare_eq_gt.2 (Int.ofNat_lt.2 (Nat.mul_lt_mul_of_pos_right h1 h2)), decide_eq_false (fun h3 => by have := h.1 h3; omega)]; rfl

theorem zero_num : NumW 0 0 1074 := by unfold NumW; decide
theorem one_num : NumW 4607182418800017408 4503599627370496 52 := by unfold NumW; decide

/-- Greater than 0, and not 1 nor greater. -/
theorem part_num {x : Nat} (h0 : double.order x 0 = some .gt) (h1 : double.order x 4607182418800017408 ≠ some .gt) (h2 : double.order x 4607182418800017408 ≠ some .eq) : ∃ m d, NumW x m d ∧ 0 < m ∧ m < 2 ^ d := by
  have e0 : double.read 0 = .number false 0 (-1074) := by decide
  have e1 : double.read 4607182418800017408 = .number false 4503599627370496 (-52) := by decide
  unfold Format.order at h0 h1 h2
  rw [e0] at h0
  rw [e1] at h1 h2
  generalize hx : double.read x = dx at h0 h1 h2
  cases dx with
  | nan s f => simp [Datum.order] at h0
  | infinity s =>
    cases s
    · exact absurd rfl h1
    · simp [Datum.order] at h0
  | number s m e =>
    unfold Datum.order at h0 h1 h2
    simp only [ne_eq, Option.some.injEq] at h0 h1 h2
    have hg := Int.compare_eq_gt.1 h0
    have hz : signed false 0 (-1074 - min e (-1074)).toNat = 0 := by simp [signed]
    rw [hz] at hg
    cases s with
    | true =>
      exfalso
      unfold signed at hg
      rw [if_pos rfl] at hg
      generalize m <<< (e - min e (-1074)).toNat = y at hg
      omega
    | false =>
      have hm : 0 < m := by
        rcases Nat.eq_zero_or_pos m with h | h
        · subst h; simp [signed] at hg
        · exact h
      have hlt : signed false m (e - min e (-52)).toNat < signed false 4503599627370496 (-52 - min e (-52)).toNat := by
        rcases Int.lt_trichotomy (signed false m (e - min e (-52)).toNat) (signed false 4503599627370496 (-52 - min e (-52)).toNat) with h | h | h
        · exact h
        · exact absurd (Int.compare_eq_eq.2 h) h2
        · exact absurd (Int.compare_eq_gt.2 h) h1
      unfold signed at hlt
      rw [if_neg (by simp), if_neg (by simp), Nat.shiftLeft_eq, Nat.shiftLeft_eq] at hlt
      have hlt : m * 2 ^ (e - min e (-52)).toNat < 4503599627370496 * 2 ^ (-52 - min e (-52)).toNat := Int.ofNat_lt.1 hlt
      have hneg : e < 0 := by
        by_cases he : 0 ≤ e
        · exfalso
          have a1 : min e (-52) = -52 := by omega
          rw [a1, show (-52 - (-52) : Int).toNat = 0 from rfl, Nat.pow_zero, Nat.mul_one] at hlt
          have : 2 ^ 52 ≤ 2 ^ (e - -52).toNat := Nat.pow_le_pow_right (by omega) (by omega)
          have : 1 * 2 ^ (e - -52).toNat ≤ m * 2 ^ (e - -52).toNat := Nat.mul_le_mul_right _ hm
          omega
        · omega
      refine ⟨m, (-e).toNat, ?_, hm, ?_⟩
      · unfold NumW; rw [hx, show (-((-e).toNat : Int)) = e by omega]
      · by_cases h52 : -52 ≤ e
        · have a1 : min e (-52) = -52 := by omega
          rw [a1, show (-52 - (-52) : Int).toNat = 0 from rfl, Nat.pow_zero, Nat.mul_one] at hlt
          have a2 : (2 : Nat) ^ 52 = 2 ^ (-e).toNat * 2 ^ (e - -52).toNat := by rw [← Nat.pow_add]; congr 1; omega
          have a3 : m * 2 ^ (e - -52).toNat < 2 ^ (-e).toNat * 2 ^ (e - -52).toNat := by rw [← a2]; omega
          exact Nat.lt_of_mul_lt_mul_right a3
        · have a1 : min e (-52) = e := by omega
          rw [a1, show (e - e).toNat = 0 by omega, Nat.pow_zero, Nat.mul_one] at hlt
          have a2 : 2 ^ (-e).toNat = 2 ^ 52 * 2 ^ (-52 - e).toNat := by rw [← Nat.pow_add]; congr 1; omega
          rw [a2]; exact hlt

/-- The product: at most the seats. -/
theorem part_mul {x m d s : Nat} (hx : NumW x m d) (hlt : m < 2 ^ d) (hs : s ≤ 10000) : ∃ p mp dp, double.mul x (fw s) = some p ∧ NumW p mp dp ∧ mp ≤ s * 2 ^ dp := by
  obtain ⟨ds, hd⟩ := fw_num (n := s) (by omega)
  have hmul : double.mul x (fw s) = some (double.nearest false (m * (s * 2 ^ ds)) (-((d + ds : Nat) : Int))) := by
    unfold Format.mul
    rw [hx, hd]
    show some (double.write (.number (false ^^ false) (m * (s * 2 ^ ds)) (-(d : Int) + -(ds : Int)))) = _
    rw [show (-(d : Int) + -(ds : Int)) = -((d + ds : Nat) : Int) by omega]
    rfl
  rcases Nat.eq_zero_or_pos s with h0 | h0
  · subst h0
    refine ⟨_, 0, 1074, hmul, ?_, by omega⟩
    rw [Nat.zero_mul, Nat.mul_zero]
    unfold Format.nearest
    rw [if_pos rfl]
    exact zero_num
  · have hb : m * (s * 2 ^ ds) < s * 2 ^ (d + ds) := by
      have a1 : s * 2 ^ (d + ds) = 2 ^ d * (s * 2 ^ ds) := by rw [Nat.pow_add, Nat.mul_left_comm]
      rw [a1]
      exact Nat.mul_lt_mul_of_pos_right hlt (Nat.mul_pos h0 (Nat.two_pow_pos _))
    obtain ⟨mp, dp, hr, hle⟩ := near_read hs hb
    exact ⟨_, mp, dp, hmul, hr, hle⟩

/-- What is whole of it, as a word, and as an integer. -/
theorem floor_word {p mp dp : Nat} (hp : NumW p mp dp) : double.write ((double.read p).integral .down) = fw (mp / 2 ^ dp) := by
  rw [hp]
  unfold Datum.integral
  simp only
  rw [show (-(dp : Int)).toNat = 0 by omega, Nat.shiftLeft_zero, show (- -(dp : Int)).toNat = dp by omega, cut_down]
  rfl
theorem fw_int {n : Nat} (h : n ≤ 10001) : (double.read (fw n)).toInt .zero = some (n : Int) := by
  obtain ⟨d, hd⟩ := fw_num h
  unfold Datum.toInt
  rw [hd]
  unfold Datum.integral
  simp only
  rw [show (-(d : Int)).toNat = 0 by omega, Nat.shiftLeft_zero, show (- -(d : Int)).toNat = d by omega]
  have : Toward.zero.cut false (n * 2 ^ d) d = n := by
    have : Toward.zero.cut false (n * 2 ^ d) d = Toward.down.cut false (n * 2 ^ d) d := by
      unfold Toward.cut; simp
    rw [this, cut_down, Nat.mul_div_cancel _ (Nat.two_pow_pos d)]
  rw [this]
  simp [signed]

end Go.VC
