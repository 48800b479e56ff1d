/- The formulas of functions of this seat's translation, printed by a program of mine off the translation; each is proved equal to 'fnF' of the function's body, so it is enough for the call. No condition. -/
import Derived.Test.YtgfneeoponiibaaB2
import Derived.Test.YtgfneeoponiibaaB1
import Derived.Shelf.SlIter.Nil
import Derived.Shelf.SortM.Plain
import Derived.Shelf.SortM.SortNone
import Derived.Ground.GgzProg
import Derived.Ground.SlgmProg
import Derived.Test.YtgfneeoponiibaaProg
import Derived.KernelRfl
import Derived.Lib.BitFns
namespace Go.Proofs.Ytgfneeoponiibaa
open Go Go.VC
set_option linter.unusedVariables false
/-- jetway/jetwaylaw07.KeepParts. -/
def B3 (b0 : Sl) (l1 : Sl) (pieces2 : Sl) (K : Value → World → Prop) (w : World) : Prop :=
  Calls Try.prog 5 #[] w fun e w_1 =>
  ∃ t21 : Bool, (e = .returned (.bool t21)) ∧
  Br (decide ((↑b0.len : Int) > 200000))
   (K (.bool t21) w_1)
   (New (.cells #[.bool false, .int .i64 0, .slice none 0 0] 28 (0, 0)) (fun b_t27 w_2 =>
    New (.cells #[.slice none 0 0, .int .i64 0, .bool false] 31 (0, 0)) (fun b_t29 w_3 =>
    ∃ (I : Int → World → Prop) (μ : Int → World → Nat), (I 0 w_3) ∧ ∀ (z : Env) (i10 : Int) (w_4 : World), I i10 w_4 →
    ∃ (J : World → Prop), (Br (decide (i10 < (↑l1.len : Int)))
       (Br (decide (i10 < 60))
         (J  w_4)
         (K (.bool t21) w_4))
       (K (.bool t21) w_4)) ∧
    ∀ (z_1 : Env)  (w_5 : World), J  w_5 →
    Drw w_5 fun S w_6 =>
    Rng i10 l1.len (NilP l1.a fun a_t44 =>
    ∃ t46 : Int, (At S (Addr.add (Addr.add a_t44 (mulS i10.toNat 2)) 0) [.int .i64 t46]) ∧
    Rng i10 l1.len (NilP l1.a fun a_t49 =>
    ∃ t51 : Int, (At S (Addr.add (Addr.add a_t49 (mulS i10.toNat 2)) 1) [.int .i64 t51]) ∧
    Calls Try.prog 6 #[.slice b0.a b0.len b0.cap, .int .i64 t46, .int .i64 t51] w_6 fun e_1 w_7 =>
    ∃ t52 : Sl, ∃ t52_1 : Int, (e_1 = .returned (.tuple #[.slice t52.a t52.len t52.cap, .int .i64 t52_1])) ∧
    Drw w_7 fun S_1 w_8 =>
    Rng i10 l1.len (NilP l1.a fun a_t59 =>
    ∃ t61 : Int, (At S_1 (Addr.add (Addr.add a_t59 (mulS i10.toNat 2)) 0) [.int .i64 t61]) ∧
    Rng i10 l1.len (NilP l1.a fun a_t64 =>
    ∃ t66 : Int, (At S_1 (Addr.add (Addr.add a_t64 (mulS i10.toNat 2)) 1) [.int .i64 t66]) ∧
    Calls Try.prog 7 #[.slice b0.a b0.len b0.cap, .int .i64 t61, .int .i64 t66] w_8 fun e_2 w_9 =>
    ∃ t67 : Sl, ∃ t67_1 : Int, (e_2 = .returned (.tuple #[.slice t67.a t67.len t67.cap, .int .i64 t67_1])) ∧
    ∃ (J_1 : World → Prop), (∃ t71 : ByteArray, (∀ w', (fun w' => w' = w_9) w' → ((convert 22 9 (.slice t52.a t52.len t52.cap))).run Try.prog w' = .ok (.string t71) w') ∧
      ∃ t73 : ByteArray, (∀ w', (fun w' => w' = w_9) w' → ((convert 22 9 (.slice t67.a t67.len t67.cap))).run Try.prog w' = .ok (.string t73) w') ∧
      Br (!t71.toList == t73.toList)
       (K (.bool false) w_9)
       (Br (t52_1 != t67_1)
         (K (.bool false) w_9)
         (J_1  w_9))) ∧
    ∀ (z_2 : Env)  (w_10 : World), J_1  w_10 →
    Br (decide (i10 < (↑pieces2.len : Int)))
     (Rng i10 pieces2.len (NilP pieces2.a fun a_t86 =>
      ∃ t87 : Sl, (At (fun w' => w' = w_10) (Addr.add a_t86 i10.toNat) [.slice t87.a t87.len t87.cap]) ∧
      Br (decide ((↑t87.len : Int) > 100000))
       (K (.bool true) w_10)
       (Drw w_10 fun S_2 w_11 =>
        Rng i10 l1.len (NilP l1.a fun a_t93 =>
        ∃ t95 : Int, (At S_2 (Addr.add (Addr.add a_t93 (mulS i10.toNat 2)) 0) [.int .i64 t95]) ∧
        Rng i10 l1.len (NilP l1.a fun a_t98 =>
        ∃ t100 : Int, (At S_2 (Addr.add (Addr.add a_t98 (mulS i10.toNat 2)) 1) [.int .i64 t100]) ∧
        Rng i10 pieces2.len (NilP pieces2.a fun a_t103 =>
        ∃ t104 : Sl, (At S_2 (Addr.add a_t103 i10.toNat) [.slice t104.a t104.len t104.cap]) ∧
        Calls Try.prog 8 #[.pointer ((some ⟨b_t27, 0, none⟩)), .int .i64 t95, .int .i64 t100, .slice t104.a t104.len t104.cap] w_11 fun e_3 w_12 =>
        ∃ t105 : Int, (e_3 = .returned (.int .i64 t105)) ∧
        Drw w_12 fun S_3 w_13 =>
        Rng i10 l1.len (NilP l1.a fun a_t109 =>
        ∃ t111 : Int, (At S_3 (Addr.add (Addr.add a_t109 (mulS i10.toNat 2)) 0) [.int .i64 t111]) ∧
        Rng i10 l1.len (NilP l1.a fun a_t114 =>
        ∃ t116 : Int, (At S_3 (Addr.add (Addr.add a_t114 (mulS i10.toNat 2)) 1) [.int .i64 t116]) ∧
        Rng i10 pieces2.len (NilP pieces2.a fun a_t119 =>
        ∃ t120 : Sl, (At S_3 (Addr.add a_t119 i10.toNat) [.slice t120.a t120.len t120.cap]) ∧
        Calls Try.prog 9 #[.pointer ((some ⟨b_t29, 0, none⟩)), .int .i64 t111, .int .i64 t116, .slice t120.a t120.len t120.cap] w_13 fun e_4 w_14 =>
        ∃ t121 : Int, (e_4 = .returned (.int .i64 t121)) ∧
        Calls Try.prog 10 #[.pointer ((some ⟨b_t27, 0, none⟩))] w_14 fun e_5 w_15 =>
        ∃ t124 : Sl, ∃ t124_1 : Bool, (e_5 = .returned (.tuple #[.slice t124.a t124.len t124.cap, .bool t124_1])) ∧
        Calls Try.prog 11 #[.pointer ((some ⟨b_t29, 0, none⟩))] w_15 fun e_6 w_16 =>
        ∃ t129 : Sl, ∃ t129_1 : Bool, (e_6 = .returned (.tuple #[.slice t129.a t129.len t129.cap, .bool t129_1])) ∧
        Br (t105 != t121)
         (K (.bool false) w_16)
         (∃ t137 : ByteArray, (∀ w', (fun w' => w' = w_16) w' → ((convert 22 9 (.slice t124.a t124.len t124.cap))).run Try.prog w' = .ok (.string t137) w') ∧
          ∃ t139 : ByteArray, (∀ w', (fun w' => w' = w_16) w' → ((convert 22 9 (.slice t129.a t129.len t129.cap))).run Try.prog w' = .ok (.string t139) w') ∧
          Br (!t137.toList == t139.toList)
           (K (.bool false) w_16)
           (Br (!t124_1 == t129_1)
             (K (.bool false) w_16)
             ((I (IntKind.i64.wrap (i10 + 1)) w_16) ∧ μ (IntKind.i64.wrap (i10 + 1)) w_16 < μ i10 w_4))))))))))))
     ((I (IntKind.i64.wrap (i10 + 1)) w_10) ∧ μ (IntKind.i64.wrap (i10 + 1)) w_10 < μ i10 w_4)))))) w_2) w_1)

def sk3 : Sk := (.seq .leaf (.seq .leaf (.seq .leaf (.seq .leaf (.seq .leaf (.seq (.seq .leaf (.block (.loop [10] [(.int .i64)] [6, 10, 11, 12, 13, 14, 15, 16, 17, 18, 19, 20, 30, 31, 32, 33, 34, 35, 36, 37, 38, 39, 40, 41, 42, 43, 44, 45, 46, 47, 48, 49, 50, 51, 52, 53, 54, 55, 56, 57, 58, 59, 60, 61, 62, 63, 64, 65, 66, 67, 68, 69, 70, 71, 72, 73, 74, 75, 76, 77, 78, 79, 80, 81, 82, 83, 84, 85, 86, 87, 88, 89, 90, 91, 92, 93, 94, 95, 96, 97, 98, 99, 100, 101, 102, 103, 104, 105, 106, 107, 108, 109, 110, 111, 112, 113, 114, 115, 116, 117, 118, 119, 120, 121, 122, 123, 124, 125, 126, 127, 128, 129, 130, 131, 132, 133, 134, 135, 136, 137, 138, 139, 140, 141, 142, 143, 144, 145, 146] (.cut [] [] [30, 31, 32, 33, 34, 35, 36, 37] .leaf (.seq (.block (.seq .leaf (.seq .leaf (.cut [] [] [6, 70, 71, 72, 73, 74, 75, 76, 77, 78, 79] .leaf .leaf)))) .leaf))))) .leaf))))))
theorem ok3 : fnOk Try.prog Try.f3.ntmps Try.f3 sk3 = true := by kernel_rfl
theorem eq3 (b0 : Sl) (l1 : Sl) (pieces2 : Sl) (K : Value → World → Prop) (w : World) : fnF Try.prog cl Try.f3 sk3 [.slice b0.a b0.len b0.cap, .slice l1.a l1.len l1.cap, .slice pieces2.a pieces2.len pieces2.cap] K w = B3 b0 l1 pieces2 K w := by kernel_rfl
theorem call3 (b0 : Sl) (l1 : Sl) (pieces2 : Sl) (K : Value → World → Prop) (w : World) (h : B3 b0 l1 pieces2 K w) : Gets Try.prog 3 #[.slice b0.a b0.len b0.cap, .slice l1.a l1.len l1.cap, .slice pieces2.a pieces2.len pieces2.cap] w K :=
  calls_of (sk := sk3) cl_ok mixed Try.func3 ok3 (args := [.slice b0.a b0.len b0.cap, .slice l1.a l1.len l1.cap, .slice pieces2.a pieces2.len pieces2.cap]) (Nat.le_of_ble_eq_true (by kernel_rfl)) (by rw [eq3]; exact h)

/-- jetway/jetwaylaw07.KeepBack. -/
def B4 (b0 : Sl) (size1 : Int) (K : Value → World → Prop) (w : World) : Prop :=
  Calls Try.prog 5 #[] w fun e w_1 =>
  ∃ t16 : Bool, (e = .returned (.bool t16)) ∧
  ∃ (J : World → Prop), (Br (decide ((↑b0.len : Int) > 65536))
     (K (.bool t16) w_1)
     (Br (decide (size1 < 1))
       (K (.bool t16) w_1)
       (Nz size1 (Br (decide (IntKind.i64.wrap ((↑b0.len : Int).tdiv size1) > 2000))
         (K (.bool t16) w_1)
         (J  w_1))))) ∧
  ∀ (z : Env)  (w_2 : World), J  w_2 →
  New (.cells #[.bool false, .int .i64 0, .slice none 0 0] 28 (0, 0)) (fun b_t33 w_3 =>
  ∃ (J_1 : World → Prop), (∃ (I : Int → Int → World → Prop) (μ : Int → Int → World → Nat), (I 0 0 w_3) ∧ ∀ (z_1 : Env) (at7 : Int) (i8 : Int) (w_4 : World), I at7 i8 w_4 →
    Br (decide (i8 < 3000))
     (Calls Try.prog 6 #[.slice b0.a b0.len b0.cap, .int .i64 at7, .int .i64 size1] w_4 fun e_1 w_5 =>
      ∃ t42 : Sl, ∃ t42_1 : Int, (e_1 = .returned (.tuple #[.slice t42.a t42.len t42.cap, .int .i64 t42_1])) ∧
      Calls Try.prog 8 #[.pointer ((some ⟨b_t33, 0, none⟩)), .int .i64 at7, .int .i64 ((↑b0.len : Int)), .slice t42.a t42.len t42.cap] w_5 fun e_2 w_6 =>
      ∃ t50 : Int, (e_2 = .returned (.int .i64 t50)) ∧
      ∃ (J_2 : World → Prop), (Br (t42_1 != 0)
         (K (.bool false) w_6)
         (Br (t50 != 0)
           (K (.bool false) w_6)
           (J_2  w_6))) ∧
      ∀ (z_2 : Env)  (w_7 : World), J_2  w_7 →
      Br (decide (IntKind.i64.wrap (at7 + (↑t42.len : Int)) ≥ (↑b0.len : Int)))
       (J_1  w_7)
       (Calls Try.prog 10 #[.pointer ((some ⟨b_t33, 0, none⟩))] w_7 fun e_3 w_8 =>
        ∃ t67 : Sl, ∃ t67_1 : Bool, (e_3 = .returned (.tuple #[.slice t67.a t67.len t67.cap, .bool t67_1])) ∧
        Br t67_1
         (K (.bool false) w_8)
         (Br ((↑t42.len : Int) == 0)
           (K (.bool false) w_8)
           ((I (IntKind.i64.wrap (at7 + (↑t42.len : Int))) (IntKind.i64.wrap (i8 + 1)) w_8) ∧ μ (IntKind.i64.wrap (at7 + (↑t42.len : Int))) (IntKind.i64.wrap (i8 + 1)) w_8 < μ at7 i8 w_4))))
     (J_1  w_4)) ∧
  ∀ (z_3 : Env)  (w_9 : World), J_1  w_9 →
  Calls Try.prog 10 #[.pointer ((some ⟨b_t33, 0, none⟩))] w_9 fun e_4 w_10 =>
  ∃ t78 : Sl, ∃ t78_1 : Bool, (e_4 = .returned (.tuple #[.slice t78.a t78.len t78.cap, .bool t78_1])) ∧
  Br t78_1
   (∃ t84 : ByteArray, (∀ w', (fun w' => w' = w_10) w' → ((convert 22 9 (.slice t78.a t78.len t78.cap))).run Try.prog w' = .ok (.string t84) w') ∧
    ∃ t86 : ByteArray, (∀ w', (fun w' => w' = w_10) w' → ((convert 22 9 (.slice b0.a b0.len b0.cap))).run Try.prog w' = .ok (.string t86) w') ∧
    K (.bool (t84.toList == t86.toList)) w_10)
   (K (.bool false) w_10)) w_2

def sk4 : Sk := (.seq .leaf (.seq .leaf (.cut [] [] [4, 17, 18, 19, 20, 21, 22, 23, 24, 25, 26, 27, 28, 29, 30, 31] .leaf (.seq .leaf (.seq .leaf (.cut [] [] [4, 7, 8, 9, 10, 11, 12, 13, 34, 35, 36, 37, 38, 39, 40, 41, 42, 43, 44, 45, 46, 47, 48, 49, 50, 51, 52, 53, 54, 55, 56, 57, 58, 59, 60, 61, 62, 63, 64, 65, 66, 67, 68, 69, 70, 71, 72, 73, 74, 75] (.seq .leaf (.block (.loop [7, 8] [(.int .i64), (.int .i64)] [4, 7, 8, 9, 10, 11, 12, 13, 34, 35, 36, 37, 38, 39, 40, 41, 42, 43, 44, 45, 46, 47, 48, 49, 50, 51, 52, 53, 54, 55, 56, 57, 58, 59, 60, 61, 62, 63, 64, 65, 66, 67, 68, 69, 70, 71, 72, 73, 74, 75] (.seq .leaf (.seq (.block (.seq .leaf (.seq .leaf (.cut [] [] [4, 51, 52, 53, 54, 55, 56] .leaf .leaf)))) .leaf))))) .leaf))))))
theorem ok4 : fnOk Try.prog Try.f4.ntmps Try.f4 sk4 = true := by kernel_rfl
theorem eq4 (b0 : Sl) (size1 : Int) (K : Value → World → Prop) (w : World) : fnF Try.prog cl Try.f4 sk4 [.slice b0.a b0.len b0.cap, .int .i64 size1] K w = B4 b0 size1 K w := by kernel_rfl
theorem call4 (b0 : Sl) (size1 : Int) (K : Value → World → Prop) (w : World) (h : B4 b0 size1 K w) : Gets Try.prog 4 #[.slice b0.a b0.len b0.cap, .int .i64 size1] w K :=
  calls_of (sk := sk4) cl_ok mixed Try.func4 ok4 (args := [.slice b0.a b0.len b0.cap, .int .i64 size1]) (Nat.le_of_ble_eq_true (by kernel_rfl)) (by rw [eq4]; exact h)

/-- jetway/jetwaylaw07.awake. -/
def B5  (K : Value → World → Prop) (w : World) : Prop :=
  Calls Try.prog 12 #[.int .i64 1000] w fun e w_1 =>
  ∃ t7 : Option Addr, ∃ t7_1 : Int, (e = .returned (.tuple #[.pointer t7, .int .i64 t7_1])) ∧
  ∃ (J : World → Prop), (Br (t7_1 != 0)
     (K (.bool false) w_1)
     (Br t7.isNone
       (K (.bool false) w_1)
       (J  w_1))) ∧
  ∀ (z : Env)  (w_2 : World), J  w_2 →
  Calls Try.prog 13 #[.pointer t7, .agg #[.int .i64 3, .int .i64 1]] w_2 fun e_1 w_3 =>
  ∃ t18 : Int, (e_1 = .returned (.int .i64 t18)) ∧
  Calls Try.prog 14 #[.pointer t7] w_3 fun e_2 w_4 =>
  ∃ t21 : Int, ∃ t21_1 : Int, ∃ t21_2 : Int, (e_2 = .returned (.tuple #[.agg #[.int .i64 t21, .int .i64 t21_1], .int .i64 t21_2])) ∧
  New (.cells #[.int .i64 0, .int .i64 0] 46 (0, 0)) (fun b_h4 w_5 =>
  ∃ w_6 : World, ((Instr.storeAt 46 (.pointer ((some ⟨b_h4, 0, none⟩))) (.agg #[.int .i64 t21, .int .i64 t21_1])).run Try.prog w_5 = .ok () w_6) ∧
  Br (t18 == 0)
   (Br (t21_2 == 0)
     (∃ t31 : Int, ∃ t31_1 : Int, (At (fun w' => w' = w_6) ⟨b_h4, 0, none⟩ [.int .i64 t31, .int .i64 t31_1]) ∧
      ∃ t33 : Bool, (∀ w', (fun w' => w' = w_6) w' → ((do eqGuard BinOp.eql 46 (Operand.tmp 31) (Operand.tmp 32) (.agg #[.int .i64 t31, .int .i64 t31_1]) (.agg #[.int .i64 3, .int .i64 1]); binOp BinOp.eql 46 (.agg #[.int .i64 t31, .int .i64 t31_1]) (.agg #[.int .i64 3, .int .i64 1]) : Sem Value)).run Try.prog w' = .ok (.bool t33) w') ∧
      K (.bool t33) w_6)
     (K (.bool false) w_6))
   (K (.bool false) w_6)) w_4

def sk5 : Sk := (.seq .leaf (.seq .leaf (.cut [] [] [0, 10, 11, 12, 13, 14, 15] .leaf .leaf)))
theorem ok5 : fnOk Try.prog Try.f5.ntmps Try.f5 sk5 = true := by kernel_rfl
theorem eq5  (K : Value → World → Prop) (w : World) : fnF Try.prog cl Try.f5 sk5 [] K w = B5  K w := by kernel_rfl
theorem call5  (K : Value → World → Prop) (w : World) (h : B5  K w) : Gets Try.prog 5 #[] w K :=
  calls_of (sk := sk5) cl_ok mixed Try.func5 ok5 (args := []) (Nat.le_of_ble_eq_true (by kernel_rfl)) (by rw [eq5]; exact h)

/-- jetway/keep.Part. -/
def B6 (b0 : Sl) (at1 : Int) (size2 : Int) (K : Value → World → Prop) (w : World) : Prop :=
  ∃ (J : World → Prop), (Br (decide ((↑b0.len : Int) > 65536))
     (K (.tuple #[.slice none 0 0, .int .i64 1]) w)
     (Calls Try.prog 15 #[.int .i64 at1, .int .i64 ((↑b0.len : Int))] w fun e w_1 =>
      ∃ t15 : Bool, (e = .returned (.bool t15)) ∧
      Br (!t15)
       (K (.tuple #[.slice none 0 0, .int .i64 1]) w_1)
       (Br (decide (size2 < 1))
         (K (.tuple #[.slice none 0 0, .int .i64 1]) w_1)
         (J  w_1)))) ∧
  ∀ (z : Env)  (w_2 : World), J  w_2 →
  ((0 : Int) ≤ IntKind.i64.wrap (at1 + if IntKind.i64.wrap ((↑b0.len : Int) - at1) < size2 then IntKind.i64.wrap ((↑b0.len : Int) - at1) else size2)) ∧
  ((IntKind.i64.wrap (at1 + if IntKind.i64.wrap ((↑b0.len : Int) - at1) < size2 then IntKind.i64.wrap ((↑b0.len : Int) - at1) else size2) : Int) ≤ (↑b0.cap : Int)) ∧
  ((0 : Int) ≤ at1) ∧
  ((at1 : Int) ≤ (↑(IntKind.i64.wrap (at1 + if IntKind.i64.wrap ((↑b0.len : Int) - at1) < size2 then IntKind.i64.wrap ((↑b0.len : Int) - at1) else size2)).toNat : Int)) ∧
  Calls Try.prog 16 #[.slice (cutA b0.a at1.toNat b0.cap 1) ((IntKind.i64.wrap (at1 + if IntKind.i64.wrap ((↑b0.len : Int) - at1) < size2 then IntKind.i64.wrap ((↑b0.len : Int) - at1) else size2)).toNat - at1.toNat) (b0.cap - at1.toNat)] w_2 fun e_1 w_3 =>
  ∃ t33 : Sl, (e_1 = .returned (.slice t33.a t33.len t33.cap)) ∧
  K (.tuple #[.slice t33.a t33.len t33.cap, .int .i64 0]) w_3

def sk6 : Sk := (.seq .leaf (.cut [] [] [6, 7, 8, 9, 10, 11, 12, 13, 14, 15, 16, 17, 18, 19, 20, 21] .leaf .leaf))
theorem ok6 : fnOk Try.prog Try.f6.ntmps Try.f6 sk6 = true := by kernel_rfl
theorem eq6 (b0 : Sl) (at1 : Int) (size2 : Int) (K : Value → World → Prop) (w : World) : fnF Try.prog cl Try.f6 sk6 [.slice b0.a b0.len b0.cap, .int .i64 at1, .int .i64 size2] K w = B6 b0 at1 size2 K w := by kernel_rfl
theorem call6 (b0 : Sl) (at1 : Int) (size2 : Int) (K : Value → World → Prop) (w : World) (h : B6 b0 at1 size2 K w) : Gets Try.prog 6 #[.slice b0.a b0.len b0.cap, .int .i64 at1, .int .i64 size2] w K :=
  calls_of (sk := sk6) cl_ok mixed Try.func6 ok6 (args := [.slice b0.a b0.len b0.cap, .int .i64 at1, .int .i64 size2]) (Nat.le_of_ble_eq_true (by kernel_rfl)) (by rw [eq6]; exact h)

/-- (*jetway/keep.Whole).Put. -/
def B8 (w0 : Option Addr) (at1 : Int) (total2 : Int) (b3 : Sl) (K : Value → World → Prop) (w : World) : Prop :=
  ∃ (J : Bool → World → Prop), (Calls Try.prog 15 #[.int .i64 total2, .int .i64 65536] w fun e w_1 =>
    ∃ t11 : Bool, (e = .returned (.bool t11)) ∧
    Br (!t11)
     (J true w_1)
     (Calls Try.prog 15 #[.int .i64 at1, .int .i64 total2] w_1 fun e_1 w_2 =>
      ∃ t16 : Bool, (e_1 = .returned (.bool t16)) ∧
      Br (!t16)
       (J true w_2)
       (J (decide ((↑b3.len : Int) > IntKind.i64.wrap (total2 - at1))) w_2))) ∧
  ∀ (z : Env) (t9 : Bool) (w_3 : World), J t9 w_3 →
  Br t9
   (K (.int .i64 1) w_3)
   (Br (at1 == 0)
     (NilP w0 fun a_t33 =>
      ∃ w_4 : World, ((Instr.storeAt 28 (.pointer ((some (a_t33)))) (.agg #[.bool true, .int .i64 total2, .slice none 0 0])).run Try.prog w_3 = .ok () w_4) ∧
      NilP w0 fun a_t59 =>
      ∃ t61 : Sl, (At (fun w' => w' = w_4) ⟨a_t59.block, a_t59.off + 2, none⟩ [.slice t61.a t61.len t61.cap]) ∧
      ∃ w_5 : World, ∃ t63 : Sl, ((Builtin.append_ #[22, 22] 22 #[.slice t61.a t61.len t61.cap, .slice b3.a b3.len b3.cap]).run Try.prog w_4 = .ok (.slice t63.a t63.len t63.cap) w_5) ∧
      NilP w0 fun a_t64 =>
      ∃ w_6 : World, ((Instr.storeAt 22 (.pointer ((some ⟨a_t64.block, a_t64.off + 2, none⟩))) (.slice t63.a t63.len t63.cap)).run Try.prog w_5 = .ok () w_6) ∧
      K (.int .i64 0) w_6)
     (NilP w0 fun a_t36 =>
      ∃ t38 : Bool, (At (fun w' => w' = w_3) (Addr.add a_t36 0) [.bool t38]) ∧
      Br (!t38)
       (K (.int .i64 7) w_3)
       (NilP w0 fun a_t43 =>
        ∃ t45 : Sl, (At (fun w' => w' = w_3) ⟨a_t43.block, a_t43.off + 2, none⟩ [.slice t45.a t45.len t45.cap]) ∧
        Br (at1 != (↑t45.len : Int))
         (K (.int .i64 7) w_3)
         (NilP w0 fun a_t52 =>
          ∃ t54 : Int, (At (fun w' => w' = w_3) ⟨a_t52.block, a_t52.off + 1, none⟩ [.int .i64 t54]) ∧
          Br (total2 != t54)
           (K (.int .i64 7) w_3)
           (NilP w0 fun a_t59_1 =>
            ∃ t61_1 : Sl, (At (fun w' => w' = w_3) ⟨a_t59_1.block, a_t59_1.off + 2, none⟩ [.slice t61_1.a t61_1.len t61_1.cap]) ∧
            ∃ w_7 : World, ∃ t63_1 : Sl, ((Builtin.append_ #[22, 22] 22 #[.slice t61_1.a t61_1.len t61_1.cap, .slice b3.a b3.len b3.cap]).run Try.prog w_3 = .ok (.slice t63_1.a t63_1.len t63_1.cap) w_7) ∧
            NilP w0 fun a_t64_1 =>
            ∃ w_8 : World, ((Instr.storeAt 22 (.pointer ((some ⟨a_t64_1.block, a_t64_1.off + 2, none⟩))) (.slice t63_1.a t63_1.len t63_1.cap)).run Try.prog w_7 = .ok () w_8) ∧
            K (.int .i64 0) w_8)))))

def sk8 : Sk := (.seq .leaf (.seq (.block (.cut [9] [.bool] [9, 10, 11, 12, 13, 14, 15, 16, 17, 18, 19, 20, 21, 22, 23, 24, 25, 26] .leaf .leaf)) .leaf))
theorem ok8 : fnOk Try.prog Try.f8.ntmps Try.f8 sk8 = true := by kernel_rfl
theorem eq8 (w0 : Option Addr) (at1 : Int) (total2 : Int) (b3 : Sl) (K : Value → World → Prop) (w : World) : fnF Try.prog cl Try.f8 sk8 [.pointer w0, .int .i64 at1, .int .i64 total2, .slice b3.a b3.len b3.cap] K w = B8 w0 at1 total2 b3 K w := by kernel_rfl
theorem call8 (w0 : Option Addr) (at1 : Int) (total2 : Int) (b3 : Sl) (K : Value → World → Prop) (w : World) (h : B8 w0 at1 total2 b3 K w) : Gets Try.prog 8 #[.pointer w0, .int .i64 at1, .int .i64 total2, .slice b3.a b3.len b3.cap] w K :=
  calls_of (sk := sk8) cl_ok mixed Try.func8 ok8 (args := [.pointer w0, .int .i64 at1, .int .i64 total2, .slice b3.a b3.len b3.cap]) (Nat.le_of_ble_eq_true (by kernel_rfl)) (by rw [eq8]; exact h)

/-- (*jetway/keep.Whole).Done. -/
def B10 (w0 : Option Addr) (K : Value → World → Prop) (w : World) : Prop :=
  Drw w fun S w_1 =>
  NilP w0 fun a_t5 =>
  ∃ t7 : Bool, (At S (Addr.add a_t5 0) [.bool t7]) ∧
  Br (!t7)
   (K (.tuple #[.slice none 0 0, .bool false]) w_1)
   (NilP w0 fun a_t11 =>
    ∃ t13 : Sl, (At S ⟨a_t11.block, a_t11.off + 2, none⟩ [.slice t13.a t13.len t13.cap]) ∧
    NilP w0 fun a_t16 =>
    ∃ t18 : Int, (At S ⟨a_t16.block, a_t16.off + 1, none⟩ [.int .i64 t18]) ∧
    Br ((↑t13.len : Int) != t18)
     (K (.tuple #[.slice none 0 0, .bool false]) w_1)
     (NilP w0 fun a_t22 =>
      ∃ t24 : Sl, (At (fun w' => w' = w_1) ⟨a_t22.block, a_t22.off + 2, none⟩ [.slice t24.a t24.len t24.cap]) ∧
      Calls Try.prog 16 #[.slice t24.a t24.len t24.cap] w_1 fun e w_2 =>
      ∃ t25 : Sl, (e = .returned (.slice t25.a t25.len t25.cap)) ∧
      K (.tuple #[.slice t25.a t25.len t25.cap, .bool true]) w_2))

def sk10 : Sk := .leaf
theorem ok10 : fnOk Try.prog Try.f10.ntmps Try.f10 sk10 = true := by kernel_rfl
theorem eq10 (w0 : Option Addr) (K : Value → World → Prop) (w : World) : fnF Try.prog cl Try.f10 sk10 [.pointer w0] K w = B10 w0 K w := by kernel_rfl
theorem call10 (w0 : Option Addr) (K : Value → World → Prop) (w : World) (h : B10 w0 K w) : Gets Try.prog 10 #[.pointer w0] w K :=
  calls_of (sk := sk10) cl_ok mixed Try.func10 ok10 (args := [.pointer w0]) (Nat.le_of_ble_eq_true (by kernel_rfl)) (by rw [eq10]; exact h)

/-- jetway/keep.SaveHard. -/
def B13 (d0 : Option Addr) (h1_0 : Int) (h1_1 : Int) (K : Value → World → Prop) (w : World) : Prop :=
  New (.cells #[.int .i64 h1_0, .int .i64 h1_1] 46 (0, 0)) (fun b_h3 w_1 =>
  ∃ t6 : Int, ∃ t6_1 : Int, (At (fun w' => w' = w_1) ⟨b_h3, 0, none⟩ [.int .i64 t6, .int .i64 t6_1]) ∧
  Calls Try.prog 17 #[.pointer d0, .string (ByteArray.mk #[104, 97, 114, 100]), .agg #[.int .i64 t6, .int .i64 t6_1], .func (.func 18) #[] #[]] w_1 fun e w_2 =>
  ∃ t7 : Int, (e = .returned (.int .i64 t7)) ∧
  K (.int .i64 t7) w_2) w

def sk13 : Sk := .leaf
theorem ok13 : fnOk Try.prog Try.f13.ntmps Try.f13 sk13 = true := by kernel_rfl
theorem eq13 (d0 : Option Addr) (h1_0 : Int) (h1_1 : Int) (K : Value → World → Prop) (w : World) : fnF Try.prog cl Try.f13 sk13 [.pointer d0, .agg #[.int .i64 h1_0, .int .i64 h1_1]] K w = B13 d0 h1_0 h1_1 K w := by kernel_rfl
theorem call13 (d0 : Option Addr) (h1_0 : Int) (h1_1 : Int) (K : Value → World → Prop) (w : World) (h : B13 d0 h1_0 h1_1 K w) : Gets Try.prog 13 #[.pointer d0, .agg #[.int .i64 h1_0, .int .i64 h1_1]] w K :=
  calls_of (sk := sk13) cl_ok mixed Try.func13 ok13 (args := [.pointer d0, .agg #[.int .i64 h1_0, .int .i64 h1_1]]) (Nat.le_of_ble_eq_true (by kernel_rfl)) (by rw [eq13]; exact h)

/-- jetway/keep.LoadHard. -/
def B14 (d0 : Option Addr) (K : Value → World → Prop) (w : World) : Prop :=
  New (.cells #[.int .i64 0, .int .i64 0] 46 (0, 0)) (fun b_t2 w_1 =>
  Calls Try.prog 19 #[.pointer d0, .string (ByteArray.mk #[104, 97, 114, 100]), .func (.func 20) #[] #[]] w_1 fun e w_2 =>
  ∃ t5 : Int, ∃ t5_1 : Int, ∃ t5_2 : Int, (e = .returned (.tuple #[.agg #[.int .i64 t5, .int .i64 t5_1], .int .i64 t5_2])) ∧
  ∃ w_3 : World, ((Instr.storeAt 46 (.pointer ((some ⟨b_t2, 0, none⟩))) (.agg #[.int .i64 t5, .int .i64 t5_1])).run Try.prog w_2 = .ok () w_3) ∧
  ∃ t3 : Int, ∃ t3_1 : Int, (At (fun w' => w' = w_3) ⟨b_t2, 0, none⟩ [.int .i64 t3, .int .i64 t3_1]) ∧
  K (.tuple #[.agg #[.int .i64 t3, .int .i64 t3_1], .int .i64 t5_2]) w_3) w

def sk14 : Sk := .leaf
theorem ok14 : fnOk Try.prog Try.f14.ntmps Try.f14 sk14 = true := by kernel_rfl
theorem eq14 (d0 : Option Addr) (K : Value → World → Prop) (w : World) : fnF Try.prog cl Try.f14 sk14 [.pointer d0] K w = B14 d0 K w := by kernel_rfl
theorem call14 (d0 : Option Addr) (K : Value → World → Prop) (w : World) (h : B14 d0 K w) : Gets Try.prog 14 #[.pointer d0] w K :=
  calls_of (sk := sk14) cl_ok mixed Try.func14 ok14 (args := [.pointer d0]) (Nat.le_of_ble_eq_true (by kernel_rfl)) (by rw [eq14]; exact h)

/-- jetway/keep.within. -/
def B15 (n0 : Int) (most1 : Int) (K : Value → World → Prop) (w : World) : Prop :=
  Br (decide (n0 ≥ 0))
   (K (.bool (decide (n0 ≤ most1))) w)
   (K (.bool false) w)

def sk15 : Sk := .leaf
theorem ok15 : fnOk Try.prog Try.f15.ntmps Try.f15 sk15 = true := by kernel_rfl
theorem eq15 (n0 : Int) (most1 : Int) (K : Value → World → Prop) (w : World) : fnF Try.prog cl Try.f15 sk15 [.int .i64 n0, .int .i64 most1] K w = B15 n0 most1 K w := by kernel_rfl
theorem call15 (n0 : Int) (most1 : Int) (K : Value → World → Prop) (w : World) (h : B15 n0 most1 K w) : Gets Try.prog 15 #[.int .i64 n0, .int .i64 most1] w K :=
  calls_of (sk := sk15) cl_ok mixed Try.func15 ok15 (args := [.int .i64 n0, .int .i64 most1]) (Nat.le_of_ble_eq_true (by kernel_rfl)) (by rw [eq15]; exact h)

/-- jetway/keep.write[jetway/api.Hard]. -/
def B17 (d0 : Option Addr) (name1 : ByteArray) (x2_0 : Int) (x2_1 : Int) (encode3 : Value) (K : Value → World → Prop) (w : World) : Prop :=
  New (.cells #[.int .i64 x2_0, .int .i64 x2_1] 46 (0, 0)) (fun b_x6 w_1 =>
  ∃ t18 : Int, ∃ t18_1 : Int, (At (fun w' => w' = w_1) ⟨b_x6, 0, none⟩ [.int .i64 t18, .int .i64 t18_1]) ∧
  CalW Try.prog cl encode3 [.agg #[.int .i64 t18, .int .i64 t18_1]] w_1 fun e w_2 =>
  ∃ t19 : Sl, ∃ t19_1 : Int, (e = .returned (.tuple #[.slice t19.a t19.len t19.cap, .int .i64 t19_1])) ∧
  ∃ (J : World → Prop), (Br d0.isNone
     (K (.int .i64 1) w_2)
     (Br (t19_1 != 0)
       (K (.int .i64 1) w_2)
       (J  w_2))) ∧
  ∀ (z : Env)  (w_3 : World), J  w_3 →
  Calls Try.prog 21 #[.slice t19.a t19.len t19.cap] w_3 fun e_1 w_4 =>
  ∃ t30 : Sl, ∃ t30_1 : Int, (e_1 = .returned (.tuple #[.slice t30.a t30.len t30.cap, .int .i64 t30_1])) ∧
  Br (t30_1 != 0)
   (K (.int .i64 t30_1) w_4)
   ((((↑(name1.size + (ByteArray.mk #[46, 110, 101, 119]).size) : Int) : Int) ≤ 9223372036854775807) ∧
    ∃ (J_1 : World → Prop), (Calls Try.prog 23 #[.pointer d0] w_4 fun e_2 w_5 =>
      ∃ t39 : Sl, (e_2 = .returned (.slice t39.a t39.len t39.cap)) ∧
      Calls Try.prog 22 #[.slice t39.a t39.len t39.cap, .string (name1 ++ ByteArray.mk #[46, 110, 101, 119])] w_5 fun e_3 w_6 =>
      ∃ t41 : Bool, (e_3 = .returned (.bool t41)) ∧
      Br t41
       (Calls Try.prog 24 #[.pointer d0, .string (name1 ++ ByteArray.mk #[46, 110, 101, 119])] w_6 fun e_4 w_7 =>
        ∃ t44 : Int, (e_4 = .returned (.int .i64 t44)) ∧
        Br (t44 != 0)
         (K (.int .i64 t44) w_7)
         (J_1  w_7))
       (J_1  w_6)) ∧
    ∀ (z_1 : Env)  (w_8 : World), J_1  w_8 →
    Calls Try.prog 25 #[.pointer d0, .string (name1 ++ ByteArray.mk #[46, 110, 101, 119]), .slice t30.a t30.len t30.cap] w_8 fun e_5 w_9 =>
    ∃ t51 : Int, (e_5 = .returned (.int .i64 t51)) ∧
    Br (t51 != 0)
     (K (.int .i64 t51) w_9)
     (Calls Try.prog 26 #[.pointer d0, .string (name1 ++ ByteArray.mk #[46, 110, 101, 119])] w_9 fun e_6 w_10 =>
      ∃ t57 : Int, (e_6 = .returned (.int .i64 t57)) ∧
      Br (t57 != 0)
       (K (.int .i64 t57) w_10)
       (Calls Try.prog 27 #[.pointer d0, .string (name1 ++ ByteArray.mk #[46, 110, 101, 119]), .string name1] w_10 fun e_7 w_11 =>
        ∃ t64 : Int, (e_7 = .returned (.int .i64 t64)) ∧
        K (.int .i64 t64) w_11)))) w

def sk17 : Sk := (.seq .leaf (.seq .leaf (.cut [] [] [8, 22, 23, 24, 25, 26, 27] .leaf (.seq .leaf (.seq .leaf (.seq .leaf (.cut [] [] [8, 13, 38, 39, 40, 41, 42, 43, 44, 45, 46, 47] .leaf .leaf)))))))
theorem ok17 : fnOk Try.prog Try.f17.ntmps Try.f17 sk17 = true := by kernel_rfl
theorem eq17 (d0 : Option Addr) (name1 : ByteArray) (x2_0 : Int) (x2_1 : Int) (encode3 : Value) (K : Value → World → Prop) (w : World) : fnF Try.prog cl Try.f17 sk17 [.pointer d0, .string name1, .agg #[.int .i64 x2_0, .int .i64 x2_1], encode3] K w = B17 d0 name1 x2_0 x2_1 encode3 K w := by kernel_rfl
theorem call17 (d0 : Option Addr) (name1 : ByteArray) (x2_0 : Int) (x2_1 : Int) (encode3 : Value) (K : Value → World → Prop) (w : World) (h : B17 d0 name1 x2_0 x2_1 encode3 K w) : Gets Try.prog 17 #[.pointer d0, .string name1, .agg #[.int .i64 x2_0, .int .i64 x2_1], encode3] w K :=
  calls_of (sk := sk17) cl_ok mixed Try.func17 ok17 (args := [.pointer d0, .string name1, .agg #[.int .i64 x2_0, .int .i64 x2_1], encode3]) (Nat.le_of_ble_eq_true (by kernel_rfl)) (by rw [eq17]; exact h)

/-- jetway/keep.encodeHard. -/
def B18 (h0_0 : Int) (h0_1 : Int) (K : Value → World → Prop) (w : World) : Prop :=
  New (.cells #[.int .i64 h0_0, .int .i64 h0_1] 46 (0, 0)) (fun b_h1 w_1 =>
  ∃ t5 : Int, (At (fun w' => w' = w_1) ⟨b_h1, 0, none⟩ [.int .i64 t5]) ∧
  Calls Try.prog 15 #[.int .i64 t5, .int .i64 1099511627776] w_1 fun e w_2 =>
  ∃ t6 : Bool, (e = .returned (.bool t6)) ∧
  Br (!t6)
   (K (.tuple #[.slice none 0 0, .int .i64 1]) w_2)
   (∃ t10 : Int, (At (fun w' => w' = w_2) ⟨b_h1, 0 + 1, none⟩ [.int .i64 t10]) ∧
    Calls Try.prog 15 #[.int .i64 t10, .int .i64 15] w_2 fun e_1 w_3 =>
    ∃ t11 : Bool, (e_1 = .returned (.bool t11)) ∧
    Br (!t11)
     (K (.tuple #[.slice none 0 0, .int .i64 1]) w_3)
     (Drw w_3 fun S w_4 =>
      ∃ t15 : Int, (At S ⟨b_h1, 0, none⟩ [.int .i64 t15]) ∧
      ∃ t19 : Int, (At S ⟨b_h1, 0 + 1, none⟩ [.int .i64 t19]) ∧
      Calls Try.prog 28 #[.int .u64 (IntKind.u64.wrap t15)] w_4 fun e_2 w_5 =>
      ∃ t17 : Sl, (e_2 = .returned (.slice t17.a t17.len t17.cap)) ∧
      (S w_5) ∧
      Calls Try.prog 28 #[.int .u64 (IntKind.u64.wrap t19)] w_5 fun e_3 w_6 =>
      ∃ t21 : Sl, (e_3 = .returned (.slice t21.a t21.len t21.cap)) ∧
      (S w_6) ∧
      ∃ w_7 : World, ∃ t22 : Sl, ((Builtin.append_ #[22, 22] 22 #[.slice t17.a t17.len t17.cap, .slice t21.a t21.len t21.cap]).run Try.prog w_6 = .ok (.slice t22.a t22.len t22.cap) w_7) ∧
      (S w_7) ∧
      K (.tuple #[.slice t22.a t22.len t22.cap, .int .i64 0]) w_7))) w

def sk18 : Sk := .leaf
theorem ok18 : fnOk Try.prog Try.f18.ntmps Try.f18 sk18 = true := by kernel_rfl
theorem eq18 (h0_0 : Int) (h0_1 : Int) (K : Value → World → Prop) (w : World) : fnF Try.prog cl Try.f18 sk18 [.agg #[.int .i64 h0_0, .int .i64 h0_1]] K w = B18 h0_0 h0_1 K w := by kernel_rfl
theorem call18 (h0_0 : Int) (h0_1 : Int) (K : Value → World → Prop) (w : World) (h : B18 h0_0 h0_1 K w) : Gets Try.prog 18 #[.agg #[.int .i64 h0_0, .int .i64 h0_1]] w K :=
  calls_of (sk := sk18) cl_ok mixed Try.func18 ok18 (args := [.agg #[.int .i64 h0_0, .int .i64 h0_1]]) (Nat.le_of_ble_eq_true (by kernel_rfl)) (by rw [eq18]; exact h)

/-- jetway/keep.read[jetway/api.Hard]. -/
def B19 (d0 : Option Addr) (name1 : ByteArray) (decode2 : Value) (K : Value → World → Prop) (w : World) : Prop :=
  New (.cells #[.int .i64 0, .int .i64 0] 46 (0, 0)) (fun b_t6 w_1 =>
  New (.cells #[.int .i64 0, .int .i64 0] 46 (0, 0)) (fun b_zero8 w_2 =>
  Br d0.isNone
   (∃ t15 : Int, ∃ t15_1 : Int, (At (fun w' => w' = w_2) ⟨b_zero8, 0, none⟩ [.int .i64 t15, .int .i64 t15_1]) ∧
    ∃ w_3 : World, ((Instr.storeAt 46 (.pointer ((some ⟨b_t6, 0, none⟩))) (.agg #[.int .i64 t15, .int .i64 t15_1])).run Try.prog w_2 = .ok () w_3) ∧
    ∃ t7 : Int, ∃ t7_1 : Int, (At (fun w' => w' = w_3) ⟨b_t6, 0, none⟩ [.int .i64 t7, .int .i64 t7_1]) ∧
    K (.tuple #[.agg #[.int .i64 t7, .int .i64 t7_1], .int .i64 1]) w_3)
   (Calls Try.prog 29 #[.pointer d0, .string name1] w_2 fun e w_4 =>
    ∃ t19 : Sl, ∃ t19_1 : Int, (e = .returned (.tuple #[.slice t19.a t19.len t19.cap, .int .i64 t19_1])) ∧
    Br (t19_1 == 0)
     (Calls Try.prog 30 #[.slice t19.a t19.len t19.cap] w_4 fun e_1 w_5 =>
      ∃ t32 : Sl, ∃ t32_1 : Int, (e_1 = .returned (.tuple #[.slice t32.a t32.len t32.cap, .int .i64 t32_1])) ∧
      Br ((↑t32.len : Int) != 1)
       (∃ t44 : Int, ∃ t44_1 : Int, (At (fun w' => w' = w_5) ⟨b_zero8, 0, none⟩ [.int .i64 t44, .int .i64 t44_1]) ∧
        ∃ w_6 : World, ((Instr.storeAt 46 (.pointer ((some ⟨b_t6, 0, none⟩))) (.agg #[.int .i64 t44, .int .i64 t44_1])).run Try.prog w_5 = .ok () w_6) ∧
        ∃ t7_2 : Int, ∃ t7_3 : Int, (At (fun w' => w' = w_6) ⟨b_t6, 0, none⟩ [.int .i64 t7_2, .int .i64 t7_3]) ∧
        K (.tuple #[.agg #[.int .i64 t7_2, .int .i64 t7_3], .int .i64 6]) w_6)
       (Br (t32_1 != (↑t19.len : Int))
         (∃ t44_2 : Int, ∃ t44_3 : Int, (At (fun w' => w' = w_5) ⟨b_zero8, 0, none⟩ [.int .i64 t44_2, .int .i64 t44_3]) ∧
          ∃ w_7 : World, ((Instr.storeAt 46 (.pointer ((some ⟨b_t6, 0, none⟩))) (.agg #[.int .i64 t44_2, .int .i64 t44_3])).run Try.prog w_5 = .ok () w_7) ∧
          ∃ t7_4 : Int, ∃ t7_5 : Int, (At (fun w' => w' = w_7) ⟨b_t6, 0, none⟩ [.int .i64 t7_4, .int .i64 t7_5]) ∧
          K (.tuple #[.agg #[.int .i64 t7_4, .int .i64 t7_5], .int .i64 6]) w_7)
         (Rng 0 t32.len (NilP t32.a fun a_t47 =>
          ∃ t48 : Sl, (At (fun w' => w' = w_5) (Addr.add a_t47 0) [.slice t48.a t48.len t48.cap]) ∧
          CalW Try.prog cl decode2 [.slice t48.a t48.len t48.cap] w_5 fun e_2 w_8 =>
          ∃ t49 : Int, ∃ t49_1 : Int, ∃ t49_2 : Int, (e_2 = .returned (.tuple #[.agg #[.int .i64 t49, .int .i64 t49_1], .int .i64 t49_2])) ∧
          ∃ w_9 : World, ((Instr.storeAt 46 (.pointer ((some ⟨b_t6, 0, none⟩))) (.agg #[.int .i64 t49, .int .i64 t49_1])).run Try.prog w_8 = .ok () w_9) ∧
          ∃ t7_6 : Int, ∃ t7_7 : Int, (At (fun w' => w' = w_9) ⟨b_t6, 0, none⟩ [.int .i64 t7_6, .int .i64 t7_7]) ∧
          K (.tuple #[.agg #[.int .i64 t7_6, .int .i64 t7_7], .int .i64 t49_2]) w_9))))
     (Br (t19_1 == 2)
       (∃ t29 : Int, ∃ t29_1 : Int, (At (fun w' => w' = w_4) ⟨b_zero8, 0, none⟩ [.int .i64 t29, .int .i64 t29_1]) ∧
        ∃ w_10 : World, ((Instr.storeAt 46 (.pointer ((some ⟨b_t6, 0, none⟩))) (.agg #[.int .i64 t29, .int .i64 t29_1])).run Try.prog w_4 = .ok () w_10) ∧
        ∃ t7_8 : Int, ∃ t7_9 : Int, (At (fun w' => w' = w_10) ⟨b_t6, 0, none⟩ [.int .i64 t7_8, .int .i64 t7_9]) ∧
        K (.tuple #[.agg #[.int .i64 t7_8, .int .i64 t7_9], .int .i64 0]) w_10)
       (∃ t23 : Int, ∃ t23_1 : Int, (At (fun w' => w' = w_4) ⟨b_zero8, 0, none⟩ [.int .i64 t23, .int .i64 t23_1]) ∧
        ∃ w_11 : World, ((Instr.storeAt 46 (.pointer ((some ⟨b_t6, 0, none⟩))) (.agg #[.int .i64 t23, .int .i64 t23_1])).run Try.prog w_4 = .ok () w_11) ∧
        ∃ t7_10 : Int, ∃ t7_11 : Int, (At (fun w' => w' = w_11) ⟨b_t6, 0, none⟩ [.int .i64 t7_10, .int .i64 t7_11]) ∧
        K (.tuple #[.agg #[.int .i64 t7_10, .int .i64 t7_11], .int .i64 t19_1]) w_11)))) w_1) w

def sk19 : Sk := .leaf
theorem ok19 : fnOk Try.prog Try.f19.ntmps Try.f19 sk19 = true := by kernel_rfl
theorem eq19 (d0 : Option Addr) (name1 : ByteArray) (decode2 : Value) (K : Value → World → Prop) (w : World) : fnF Try.prog cl Try.f19 sk19 [.pointer d0, .string name1, decode2] K w = B19 d0 name1 decode2 K w := by kernel_rfl
theorem call19 (d0 : Option Addr) (name1 : ByteArray) (decode2 : Value) (K : Value → World → Prop) (w : World) (h : B19 d0 name1 decode2 K w) : Gets Try.prog 19 #[.pointer d0, .string name1, decode2] w K :=
  calls_of (sk := sk19) cl_ok mixed Try.func19 ok19 (args := [.pointer d0, .string name1, decode2]) (Nat.le_of_ble_eq_true (by kernel_rfl)) (by rw [eq19]; exact h)

/-- jetway/keep.decodeHard. -/
def B20 (b0 : Sl) (K : Value → World → Prop) (w : World) : Prop :=
  New (.cells #[.int .i64 0, .int .i64 0] 46 (0, 0)) (fun b_t2 w_1 =>
  Calls Try.prog 31 #[.slice b0.a b0.len b0.cap] w_1 fun e w_2 =>
  ∃ t7 : Option Addr, (e = .returned (.pointer t7)) ∧
  Calls Try.prog 32 #[.pointer t7, .int .u64 1099511627776] w_2 fun e_1 w_3 =>
  ∃ t9 : Int, (e_1 = .returned (.int .u64 t9)) ∧
  Calls Try.prog 32 #[.pointer t7, .int .u64 15] w_3 fun e_2 w_4 =>
  ∃ t12 : Int, (e_2 = .returned (.int .u64 t12)) ∧
  New (.cells #[.int .i64 0, .int .i64 0] 46 (0, 0)) (fun b_h5 w_5 =>
  ∃ w_6 : World, ((Instr.storeAt 46 (.pointer ((some ⟨b_h5, 0, none⟩))) (.agg #[.int .i64 (IntKind.i64.wrap t9), .int .i64 (IntKind.i64.wrap t12)])).run Try.prog w_5 = .ok () w_6) ∧
  Calls Try.prog 33 #[.pointer t7] w_6 fun e_3 w_7 =>
  ∃ t16 : Bool, (e_3 = .returned (.bool t16)) ∧
  Br (!t16)
   (∃ w_8 : World, ((Instr.storeAt 46 (.pointer ((some ⟨b_t2, 0, none⟩))) (.agg #[.int .i64 0, .int .i64 0])).run Try.prog w_7 = .ok () w_8) ∧
    ∃ t3 : Int, ∃ t3_1 : Int, (At (fun w' => w' = w_8) ⟨b_t2, 0, none⟩ [.int .i64 t3, .int .i64 t3_1]) ∧
    K (.tuple #[.agg #[.int .i64 t3, .int .i64 t3_1], .int .i64 6]) w_8)
   (∃ t19 : Int, ∃ t19_1 : Int, (At (fun w' => w' = w_7) ⟨b_h5, 0, none⟩ [.int .i64 t19, .int .i64 t19_1]) ∧
    ∃ w_9 : World, ((Instr.storeAt 46 (.pointer ((some ⟨b_t2, 0, none⟩))) (.agg #[.int .i64 t19, .int .i64 t19_1])).run Try.prog w_7 = .ok () w_9) ∧
    ∃ t3_2 : Int, ∃ t3_3 : Int, (At (fun w' => w' = w_9) ⟨b_t2, 0, none⟩ [.int .i64 t3_2, .int .i64 t3_3]) ∧
    K (.tuple #[.agg #[.int .i64 t3_2, .int .i64 t3_3], .int .i64 0]) w_9)) w_4) w

def sk20 : Sk := .leaf
theorem ok20 : fnOk Try.prog Try.f20.ntmps Try.f20 sk20 = true := by kernel_rfl
theorem eq20 (b0 : Sl) (K : Value → World → Prop) (w : World) : fnF Try.prog cl Try.f20 sk20 [.slice b0.a b0.len b0.cap] K w = B20 b0 K w := by kernel_rfl
theorem call20 (b0 : Sl) (K : Value → World → Prop) (w : World) (h : B20 b0 K w) : Gets Try.prog 20 #[.slice b0.a b0.len b0.cap] w K :=
  calls_of (sk := sk20) cl_ok mixed Try.func20 ok20 (args := [.slice b0.a b0.len b0.cap]) (Nat.le_of_ble_eq_true (by kernel_rfl)) (by rw [eq20]; exact h)

/-- slices.Contains[[]string,string]. -/
def B22 (s0 : Sl) (v1 : ByteArray) (K : Value → World → Prop) (w : World) : Prop :=
  Calls Try.prog 38 #[.slice s0.a s0.len s0.cap, .string v1] w fun e w_1 =>
  ∃ t7 : Int, (e = .returned (.int .i64 t7)) ∧
  K (.bool (decide (t7 ≥ 0))) w_1

def sk22 : Sk := .leaf
theorem ok22 : fnOk Try.prog Try.f22.ntmps Try.f22 sk22 = true := by kernel_rfl
theorem eq22 (s0 : Sl) (v1 : ByteArray) (K : Value → World → Prop) (w : World) : fnF Try.prog cl Try.f22 sk22 [.slice s0.a s0.len s0.cap, .string v1] K w = B22 s0 v1 K w := by kernel_rfl
theorem call22 (s0 : Sl) (v1 : ByteArray) (K : Value → World → Prop) (w : World) (h : B22 s0 v1 K w) : Gets Try.prog 22 #[.slice s0.a s0.len s0.cap, .string v1] w K :=
  calls_of (sk := sk22) cl_ok mixed Try.func22 ok22 (args := [.slice s0.a s0.len s0.cap, .string v1]) (Nat.le_of_ble_eq_true (by kernel_rfl)) (by rw [eq22]; exact h)

/-- slices.Index[[]string,string]. -/
def B38 (s0 : Sl) (v1 : ByteArray) (K : Value → World → Prop) (w : World) : Prop :=
  ∃ (I : Int → World → Prop) (μ : Int → World → Nat), (I 0 w) ∧ ∀ (z : Env) (t8 : Int) (w_1 : World), I t8 w_1 →
  Br (decide (t8 < (↑s0.len : Int)))
   (Rng t8 s0.len (NilP s0.a fun a_t14 =>
    ∃ t15 : ByteArray, (At (fun w' => w' = w_1) (Addr.add a_t14 t8.toNat) [.string t15]) ∧
    Br (v1.toList == t15.toList)
     (K (.int .i64 t8) w_1)
     ((I (IntKind.i64.wrap (t8 + 1)) w_1) ∧ μ (IntKind.i64.wrap (t8 + 1)) w_1 < μ t8 w_1)))
   (K (.int .i64 ((-1))) w_1)

def sk38 : Sk := (.seq .leaf (.seq (.seq .leaf (.block (.loop [8] [(.int .i64)] [4, 5, 8, 9, 10, 11, 12, 13, 14, 15, 16, 17, 18] .leaf))) .leaf))
theorem ok38 : fnOk Try.prog Try.f38.ntmps Try.f38 sk38 = true := by kernel_rfl
theorem eq38 (s0 : Sl) (v1 : ByteArray) (K : Value → World → Prop) (w : World) : fnF Try.prog cl Try.f38 sk38 [.slice s0.a s0.len s0.cap, .string v1] K w = B38 s0 v1 K w := by kernel_rfl
theorem call38 (s0 : Sl) (v1 : ByteArray) (K : Value → World → Prop) (w : World) (h : B38 s0 v1 K w) : Gets Try.prog 38 #[.slice s0.a s0.len s0.cap, .string v1] w K :=
  calls_of (sk := sk38) cl_ok mixed Try.func38 ok38 (args := [.slice s0.a s0.len s0.cap, .string v1]) (Nat.le_of_ble_eq_true (by kernel_rfl)) (by rw [eq38]; exact h)

/-- jetway/jetwayref07.Part. -/
def B7 (b0 : Sl) (at1 : Int) (size2 : Int) (K : Value → World → Prop) (w : World) : Prop :=
  ∃ (J : World → Prop), (Br (decide ((↑b0.len : Int) > 65536))
     (K (.tuple #[.slice none 0 0, .int .i64 1]) w)
     (Br (decide (at1 < 0))
       (K (.tuple #[.slice none 0 0, .int .i64 1]) w)
       (Br (decide (at1 > (↑b0.len : Int)))
         (K (.tuple #[.slice none 0 0, .int .i64 1]) w)
         (Br (decide (size2 < 1))
           (K (.tuple #[.slice none 0 0, .int .i64 1]) w)
           (J  w))))) ∧
  ∀ (z : Env)  (w_1 : World), J  w_1 →
  New (.cells #[] 5 (0, 0)) (fun b_t25 w_2 =>
  ((0 : Int) ≤ IntKind.i64.wrap (at1 + if IntKind.i64.wrap ((↑b0.len : Int) - at1) < size2 then IntKind.i64.wrap ((↑b0.len : Int) - at1) else size2)) ∧
  ((IntKind.i64.wrap (at1 + if IntKind.i64.wrap ((↑b0.len : Int) - at1) < size2 then IntKind.i64.wrap ((↑b0.len : Int) - at1) else size2) : Int) ≤ (↑b0.cap : Int)) ∧
  ((0 : Int) ≤ at1) ∧
  ((at1 : Int) ≤ (↑(IntKind.i64.wrap (at1 + if IntKind.i64.wrap ((↑b0.len : Int) - at1) < size2 then IntKind.i64.wrap ((↑b0.len : Int) - at1) else size2)).toNat : Int)) ∧
  ∃ w_3 : World, ∃ t37 : Sl, ((Builtin.append_ #[22, 22] 22 #[.slice ((some ⟨b_t25, 0, none⟩)) 0 0, .slice (cutA b0.a at1.toNat b0.cap 1) ((IntKind.i64.wrap (at1 + if IntKind.i64.wrap ((↑b0.len : Int) - at1) < size2 then IntKind.i64.wrap ((↑b0.len : Int) - at1) else size2)).toNat - at1.toNat) (b0.cap - at1.toNat)]).run Try.prog w_2 = .ok (.slice t37.a t37.len t37.cap) w_3) ∧
  K (.tuple #[.slice t37.a t37.len t37.cap, .int .i64 0]) w_3) w_1

def sk7 : Sk := (.seq .leaf (.cut [] [] [6, 7, 8, 9, 10, 11, 12, 13, 14, 15, 16, 17, 18, 19, 20, 21, 22, 23, 24] .leaf .leaf))
theorem ok7 : fnOk Try.prog Try.f7.ntmps Try.f7 sk7 = true := by kernel_rfl
theorem eq7 (b0 : Sl) (at1 : Int) (size2 : Int) (K : Value → World → Prop) (w : World) : fnF Try.prog cl Try.f7 sk7 [.slice b0.a b0.len b0.cap, .int .i64 at1, .int .i64 size2] K w = B7 b0 at1 size2 K w := by kernel_rfl
theorem call7 (b0 : Sl) (at1 : Int) (size2 : Int) (K : Value → World → Prop) (w : World) (h : B7 b0 at1 size2 K w) : Gets Try.prog 7 #[.slice b0.a b0.len b0.cap, .int .i64 at1, .int .i64 size2] w K :=
  calls_of (sk := sk7) cl_ok mixed Try.func7 ok7 (args := [.slice b0.a b0.len b0.cap, .int .i64 at1, .int .i64 size2]) (Nat.le_of_ble_eq_true (by kernel_rfl)) (by rw [eq7]; exact h)

/-- (*jetway/jetwayref07.Whole).Put. -/
def B9 (w0 : Option Addr) (at1 : Int) (total2 : Int) (b3 : Sl) (K : Value → World → Prop) (w : World) : Prop :=
  ∃ (J : World → Prop), (Br (decide (total2 < 0))
     (K (.int .i64 1) w)
     (Br (decide (total2 > 65536))
       (K (.int .i64 1) w)
       (Br (decide (at1 < 0))
         (K (.int .i64 1) w)
         (Br (decide (at1 > total2))
           (K (.int .i64 1) w)
           (Br (decide ((↑b3.len : Int) > IntKind.i64.wrap (total2 - at1)))
             (K (.int .i64 1) w)
             (J  w)))))) ∧
  ∀ (z : Env)  (w_1 : World), J  w_1 →
  Br (at1 == 0)
   (New (.cells #[] 5 (0, 0)) (fun b_t35 w_2 =>
    ∃ w_3 : World, ∃ t37 : Sl, ((Builtin.append_ #[22, 22] 22 #[.slice ((some ⟨b_t35, 0, none⟩)) 0 0, .slice b3.a b3.len b3.cap]).run Try.prog w_2 = .ok (.slice t37.a t37.len t37.cap) w_3) ∧
    NilP w0 fun a_t38 =>
    ∃ w_4 : World, ((Instr.storeAt 22 (.pointer ((some (Addr.add a_t38 0)))) (.slice t37.a t37.len t37.cap)).run Try.prog w_3 = .ok () w_4) ∧
    NilP w0 fun a_t42 =>
    ∃ w_5 : World, ((Instr.storeAt 3 (.pointer ((some ⟨a_t42.block, a_t42.off + 1, none⟩))) (.int .i64 total2)).run Try.prog w_4 = .ok () w_5) ∧
    NilP w0 fun a_t45 =>
    ∃ w_6 : World, ((Instr.storeAt 4 (.pointer ((some ⟨a_t45.block, a_t45.off + 2, none⟩))) (.bool true)).run Try.prog w_5 = .ok () w_6) ∧
    K (.int .i64 0) w_6) w_1)
   (NilP w0 fun a_t48 =>
    ∃ t50 : Bool, (At (fun w' => w' = w_1) ⟨a_t48.block, a_t48.off + 2, none⟩ [.bool t50]) ∧
    Br (!t50)
     (K (.int .i64 7) w_1)
     (NilP w0 fun a_t55 =>
      ∃ t57 : Sl, (At (fun w' => w' = w_1) (Addr.add a_t55 0) [.slice t57.a t57.len t57.cap]) ∧
      Br (at1 != (↑t57.len : Int))
       (K (.int .i64 7) w_1)
       (NilP w0 fun a_t64 =>
        ∃ t66 : Int, (At (fun w' => w' = w_1) ⟨a_t64.block, a_t64.off + 1, none⟩ [.int .i64 t66]) ∧
        Br (total2 != t66)
         (K (.int .i64 7) w_1)
         (NilP w0 fun a_t71 =>
          ∃ t73 : Sl, (At (fun w' => w' = w_1) (Addr.add a_t71 0) [.slice t73.a t73.len t73.cap]) ∧
          ∃ w_7 : World, ∃ t75 : Sl, ((Builtin.append_ #[22, 22] 22 #[.slice t73.a t73.len t73.cap, .slice b3.a b3.len b3.cap]).run Try.prog w_1 = .ok (.slice t75.a t75.len t75.cap) w_7) ∧
          NilP w0 fun a_t76 =>
          ∃ w_8 : World, ((Instr.storeAt 22 (.pointer ((some (Addr.add a_t76 0)))) (.slice t75.a t75.len t75.cap)).run Try.prog w_7 = .ok () w_8) ∧
          K (.int .i64 0) w_8))))

def sk9 : Sk := (.seq .leaf (.cut [] [] [8, 9, 10, 11, 12, 13, 14, 15, 16, 17, 18, 19, 20, 21, 22, 23, 24, 25, 26, 27, 28, 29, 30, 31] .leaf .leaf))
theorem ok9 : fnOk Try.prog Try.f9.ntmps Try.f9 sk9 = true := by kernel_rfl
theorem eq9 (w0 : Option Addr) (at1 : Int) (total2 : Int) (b3 : Sl) (K : Value → World → Prop) (w : World) : fnF Try.prog cl Try.f9 sk9 [.pointer w0, .int .i64 at1, .int .i64 total2, .slice b3.a b3.len b3.cap] K w = B9 w0 at1 total2 b3 K w := by kernel_rfl
theorem call9 (w0 : Option Addr) (at1 : Int) (total2 : Int) (b3 : Sl) (K : Value → World → Prop) (w : World) (h : B9 w0 at1 total2 b3 K w) : Gets Try.prog 9 #[.pointer w0, .int .i64 at1, .int .i64 total2, .slice b3.a b3.len b3.cap] w K :=
  calls_of (sk := sk9) cl_ok mixed Try.func9 ok9 (args := [.pointer w0, .int .i64 at1, .int .i64 total2, .slice b3.a b3.len b3.cap]) (Nat.le_of_ble_eq_true (by kernel_rfl)) (by rw [eq9]; exact h)

/-- (*jetway/jetwayref07.Whole).Done. -/
def B11 (w0 : Option Addr) (K : Value → World → Prop) (w : World) : Prop :=
  Drw w fun S w_1 =>
  NilP w0 fun a_t5 =>
  ∃ t7 : Bool, (At S ⟨a_t5.block, a_t5.off + 2, none⟩ [.bool t7]) ∧
  Br (!t7)
   (K (.tuple #[.slice none 0 0, .bool false]) w_1)
   (NilP w0 fun a_t11 =>
    ∃ t13 : Sl, (At S (Addr.add a_t11 0) [.slice t13.a t13.len t13.cap]) ∧
    NilP w0 fun a_t16 =>
    ∃ t18 : Int, (At S ⟨a_t16.block, a_t16.off + 1, none⟩ [.int .i64 t18]) ∧
    Br ((↑t13.len : Int) != t18)
     (K (.tuple #[.slice none 0 0, .bool false]) w_1)
     (New (.cells #[] 5 (0, 0)) (fun b_t21 w_2 =>
      NilP w0 fun a_t23 =>
      ∃ t25 : Sl, (At (fun w' => w' = w_2) (Addr.add a_t23 0) [.slice t25.a t25.len t25.cap]) ∧
      ∃ w_3 : World, ∃ t26 : Sl, ((Builtin.append_ #[22, 22] 22 #[.slice ((some ⟨b_t21, 0, none⟩)) 0 0, .slice t25.a t25.len t25.cap]).run Try.prog w_2 = .ok (.slice t26.a t26.len t26.cap) w_3) ∧
      K (.tuple #[.slice t26.a t26.len t26.cap, .bool true]) w_3) w_1))

def sk11 : Sk := .leaf
theorem ok11 : fnOk Try.prog Try.f11.ntmps Try.f11 sk11 = true := by kernel_rfl
theorem eq11 (w0 : Option Addr) (K : Value → World → Prop) (w : World) : fnF Try.prog cl Try.f11 sk11 [.pointer w0] K w = B11 w0 K w := by kernel_rfl
theorem call11 (w0 : Option Addr) (K : Value → World → Prop) (w : World) (h : B11 w0 K w) : Gets Try.prog 11 #[.pointer w0] w K :=
  calls_of (sk := sk11) cl_ok mixed Try.func11 ok11 (args := [.pointer w0]) (Nat.le_of_ble_eq_true (by kernel_rfl)) (by rw [eq11]; exact h)

end Go.Proofs.Ytgfneeoponiibaa
/- The disk: its state, what its memory holds, and what its small functions give. Condition: none. -/
namespace Go.Proofs.Ytgfneeoponiibaa
open Go Go.VC

variable {R : Cx} {Hs Rest : List HP} {w : World}

/-! ### The state -/
structure Fl where
  b : List Int
  sure : Nat
abbrev Fs := List (ByteArray × Fl)
/-- How many bytes all have. -/
def total (fs : Fs) : Int := (fs.map fun e => (e.2.b.length : Int)).foldr (· + ·) 0
structure DS where
  room : Int
  fs : Fs
  fail : Int
  arm : Int
  off : Bool

/-! ### Names -/
def okCh (c : Int) : Bool := (decide (97 ≤ c) && decide (c ≤ 122)) || (decide (48 ≤ c) && decide (c ≤ 57)) || c == 46 || c == 45
def nameOk (s : ByteArray) : Bool := decide (s.size ≠ 0) && decide (s.size ≤ 64) && (bytesL s).all okCh

theorem eql_empty (s : ByteArray) : (s.toList == (ByteArray.mk #[]).toList) = decide (s.size = 0) := by
  have : (ByteArray.mk #[]).toList = [] := by rw [ByteArray.toList_eq]
  rw [ByteArray.toList_eq, this, show s.size = s.data.toList.length from (Array.length_toList (xs := s.data)).symm]
  cases s.data.toList <;> simp

theorem drop_get {α : Type} {l : List α} {k : Nat} (h : k < l.length) : l.drop k = l[k] :: l.drop (k + 1) := List.drop_eq_getElem_cons h

theorem named_spec {s : Sl} {names : List ByteArray} (hw : Sat R Hs w) (hs : Ro R s (names.map Value.string)) (hn : names.length ≤ 1000) :
    Gets Try.prog 49 #[.slice s.a s.len s.cap] w fun r w' => r = .bool (names.all nameOk) ∧ Sat R Hs w' := by
  have hl : s.len = names.length := by have := hs.len; simpa using this
  apply call49
  refine ⟨fun i w => ∃ k : Nat, i = k ∧ k ≤ names.length ∧ names.all nameOk = (names.drop k).all nameOk ∧ Sat R Hs w, fun i _ => names.length - i.toNat, ⟨0, rfl, Nat.zero_le _, rfl, hw⟩, ?_⟩
  rintro z _ w ⟨k, rfl, hk, he, hw⟩
  refine Br.mk (fun h => ?_) (fun h => ?_) <;> simp only [decide_eq_true_eq, decide_eq_false_iff_not] at h
  · have hk' : k < names.length := by omega
    rw [drop_get hk', List.all_cons] at he
    refine hs.idxStr (eqS hw) hk' ?_
    refine ⟨fun w => names[k].size ≠ 0 ∧ names[k].size ≤ 64 ∧ Sat R Hs w, ?_, ?_⟩
    · rw [eql_empty]
      refine Br.mk (fun h1 => ⟨?_, hw⟩) (fun h1 => Br.mk (fun h2 => ⟨?_, hw⟩) (fun h2 => ?_))
      · rw [he]; simp only [decide_eq_true_eq] at h1; simp [nameOk, h1]
      · rw [he]; simp only [decide_eq_true_eq] at h2; simp [nameOk]; omega
      · simp only [decide_eq_false_iff_not] at h1 h2; exact ⟨h1, by omega, hw⟩
    rintro z w ⟨h1, h2, hw⟩
    refine convB_rule Try.underlying9 Try.underlying22 Try.underlying5 hw fun t w hw => ?_
    have hbl := bytesL_len names[k]
    have hok : nameOk names[k] = (bytesL names[k]).all okCh := by simp [nameOk, h1, h2]
    have ht := Own.len hw
    rw [List.length_map] at ht
    refine ⟨fun j w => ∃ i : Nat, j = i ∧ i ≤ (bytesL names[k]).length ∧ nameOk names[k] = ((bytesL names[k]).drop i).all okCh ∧ Sat R (Own t 5 ((bytesL names[k]).map (Value.int .u8)) :: Hs) w, fun j _ => (bytesL names[k]).length - j.toNat, ⟨0, rfl, Nat.zero_le _, hok, hw⟩, ?_⟩
    rintro z _ w ⟨i, rfl, hi, hio, hw⟩
    refine Br.mk (fun h3 => ?_) (fun h3 => ?_) <;> simp only [decide_eq_true_eq, decide_eq_false_iff_not] at h3
    · have hi' : i < (bytesL names[k]).length := by omega
      rw [drop_get hi', List.all_cons] at hio
      refine Own.idx hw (eqS hw) hi' ?_
      generalize (bytesL names[k])[i] = c at hio
      rw [wrap64 (by omega) (by omega)]
      have yes : okCh c = true → (∃ i' : Nat, ((i : Int) + 1) = i' ∧ i' ≤ (bytesL names[k]).length ∧ nameOk names[k] = ((bytesL names[k]).drop i').all okCh ∧ Sat R (Own t 5 ((bytesL names[k]).map (Value.int .u8)) :: Hs) w) ∧
          (bytesL names[k]).length - ((i : Int) + 1).toNat < (bytesL names[k]).length - (i : Int).toNat := fun hc => by
        rw [hc, Bool.true_and] at hio
        exact ⟨⟨i + 1, by omega, by omega, hio, hw⟩, by omega⟩
      have no : okCh c = false → Value.bool false = .bool (names.all nameOk) ∧ Sat R Hs w := fun hc => by
        rw [hc, Bool.false_and] at hio
        rw [hio, Bool.false_and] at he
        exact ⟨by rw [he], hw.drop⟩
      have hd : okCh c = ((decide (97 ≤ c) && decide (c ≤ 122)) || (decide (48 ≤ c) && decide (c ≤ 57)) || c == 46 || c == 45) := rfl
      have p : ∀ {q : Prop} [Decidable q], decide q = true → q := of_decide_eq_true
      refine Br.mk (fun a1 => Br.mk (fun a2 => Br.mk (fun a3 => Br.mk (fun a4 => no ?_) (fun a4 => yes ?_)) (fun a3 => yes ?_)) (fun a2 => Br.mk (fun a3 => Br.mk (fun a4 => Br.mk (fun a5 => no ?_) (fun a5 => yes ?_)) (fun a4 => yes ?_)) (fun a3 => yes ?_)))
        (fun a1 => Br.mk (fun a2 => Br.mk (fun a3 => Br.mk (fun a4 => Br.mk (fun a5 => no ?_) (fun a5 => yes ?_)) (fun a4 => yes ?_)) (fun a3 => Br.mk (fun a4 => Br.mk (fun a5 => Br.mk (fun a6 => no ?_) (fun a6 => yes ?_)) (fun a5 => yes ?_)) (fun a4 => yes ?_))) (fun a2 => yes ?_))
      all_goals
        simp only [decide_eq_true_eq, decide_eq_false_iff_not, bne_iff_ne, ne_eq, bne_eq_false_iff_eq] at *
        simp only [okCh, Bool.or_eq_true, Bool.and_eq_true, decide_eq_true_eq, beq_iff_eq, Bool.or_eq_false_iff, Bool.and_eq_false_iff, decide_eq_false_iff_not, beq_eq_false_iff_ne, ne_eq]
        omega
    · have : i = (bytesL names[k]).length := by omega
      subst this
      rw [List.drop_length] at hio
      rw [hio] at he
      rw [wrap64 (by omega) (by omega)]
      exact ⟨⟨k + 1, by omega, by omega, by rw [he]; rfl, hw.drop⟩, by dsimp only; omega⟩
  · have : k = names.length := by omega
    subst this
    rw [List.drop_length] at he
    exact ⟨by rw [he]; rfl, hw⟩

end Go.Proofs.Ytgfneeoponiibaa
/- Slices of bytes: Clone. No condition. -/
namespace Go.Proofs.Ytgfneeoponiibaa
open Go Go.VC

variable {R : Cx} {Hs Rest : List HP} {w : World}

theorem _root_.Go.VC.Sat.re {A : HP} (B : HP) (h : Sat R (A :: Hs) w) (e : A = B := by rfl) : Sat R (B :: Hs) w := e ▸ h

abbrev b8 (l : List Int) : List Value := l.map (Value.int .u8)

theorem elB8 : El Try.prog 22 22 5 1 := ⟨Try.underlying22, ⟨_, Try.underlying22⟩, by kernel_rfl⟩

theorem one_b8 (xs : List Int) : oneAll (b8 xs) = true := by unfold oneAll; simp [Value.oneCell']

/-- A copy of bytes that are only read. -/
theorem clone_spec {s : Sl} {xs : List Int} (hs : Ro R s (b8 xs)) (hl : xs.length ≤ 1099511627776) (hw : Sat R Hs w) :
    Gets Try.prog 16 #[.slice s.a s.len s.cap] w fun r w' => ∃ t : Sl, r = .slice t.a t.len t.cap ∧ Sat R (Own t 5 (b8 xs) :: Hs) w' := by
  apply call16
  refine Br.mk (fun h => ?_) (fun h => ?_)
  · have hx : xs = [] := by
      by_cases hx : b8 xs = []
      · simpa using hx
      · obtain ⟨b, off, _, _, _, ha, _⟩ := hs.mem hx
        rw [ha] at h; cases h
    subst hx
    exact ⟨⟨none, 0, 0⟩, rfl, Own.nil hw⟩
  · refine new_rule hw fun b w hw => ?_
    have h0 : Sat R (Own ⟨some ⟨b, 0, none⟩, 0, 0⟩ 5 [] :: Hs) w := Own.of_pts (xs := []) (rest := []) hw
    have hsrc : Src Try.prog 1 22 (.slice s.a s.len s.cap) xs.length (b8 xs) w := by
      have := srcRo Try.underlying22 h0 hs (one_b8 xs)
      simpa using this
    have := append_rule (ty := 22) (K := fun t w' => ∃ u : Sl, Value.slice t.a t.len t.cap = .slice u.a u.len u.cap ∧ Sat R (Own u 5 (b8 xs) :: Hs) w') elB8 h0 hsrc rfl (by simp; omega) (by simp; omega) fun t w hw => ⟨t, rfl, by simpa using hw⟩
    exact this

end Go.Proofs.Ytgfneeoponiibaa
/- The disk: its memory, its small operations. Condition: none. -/
namespace Go.Proofs.Ytgfneeoponiibaa
open Go Go.VC

variable {R : Cx} {Hs Rest : List HP} {w : World}

/-- A file's struct and its bytes. -/
def FileAt (p : Nat) (f : Fl) : HP := exs fun s : Sl => Star [pts p (.cells [.slice s.a s.len s.cap, .int .i64 f.sure].toArray 91 (0, 0)), Own s 5 (b8 f.b)]
/-- Name, block, file. -/
abbrev DE := ByteArray × Nat × Fl
def er (E : List DE) : Fs := E.map fun e => (e.1, e.2.2)
def ptrs (E : List DE) : List (ByteArray × Value) := E.map fun e => (e.1, .pointer (some ⟨e.2.1, 0, none⟩))
def FilesAt (E : List DE) : HP := Star (E.map fun e => FileAt e.2.1 e.2.2)
/-- The disk's own cells. -/
abbrev dCells (st : DS) (m : Nat) : Obj := .cells [.int .i64 st.room, .int .i64 (total st.fs), .map (some m), .int .i64 st.fail, .int .i64 st.arm, .bool st.off].toArray 53 (0, 0)
def DiskAt (d : Nat) (st : DS) : HP := exs fun x : Nat × List DE => Star [pur (er x.2 = st.fs), pts d (dCells st x.1), MapAt x.1 (ptrs x.2), FilesAt x.2]

theorem Sat.disk {d : Nat} {st : DS} : Sat R (DiskAt d st :: Hs) w ↔ ∃ m E, er E = st.fs ∧ Sat R (pts d (dCells st m) :: MapAt m (ptrs E) :: FilesAt E :: Hs) w := by
  unfold DiskAt
  rw [Sat.exs]
  constructor
  · rintro ⟨⟨m, E⟩, h⟩
    have := Sat.star.1 h
    exact ⟨m, E, Sat.pur.1 this⟩
  · rintro ⟨m, E, h1, h2⟩
    exact ⟨⟨m, E⟩, Sat.star.2 (Sat.pur.2 ⟨h1, h2⟩)⟩

theorem Sat.file {p : Nat} {f : Fl} : Sat R (FileAt p f :: Hs) w ↔ ∃ s : Sl, Sat R (pts p (.cells [.slice s.a s.len s.cap, .int .i64 f.sure].toArray 91 (0, 0)) :: Own s 5 (b8 f.b) :: Hs) w := by
  unfold FileAt
  rw [Sat.exs]
  exact ⟨fun ⟨s, h⟩ => ⟨s, Sat.star.1 h⟩, fun ⟨s, h⟩ => ⟨s, Sat.star.2 h⟩⟩

/-- One of the files. -/
theorem Sat.split {a b : List DE} {e : DE} : Sat R (FilesAt (a ++ e :: b) :: Hs) w ↔ Sat R (FileAt e.2.1 e.2.2 :: FilesAt (a ++ b) :: Hs) w := by
  have p : ((a ++ e :: b).map fun e : DE => FileAt e.2.1 e.2.2).Perm (FileAt e.2.1 e.2.2 :: (a ++ b).map fun e : DE => FileAt e.2.1 e.2.2) := by
    rw [List.map_append, List.map_cons, List.map_append]; exact List.perm_middle
  unfold FilesAt
  constructor
  · intro h
    have h1 := (Sat.star.1 h).perm (p.append_right Hs)
    exact h1.cons fun _ h => Sat.star.2 h
  · intro h
    have h1 : Sat R ((FileAt e.2.1 e.2.2 :: (a ++ b).map fun e : DE => FileAt e.2.1 e.2.2) ++ Hs) w := h.cons fun _ h => Sat.star.1 h
    exact Sat.star.2 (h1.perm (p.symm.append_right Hs))

/-! ### New -/

def newErr (room : Int) : Int := if room < 1 ∨ room > 16777216 then 1 else 0

theorem new_spec (room : Int) (hw : Sat R Hs w) : Gets Try.prog 12 #[.int .i64 room] w fun v w' =>
    (newErr room = 1 ∧ v = .tuple #[.pointer none, .int .i64 1] ∧ Sat R Hs w') ∨
    (newErr room = 0 ∧ 1 ≤ room ∧ room ≤ 16777216 ∧ ∃ d, v = .tuple #[.pointer (some ⟨d, 0, none⟩), .int .i64 0] ∧ Sat R (DiskAt d ⟨room, [], -1, -1, false⟩ :: Hs) w') := by
  apply call12
  refine Br.mk (fun h => ?_) (fun h => Br.mk (fun h2 => ?_) (fun h2 => ?_)) <;> simp only [decide_eq_true_eq, decide_eq_false_iff_not] at h
  · exact .inl ⟨if_pos (.inl h), rfl, hw⟩
  · simp only [decide_eq_true_eq] at h2
    exact .inl ⟨if_pos (.inr h2), rfl, hw⟩
  · simp only [decide_eq_false_iff_not] at h2
    refine new_rule hw fun m w hw => new_rule hw fun d w hw => .inr ⟨if_neg (by omega), by omega, by omega, d, rfl, ?_⟩
    refine Sat.disk.2 ⟨m, [], rfl, hw.cons fun _ h => (MapAt.new rfl h).cons fun _ h => ?_⟩
    exact Sat.star.2 h

/-! ### Counting down, asking for something later -/

/-- What is left of a count; whether the moment is there. -/
def metN (n : Int) : Int × Bool := if n == -1 then (n, false) else (n - 1, n - 1 == -1)

theorem met_spec {b i : Nat} {l : List Value} {T : TypeId} {n : Int} (hw : Sat R (pts b (.cells l.toArray T (0, 0)) :: Hs) w) (hi : l[i]? = some (.int .i64 n)) (h0 : -1 ≤ n) (h1 : n < 9223372036854775808) :
    Gets Try.prog 60 #[.pointer (some ⟨b, i, none⟩)] w fun r w' => r = .bool (metN n).2 ∧ Sat R (pts b (.cells (l.set i (.int .i64 (metN n).1)).toArray T (0, 0)) :: Hs) w' := by
  have hlt : i < l.length := (List.getElem?_eq_some_iff.1 hi).1
  have hat : ∀ {w} {l : List Value} {v : Value}, Sat R (pts b (.cells l.toArray T (0, 0)) :: Hs) w → l[i]? = some v → At (fun w' => w' = w) ⟨b, i, none⟩ [v] := fun {w l v} hw hi => by
    refine At.own (eqS hw) ?_
    obtain ⟨h, rfl⟩ := List.getElem?_eq_some_iff.1 hi
    rw [List.drop_eq_getElem_cons h]; exact ⟨rfl, trivial⟩
  apply call60
  refine NilP.mk rfl ⟨n, hat hw hi, Br.mk (fun h => ?_) (fun h => ?_)⟩
  · refine ⟨by simp [metN, h], ?_⟩
    have : l.set i (.int .i64 (metN n).1) = l := by
      obtain ⟨h', e⟩ := List.getElem?_eq_some_iff.1 hi
      unfold metN; rw [if_pos h, ← e, List.set_getElem_self]
    rw [this]; exact hw
  · simp only [beq_eq_false_iff_ne, ne_eq] at h
    refine NilP.mk rfl ⟨n, hat hw hi, NilP.mk rfl ?_⟩
    rw [wrap64 (by omega) (by omega)]
    refine store_rule hw (by kernel_rfl) rfl (by simp [Value.cells]; omega) fun w' hw => ?_
    have e : putL l i (Value.int .i64 (n - 1)).cells.toList = l.set i (.int .i64 (n - 1)) := by simp [putL, Value.cells]
    rw [e] at hw
    refine NilP.mk rfl ⟨n - 1, hat hw (by simp [hlt]), ?_⟩
    unfold metN
    rw [if_neg (by simpa using h)]
    exact ⟨rfl, hw⟩

/-! ### A change -/

/-- Ahead of a change: what it leaves of the counts; its errno, 0: go on. -/
def chg (st : DS) (ok : Bool) : DS × Int :=
  if !ok then (st, 1)
  else if st.off then (st, 5)
  else if (metN st.arm).2 then ({ st with arm := (metN st.arm).1, off := true }, 5)
  else ({ st with arm := (metN st.arm).1, fail := (metN st.fail).1 }, if (metN st.fail).2 then 4 else 0)

/-- The counts are. -/
structure Counts (st : DS) : Prop where
  a0 : -1 ≤ st.arm
  a1 : st.arm < 9223372036854775808
  f0 : -1 ≤ st.fail
  f1 : st.fail < 9223372036854775808

theorem change_spec {d : Nat} {st : DS} {s : Sl} {names : List ByteArray} {make : Value} {Q : Int → World → Prop} (hw : Sat R (DiskAt d st :: Hs) w) (c : Counts st) (hs : Ro R s (names.map Value.string)) (hn : names.length ≤ 1000)
    (hmake : (chg st (names.all nameOk)).2 = 0 → ∀ w, Sat R (DiskAt d (chg st (names.all nameOk)).1 :: Hs) w → CalW Try.prog cl make [] w (fun e w' => ∃ n : Int, e = .returned (.int .i64 n) ∧ Q n w'))
    (herr : ∀ e, (chg st (names.all nameOk)).2 = e → e ≠ 0 → ∀ w, Sat R (DiskAt d (chg st (names.all nameOk)).1 :: Hs) w → Q e w) :
    Gets Try.prog 41 #[.pointer (some ⟨d, 0, none⟩), make, .slice s.a s.len s.cap] w fun r w' => ∃ n : Int, r = .int .i64 n ∧ Q n w' := by
  apply call41
  refine (named_spec hw hs hn).use ?_
  rintro _ w ⟨rfl, hw⟩
  refine ⟨_, rfl, Br.mk (fun h => ?_) (fun h => ?_)⟩
  · simp only [Bool.not_eq_true'] at h
    have e : chg st (names.all nameOk) = (st, 1) := by simp [chg, h]
    rw [e] at herr
    exact ⟨1, rfl, herr 1 rfl (by decide) w hw⟩
  simp only [Bool.not_eq_false'] at h
  rw [h] at hmake herr
  obtain ⟨m, E, hE, hw⟩ := Sat.disk.1 hw
  refine NilP.mk rfl ⟨st.off, At.own (eqS hw) (by exact ⟨rfl, trivial⟩), Br.mk (fun ho => ?_) (fun ho => NilP.mk rfl ?_)⟩
  · have e : chg st true = (st, 5) := by simp [chg, ho]
    rw [e] at herr
    exact ⟨5, rfl, herr 5 rfl (by decide) w (Sat.disk.2 ⟨m, E, hE, hw⟩)⟩
  refine (met_spec hw (i := 4) (n := st.arm) rfl c.a0 c.a1).use ?_
  rintro _ w ⟨rfl, hw⟩
  refine ⟨_, rfl, Br.mk (fun ha => NilP.mk rfl ?_) (fun ha => NilP.mk rfl ?_)⟩
  · have e : chg st true = ({ st with arm := (metN st.arm).1, off := true }, 5) := by simp [chg, ho, ha]
    rw [e] at herr
    refine store_rule hw (by kernel_rfl) rfl (by simp [Value.cells]) fun w hw => ?_
    exact ⟨5, rfl, herr 5 rfl (by decide) w (Sat.disk.2 ⟨m, E, hE, hw⟩)⟩
  refine (met_spec hw (i := 3) (n := st.fail) rfl c.f0 c.f1).use ?_
  rintro _ w ⟨rfl, hw⟩
  have hw : Sat R (DiskAt d { st with arm := (metN st.arm).1, fail := (metN st.fail).1 } :: Hs) w := Sat.disk.2 ⟨m, E, hE, hw⟩
  have e : chg st true = ({ st with arm := (metN st.arm).1, fail := (metN st.fail).1 }, if (metN st.fail).2 then 4 else 0) := by simp [chg, ho, ha]
  rw [e] at herr hmake
  refine ⟨_, rfl, Br.mk (fun hf => ?_) (fun hf => ?_)⟩
  · exact ⟨4, rfl, herr 4 (by simp [hf]) (by decide) w hw⟩
  · refine (hmake (by simp [hf]) w hw).mono ?_
    rintro _ w ⟨n, rfl, hq⟩
    exact ⟨n, rfl, n, rfl, hq⟩

end Go.Proofs.Ytgfneeoponiibaa
/- The disk: Append. Condition: none. -/
namespace Go.Proofs.Ytgfneeoponiibaa
open Go Go.VC

variable {R : Cx} {Hs Rest : List HP} {w : World}

/-! ### Plain: one file of many -/
def updM {β : Type} (k : ByteArray) (g : β → β) : List (ByteArray × β) → List (ByteArray × β)
  | [] => []
  | e :: es => if k == e.1 then (e.1, g e.2) :: es else e :: updM k g es

theorem ba_rfl (k : ByteArray) : (k == k) = true := (MapKept.bytes_beq k k).2 rfl
theorem ba_ne {a b : ByteArray} (h : a ≠ b) : (a == b) = false := by
  cases hc : (a == b)
  · rfl
  · exact absurd ((MapKept.bytes_beq a b).1 hc) h

theorem updM_app {β : Type} {k : ByteArray} {g : β → β} {v : β} : ∀ {a b : List (ByteArray × β)}, getM k a = none → updM k g (a ++ (k, v) :: b) = a ++ (k, g v) :: b
  | [], b, _ => by simp [updM, ba_rfl]
  | e :: a, b, h => by
    rw [getM] at h
    split at h
    · cases h
    · rename_i hne
      rw [List.cons_append, updM, if_neg hne, updM_app h]; rfl

theorem er_app (a b : List DE) : er (a ++ b) = er a ++ er b := by simp [er]
theorem er_cons (e : DE) (b : List DE) : er (e :: b) = (e.1, e.2.2) :: er b := rfl
theorem er_get (k : ByteArray) (E : List DE) : getM k (er E) = (getM k E).map (·.2) := getM_map (fun x : Nat × Fl => x.2) k E
theorem ptrs_get (k : ByteArray) (E : List DE) : getM k (ptrs E) = (getM k E).map fun x => .pointer (some ⟨x.1, 0, none⟩) := getM_map (fun x : Nat × Fl => Value.pointer (some ⟨x.1, 0, none⟩)) k E
theorem ptrs_app (a b : List DE) : ptrs (a ++ b) = ptrs a ++ ptrs b := by simp [ptrs]

theorem total_nil : total [] = 0 := rfl
theorem total_cons (e : ByteArray × Fl) (l : Fs) : total (e :: l) = e.2.b.length + total l := rfl
theorem total_app (a b : Fs) : total (a ++ b) = total a + total b := by
  induction a with
  | nil => simp [total_nil]
  | cons e a ih => rw [List.cons_append, total_cons, total_cons, ih]; omega
theorem total_nn (l : Fs) : 0 ≤ total l := by
  induction l with
  | nil => exact Int.le_refl 0
  | cons e l ih => rw [total_cons]; omega
theorem total_one {k : ByteArray} {f : Fl} (a b : Fs) : total (a ++ (k, f) :: b) = total (a ++ b) + f.b.length := by
  rw [total_app, total_cons, total_app]; simp only; omega

/-- A file that is not there is made. -/
def ensure (k : ByteArray) (fs : Fs) : Fs := if (getM k fs).isSome then fs else fs ++ [(k, ⟨[], 0⟩)]
def putB (k : ByteArray) (xs : List Int) (fs : Fs) : Fs := updM k (fun f => { f with b := f.b ++ xs }) (ensure k fs)

/-- No name twice. -/
def Uni (fs : Fs) : Prop := (fs.map (·.1)).Nodup
/-- No more is synced than there is. -/
def SureOk (fs : Fs) : Prop := ∀ e ∈ fs, e.2.sure ≤ e.2.b.length

/-- What is true of a disk. -/
structure Inv (st : DS) : Prop extends Counts st where
  r0 : 1 ≤ st.room
  r1 : st.room ≤ 16777216
  full : total st.fs ≤ st.room
  uni : Uni st.fs
  names : ∀ k ∈ st.fs.map (·.1), nameOk k = true
  sure : SureOk st.fs

theorem notin_of_getM {β : Type} {k : ByteArray} : ∀ {l : List (ByteArray × β)}, getM k l = none → k ∉ l.map (·.1)
  | [], _, h => by cases h
  | e :: l, h, hm => by
    rw [getM] at h
    split at h
    · cases h
    · rename_i hne
      rw [List.map_cons, List.mem_cons] at hm
      rcases hm with rfl | hm
      · exact hne (ba_rfl _)
      · exact notin_of_getM h hm
theorem getM_of_notin {β : Type} {k : ByteArray} : ∀ {l : List (ByteArray × β)}, k ∉ l.map (·.1) → getM k l = none
  | [], _ => rfl
  | e :: l, h => by
    rw [List.map_cons, List.mem_cons, not_or] at h
    rw [getM, if_neg (by rw [ba_ne h.1]; simp), getM_of_notin h.2]
theorem updM_keys {β : Type} (k : ByteArray) (g : β → β) : ∀ l : List (ByteArray × β), (updM k g l).map (·.1) = l.map (·.1)
  | [] => rfl
  | e :: l => by
    rw [updM]
    split
    · rename_i h; have := (MapKept.bytes_beq _ _).1 h; simp
    · rw [List.map_cons, List.map_cons, updM_keys k g l]
theorem uni_upd {k : ByteArray} {g : Fl → Fl} {fs : Fs} (h : Uni fs) : Uni (updM k g fs) := by unfold Uni; rw [updM_keys]; exact h
theorem sure_upd {k : ByteArray} {g : Fl → Fl} (hg : ∀ f : Fl, f.sure ≤ f.b.length → (g f).sure ≤ (g f).b.length) : ∀ {fs : Fs}, SureOk fs → SureOk (updM k g fs)
  | [], h => h
  | e :: fs, h => by
    have h0 := h e List.mem_cons_self
    have h1 : SureOk fs := fun x hx => h x (List.mem_cons_of_mem _ hx)
    rw [updM]
    intro x hx
    split at hx
    · rcases List.mem_cons.1 hx with rfl | hx
      · exact hg _ h0
      · exact h1 x hx
    · rcases List.mem_cons.1 hx with rfl | hx
      · exact h0
      · exact sure_upd hg h1 x hx

def appendG (st : DS) (k : ByteArray) (xs : List Int) : DS × Int :=
  if total st.fs + xs.length > st.room then (st, 3) else ({ st with fs := putB k xs st.fs }, 0)

theorem ensure_total (k : ByteArray) (fs : Fs) : total (ensure k fs) = total fs := by
  unfold ensure
  split
  · rfl
  · rw [total_app]; simp [total_cons, total_nil]

theorem uni_app {fs : Fs} (h : Uni fs) {k : ByteArray} {f : Fl} (hk : getM k fs = none) : Uni (fs ++ [(k, f)]) := by
  unfold Uni at *
  rw [List.map_append, List.nodup_append]
  refine ⟨h, by simp, fun x hx y hy => ?_⟩
  simp at hy
  subst hy
  intro he
  subst he
  exact notin_of_getM hk hx
theorem sure_app {fs : Fs} (h : SureOk fs) {k : ByteArray} {f : Fl} (hf : f.sure ≤ f.b.length) : SureOk (fs ++ [(k, f)]) := by
  intro x hx
  rcases List.mem_append.1 hx with hx | hx
  · exact h x hx
  · simp at hx; subst hx; exact hf
theorem uni_ensure {fs : Fs} (h : Uni fs) (k : ByteArray) : Uni (ensure k fs) := by
  unfold ensure; split
  · exact h
  · rename_i hk; exact uni_app h (by simpa using hk)
theorem sure_ensure {fs : Fs} (h : SureOk fs) (k : ByteArray) : SureOk (ensure k fs) := by
  unfold ensure; split
  · exact h
  · exact sure_app h (Nat.le_refl _)

abbrev box (b : Nat) (v : Value) (T : TypeId) : HP := pts b (.cells [v].toArray T (0, 0))

abbrev mapT : MapT Try.prog 51 ByteArray 9 83 (.pointer none) := ⟨Try.underlying51, Try.underlying9, Try.zeroValue83⟩

/-- The disk, laid open. -/
abbrev DO (d m : Nat) (E : List DE) (st : DS) (Hs : List HP) : List HP := pts d (dCells st m) :: MapAt m (ptrs E) :: FilesAt E :: Hs

theorem DO.look {d m : Nat} {E : List DE} {st : DS} (hw : Sat R (DO d m E st Hs) w) (k : ByteArray) (c : Bool) :
    (Instr.lookup 51 (.map (some m)) (.string k) c).run Try.prog w = .ok (if c then .tuple #[.pointer ((getM k E).map fun x => ⟨x.1, 0, none⟩), .bool (getM k E).isSome] else .pointer ((getM k E).map fun x => ⟨x.1, 0, none⟩)) w := by
  have h := MapAt.look mapT (hw.swap.cons fun _ h => h) k c
  rw [ptrs_get] at h
  have e : ((getM k E).map fun x => Value.pointer (some ⟨x.1, 0, none⟩)).getD (.pointer none) = .pointer ((getM k E).map fun x => ⟨x.1, 0, none⟩) := by cases getM k E <;> rfl
  have e2 : ((getM k E).map fun x => Value.pointer (some ⟨x.1, 0, none⟩)).isSome = (getM k E).isSome := by cases getM k E <;> rfl
  rw [e, e2] at h
  exact h

theorem append1_spec {d bd bb bn : Nat} {st : DS} {k : ByteArray} {x : Sl} {xs : List Int} (i : Inv st) (hx : Ro R x (b8 xs)) (hl : xs.length ≤ 1099511627776)
    (hw : Sat R (DiskAt d st :: box bd (.pointer (some ⟨d, 0, none⟩)) 41 :: box bb (.slice x.a x.len x.cap) 22 :: box bn (.string k) 9 :: Hs) w) :
    Gets Try.prog 45 #[.pointer (some ⟨bd, 0, none⟩), .pointer (some ⟨bb, 0, none⟩), .pointer (some ⟨bn, 0, none⟩)] w fun r w' => r = .int .i64 (appendG st k xs).2 ∧
      Sat R (DiskAt d (appendG st k xs).1 :: box bd (.pointer (some ⟨d, 0, none⟩)) 41 :: box bb (.slice x.a x.len x.cap) 22 :: box bn (.string k) 9 :: Hs) w' := by
  have hxl : x.len = xs.length := by have := hx.len; simpa using this
  have hnn := total_nn st.fs
  have r0 := i.r0; have r1 := i.r1; have hfull := i.full
  apply call45
  obtain ⟨m, E, hE, hw⟩ := Sat.disk.1 hw
  refine drw_rule hw fun w hw => ?_
  refine NilP.mk rfl ⟨some ⟨d, 0, none⟩, At.own selfS (by exact ⟨rfl, trivial⟩), NilP.mk rfl ⟨total st.fs, At.own selfS (by exact ⟨rfl, trivial⟩), NilP.mk rfl ⟨x, At.own selfS (by exact ⟨rfl, trivial⟩), NilP.mk rfl ⟨some ⟨d, 0, none⟩, At.own selfS (by exact ⟨rfl, trivial⟩), NilP.mk rfl ⟨st.room, by rw [add_off]; exact At.own selfS (by exact ⟨rfl, trivial⟩), ?_⟩⟩⟩⟩⟩
  rw [wrap64 (by omega) (by omega)]
  refine Br.mk (fun h => ?_) (fun h => ?_) <;> simp only [decide_eq_true_eq, decide_eq_false_iff_not] at h
  · have e : appendG st k xs = (st, 3) := if_pos (by omega)
    rw [e]; exact ⟨rfl, Sat.disk.2 ⟨m, E, hE, hw⟩⟩
  have e : appendG st k xs = ({ st with fs := putB k xs st.fs }, 0) := if_neg (by omega)
  rw [e]
  refine drw_rule hw fun w hw => ?_
  refine NilP.mk rfl ⟨some ⟨d, 0, none⟩, At.own selfS (by exact ⟨rfl, trivial⟩), NilP.mk rfl ⟨some m, At.own selfS (by exact ⟨rfl, trivial⟩), NilP.mk rfl ⟨k, At.own selfS (by exact ⟨rfl, trivial⟩), _, _, fun w' hw' => DO.look hw' k true, ?_⟩⟩⟩
  refine ⟨fun p w => ∃ q a b f, p = some ⟨q, 0, none⟩ ∧ getM k a = none ∧ er (a ++ (k, q, f) :: b) = ensure k st.fs ∧
    Sat R (DO d m (a ++ (k, q, f) :: b) st (box bd (.pointer (some ⟨d, 0, none⟩)) 41 :: box bb (.slice x.a x.len x.cap) 22 :: box bn (.string k) 9 :: Hs)) w, ?_, ?_⟩
  · refine Br.mk (fun hk => ?_) (fun hk => ?_)
    · simp only [Bool.not_eq_true', Option.isSome_eq_false_iff, Option.isNone_iff_eq_none] at hk
      have hk2 : getM k st.fs = none := by rw [← hE, er_get, hk]; rfl
      refine new_rule hw fun q w hw => drw_rule hw fun w hw => ?_
      refine NilP.mk rfl ⟨some ⟨d, 0, none⟩, At.own selfS (by exact ⟨rfl, trivial⟩), NilP.mk rfl ⟨some m, At.own selfS (by exact ⟨rfl, trivial⟩), NilP.mk rfl ⟨k, At.own selfS (by exact ⟨rfl, trivial⟩), ?_⟩⟩⟩
      have hw2 := hw.take (MapAt m (ptrs E))
      refine MapAt.put mapT hw2 k (.pointer (some ⟨q, 0, none⟩)) fun w hw => ⟨q, E, [], ⟨[], 0⟩, rfl, hk, ?_, ?_⟩
      · rw [er_app, hE]; simp [ensure, hk2, er]
      · have ep : putM k (.pointer (some ⟨q, 0, none⟩)) (ptrs E) = ptrs (E ++ [(k, q, ⟨[], 0⟩)]) := by
          unfold putM; rw [ptrs_get, hk]; simp [ptrs]
        rw [ep] at hw
        have hw := hw.take (pts d (dCells st m))
        refine hw.cons fun _ h => h.cons fun _ h => ?_
        refine Sat.split.2 (Sat.file.2 ⟨⟨none, 0, 0⟩, ?_⟩)
        rw [List.append_nil]
        exact h.cons fun _ h => Own.nil h
    · simp only [Bool.not_eq_false'] at hk
      obtain ⟨⟨q, f⟩, hf⟩ := Option.isSome_iff_exists.1 hk
      obtain ⟨a, b, rfl, ha⟩ := getM_split hf
      rw [hf]
      refine ⟨q, a, b, f, rfl, ha, ?_, hw⟩
      rw [hE]; unfold ensure
      rw [if_pos]; rw [← hE, er_get, hf]; rfl
  rintro z _ w ⟨q, a, b, f, rfl, ha, hE2, hw⟩
  have ht2 : total (er (a ++ (k, q, f) :: b)) = total st.fs := by rw [hE2, ensure_total]
  rw [er_app, er_cons, total_one] at ht2
  have hnn2 := total_nn (er a ++ er b)
  simp only at ht2
  -- the file is opened
  have hw : Sat R (FilesAt (a ++ (k, q, f) :: b) :: pts d (dCells st m) :: MapAt m (ptrs (a ++ (k, q, f) :: b)) :: box bd (.pointer (some ⟨d, 0, none⟩)) 41 :: box bb (.slice x.a x.len x.cap) 22 :: box bn (.string k) 9 :: Hs) w := (hw.cons fun _ h => h.swap).swap
  obtain ⟨s, hw⟩ := Sat.file.1 (Sat.split.1 hw)
  refine drw_rule hw fun w hw => ?_
  refine NilP.mk rfl ⟨s, by rw [add_off]; exact At.own selfS (by exact ⟨rfl, trivial⟩), NilP.mk rfl ⟨x, At.own selfS (by exact ⟨rfl, trivial⟩), ?_⟩⟩
  have el : El Try.prog 22 22 5 1 := ⟨Try.underlying22, ⟨_, Try.underlying22⟩, by kernel_rfl⟩
  have hwo := hw.swap
  have hsrc : Src Try.prog 1 22 (.slice x.a x.len x.cap) xs.length (b8 xs) w := by
    have := srcRo Try.underlying22 hwo hx (by unfold oneAll; simp [Value.oneCell'])
    simpa using this
  refine append_rule (K := fun t w' => NilP (some ⟨q, 0, none⟩) fun a_t44 => ∃ w_9 : World, ((Instr.storeAt 22 (.pointer ((some (Addr.add a_t44 0)))) (.slice t.a t.len t.cap)).run Try.prog w' = .ok () w_9) ∧ _) el hwo hsrc (by unfold oneAll; simp [Value.oneCell']) (by simp; omega) (by simp; omega) fun t w hw => NilP.mk rfl ?_
  rw [add_off]
  refine store_rule hw (by kernel_rfl) rfl (by simp [Value.cells]) fun w hw => ?_
  have hw : Sat R (pts q (.cells [.slice t.a t.len t.cap, .int .i64 f.sure].toArray 91 (0, 0)) :: Own t 5 (b8 (f.b ++ xs)) :: FilesAt (a ++ b) :: pts d (dCells st m) :: MapAt m (ptrs (a ++ (k, q, f) :: b)) :: box bd (.pointer (some ⟨d, 0, none⟩)) 41 :: box bb (.slice x.a x.len x.cap) 22 :: box bn (.string k) 9 :: Hs) w := by
    rw [show b8 (f.b ++ xs) = b8 f.b ++ b8 xs by simp]; exact hw
  have hw : Sat R (FilesAt (a ++ (k, q, { f with b := f.b ++ xs }) :: b) :: pts d (dCells st m) :: MapAt m (ptrs (a ++ (k, q, f) :: b)) :: box bd (.pointer (some ⟨d, 0, none⟩)) 41 :: box bb (.slice x.a x.len x.cap) 22 :: box bn (.string k) 9 :: Hs) w :=
    Sat.split.2 (Sat.file.2 ⟨t, hw⟩)
  refine drw_rule hw fun w hw => ?_
  refine NilP.mk rfl ⟨some ⟨d, 0, none⟩, At.own selfS (by exact ⟨rfl, trivial⟩), NilP.mk rfl ⟨total st.fs, At.own selfS (by exact ⟨rfl, trivial⟩), NilP.mk rfl ⟨x, At.own selfS (by exact ⟨rfl, trivial⟩), NilP.mk rfl ?_⟩⟩⟩
  rw [wrap64 (by omega) (by omega)]
  refine store_rule hw (by kernel_rfl) rfl (by simp [Value.cells]) fun w hw => ⟨rfl, ?_⟩
  refine Sat.disk.2 ⟨m, a ++ (k, q, { f with b := f.b ++ xs }) :: b, ?_, ?_⟩
  · simp only [putB]
    rw [← hE2, er_app, er_cons, er_app, er_cons, updM_app]
    rw [er_get, ha]; rfl
  · have ep : ptrs (a ++ (k, q, { f with b := f.b ++ xs }) :: b) = ptrs (a ++ (k, q, f) :: b) := by simp [ptrs]
    have et : total (putB k xs st.fs) = total st.fs + x.len := by
      unfold putB
      rw [← hE2, er_app, er_cons, updM_app (by rw [er_get, ha]; rfl), total_one, ← ht2, hxl]
      simp; omega
    rw [ep]
    have hw := hw.cons fun _ h => h.swap
    unfold dCells
    simp only [et]
    exact hw

end Go.Proofs.Ytgfneeoponiibaa
/- The disk: Append, whole; what is true of a disk stays so; DiskFails. Condition: none. -/
namespace Go.Proofs.Ytgfneeoponiibaa
open Go Go.VC

variable {R : Cx} {Hs Rest : List HP} {w : World}

theorem metN_bd {n : Int} (h0 : -1 ≤ n) (h1 : n < 9223372036854775808) : -1 ≤ (metN n).1 ∧ (metN n).1 < 9223372036854775808 := by
  unfold metN
  split
  · exact ⟨h0, h1⟩
  · rename_i h; simp at h; exact ⟨by simp only; omega, by simp only; omega⟩

theorem chg_counts {st : DS} (c : Counts st) (ok : Bool) : Counts (chg st ok).1 := by
  have ha := metN_bd c.a0 c.a1
  have hf := metN_bd c.f0 c.f1
  unfold chg
  split
  · exact c
  split
  · exact c
  split
  · exact ⟨ha.1, ha.2, c.f0, c.f1⟩
  · exact ⟨ha.1, ha.2, hf.1, hf.2⟩
theorem chg_fs (st : DS) (ok : Bool) : (chg st ok).1.fs = st.fs ∧ (chg st ok).1.room = st.room := by
  unfold chg
  split
  · exact ⟨rfl, rfl⟩
  split
  · exact ⟨rfl, rfl⟩
  split <;> exact ⟨rfl, rfl⟩
theorem chg_inv {st : DS} (i : Inv st) (ok : Bool) : Inv (chg st ok).1 := by
  obtain ⟨h1, h2⟩ := chg_fs st ok
  exact { toCounts := chg_counts i.toCounts ok, r0 := by rw [h2]; exact i.r0, r1 := by rw [h2]; exact i.r1, full := by rw [h1, h2]; exact i.full, uni := by rw [h1]; exact i.uni, names := by rw [h1]; exact i.names, sure := by rw [h1]; exact i.sure }

/-- A change of so many names: what it is to do is g. -/
def doing (st : DS) (ok : Bool) (g : DS → DS × Int) : DS × Int := if (chg st ok).2 = 0 then g (chg st ok).1 else chg st ok

def appendD (st : DS) (k : ByteArray) (xs : List Int) : DS × Int := doing st (nameOk k) fun st => appendG st k xs

theorem all_one (k : ByteArray) : [k].all nameOk = nameOk k := by simp

/-- A name, given as the one of a list. -/
theorem ro_one {b : Nat} {k : ByteArray} {T : TypeId} (hc : R.m b = .none) : Ro (R.add (Heap.one b (.cells [.string k].toArray T (0, 0)))) ⟨some ⟨b, 0, none⟩, 1, 1⟩ ([k].map Value.string) :=
  ⟨rfl, by simp, fun _ => ⟨b, 0, _, T, (0, 0), rfl, Cx.lent hc, fun i v h => by simpa using h⟩⟩
theorem ro_two {b : Nat} {k k2 : ByteArray} {T : TypeId} (hc : R.m b = .none) : Ro (R.add (Heap.one b (.cells [.string k, .string k2].toArray T (0, 0)))) ⟨some ⟨b, 0, none⟩, 2, 2⟩ ([k, k2].map Value.string) :=
  ⟨rfl, by simp, fun _ => ⟨b, 0, _, T, (0, 0), rfl, Cx.lent hc, fun i v h => by simpa using h⟩⟩

theorem append_spec {d : Nat} {st : DS} {k : ByteArray} {x : Sl} {xs : List Int} (i : Inv st) (hx : Ro R x (b8 xs)) (hl : xs.length ≤ 1099511627776) (hw : Sat R (DiskAt d st :: Hs) w) :
    Gets Try.prog 25 #[.pointer (some ⟨d, 0, none⟩), .string k, .slice x.a x.len x.cap] w fun r w' => r = .int .i64 (appendD st k xs).2 ∧ Sat R (DiskAt d (appendD st k xs).1 :: Hs) w' := by
  apply call25
  refine new_rule hw fun bd w hw => new_rule hw fun bn w hw => new_rule hw fun bb w hw => ?_
  have hw : Sat R (box bb (.slice x.a x.len x.cap) 22 :: box bn (.string k) 9 :: box bd (.pointer (some ⟨d, 0, none⟩)) 41 :: DiskAt d st :: Hs) w := hw
  refine ⟨some ⟨d, 0, none⟩, At.own (eqS hw) (by exact ⟨rfl, trivial⟩), k, At.own (eqS hw) (by exact ⟨rfl, trivial⟩), new_rule hw fun bt w hw => ?_⟩
  obtain ⟨hc, hw⟩ := Sat.lend.1 hw
  have hw := hw.take (DiskAt d st)
  refine (change_spec (Q := fun n w => n = (appendD st k xs).2 ∧ Sat R (DiskAt d (appendD st k xs).1 :: Hs) w) hw i.toCounts (ro_one hc) (by simp) ?_ ?_).use ?_
  · rw [all_one]
    intro h0 w hw
    have e : appendD st k xs = appendG (chg st (nameOk k)).1 k xs := if_pos h0
    rw [e]
    have hw : Sat (R.add (Heap.one bt (.cells [.string k].toArray 9 (0, 0)))) (DiskAt d (chg st (nameOk k)).1 :: box bd (.pointer (some ⟨d, 0, none⟩)) 41 :: box bb (.slice x.a x.len x.cap) 22 :: box bn (.string k) 9 :: Hs) w :=
      hw.cons fun _ h => (h.take (box bd (.pointer (some ⟨d, 0, none⟩)) 41))
    refine (append1_spec (chg_inv i _) hx.add hl hw).use ?_
    rintro _ w ⟨rfl, hw⟩
    refine ⟨_, rfl, rfl, ?_⟩
    exact (Sat.lend.2 ⟨hc, hw⟩).drop.cons fun _ h => h.drop.drop.drop
  · rw [all_one]
    intro e h0 hne w hw
    have e2 : appendD st k xs = chg st (nameOk k) := if_neg (by rw [h0]; exact hne)
    rw [e2]
    exact ⟨h0.symm, (Sat.lend.2 ⟨hc, hw⟩).drop.cons fun _ h => h.drop.drop.drop⟩
  · rintro _ w ⟨n, rfl, rfl, hw⟩
    exact ⟨_, rfl, rfl, hw⟩

theorem putB_total (k : ByteArray) (xs : List Int) (fs : Fs) : total (putB k xs fs) = total fs + xs.length := by
  have hsome : (getM k (ensure k fs)).isSome = true := by
    unfold ensure
    split
    · assumption
    · rename_i h
      have : getM k fs = none := by simpa using h
      rw [getM_app this (ba_rfl k)]; rfl
  obtain ⟨f, hf⟩ := Option.isSome_iff_exists.1 hsome
  obtain ⟨a, b, e, ha⟩ := getM_split hf
  have h1 := ensure_total k fs
  unfold putB
  rw [e] at h1 ⊢
  rw [total_one] at h1
  rw [updM_app ha, total_one, ← h1]
  simp; omega

theorem chg_ok {st : DS} {ok : Bool} (h : (chg st ok).2 = 0) : ok = true := by
  cases ok
  · unfold chg at h; simp at h
  · rfl
theorem names_ensure {k : ByteArray} {fs : Fs} (hk : nameOk k = true) (h : ∀ x ∈ fs.map (·.1), nameOk x = true) : ∀ x ∈ (ensure k fs).map (·.1), nameOk x = true := by
  unfold ensure
  by_cases hc : (getM k fs).isSome = true
  · rw [if_pos hc]; exact h
  · rw [if_neg hc]
    intro x hx
    rw [List.map_append, List.mem_append] at hx
    rcases hx with hx | hx
    · exact h x hx
    · simp at hx; subst hx; exact hk
theorem appendG_inv {st : DS} (i : Inv st) {k : ByteArray} (hk : nameOk k = true) (xs : List Int) : Inv (appendG st k xs).1 := by
  unfold appendG
  split
  · exact i
  · exact { toCounts := ⟨i.a0, i.a1, i.f0, i.f1⟩, r0 := i.r0, r1 := i.r1, full := by simp only [putB_total]; omega, uni := uni_upd (uni_ensure i.uni k), names := by simp only [putB, updM_keys]; exact names_ensure hk i.names, sure := sure_upd (fun f h => by simp; omega) (sure_ensure i.sure k) }
theorem appendD_inv {st : DS} (i : Inv st) (k : ByteArray) (xs : List Int) : Inv (appendD st k xs).1 := by
  unfold appendD doing
  split
  · rename_i h; exact appendG_inv (chg_inv i _) (chg_ok h) xs
  · exact chg_inv i _

theorem inv_new {room : Int} (h0 : 1 ≤ room) (h1 : room ≤ 16777216) : Inv ⟨room, [], -1, -1, false⟩ :=
  { a0 := by simp, a1 := by simp, f0 := by simp, f1 := by simp, r0 := h0, r1 := h1, full := by show total [] ≤ room; rw [total_nil]; omega, uni := List.nodup_nil, names := fun _ h => (by cases h), sure := fun _ h => by cases h }

/-- One byte, given as a literal. -/
theorem ro_byte {b : Nat} {x : Int} (hc : R.m b = .none) : Ro (R.add (Heap.one b (.cells [.int .u8 x].toArray 5 (0, 0)))) ⟨some ⟨b, 0, none⟩, 1, 1⟩ (b8 [x]) :=
  ⟨rfl, by simp, fun _ => ⟨b, 0, _, 5, (0, 0), rfl, Cx.lent hc, fun i v h => by simpa using h⟩⟩

/-- The disk that all those laws begin with. -/
theorem new_ok {room : Int} (h0 : 1 ≤ room) (h1 : room ≤ 16777216) (hw : Sat R Hs w) : Gets Try.prog 12 #[.int .i64 room] w fun v w' =>
    ∃ d, v = .tuple #[.pointer (some ⟨d, 0, none⟩), .int .i64 0] ∧ Sat R (DiskAt d ⟨room, [], -1, -1, false⟩ :: Hs) w' :=
  Calls.mono (new_spec room hw) fun e w' ⟨v, he, h⟩ => by
    rcases h with ⟨hn, _⟩ | ⟨_, _, _, d, hv, hw⟩
    · unfold newErr at hn; rw [if_neg (by omega)] at hn; cases hn
    · exact ⟨v, he, d, hv, hw⟩

/-! ### DiskFails -/

/-- Behind i of these appends. -/
structure FailsAt (n : Int) (i : Nat) (st : DS) : Prop where
  inv : Inv st
  room : st.room = 10000
  size : total st.fs ≤ 1 + i
  arm : st.arm = -1
  off : st.off = false
  fail : st.fail = if (i : Int) ≤ n then n - i else -1

theorem append_fail {room : Int} {fs : Fs} {k : ByteArray} (xs : List Int) (hk : nameOk k = true) : appendD ⟨room, fs, 0, -1, false⟩ k xs = (⟨room, fs, -1, -1, false⟩, 4) := by
  unfold appendD; rw [hk]; rfl

theorem append_done {room fail : Int} {fs : Fs} {k : ByteArray} {xs : List Int} (hk : nameOk k = true) (hf : (metN fail).2 = false) (ht : total fs + xs.length ≤ room) :
    appendD ⟨room, fs, fail, -1, false⟩ k xs = (⟨room, putB k xs fs, (metN fail).1, -1, false⟩, 0) := by
  have e : chg ⟨room, fs, fail, -1, false⟩ true = (⟨room, fs, (metN fail).1, -1, false⟩, 0) := by
    unfold chg
    simp only [hf]
    rfl
  unfold appendD doing
  rw [hk, e, if_pos rfl]
  exact if_neg (by simp only; omega)

theorem fails_step {n : Int} {i : Nat} {st : DS} {k : ByteArray} (hn : 0 ≤ n) (hn2 : n ≤ 100) (hi : (i : Int) < n + 3) (hk : nameOk k = true) (h : FailsAt n i st) :
    FailsAt n (i + 1) (appendD st k [2]).1 ∧ ((i : Int) = n → (appendD st k [2]).2 = 4 ∧ total (appendD st k [2]).1.fs = total st.fs) ∧ ((i : Int) ≠ n → (appendD st k [2]).2 = 0 ∧ total (appendD st k [2]).1.fs = total st.fs + 1) := by
  have hinv := appendD_inv h.inv k [2]
  obtain ⟨room, fs, fail, arm, off⟩ := st
  obtain ⟨_, hr, hs, ha, ho, hf⟩ := h
  simp only at hr hs ha ho hf
  subst hr ha ho
  by_cases hin : (i : Int) = n
  · have hf0 : fail = 0 := by rw [hf, if_pos (by omega)]; omega
    subst hf0
    rw [append_fail [2] hk] at hinv ⊢
    refine ⟨⟨hinv, rfl, by simp only; omega, rfl, rfl, ?_⟩, fun _ => ⟨rfl, rfl⟩, fun hne => absurd hin hne⟩
    rw [if_neg (by omega)]
  · have e : (metN fail).2 = false ∧ (metN fail).1 = if ((i + 1 : Nat) : Int) ≤ n then n - (i + 1 : Nat) else -1 := by
      by_cases hlt : (i : Int) ≤ n
      · have hfi : fail = n - i := by rw [hf, if_pos hlt]
        have h1 : ¬ (fail == -1) = true := by simp; omega
        unfold metN
        rw [if_neg h1, if_pos (by omega)]
        exact ⟨by simp; omega, by simp only; omega⟩
      · have hfi : fail = -1 := by rw [hf, if_neg hlt]
        rw [hfi, if_neg (by omega)]; exact ⟨rfl, rfl⟩
    have ht := putB_total k [2] fs
    simp only [List.length_cons, List.length_nil] at ht
    rw [append_done hk e.1 (by simp; omega), e.2] at hinv ⊢
    refine ⟨⟨hinv, rfl, by simp only; omega, rfl, rfl, rfl⟩, fun h => absurd h hin, fun _ => ⟨rfl, by simp only; omega⟩⟩

end Go.Proofs.Ytgfneeoponiibaa
/- The disk: Sync, Unlink, Rename, Read. Condition: none. -/
namespace Go.Proofs.Ytgfneeoponiibaa
open Go Go.VC

variable {R : Cx} {Hs Rest : List HP} {w : World}

instance TakeP.app {b : Nat} {X Hs : List HP} {o : Obj} {Rest : List HP} [t : TakeP b Hs o Rest] : TakeP b (X ++ Hs) o (X ++ Rest) :=
  ⟨(t.perm.append_left X).trans List.perm_middle⟩

/-- The boxes of a change of one name. -/
abbrev bx (bm bn bd d : Nat) (v : Value) (k : ByteArray) (Hs : List HP) : List HP :=
  box bm v 88 :: box bn (.string k) 9 :: box bd (.pointer (some ⟨d, 0, none⟩)) 41 :: Hs

theorem with_spec {d : Nat} {k : ByteArray} {v : Value} (hv : v.cells = #[v]) (hw : Sat R Hs w) :
    Gets Try.prog 42 #[.pointer (some ⟨d, 0, none⟩), .string k, v] w fun r w' => ∃ bm bn bd, r = .func (.func 61) #[] #[.pointer (some ⟨bd, 0, none⟩), .pointer (some ⟨bn, 0, none⟩), .pointer (some ⟨bm, 0, none⟩)] ∧ Sat R (bx bm bn bd d v k Hs) w' := by
  apply call42
  refine new_rule hw fun bd w hw => new_rule hw fun bn w hw => ?_
  rw [hv]
  exact new_rule hw fun bm w hw => ⟨bm, bn, bd, rfl, hw⟩

theorem with1_spec {d bm bn bd : Nat} {st : DS} {k : ByteArray} {v : Value} {Q : Int → World → Prop} (hw : Sat R (DiskAt d st :: bx bm bn bd d v k Hs) w)
    (hm : ∀ m a q f b w, getM k a = none → er (a ++ (k, q, f) :: b) = st.fs → Sat R (DO d m (a ++ (k, q, f) :: b) st (bx bm bn bd d v k Hs)) w →
      CalW Try.prog cl v [.pointer (some ⟨q, 0, none⟩)] w (fun e w' => e = .returned (.tuple #[]) ∧ Q 0 w'))
    (hn : getM k st.fs = none → ∀ w, Sat R (DiskAt d st :: bx bm bn bd d v k Hs) w → Q 2 w) :
    Gets Try.prog 61 #[.pointer (some ⟨bd, 0, none⟩), .pointer (some ⟨bn, 0, none⟩), .pointer (some ⟨bm, 0, none⟩)] w fun r w' => ∃ n : Int, r = .int .i64 n ∧ Q n w' := by
  apply call61
  obtain ⟨m, E, hE, hw⟩ := Sat.disk.1 hw
  refine drw_rule hw fun w hw => ?_
  refine NilP.mk rfl ⟨some ⟨d, 0, none⟩, At.own selfS (by exact ⟨rfl, trivial⟩), NilP.mk rfl ⟨some m, At.own selfS (by exact ⟨rfl, trivial⟩), NilP.mk rfl ⟨k, At.own selfS (by exact ⟨rfl, trivial⟩), _, _, fun w' hw' => DO.look hw' k true, ?_⟩⟩⟩
  refine Br.mk (fun hk => ?_) (fun hk => ?_)
  · simp only [Bool.not_eq_true', Option.isSome_eq_false_iff, Option.isNone_iff_eq_none] at hk
    exact ⟨2, rfl, hn (by rw [← hE, er_get, hk]; rfl) w (Sat.disk.2 ⟨m, E, hE, hw⟩)⟩
  · simp only [Bool.not_eq_false'] at hk
    obtain ⟨⟨q, f⟩, hf⟩ := Option.isSome_iff_exists.1 hk
    obtain ⟨a, b, rfl, ha⟩ := getM_split hf
    rw [hf]
    refine NilP.mk rfl ⟨v, At.own (eqS hw) (by exact ⟨rfl, trivial⟩), (hm m a q f b w ha hE hw).mono ?_⟩
    rintro _ w ⟨rfl, hq⟩
    exact ⟨rfl, 0, rfl, hq⟩

/-- A change of one name, with a function that is called on its file. -/
theorem one_spec {d : Nat} {st : DS} {k : ByteArray} {v : Value} (g : DS → DS × Int) (i : Inv st) (hv : v.cells = #[v]) (hw : Sat R (DiskAt d st :: Hs) w)
    (hm : ∀ (R : Cx) (X : List HP) st m a q f b w, Inv st → getM k a = none → er (a ++ (k, q, f) :: b) = st.fs → Sat R (DO d m (a ++ (k, q, f) :: b) st (X ++ Hs)) w →
      CalW Try.prog cl v [.pointer (some ⟨q, 0, none⟩)] w (fun e w' => e = .returned (.tuple #[]) ∧ (g st).2 = 0 ∧ Sat R (DiskAt d (g st).1 :: (X ++ Hs)) w'))
    (hn : ∀ st, getM k st.fs = none → g st = (st, 2)) :
    Gets Try.prog 42 #[.pointer (some ⟨d, 0, none⟩), .string k, v] w fun c w => ∃ Hs', Sat R (DiskAt d st :: Hs') w ∧ (∀ R w, Sat R Hs' w → Sat R Hs w) ∧
      ∀ (R' : Cx) (s : Sl) (ks : List ByteArray) w, Sat R' (DiskAt d st :: Hs') w → Ro R' s (ks.map Value.string) → ks.length ≤ 1000 →
        Gets Try.prog 41 #[.pointer (some ⟨d, 0, none⟩), c, .slice s.a s.len s.cap] w fun r w' => r = .int .i64 (doing st (ks.all nameOk) g).2 ∧ Sat R' (DiskAt d (doing st (ks.all nameOk) g).1 :: Hs') w' := by
  refine (with_spec hv hw).mono ?_
  rintro _ w ⟨bm, bn, bd, rfl, hw⟩
  refine ⟨bx bm bn bd d v k Hs, hw.take (DiskAt d st), fun R w h => h.drop.drop.drop, fun R' s ks w hw hs hks => ?_⟩
  refine (change_spec (Q := fun n w => n = (doing st (ks.all nameOk) g).2 ∧ Sat R' (DiskAt d (doing st (ks.all nameOk) g).1 :: bx bm bn bd d v k Hs) w) hw i.toCounts hs hks ?_ ?_).mono ?_
  · intro h0 w hw
    have e : doing st (ks.all nameOk) g = g (chg st (ks.all nameOk)).1 := if_pos h0
    rw [e]
    show Calls Try.prog _ _ w _
    refine (with1_spec (Q := fun n w => n = (g (chg st (ks.all nameOk)).1).2 ∧ Sat R' (DiskAt d (g (chg st (ks.all nameOk)).1).1 :: bx bm bn bd d v k Hs) w) hw ?_ ?_).use ?_
    · intro m a q f b w ha hE hw
      refine (hm R' [box bm v 88, box bn (.string k) 9, box bd (.pointer (some ⟨d, 0, none⟩)) 41 ] _ m a q f b w (chg_inv i _) ha hE hw).mono ?_
      rintro _ w ⟨rfl, h1, h2⟩
      exact ⟨rfl, h1.symm, h2⟩
    · intro hnone w hw
      rw [hn _ hnone]; exact ⟨rfl, hw⟩
    · rintro _ w ⟨n, rfl, hq⟩; exact ⟨n, rfl, hq⟩
  · intro e h0 hne w hw
    have e2 : doing st (ks.all nameOk) g = chg st (ks.all nameOk) := if_neg (by rw [h0]; exact hne)
    rw [e2]; exact ⟨h0.symm, hw⟩
  · rintro _ w ⟨n, rfl, rfl, hw⟩; exact ⟨rfl, hw⟩

end Go.Proofs.Ytgfneeoponiibaa
/- The disk: Sync, Unlink, Rename. Condition: none. -/
namespace Go.Proofs.Ytgfneeoponiibaa
open Go Go.VC

variable {R : Cx} {Hs Rest : List HP} {w : World}

theorem updM_total {k : ByteArray} {g : Fl → Fl} (hg : ∀ f, (g f).b.length = f.b.length) : ∀ fs : Fs, total (updM k g fs) = total fs
  | [] => rfl
  | e :: fs => by
    rw [updM]
    split
    · rw [total_cons, total_cons, hg]
    · rw [total_cons, total_cons, updM_total hg fs]
theorem delM_total (k : ByteArray) : ∀ fs : Fs, total (delM k fs) ≤ total fs
  | [] => Int.le_refl _
  | e :: fs => by
    rw [delM]
    split
    · rw [total_cons]; omega
    · rw [total_cons, total_cons]; have := delM_total k fs; omega

/-! ### Sync -/

def syncG (k : ByteArray) (st : DS) : DS × Int := if (getM k st.fs).isSome then ({ st with fs := updM k (fun f => { f with sure := f.b.length }) st.fs }, 0) else (st, 2)
def syncD (st : DS) (k : ByteArray) : DS × Int := doing st (nameOk k) (syncG k)

theorem sync1_spec {d m q : Nat} {st : DS} {a b : List DE} {k : ByteArray} {f : Fl} (ha : getM k a = none) (hE : er (a ++ (k, q, f) :: b) = st.fs) (hw : Sat R (DO d m (a ++ (k, q, f) :: b) st Hs) w) :
    Gets Try.prog 46 #[.pointer (some ⟨q, 0, none⟩)] w fun r w' => r = .tuple #[] ∧ (syncG k st).2 = 0 ∧ Sat R (DiskAt d (syncG k st).1 :: Hs) w' := by
  have hk : getM k st.fs = some f := by rw [← hE, er_app, er_cons, getM_app (by rw [er_get, ha]; rfl) (ba_rfl k)]
  have e : syncG k st = ({ st with fs := updM k (fun f => { f with sure := f.b.length }) st.fs }, 0) := if_pos (by rw [hk]; rfl)
  rw [e]
  have hw : Sat R (FilesAt (a ++ (k, q, f) :: b) :: pts d (dCells st m) :: MapAt m (ptrs (a ++ (k, q, f) :: b)) :: Hs) w := (hw.cons fun _ h => h.swap).swap
  obtain ⟨s, hw⟩ := Sat.file.1 (Sat.split.1 hw)
  apply call46
  have hlen : s.len = f.b.length := by have := Own.len hw.swap; rwa [List.length_map] at this
  refine NilP.mk rfl ⟨s, by rw [add_off]; exact At.own (eqS hw) (by exact ⟨rfl, trivial⟩), NilP.mk rfl ?_⟩
  refine store_rule hw (by kernel_rfl) rfl (by simp [Value.cells]) fun w hw => ⟨rfl, rfl, ?_⟩
  have hw : Sat R (pts q (.cells [.slice s.a s.len s.cap, .int .i64 (f.b.length : Nat)].toArray 91 (0, 0)) :: Own s 5 (b8 f.b) :: FilesAt (a ++ b) :: pts d (dCells st m) :: MapAt m (ptrs (a ++ (k, q, f) :: b)) :: Hs) w := by
    rw [← hlen]; exact hw
  have hw : Sat R (FilesAt (a ++ (k, q, { f with sure := f.b.length }) :: b) :: pts d (dCells st m) :: MapAt m (ptrs (a ++ (k, q, f) :: b)) :: Hs) w := Sat.split.2 (Sat.file.2 ⟨s, hw⟩)
  refine Sat.disk.2 ⟨m, a ++ (k, q, { f with sure := f.b.length }) :: b, ?_, ?_⟩
  · rw [← hE, er_app, er_cons, er_app, er_cons, updM_app]
    rw [er_get, ha]; rfl
  · have ep : ptrs (a ++ (k, q, { f with sure := f.b.length }) :: b) = ptrs (a ++ (k, q, f) :: b) := by simp [ptrs]
    rw [ep]
    unfold dCells
    simp only [updM_total (g := fun f => { f with sure := f.b.length }) (fun _ => rfl)]
    exact hw.swap.cons fun _ h => h.swap

/-- The name of a change of one. -/
theorem sync_spec {d : Nat} {st : DS} {k : ByteArray} (i : Inv st) (hw : Sat R (DiskAt d st :: Hs) w) :
    Gets Try.prog 26 #[.pointer (some ⟨d, 0, none⟩), .string k] w fun r w' => r = .int .i64 (syncD st k).2 ∧ Sat R (DiskAt d (syncD st k).1 :: Hs) w' := by
  apply call26
  refine (one_spec (v := .func (.func 46) #[] #[]) (syncG k) i rfl hw ?_ ?_).use ?_
  · intro R X st m a q f b w _ ha hE hw
    show Calls Try.prog _ _ w _
    refine (sync1_spec ha hE hw).use ?_
    rintro _ w ⟨rfl, h⟩; exact ⟨rfl, h⟩
  · intro st h; unfold syncG; rw [h]; rfl
  · rintro c w ⟨Hs', hw, back, k2⟩
    refine ⟨c, rfl, new_rule hw fun bt w hw => ?_⟩
    obtain ⟨hc, hw⟩ := Sat.lend.1 hw
    refine (k2 _ _ [k] w hw (ro_one hc) (by simp)).use ?_
    rw [all_one]
    rintro _ w ⟨rfl, hw⟩
    exact ⟨_, rfl, rfl, (Sat.lend.2 ⟨hc, hw⟩).drop.cons fun _ h => back _ _ h⟩

theorem sync_inv {st : DS} (i : Inv st) (k : ByteArray) : Inv (syncD st k).1 := by
  have hg : ∀ {st}, Inv st → Inv (syncG k st).1 := fun {st} i => by
    unfold syncG
    split
    · exact { toCounts := ⟨i.a0, i.a1, i.f0, i.f1⟩, r0 := i.r0, r1 := i.r1, full := by simp only; rw [updM_total (g := fun f => { f with sure := f.b.length }) (fun _ => rfl)]; exact i.full, uni := uni_upd i.uni, names := by simp only [updM_keys]; exact i.names, sure := sure_upd (fun f _ => Nat.le_refl _) i.sure }
    · exact i
  unfold syncD doing
  split
  · exact hg (chg_inv i _)
  · exact chg_inv i _

/-! ### A file is gone -/

theorem gone_spec {d : Nat} {st : DS} (i : Inv st) (k : ByteArray) (hw : Sat R (DiskAt d st :: Hs) w) :
    Gets Try.prog 44 #[.pointer (some ⟨d, 0, none⟩), .string k] w fun r w' => r = .tuple #[] ∧ Sat R (DiskAt d { st with fs := delM k st.fs } :: Hs) w' := by
  obtain ⟨m, E, hE, hw⟩ := Sat.disk.1 hw
  have hnn := total_nn st.fs
  have r1 := i.r1; have hfull := i.full
  apply call44
  refine NilP.mk rfl ⟨some m, At.own (eqS hw) (by exact ⟨rfl, trivial⟩), _, _, fun w' hw' => DO.look (eqS hw _ hw') k true, ?_⟩
  refine Br.mk (fun hk => ?_) (fun hk => ?_)
  · obtain ⟨⟨q, f⟩, hf⟩ := Option.isSome_iff_exists.1 hk
    obtain ⟨a, b, rfl, ha⟩ := getM_split hf
    rw [hf]
    have ht : total st.fs = total (er a ++ er b) + f.b.length := by rw [← hE, er_app, er_cons, total_one]
    have hnn2 := total_nn (er a ++ er b)
    have hw : Sat R (FilesAt (a ++ (k, q, f) :: b) :: pts d (dCells st m) :: MapAt m (ptrs (a ++ (k, q, f) :: b)) :: Hs) w := (hw.cons fun _ h => h.swap).swap
    obtain ⟨s, hw⟩ := Sat.file.1 (Sat.split.1 hw)
    have hlen : s.len = f.b.length := by have := Own.len hw.swap; rwa [List.length_map] at this
    refine drw_rule hw fun w hw => ?_
    refine NilP.mk rfl ⟨total st.fs, At.own selfS (by exact ⟨rfl, trivial⟩), NilP.mk rfl ⟨s, by rw [add_off]; exact At.own selfS (by exact ⟨rfl, trivial⟩), NilP.mk rfl ?_⟩⟩
    rw [wrap64 (by omega) (by omega)]
    refine store_rule hw (by kernel_rfl) rfl (by simp [Value.cells]) fun w hw => NilP.mk rfl ⟨some m, At.own (eqS hw) (by exact ⟨rfl, trivial⟩), ?_⟩
    refine MapAt.del mapT (hw.take (MapAt m (ptrs (a ++ (k, q, f) :: b)))) k fun w hw => ⟨rfl, ?_⟩
    have ep : delM k (ptrs (a ++ (k, q, f) :: b)) = ptrs (a ++ b) := by
      rw [ptrs_app, show ptrs ((k, q, f) :: b) = (k, Value.pointer (some ⟨q, 0, none⟩)) :: ptrs b from rfl, delM_app (by rw [ptrs_get, ha]; rfl) (ba_rfl k), ← ptrs_app]
    have ef : delM k st.fs = er (a ++ b) := by rw [← hE, er_app, er_cons, delM_app (by rw [er_get, ha]; rfl) (ba_rfl k), ← er_app]
    rw [ep] at hw
    refine Sat.disk.2 ⟨m, a ++ b, ef.symm, ?_⟩
    unfold dCells
    simp only [ef, er_app]
    have e3 : total st.fs - (s.len : Int) = total (er a ++ er b) := by omega
    rw [e3] at hw
    exact hw.swap.cons fun _ h => h.cons fun _ h => h.drop.drop
  · simp only [Option.isSome_eq_false_iff, Option.isNone_iff_eq_none] at hk
    have e : delM k st.fs = st.fs := by
      have hk2 : getM k st.fs = none := by rw [← hE, er_get, hk]; rfl
      have : ∀ l : Fs, getM k l = none → delM k l = l := fun l => by
        induction l with
        | nil => intro _; rfl
        | cons e l ih =>
          intro h
          rw [getM] at h
          split at h
          · cases h
          · rename_i hne; rw [delM, if_neg hne, ih h]
      exact this _ hk2
    refine ⟨rfl, ?_⟩
    rw [e]; exact Sat.disk.2 ⟨m, E, hE, hw⟩

end Go.Proofs.Ytgfneeoponiibaa
/- The disk: Unlink, Rename. Condition: none. -/
namespace Go.Proofs.Ytgfneeoponiibaa
open Go Go.VC

variable {R : Cx} {Hs Rest : List HP} {w : World}

theorem delM_sub {β : Type} (k : ByteArray) : ∀ l : List (ByteArray × β), (delM k l).Sublist l
  | [] => List.Sublist.refl _
  | x :: l => by
    rw [delM]; split
    · exact List.sublist_cons_self _ _
    · exact (delM_sub k l).cons_cons _
theorem uni_del {fs : Fs} (h : Uni fs) (k : ByteArray) : Uni (delM k fs) := ((delM_sub k fs).map _).nodup h
theorem sure_del {fs : Fs} (h : SureOk fs) (k : ByteArray) : SureOk (delM k fs) := fun e he => h e ((delM_sub k fs).subset he)

/-! ### Unlink -/
def unlinkG (k : ByteArray) (st : DS) : DS × Int := if (getM k st.fs).isSome then ({ st with fs := delM k st.fs }, 0) else (st, 2)
def unlinkD (st : DS) (k : ByteArray) : DS × Int := doing st (nameOk k) (unlinkG k)

theorem del_inv {st : DS} (i : Inv st) (k : ByteArray) : Inv { st with fs := delM k st.fs } :=
  { toCounts := ⟨i.a0, i.a1, i.f0, i.f1⟩, r0 := i.r0, r1 := i.r1, full := by have := delM_total k st.fs; have := i.full; simp only; omega, uni := uni_del i.uni k, names := fun x hx => i.names x (((delM_sub k st.fs).map _).subset hx), sure := sure_del i.sure k }

theorem unlink_inv {st : DS} (i : Inv st) (k : ByteArray) : Inv (unlinkD st k).1 := by
  unfold unlinkD doing
  split
  · unfold unlinkG
    split
    · exact del_inv (chg_inv i _) k
    · exact chg_inv i _
  · exact chg_inv i _

/-- A disk that was laid open. -/
theorem DO.shut {d m : Nat} {E : List DE} {st : DS} (hE : er E = st.fs) (hw : Sat R (DO d m E st Hs) w) : Sat R (DiskAt d st :: Hs) w := Sat.disk.2 ⟨m, E, hE, hw⟩

theorem unlink1_spec {d m q bd bn : Nat} {st : DS} {a b : List DE} {k : ByteArray} {f : Fl} (i : Inv st) (ha : getM k a = none) (hE : er (a ++ (k, q, f) :: b) = st.fs) (hw : Sat R (DO d m (a ++ (k, q, f) :: b) st Hs) w)
    {Rest1 Rest2 : List HP} {T1 T2 : TypeId} [t1 : TakeP bd Hs (.cells [.pointer (some ⟨d, 0, none⟩)].toArray T1 (0, 0)) Rest1] [t2 : TakeP bn Hs (.cells [.string k].toArray T2 (0, 0)) Rest2] :
    Gets Try.prog 43 #[.pointer (some ⟨q, 0, none⟩), .pointer (some ⟨bd, 0, none⟩), .pointer (some ⟨bn, 0, none⟩)] w fun r w' => r = .tuple #[] ∧ (unlinkG k st).2 = 0 ∧ Sat R (DiskAt d (unlinkG k st).1 :: Hs) w' := by
  have hk : getM k st.fs = some f := by rw [← hE, er_app, er_cons, getM_app (by rw [er_get, ha]; rfl) (ba_rfl k)]
  have e : unlinkG k st = ({ st with fs := delM k st.fs }, 0) := if_pos (by rw [hk]; rfl)
  rw [e]
  have hw := DO.shut hE hw
  apply call43
  refine NilP.mk rfl ⟨some ⟨d, 0, none⟩, At.own (eqS hw) (by exact ⟨rfl, trivial⟩), NilP.mk rfl ⟨k, At.own (eqS hw) (by exact ⟨rfl, trivial⟩), ?_⟩⟩
  refine (gone_spec i k hw).use ?_
  rintro _ w ⟨rfl, hw⟩
  exact ⟨rfl, rfl, rfl, hw⟩

/-- What is not named any more. -/
theorem Sat.toTru : ∀ {As : List HP} {R : Cx} {w : World}, Sat R (As ++ Hs) w → Sat R (As ++ [VC.tru]) w
  | [], R, w, h => by
    have : ∀ {Hs : List HP} {R : Cx}, Sat R (VC.tru :: Hs) w → Sat R [VC.tru] w := fun {Hs} => by
      induction Hs with
      | nil => exact fun h => h
      | cons H Hs ih => exact fun h => ih h.swap.absorb
    exact this h.tru
  | A :: As, R, w, h => h.cons fun _ h => Sat.toTru (As := As) h

theorem unlink_spec {d : Nat} {st : DS} {k : ByteArray} (i : Inv st) (hw : Sat R (DiskAt d st :: Hs) w) :
    Gets Try.prog 24 #[.pointer (some ⟨d, 0, none⟩), .string k] w fun r w' => r = .int .i64 (unlinkD st k).2 ∧ Sat R (DiskAt d (unlinkD st k).1 :: Hs) w' := by
  apply call24
  refine new_rule hw fun bd w hw => new_rule hw fun bn w hw => ?_
  have hw : Sat R (DiskAt d st :: box bd (.pointer (some ⟨d, 0, none⟩)) 41 :: box bn (.string k) 9 :: Hs) w :=
    (hw.take (DiskAt d st)).cons fun _ h => h.swap
  have toS : ∀ {w}, Sat R (box bd (.pointer (some ⟨d, 0, none⟩)) 41 :: box bn (.string k) 9 :: Hs) w → Sat R (box bd (.pointer (some ⟨d, 0, none⟩)) 41 :: box bn (.string k) 9 :: VC.tru :: []) w := fun h =>
    Sat.toTru (As := [_, _]) h
  have hm : ∀ (R : Cx) (X : List HP) st m a q f b w, Inv st → getM k a = none → er (a ++ (k, q, f) :: b) = st.fs → Sat R (DO d m (a ++ (k, q, f) :: b) st (X ++ (box bd (.pointer (some ⟨d, 0, none⟩)) 41 :: box bn (.string k) 9 :: Hs))) w →
      CalW Try.prog cl (.func (.func 43) #[] #[.pointer (some ⟨bd, 0, none⟩), .pointer (some ⟨bn, 0, none⟩)]) [.pointer (some ⟨q, 0, none⟩)] w (fun e w' => e = .returned (.tuple #[]) ∧ (unlinkG k st).2 = 0 ∧ Sat R (DiskAt d (unlinkG k st).1 :: (X ++ (box bd (.pointer (some ⟨d, 0, none⟩)) 41 :: box bn (.string k) 9 :: Hs))) w') := by
    intro R X st m a q f b w i ha hE hw
    show Calls Try.prog _ _ w _
    refine (unlink1_spec i ha hE hw).use ?_
    rintro _ w ⟨rfl, h⟩; exact ⟨rfl, h⟩
  have hn : ∀ st, getM k st.fs = none → unlinkG k st = (st, 2) := by intro st h; unfold unlinkG; rw [h]; rfl
  refine drw_rule' (fun w => Sat R (box bd (.pointer (some ⟨d, 0, none⟩)) 41 :: box bn (.string k) 9 :: tru :: []) w) hw (fun w h => toS h.drop) fun w hw => ?_
  refine ⟨_, At.own selfS (by exact ⟨rfl, trivial⟩), _, At.own selfS (by exact ⟨rfl, trivial⟩), _, At.own selfS (by exact ⟨rfl, trivial⟩), _, At.own selfS (by exact ⟨rfl, trivial⟩), ?_, ?_⟩
  · refine (one_spec (unlinkG k) i rfl hw hm hn).use ?_
    rintro c w ⟨Hs', hw, back, k2⟩
    refine ⟨c, rfl, toS (back _ _ hw.drop), new_rule hw fun bt w hw => ?_⟩
    obtain ⟨hc, hwl⟩ := Sat.lend.1 hw
    refine ⟨toS (back _ _ hw.drop.drop), (k2 _ _ [k] w hwl (ro_one hc) (by simp)).use ?_⟩
    rw [all_one]
    rintro _ w ⟨rfl, hw⟩
    have hw := (Sat.lend.2 ⟨hc, hw⟩).drop
    exact ⟨_, rfl, toS (back _ _ hw.drop), rfl, hw.cons fun _ h => (back _ _ h).drop.drop⟩
  · refine new_rule hw fun bt w hw => ?_
    obtain ⟨hc, hwl⟩ := Sat.lend.1 hw
    refine ⟨toS hw.drop.drop, ?_⟩
    refine (one_spec (unlinkG k) i rfl hwl hm hn).use ?_
    rintro c w ⟨Hs', hw, back, k2⟩
    refine ⟨c, rfl, toS (back _ _ (Sat.lend.2 ⟨hc, hw⟩).drop.drop), (k2 _ _ [k] w hw (ro_one hc) (by simp)).use ?_⟩
    rw [all_one]
    rintro _ w ⟨rfl, hw⟩
    have hw := (Sat.lend.2 ⟨hc, hw⟩).drop
    exact ⟨_, rfl, toS (back _ _ hw.drop), rfl, hw.cons fun _ h => (back _ _ h).drop.drop⟩

end Go.Proofs.Ytgfneeoponiibaa
/- The disk: Rename. Condition: none. -/
namespace Go.Proofs.Ytgfneeoponiibaa
open Go Go.VC

variable {R : Cx} {Hs Rest : List HP} {w : World}

theorem delM_map {β γ : Type} (g : β → γ) (k : ByteArray) : ∀ l : List (ByteArray × β), (delM k l).map (fun e => (e.1, g e.2)) = delM k (l.map fun e => (e.1, g e.2))
  | [] => rfl
  | e :: l => by
    rw [delM, List.map_cons, delM]
    split
    · rfl
    · rw [List.map_cons, delM_map g k l]
theorem delM_none {β : Type} {k : ByteArray} : ∀ {l : List (ByteArray × β)}, getM k l = none → delM k l = l
  | [], _ => rfl
  | e :: l, h => by
    rw [getM] at h
    split at h
    · cases h
    · rename_i hne; rw [delM, if_neg hne, delM_none h]
theorem getM_del_ne {β : Type} {k k2 : ByteArray} (hne : k ≠ k2) : ∀ {l : List (ByteArray × β)}, getM k (delM k2 l) = getM k l
  | [] => rfl
  | e :: l => by
    rw [delM]
    split
    · rename_i h
      have := (MapKept.bytes_beq _ _).1 h
      rw [getM, ← this, if_neg (by rw [ba_ne hne]; simp)]
    · rw [getM, getM, getM_del_ne hne]
theorem er_del (k : ByteArray) (E : List DE) : er (delM k E) = delM k (er E) := delM_map (fun x : Nat × Fl => x.2) k E
theorem ptrs_del (k : ByteArray) (E : List DE) : ptrs (delM k E) = delM k (ptrs E) := delM_map (fun x : Nat × Fl => Value.pointer (some ⟨x.1, 0, none⟩)) k E

theorem gone_open {d m : Nat} {E : List DE} {st : DS} (i : Inv st) (k : ByteArray) (hE : er E = st.fs) (hw : Sat R (DO d m E st Hs) w) :
    Gets Try.prog 44 #[.pointer (some ⟨d, 0, none⟩), .string k] w fun r w' => r = .tuple #[] ∧ Sat R (DO d m (delM k E) { st with fs := delM k st.fs } Hs) w' := by
  have hnn := total_nn st.fs
  have r1 := i.r1; have hfull := i.full
  apply call44
  refine NilP.mk rfl ⟨some m, At.own (eqS hw) (by exact ⟨rfl, trivial⟩), _, _, fun w' hw' => DO.look (eqS hw _ hw') k true, ?_⟩
  refine Br.mk (fun hk => ?_) (fun hk => ?_)
  · obtain ⟨⟨q, f⟩, hf⟩ := Option.isSome_iff_exists.1 hk
    obtain ⟨a, b, rfl, ha⟩ := getM_split hf
    rw [hf]
    have ht : total st.fs = total (er a ++ er b) + f.b.length := by rw [← hE, er_app, er_cons, total_one]
    have hnn2 := total_nn (er a ++ er b)
    have hw : Sat R (FilesAt (a ++ (k, q, f) :: b) :: pts d (dCells st m) :: MapAt m (ptrs (a ++ (k, q, f) :: b)) :: Hs) w := (hw.cons fun _ h => h.swap).swap
    obtain ⟨s, hw⟩ := Sat.file.1 (Sat.split.1 hw)
    have hlen : s.len = f.b.length := by have := Own.len hw.swap; rwa [List.length_map] at this
    refine drw_rule hw fun w hw => ?_
    refine NilP.mk rfl ⟨total st.fs, At.own selfS (by exact ⟨rfl, trivial⟩), NilP.mk rfl ⟨s, by rw [add_off]; exact At.own selfS (by exact ⟨rfl, trivial⟩), NilP.mk rfl ?_⟩⟩
    rw [wrap64 (by omega) (by omega)]
    refine store_rule hw (by kernel_rfl) rfl (by simp [Value.cells]) fun w hw => NilP.mk rfl ⟨some m, At.own (eqS hw) (by exact ⟨rfl, trivial⟩), ?_⟩
    refine MapAt.del mapT (hw.take (MapAt m (ptrs (a ++ (k, q, f) :: b)))) k fun w hw => ⟨rfl, ?_⟩
    have ep : delM k (ptrs (a ++ (k, q, f) :: b)) = ptrs (a ++ b) := by
      rw [ptrs_app, show ptrs ((k, q, f) :: b) = (k, Value.pointer (some ⟨q, 0, none⟩)) :: ptrs b from rfl, delM_app (by rw [ptrs_get, ha]; rfl) (ba_rfl k), ← ptrs_app]
    have eE : delM k (a ++ (k, q, f) :: b) = a ++ b := delM_app ha (ba_rfl k)
    have ef : delM k st.fs = er (a ++ b) := by rw [← hE, ← er_del, eE]
    rw [ep] at hw
    rw [eE]
    unfold DO dCells
    simp only [ef, er_app]
    have e3 : total st.fs - (s.len : Int) = total (er a ++ er b) := by omega
    rw [e3] at hw
    exact hw.swap.cons fun _ h => h.cons fun _ h => h.drop.drop
  · simp only [Option.isSome_eq_false_iff, Option.isNone_iff_eq_none] at hk
    rw [delM_none hk, delM_none (by rw [← hE, er_get, hk]; rfl)]
    exact ⟨rfl, hw⟩

def renameG (k to : ByteArray) (st : DS) : DS × Int :=
  match getM k st.fs with
  | some f => if k = to then (st, 0) else ({ st with fs := delM k (delM to st.fs) ++ [(to, f)] }, 0)
  | none => (st, 2)
def renameD (st : DS) (k to : ByteArray) : DS × Int := doing st (nameOk k && nameOk to) (renameG k to)

theorem getM_del_self {β : Type} (k : ByteArray) : ∀ {l : List (ByteArray × β)}, (l.map (·.1)).Nodup → getM k (delM k l) = none
  | [], _ => rfl
  | e :: l, h => by
    rw [List.map_cons, List.nodup_cons] at h
    rw [delM]
    split
    · rename_i hk
      have e1 := (MapKept.bytes_beq _ _).1 hk
      exact getM_of_notin (by rw [e1]; exact h.1)
    · rename_i hk
      rw [getM, if_neg hk, getM_del_self k h.2]

theorem total_get {k : ByteArray} {f : Fl} : ∀ {fs : Fs}, getM k fs = some f → total fs = total (delM k fs) + f.b.length
  | fs, h => by
    obtain ⟨a, b, rfl, ha⟩ := getM_split h
    rw [delM_app ha (ba_rfl k), total_one]


theorem rename1_spec {d m q bd bn bt : Nat} {st : DS} {a b : List DE} {k to : ByteArray} {f : Fl} (i : Inv st) (ha : getM k a = none) (hE : er (a ++ (k, q, f) :: b) = st.fs) (hw : Sat R (DO d m (a ++ (k, q, f) :: b) st Hs) w)
    {Rest1 Rest2 Rest3 : List HP} {T1 T2 T3 : TypeId} [t1 : TakeP bd Hs (.cells [.pointer (some ⟨d, 0, none⟩)].toArray T1 (0, 0)) Rest1] [t2 : TakeP bn Hs (.cells [.string k].toArray T2 (0, 0)) Rest2] [t3 : TakeP bt Hs (.cells [.string to].toArray T3 (0, 0)) Rest3] :
    Gets Try.prog 47 #[.pointer (some ⟨q, 0, none⟩), .pointer (some ⟨bn, 0, none⟩), .pointer (some ⟨bt, 0, none⟩), .pointer (some ⟨bd, 0, none⟩)] w fun r w' => r = .tuple #[] ∧ (renameG k to st).2 = 0 ∧ Sat R (DiskAt d (renameG k to st).1 :: Hs) w' := by
  have hk0 : getM k (a ++ (k, q, f) :: b) = some (q, f) := getM_app ha (ba_rfl k)
  have hk : getM k st.fs = some f := by rw [← hE, er_get, hk0]; rfl
  apply call47
  refine NilP.mk rfl ⟨k, At.own (eqS hw) (by exact ⟨rfl, trivial⟩), NilP.mk rfl ⟨to, At.own (eqS hw) (by exact ⟨rfl, trivial⟩), ?_⟩⟩
  have hto : (k.toList == to.toList) = decide (k = to) := by
    rw [ByteArray.toList_eq, ByteArray.toList_eq]
    by_cases h : k = to
    · simp [h]
    · have : k.data ≠ to.data := fun h2 => h (by cases k; cases to; simp_all)
      simp [h, this]
  rw [hto]
  refine Br.mk (fun h => ?_) (fun h => ?_) <;> simp only [decide_eq_true_eq, decide_eq_false_iff_not] at h
  · have e : renameG k to st = (st, 0) := by unfold renameG; rw [hk]; exact if_pos h
    rw [e]
    exact ⟨rfl, rfl, DO.shut hE hw⟩
  have e : renameG k to st = ({ st with fs := delM k (delM to st.fs) ++ [(to, f)] }, 0) := by unfold renameG; rw [hk]; exact if_neg h
  rw [e]
  refine NilP.mk rfl ⟨_, At.own (eqS hw) (by exact ⟨rfl, trivial⟩), NilP.mk rfl ⟨_, At.own (eqS hw) (by exact ⟨rfl, trivial⟩), ?_⟩⟩
  refine (gone_open i to hE hw).use ?_
  rintro _ w ⟨rfl, hw⟩
  refine ⟨rfl, ?_⟩
  generalize hEe : delM to (a ++ (k, q, f) :: b) = E1 at hw
  have hk1 : getM k E1 = some (q, f) := by rw [← hEe, getM_del_ne h, hk0]
  have hE1 : er E1 = delM to st.fs := by rw [← hEe, er_del, hE]
  have hu1 : (E1.map (·.1)).Nodup := by
    rw [← hEe]
    have hu : ((a ++ (k, q, f) :: b).map (·.1)).Nodup := by
      have : (a ++ (k, q, f) :: b).map (·.1) = st.fs.map (·.1) := by rw [← hE]; simp [er, Function.comp_def]
      rw [this]; exact i.uni
    exact ((delM_sub to _).map _).nodup hu
  have htonone : getM to E1 = none := by
    rw [← hEe]
    refine getM_del_self to ?_
    have : (a ++ (k, q, f) :: b).map (·.1) = st.fs.map (·.1) := by rw [← hE]; simp [er, Function.comp_def]
    rw [this]; exact i.uni
  obtain ⟨a1, b1, rfl, ha1⟩ := getM_split hk1
  have hdel : delM k (a1 ++ (k, q, f) :: b1) = a1 ++ b1 := delM_app ha1 (ba_rfl k)
  refine drw_rule' (fun w => Sat R (pts d (dCells { st with fs := delM to st.fs } m) :: FilesAt (a1 ++ (k, q, f) :: b1) :: Hs) w) hw (fun w h => h.swap.drop) fun w hw => ?_
  refine NilP.mk rfl ⟨some ⟨d, 0, none⟩, At.own selfS (by exact ⟨rfl, trivial⟩), NilP.mk rfl ⟨some m, At.own selfS (by exact ⟨rfl, trivial⟩), NilP.mk rfl ⟨k, At.own selfS (by exact ⟨rfl, trivial⟩), ?_⟩⟩⟩
  have ep : delM k (ptrs (a1 ++ (k, q, f) :: b1)) = ptrs (a1 ++ b1) := by rw [← ptrs_del, hdel]
  refine MapAt.del mapT (hw.take (MapAt m (ptrs (a1 ++ (k, q, f) :: b1)))) k fun w hw => ?_
  rw [ep] at hw
  refine ⟨hw.drop, drw_rule hw fun w hw => ?_⟩
  refine NilP.mk rfl ⟨some ⟨d, 0, none⟩, At.own selfS (by exact ⟨rfl, trivial⟩), NilP.mk rfl ⟨some m, At.own selfS (by exact ⟨rfl, trivial⟩), NilP.mk rfl ⟨to, At.own selfS (by exact ⟨rfl, trivial⟩), ?_⟩⟩⟩
  refine MapAt.put mapT hw to (.pointer (some ⟨q, 0, none⟩)) fun w hw => ⟨rfl, rfl, ?_⟩
  have hno : getM to (a1 ++ b1) = none := by rw [← hdel, getM_del_ne (fun h2 => h h2.symm)]; exact htonone
  have ep2 : putM to (.pointer (some ⟨q, 0, none⟩)) (ptrs (a1 ++ b1)) = ptrs (a1 ++ b1 ++ [(to, q, f)]) := by
    unfold putM; rw [ptrs_get, hno]; simp [ptrs]
  rw [ep2] at hw
  have ef : delM k (delM to st.fs) ++ [(to, f)] = er (a1 ++ b1 ++ [(to, q, f)]) := by
    rw [er_app, ← hdel, er_del, hE1]; rfl
  have ht : total (delM k (delM to st.fs) ++ [(to, f)]) = total (delM to st.fs) := by
    have hg : getM k (delM to st.fs) = some f := by rw [← hE1, er_get, hk1]; rfl
    rw [total_get hg, total_app]; simp [total_cons, total_nil]
  refine Sat.disk.2 ⟨m, a1 ++ b1 ++ [(to, q, f)], ef.symm, ?_⟩
  unfold dCells
  simp only [ht]
  refine hw.swap.cons fun _ h => h.cons fun _ h => ?_
  have h2 := Sat.split.1 h
  have h3 : Sat _ (FilesAt ((a1 ++ b1) ++ (to, q, f) :: []) :: Hs) w := Sat.split.2 (by simpa using h2)
  simpa using h3

theorem renameG_inv {st : DS} {k to : ByteArray} (i : Inv st) (hto : nameOk to = true) : Inv (renameG k to st).1 := by
  unfold renameG
  split
  · rename_i f hf
    split
    · exact i
    · rename_i hne
      have hg : getM k (delM to st.fs) = some f := by rw [getM_del_ne hne]; exact hf
      have hno : getM to (delM k (delM to st.fs)) = none := by rw [getM_del_ne (fun h2 => hne h2.symm)]; exact getM_del_self to i.uni
      have hfm : f.sure ≤ f.b.length := by
        obtain ⟨a, b, e, _⟩ := getM_split hf
        exact i.sure (k, f) (by rw [e]; simp)
      refine { toCounts := ⟨i.a0, i.a1, i.f0, i.f1⟩, r0 := i.r0, r1 := i.r1, full := ?_, uni := uni_app (uni_del (uni_del i.uni to) k) hno, names := ?_, sure := sure_app (sure_del (sure_del i.sure to) k) hfm }
      all_goals (have := total_get hg)
      all_goals (have h2 := delM_total to st.fs)
      all_goals (have := i.full)
      · simp only [total_app, total_cons, total_nil]
        omega
      · intro x hx
        simp only [List.map_append, List.mem_append] at hx
        rcases hx with hx | hx
        · exact i.names x ((((delM_sub k _).trans (delM_sub to st.fs)).map _).subset hx)
        · simp at hx; subst hx; exact hto
  · exact i

theorem rename_inv {st : DS} (i : Inv st) (k to : ByteArray) : Inv (renameD st k to).1 := by
  unfold renameD doing
  split
  · rename_i h; have h2 := chg_ok h; simp only [Bool.and_eq_true] at h2; exact renameG_inv (chg_inv i _) h2.2
  · exact chg_inv i _

theorem rename_spec {d : Nat} {st : DS} {k to : ByteArray} (i : Inv st) (hw : Sat R (DiskAt d st :: Hs) w) :
    Gets Try.prog 27 #[.pointer (some ⟨d, 0, none⟩), .string k, .string to] w fun r w' => r = .int .i64 (renameD st k to).2 ∧ Sat R (DiskAt d (renameD st k to).1 :: Hs) w' := by
  apply call27
  refine new_rule hw fun bd w hw => new_rule hw fun bn w hw => new_rule hw fun bto w hw => ?_
  have hw : Sat R (DiskAt d st :: box bd (.pointer (some ⟨d, 0, none⟩)) 41 :: box bn (.string k) 9 :: box bto (.string to) 9 :: Hs) w :=
    (hw.take (DiskAt d st)).cons fun _ h => (h.take (box bd (.pointer (some ⟨d, 0, none⟩)) 41)).cons fun _ h => h.swap
  have toS : ∀ {w}, Sat R (box bd (.pointer (some ⟨d, 0, none⟩)) 41 :: box bn (.string k) 9 :: box bto (.string to) 9 :: Hs) w → Sat R (box bd (.pointer (some ⟨d, 0, none⟩)) 41 :: box bn (.string k) 9 :: box bto (.string to) 9 :: VC.tru :: []) w := fun h =>
    Sat.toTru (As := [_, _, _]) h
  have hm : ∀ (R : Cx) (X : List HP) st m a q f b w, Inv st → getM k a = none → er (a ++ (k, q, f) :: b) = st.fs → Sat R (DO d m (a ++ (k, q, f) :: b) st (X ++ (box bd (.pointer (some ⟨d, 0, none⟩)) 41 :: box bn (.string k) 9 :: box bto (.string to) 9 :: Hs))) w →
      CalW Try.prog cl (.func (.func 47) #[] #[.pointer (some ⟨bn, 0, none⟩), .pointer (some ⟨bto, 0, none⟩), .pointer (some ⟨bd, 0, none⟩)]) [.pointer (some ⟨q, 0, none⟩)] w (fun e w' => e = .returned (.tuple #[]) ∧ (renameG k to st).2 = 0 ∧ Sat R (DiskAt d (renameG k to st).1 :: (X ++ (box bd (.pointer (some ⟨d, 0, none⟩)) 41 :: box bn (.string k) 9 :: box bto (.string to) 9 :: Hs))) w') := by
    intro R X st m a q f b w i ha hE hw
    show Calls Try.prog _ _ w _
    refine (rename1_spec i ha hE hw).use ?_
    rintro _ w ⟨rfl, h⟩; exact ⟨rfl, h⟩
  have hn : ∀ st, getM k st.fs = none → renameG k to st = (st, 2) := by intro st h; unfold renameG; rw [h]
  have all2 : [k, to].all nameOk = (nameOk k && nameOk to) := by simp
  refine drw_rule' (fun w => Sat R (box bd (.pointer (some ⟨d, 0, none⟩)) 41 :: box bn (.string k) 9 :: box bto (.string to) 9 :: tru :: []) w) hw (fun w h => toS h.drop) fun w hw => ?_
  refine ⟨_, At.own selfS (by exact ⟨rfl, trivial⟩), _, At.own selfS (by exact ⟨rfl, trivial⟩), _, At.own selfS (by exact ⟨rfl, trivial⟩), _, At.own selfS (by exact ⟨rfl, trivial⟩), _, At.own selfS (by exact ⟨rfl, trivial⟩), ?_, ?_⟩
  · refine (one_spec (renameG k to) i rfl hw hm hn).use ?_
    rintro c w ⟨Hs', hw, back, k2⟩
    refine ⟨c, rfl, toS (back _ _ hw.drop), new_rule hw fun bt w hw => ?_⟩
    obtain ⟨hc, hwl⟩ := Sat.lend.1 hw
    refine ⟨toS (back _ _ hw.drop.drop), (k2 _ _ [k, to] w hwl (ro_two hc) (by simp)).use ?_⟩
    rw [all2]
    rintro _ w ⟨rfl, hw⟩
    have hw := (Sat.lend.2 ⟨hc, hw⟩).drop
    exact ⟨_, rfl, toS (back _ _ hw.drop), rfl, hw.cons fun _ h => (back _ _ h).drop.drop.drop⟩
  · refine new_rule hw fun bt w hw => ?_
    obtain ⟨hc, hwl⟩ := Sat.lend.1 hw
    refine ⟨toS hw.drop.drop, ?_⟩
    refine (one_spec (renameG k to) i rfl hwl hm hn).use ?_
    rintro c w ⟨Hs', hw, back, k2⟩
    refine ⟨c, rfl, toS (back _ _ (Sat.lend.2 ⟨hc, hw⟩).drop.drop), (k2 _ _ [k, to] w hw (ro_two hc) (by simp)).use ?_⟩
    rw [all2]
    rintro _ w ⟨rfl, hw⟩
    have hw := (Sat.lend.2 ⟨hc, hw⟩).drop
    exact ⟨_, rfl, toS (back _ _ hw.drop), rfl, hw.cons fun _ h => (back _ _ h).drop.drop.drop⟩

end Go.Proofs.Ytgfneeoponiibaa
/-
  DERIVED: THE SHELF's CONTRACTS AT THIS DUMP, IN PLAIN WORDS (tools/lay-plain.mjs out of 'TryIter.lean', which tools/lay-shelf.mjs wrote): THE SAME DECLARATIONS UNDER THE SAME NAMES: 'import', 'namespace', 'open', 'def', 'theorem' AND NOTHING ELSE: no command of the shelf's: FOR A HAND-IN. Each laying: the table of numbers ('.._ren') and one theorem, a field a fact of the dump's own or the kernel's comparison; each contract: ONE APPLICATION.
-/
namespace Go.Proofs
open Go.Shelf
def Try.keys40_ren : Go.Shelf.Ren := ⟨fun | 7 => 40 | 10 => 59 | n => n, fun | 23 => 51 | 26 => 9 | 3 => 83 | 28 => 81 | 0 => 0 | 27 => 80 | 33 => 110 | 4 => 4 | n => n, fun | n => n⟩
theorem Try.keys40 : Go.Proofs.SlLaysZ.n7 Try.prog Try.keys40_ren := {
  mixed := by kernel_rfl
  f7 := ⟨Try.f40.name, by decide, Try.func40.trans (congrArg some (by kernel_rfl))⟩
  f10 := ⟨Try.f59.name, by decide, Try.func59.trans (congrArg some (by kernel_rfl))⟩
  t0 := Try.underlying0
  a0 := Try.isAgg0
  z0 := Try.sizeOf0
  v0 := Try.zeroValue0
  t4 := Try.underlying4
  a4 := Try.isAgg4
  z4 := Try.sizeOf4
  v4 := Try.zeroValue4
  t23 := Try.underlying51
  a23 := Try.isAgg51
  z23 := Try.sizeOf51
  v23 := Try.zeroValue51
  t26 := Try.underlying9
  a26 := Try.isAgg9
  z26 := Try.sizeOf9
  v26 := Try.zeroValue9
  t27 := Try.underlying80
  a27 := Try.isAgg80
  z27 := Try.sizeOf80
  v27 := Try.zeroValue80
  t28 := Try.underlying81
  a28 := Try.isAgg81
  z28 := Try.sizeOf81
  v28 := Try.zeroValue81
  t33 := Try.underlying110
  a33 := Try.isAgg110
  z33 := Try.sizeOf110
  v33 := Try.zeroValue110 }
def Try.sorted39_ren : Go.Shelf.Ren := ⟨fun | 6 => 39 | 8 => 57 | 9 => 58 | 11 => 69 | 13 => 71 | 12 => 70 | 23 => 81 | 24 => 48 | 14 => 72 | 15 => 73 | 16 => 74 | 17 => 75 | 18 => 76 | 19 => 77 | 20 => 78 | 21 => 79 | 22 => 80 | 25 => 82 | 26 => 83 | 27 => 84 | 28 => 85 | 29 => 86 | 30 => 87 | 31 => 88 | n => n, fun | 26 => 9 | 28 => 81 | 24 => 60 | 0 => 0 | 3 => 3 | 37 => 105 | 48 => 74 | 50 => 66 | 4 => 4 | 40 => 127 | 39 => 126 | 45 => 132 | 5 => 5 | 9 => 9 | 51 => 135 | 55 => 112 | 57 => 140 | 58 => 141 | 33 => 110 | n => n, fun | n => n⟩
theorem Try.sorted39 : Go.Proofs.SlLaysZ.n6 Try.prog Try.sorted39_ren := {
  mixed := by kernel_rfl
  f6 := ⟨Try.f39.name, by decide, Try.func39.trans (congrArg some (by kernel_rfl))⟩
  f8 := ⟨Try.f57.name, by decide, Try.func57.trans (congrArg some (by kernel_rfl))⟩
  f11 := ⟨Try.f69.name, by decide, Try.func69.trans (congrArg some (by kernel_rfl))⟩
  t0 := Try.underlying0
  a0 := Try.isAgg0
  z0 := Try.sizeOf0
  v0 := Try.zeroValue0
  t24 := Try.underlying60
  a24 := Try.isAgg60
  z24 := Try.sizeOf60
  v24 := Try.zeroValue60
  t26 := Try.underlying9
  a26 := Try.isAgg9
  z26 := Try.sizeOf9
  v26 := Try.zeroValue9
  t28 := Try.underlying81
  a28 := Try.isAgg81
  z28 := Try.sizeOf81
  v28 := Try.zeroValue81
  i26 := by kernel_rfl }
def Try.sort58_ren : Go.Shelf.Ren := ⟨fun | 6 => 58 | 8 => 71 | 9 => 70 | 19 => 81 | 20 => 48 | 21 => 72 | 22 => 73 | 23 => 74 | 24 => 75 | 25 => 76 | 26 => 77 | 27 => 78 | 28 => 79 | 29 => 80 | 36 => 82 | 31 => 83 | 32 => 84 | 37 => 85 | 38 => 86 | 39 => 87 | 41 => 88 | n => n, fun | 27 => 60 | 29 => 9 | 3 => 3 | 32 => 105 | 26 => 60 | 0 => 0 | 44 => 74 | 46 => 66 | 4 => 4 | 36 => 127 | 35 => 126 | 41 => 132 | 5 => 5 | 9 => 9 | 53 => 135 | 57 => 112 | 63 => 140 | 64 => 141 | n => n, fun | n => n⟩
theorem Try.sort58 : Go.Proofs.SlLaysM.n6 Try.prog Try.sort58_ren := {
  mixed := by kernel_rfl
  f6 := ⟨Try.f58.name, by decide, Try.func58.trans (congrArg some (by kernel_rfl))⟩
  f8 := Try.func71.trans (congrArg some (by kernel_rfl))
  f9 := ⟨Try.f70.name, by decide, Try.func70.trans (congrArg some (by kernel_rfl))⟩
  f19 := Try.func81.trans (congrArg some (by kernel_rfl))
  f20 := Try.func48.trans (congrArg some (by kernel_rfl))
  f21 := ⟨Try.f72.name, by decide, Try.func72.trans (congrArg some (by kernel_rfl))⟩
  f22 := ⟨Try.f73.name, by decide, Try.func73.trans (congrArg some (by kernel_rfl))⟩
  f23 := ⟨Try.f74.name, by decide, Try.func74.trans (congrArg some (by kernel_rfl))⟩
  f24 := ⟨Try.f75.name, by decide, Try.func75.trans (congrArg some (by kernel_rfl))⟩
  f25 := ⟨Try.f76.name, by decide, Try.func76.trans (congrArg some (by kernel_rfl))⟩
  f26 := ⟨Try.f77.name, by decide, Try.func77.trans (congrArg some (by kernel_rfl))⟩
  f27 := ⟨Try.f78.name, by decide, Try.func78.trans (congrArg some (by kernel_rfl))⟩
  f28 := ⟨Try.f79.name, by decide, Try.func79.trans (congrArg some (by kernel_rfl))⟩
  f29 := ⟨Try.f80.name, by decide, Try.func80.trans (congrArg some (by kernel_rfl))⟩
  f31 := Try.func83.trans (congrArg some (by kernel_rfl))
  f32 := Try.func84.trans (congrArg some (by kernel_rfl))
  f36 := ⟨Try.f82.name, by decide, Try.func82.trans (congrArg some (by kernel_rfl))⟩
  f37 := ⟨Try.f85.name, by decide, Try.func85.trans (congrArg some (by kernel_rfl))⟩
  f38 := ⟨Try.f86.name, by decide, Try.func86.trans (congrArg some (by kernel_rfl))⟩
  f39 := ⟨Try.f87.name, by decide, Try.func87.trans (congrArg some (by kernel_rfl))⟩
  f41 := ⟨Try.f88.name, by decide, Try.func88.trans (congrArg some (by kernel_rfl))⟩
  t0 := Try.underlying0
  a0 := Try.isAgg0
  z0 := Try.sizeOf0
  v0 := Try.zeroValue0
  t3 := Try.underlying3
  a3 := Try.isAgg3
  z3 := Try.sizeOf3
  v3 := Try.zeroValue3
  t4 := Try.underlying4
  a4 := Try.isAgg4
  z4 := Try.sizeOf4
  v4 := Try.zeroValue4
  t5 := Try.underlying5
  a5 := Try.isAgg5
  z5 := Try.sizeOf5
  v5 := Try.zeroValue5
  t9 := Try.underlying9
  a9 := Try.isAgg9
  z9 := Try.sizeOf9
  v9 := Try.zeroValue9
  t26 := Try.underlying60
  a26 := Try.isAgg60
  z26 := Try.sizeOf60
  v26 := Try.zeroValue60
  t27 := Try.underlying60
  a27 := Try.isAgg60
  z27 := Try.sizeOf60
  v27 := Try.zeroValue60
  t29 := Try.underlying9
  a29 := Try.isAgg9
  z29 := Try.sizeOf9
  v29 := Try.zeroValue9
  t32 := Try.underlying105
  a32 := Try.isAgg105
  z32 := Try.sizeOf105
  v32 := Try.zeroValue105
  t35 := Try.underlying126
  a35 := Try.isAgg126
  z35 := Try.sizeOf126
  v35 := Try.zeroValue126
  t36 := Try.underlying127
  a36 := Try.isAgg127
  z36 := Try.sizeOf127
  v36 := Try.zeroValue127
  t41 := Try.underlying132
  a41 := Try.isAgg132
  z41 := Try.sizeOf132
  v41 := Try.zeroValue132
  t44 := Try.underlying74
  a44 := Try.isAgg74
  z44 := Try.sizeOf74
  v44 := Try.zeroValue74
  t46 := Try.underlying66
  a46 := Try.isAgg66
  z46 := Try.sizeOf66
  v46 := Try.zeroValue66
  t53 := Try.underlying135
  a53 := Try.isAgg135
  z53 := Try.sizeOf135
  v53 := Try.zeroValue135
  t57 := Try.underlying112
  a57 := Try.isAgg112
  z57 := Try.sizeOf112
  v57 := Try.zeroValue112
  t63 := Try.underlying140
  a63 := Try.isAgg140
  z63 := Try.sizeOf140
  v63 := Try.zeroValue140
  t64 := Try.underlying141
  a64 := Try.isAgg141
  z64 := Try.sizeOf141
  v64 := Try.zeroValue141 }
open Go.RowKit Go.Maps Go.Sort Go.Shelf in
/-- slices.Sort's two contracts at this dump, at the fence that asks nothing. -/
theorem Try.sorts39 (m : Nat) : AnyZ.SortsIn Try.prog Try.sorted39_ren Fence.wide m :=
  ⟨fun blk off cap ss W hH hblk hsz => callsIn_wide.2 (AnyM.slices_Sort_string Try.sort58 blk off cap ss W hH hblk hsz),
   fun p cap W => callsIn_wide.2 (AnyM.slices_Sort_string_none Try.sort58 p cap W)⟩
open Go.RowKit Go.Maps Go.Sort Go.Shelf in
/-- **maps.Keys[map[string]*jetway/disk.file,string,*jetway/disk.file], at whatever map, the nil one too:** a function value over ONE NEW BLOCK, which holds the map. -/
theorem Try.maps_Keys_40 (mb : Option Nat) (W : World) : CallsIn Fence.wide 5 Try.prog 40 #[.map mb] W fun e w' => e = .returned (.func (.func 59) #[] #[.pointer (some ⟨W.heap.size, 0, none⟩)]) ∧ w' = W.alloc (.cells #[.map mb] 51) :=
  AnyZ.keys_in Try.keys40 Fence.wide 5 trivial rfl mb W
open Go.RowKit Go.Maps Go.Sort Go.Shelf in
/-- **slices.Sorted[string] AT WHAT maps.Keys[map[string]*jetway/disk.file,string,*jetway/disk.file] HANDED BACK FOR A MAP THAT IS NOT nil** ('w': the world AHEAD of maps.Keys' call): A NEW SLICE THAT HOLDS THE MAP's KEYS, SORTED; nil just where it has none; nothing that lay before has turned. -/
theorem Try.slices_Sorted_keys_39_40 {H : Type} (b nn : Nat) (D0 : DataW H) (R : Value → Option (DataW H × List MemPlace)) (w : World) (hown : w.ownsMap Try.prog 9 R b nn D0) (hmax : Maps.size D0 ≤ maxLen) (hbytes : Maps.size D0 * 16 ≤ 140737488355328) :
    CallsIn Fence.wide 5 Try.prog 39 #[.func (.func 59) #[] #[.pointer (some ⟨w.heap.size, 0, none⟩)]] (w.alloc (.cells #[.map (some b)] 51)) fun e w' => ∃ (v : Value) (ss : List (List UInt8)), e = .returned v ∧ ss.Perm (strKeys D0) ∧
      w'.ownsRow (w.alloc (.cells #[.map (some b)] 51)).heap.size 9 1 v ss.length ((ss.mergeSort (fun x y => decide (x ≤ y))).map encStr) ∧ (v = .slice none 0 0 ↔ ss = []) ∧ Below (w.alloc (.cells #[.map (some b)] 51)).heap.size (w.alloc (.cells #[.map (some b)] 51)) w' := by
  have hbl := hown.lt
  have hseq : SeqGives Fence.wide 2 Try.prog 59 #[.pointer (some ⟨w.heap.size, 0, none⟩)] encStr (fun ss => ss.Perm (strKeys D0)) (Maps.size D0) (w.alloc (.cells #[.map (some b)] 51)) :=
    AnyZ.keys_gives (ρ := Try.keys40_ren) { Try.keys40 with } Fence.wide _ trivial rfl (by omega) w.heap.size b nn D0 _ (by simp) (by simp) (by
      obtain ⟨es, clock, hb, Ft, hs, hD⟩ := hown
      exact ⟨es, clock, (Below.heap_alloc _ _ b hbl).trans hb, Ft, hs, hD⟩)
  exact AnyZ.sorted_in Try.sorted39 Fence.wide 5 trivial trivial trivial trivial rfl (by omega) (Try.sorts39 _) (enters_of Try.func58 (by kernel_rfl) rfl) 59 #[.pointer (some ⟨w.heap.size, 0, none⟩)] trivial (enters_of Try.func59 (by kernel_rfl) rfl) _ _ hmax hbytes _ hseq
open Go.RowKit Go.Maps Go.Sort Go.Shelf in
/-- **.. AND FOR THE nil MAP: nil.** -/
theorem Try.slices_Sorted_keys_nil_39_40 (w : World) :
    CallsIn Fence.wide 5 Try.prog 39 #[.func (.func 59) #[] #[.pointer (some ⟨w.heap.size, 0, none⟩)]] (w.alloc (.cells #[.map none] 51)) fun e w' => ∃ (v : Value) (ss : List (List UInt8)), e = .returned v ∧ ss = [] ∧
      w'.ownsRow (w.alloc (.cells #[.map none] 51)).heap.size 9 1 v ss.length ((ss.mergeSort (fun x y => decide (x ≤ y))).map encStr) ∧ (v = .slice none 0 0 ↔ ss = []) ∧ Below (w.alloc (.cells #[.map none] 51)).heap.size (w.alloc (.cells #[.map none] 51)) w' := by
  have hseq : SeqGives Fence.wide 2 Try.prog 59 #[.pointer (some ⟨w.heap.size, 0, none⟩)] encStr (fun ss : List (List UInt8) => ss = []) 0 (w.alloc (.cells #[.map none] 51)) :=
    AnyZ.keys_gives_nil (ρ := Try.keys40_ren) { Try.keys40 with } Fence.wide _ trivial rfl w.heap.size _ (by simp) (by simp)
  exact AnyZ.sorted_in Try.sorted39 Fence.wide 5 trivial trivial trivial trivial rfl (by omega) (Try.sorts39 _) (enters_of Try.func58 (by kernel_rfl) rfl) 59 #[.pointer (some ⟨w.heap.size, 0, none⟩)] trivial (enters_of Try.func59 (by kernel_rfl) rfl) _ 0 (Nat.zero_le _) (by omega) _ hseq
end Go.Proofs
/- The disk: Names. Condition: a bound on how many files there are. -/
namespace Go.Proofs.Ytgfneeoponiibaa
open Go Go.VC

variable {R : Cx} {Hs Rest : List HP} {w : World}

/-- The names, rising. -/
def namesOf (fs : Fs) : List ByteArray := ((fs.map fun e => e.1.data.toList).mergeSort (fun x y => decide (x ≤ y))).map fun l => ⟨l.toArray⟩

theorem names_mapT {m c : Nat} {l : List (En ByteArray)} {E : List DE} (hs : strip l = ptrs E) (hst : StampsOk l c) (hu : (E.map (·.1)).Nodup) (hn : ∀ k ∈ E.map (·.1), k.size ≤ 64) (hlen : E.length ≤ 1000000)
    (hm : w.heap[m]? = some (.map (l.map mkE).toArray c)) :
    ∃ D0 : DataW Unit, w.ownsMap Try.prog 9 (fun _ => some (.nil, [])) m 1000000 D0 ∧ Maps.size D0 ≤ 1000000 ∧ ∀ ss : List (List UInt8), ss.Perm (strKeys D0) → ss.Perm (E.map fun e => e.1.data.toList) := by
  have hkeys : l.map (·.1) = E.map (·.1) := by
    have h1 : (strip l).map (·.1) = l.map (·.1) := by simp [strip, Function.comp_def]
    have h2 : (ptrs E).map (·.1) = E.map (·.1) := by simp [ptrs, Function.comp_def]
    rw [← h1, hs, h2]
  have hlen2 : l.length = E.length := by have := congrArg List.length hkeys; simpa using this
  have hkey : ∀ e ∈ l, keyOf Try.prog 9 (mkE e).key = some (.string e.1.data.toList) := fun e he => by
    have hm : e.1 ∈ E.map (·.1) := by rw [← hkeys]; exact List.mem_map_of_mem he
    have hsz := hn _ hm
    simp only [keyOf, Try.underlying9, mkE, mapKey, KeyK.enc]
    rw [if_pos (by unfold maxLen; omega)]
  have hrd : ∀ e ∈ l, WideElems.rd Try.prog 9 (fun _ => some ((.nil : DataW Unit), [])) (mkE e) = some (.string e.1.data.toList, .nil) := fun e he => by
    unfold WideElems.rd
    rw [hkey e he]; rfl
  have hrg : ((l.map mkE).map (WideElems.rg Try.prog 9 (fun _ => some ((.nil : DataW Unit), [])))) = l.map fun e => (.string e.1.data.toList, .nil) := by
    rw [List.map_map]
    apply List.map_congr_left
    intro e he
    simp only [Function.comp, WideElems.rg, hrd e he, Option.getD_some]
  refine ⟨_, ⟨(l.map mkE).toArray, c, hm, ⟨by simp [maxLen]; omega, ?_, ?_⟩, by simp; omega, rfl⟩, ?_, ?_⟩
  · refine ⟨fun x hx => ?_, ?_, ?_⟩
    · simp only [List.mem_map] at hx
      obtain ⟨e, he, rfl⟩ := hx
      exact hst.1 e he
    · have := hst.2; simpa [mkE, Function.comp_def] using this
    · have h2 : (l.map (·.1)).Nodup := by rw [hkeys]; exact hu
      have e1 : ((l.map mkE).toArray.toList.map (·.key)) = (l.map (·.1)).map Value.string := by simp [mkE, Function.comp_def, KeyK.enc]
      rw [e1]
      exact List.Pairwise.map _ (fun a b hab h => hab (by injection h)) h2
  · intro x hx
    simp only [List.mem_map] at hx
    obtain ⟨e, he, rfl⟩ := hx
    exact ⟨_, hrd e he⟩
  · simp only [Maps.size, hrg]
    rw [(WideShapes.sorted_perm _).length_eq]; simp; omega
  · intro ss hss
    refine hss.trans ?_
    simp only [strKeys, hrg]
    refine ((WideShapes.sorted_perm _).map _).trans ?_
    have : (l.map fun e => ((Lit.string e.1.data.toList, DataW.nil) : Lit × DataW Unit)).map (fun p => Go.strOf p.1) = E.map fun e => e.1.data.toList := by
      rw [List.map_map]
      show l.map (fun e => e.1.data.toList) = _
      have := congrArg (List.map fun k : ByteArray => k.data.toList) hkeys
      simpa [Function.comp_def] using this
    rw [this]

theorem nameOk_size {k : ByteArray} (h : nameOk k = true) : k.size ≤ 64 := by
  unfold nameOk at h; simp at h; exact h.1.2

theorem er_keys (E : List DE) : (er E).map (·.1) = E.map (·.1) := by simp [er, Function.comp_def]

theorem names_spec {d : Nat} {st : DS} (i : Inv st) (hc : st.fs.length ≤ 1000000) (hw : Sat R (DiskAt d st :: Hs) w) :
    Gets Try.prog 23 #[.pointer (some ⟨d, 0, none⟩)] w fun r w' => ∃ s : Sl, r = .slice s.a s.len s.cap ∧ Sat R (Own s 9 ((namesOf st.fs).map Value.string) :: DiskAt d st :: Hs) w' := by
  obtain ⟨m, E, hE, hw⟩ := Sat.disk.1 hw
  apply call23
  refine NilP.mk rfl ⟨some m, At.own (eqS hw) (by exact ⟨rfl, trivial⟩), ?_⟩
  have hw2 := hw.take (MapAt m (ptrs E))
  obtain ⟨l, c, hs, hst, hp⟩ := MapAt.iff.1 hw2
  have hu : (E.map (·.1)).Nodup := by rw [← er_keys, hE]; exact i.uni
  have hlen : E.length ≤ 1000000 := by have := congrArg List.length hE; simp [er] at this; omega
  obtain ⟨D0, hown, hsz, hperm⟩ := names_mapT hs hst hu (fun k hk => nameOk_size (i.names k (by rw [← hE, er_keys]; exact hk))) hlen hp.at
  refine (callsIn_wide.1 (Try.maps_Keys_40 (some m) w)).mono ?_
  rintro _ _ ⟨rfl, rfl⟩
  refine ⟨_, rfl, ?_⟩
  refine (callsIn_wide.1 (Try.slices_Sorted_keys_39_40 m _ D0 _ w hown (by unfold maxLen; omega) (by omega))).mono ?_
  rintro _ w' ⟨v, ss, rfl, hS, hrow, hnil, hb⟩
  have hw1 : Sat R (DO d m E st Hs) (w.alloc (.cells #[.map (some m)] 51)) := (Sat.alloc _ hw).drop
  obtain ⟨s, rfl, h3⟩ := Sat.ownsRow hw1 hb hrow
  refine ⟨s, rfl, s, rfl, ?_⟩
  have e : ((ss.mergeSort (fun x y => decide (x ≤ y))).map Proofs.encStr) = (namesOf st.fs).map Value.string := by
    unfold namesOf
    have hp2 := hperm ss hS
    have e2 : (E.map fun e => e.1.data.toList) = st.fs.map fun e => e.1.data.toList := by rw [← hE]; simp [er, Function.comp_def]
    rw [e2] at hp2
    rw [mergeSort_of_perm hp2, List.map_map]
    rfl
  rw [e] at h3
  exact h3.cons fun _ h => DO.shut hE h

end Go.Proofs.Ytgfneeoponiibaa
/- The disk: Clone, Read, Crash. Condition: bounds on lengths. -/
namespace Go.Proofs.Ytgfneeoponiibaa
open Go Go.VC

variable {R : Cx} {Hs Rest : List HP} {w : World}

/-- What Read tells. -/
def readD (st : DS) (k : ByteArray) : List Int × Int :=
  if st.off then ([], 5) else if !nameOk k then ([], 1) else match getM k st.fs with | none => ([], 2) | some f => (f.b, 0)

theorem total_le {k : ByteArray} {f : Fl} {fs : Fs} (h : getM k fs = some f) : (f.b.length : Int) ≤ total fs := by
  have := total_get h; have := total_nn (delM k fs); omega

theorem read_spec {d : Nat} {st : DS} {k : ByteArray} (i : Inv st) (hw : Sat R (DiskAt d st :: Hs) w) :
    Gets Try.prog 29 #[.pointer (some ⟨d, 0, none⟩), .string k] w fun r w' => ∃ t : Sl, r = .tuple #[.slice t.a t.len t.cap, .int .i64 (readD st k).2] ∧ Sat R (Own t 5 (b8 (readD st k).1) :: DiskAt d st :: Hs) w' := by
  have hw0 := hw
  obtain ⟨m, E, hE, hw⟩ := Sat.disk.1 hw
  apply call29
  refine NilP.mk rfl ⟨st.off, At.own (eqS hw) (by exact ⟨rfl, trivial⟩), Br.mk (fun ho => ?_) (fun ho => new_rule hw0 fun bt w hw => ?_)⟩
  · have e : readD st k = ([], 5) := if_pos ho
    rw [e]; exact ⟨⟨none, 0, 0⟩, rfl, Own.nil hw0⟩
  obtain ⟨hc, hwl⟩ := Sat.lend.1 hw
  refine (named_spec (names := [k]) hwl (ro_one hc) (by simp)).use ?_
  rintro _ w ⟨rfl, hw⟩
  have hw := (Sat.lend.2 ⟨hc, hw⟩).drop
  rw [all_one]
  refine ⟨_, rfl, Br.mk (fun hn => ?_) (fun hn => ?_)⟩
  · have e : readD st k = ([], 1) := by unfold readD; rw [if_neg (by simp [ho]), if_pos hn]
    rw [e]; exact ⟨⟨none, 0, 0⟩, rfl, Own.nil hw⟩
  obtain ⟨m, E, hE, hw⟩ := Sat.disk.1 hw
  refine NilP.mk rfl ⟨some m, At.own (eqS hw) (by exact ⟨rfl, trivial⟩), _, _, fun w' hw' => DO.look (eqS hw _ hw') k true, ?_⟩
  have e : readD st k = match getM k st.fs with | none => ([], 2) | some f => (f.b, 0) := by unfold readD; rw [if_neg (by simp [ho]), if_neg (by simp [hn])]
  refine Br.mk (fun hk => ?_) (fun hk => ?_)
  · simp only [Bool.not_eq_true', Option.isSome_eq_false_iff, Option.isNone_iff_eq_none] at hk
    have hk2 : getM k st.fs = none := by rw [← hE, er_get, hk]; rfl
    rw [e, hk2]
    exact ⟨⟨none, 0, 0⟩, rfl, Own.nil (DO.shut hE hw)⟩
  · simp only [Bool.not_eq_false'] at hk
    obtain ⟨⟨q, f⟩, hf⟩ := Option.isSome_iff_exists.1 hk
    have hk2 : getM k st.fs = some f := by rw [← hE, er_get, hf]; rfl
    obtain ⟨a, b, rfl, ha⟩ := getM_split hf
    rw [hf, e, hk2]
    have hlen := total_le hk2
    have r1 := i.r1; have hfull := i.full
    have hw : Sat R (FilesAt (a ++ (k, q, f) :: b) :: pts d (dCells st m) :: MapAt m (ptrs (a ++ (k, q, f) :: b)) :: Hs) w := (hw.cons fun _ h => h.swap).swap
    obtain ⟨s, hw⟩ := Sat.file.1 (Sat.split.1 hw)
    simp only at hw
    refine NilP.mk rfl ⟨s, by rw [add_off]; exact At.own (eqS hw) (by exact ⟨rfl, trivial⟩), ?_⟩
    obtain ⟨R', hr, _, hw, back⟩ := Own.lend hw.swap (by rw [List.length_map]; omega)
    refine (clone_spec hr (by omega) hw).use ?_
    rintro _ w ⟨t, rfl, hw⟩
    refine ⟨t, rfl, t, rfl, (back hw).swap.cons fun _ h => ?_⟩
    have h2 : Sat _ (FilesAt (a ++ (k, q, f) :: b) :: pts d (dCells st m) :: MapAt m (ptrs (a ++ (k, q, f) :: b)) :: Hs) w := Sat.split.2 (Sat.file.2 ⟨s, h.swap⟩)
    exact DO.shut hE (h2.swap.cons fun _ h => h.swap)

/-- A shorter part of a slice that one owns. -/
theorem Own.short {s : Sl} {T : TypeId} {xs : List Value} (hw : Sat R (Own s T xs :: Hs) w) {n : Nat} (hn : n ≤ xs.length) : Sat R (Own ⟨s.a, n, s.cap⟩ T (xs.take n) :: Hs) w := by
  rcases Own.cases hw with ⟨rfl, rfl, h⟩ | ⟨b, rest, fr, rfl, hf, h⟩
  · obtain rfl : n = 0 := by simpa using hn
    exact Own.nil h
  · have e : xs ++ rest = xs.take n ++ (xs.drop n ++ rest) := by rw [← List.append_assoc, List.take_append_drop]
    rw [e] at h hf
    have h2 := Own.of_pts h hf
    have e2 : (xs.take n).length = n := by simp; omega
    rw [e2] at h2
    have e3 : (xs.take n ++ (xs.drop n ++ rest)).length = (xs ++ rest).length := by rw [← e]
    rw [e3] at h2
    exact h2

/-! ### Crash -/

/-- How many of the bytes that were not synced stay. -/
def stay (kp : Option Int) (f : Fl) : Nat := match kp with | none => 0 | some x => (min (max x 0) ((f.b.length : Int) - f.sure)).toNat
def cutF (kp : Option Int) (f : Fl) : Fl := ⟨f.b.take (f.sure + stay kp f), f.sure + stay kp f⟩
def crashL : List ByteArray → List Int → Fs → Fs
  | [], _, fs => fs
  | k :: ks, keep, fs => crashL ks keep.tail (updM k (cutF keep.head?) fs)
def crashD (st : DS) (keep : List Int) : DS := ⟨st.room, crashL (namesOf st.fs) keep st.fs, -1, -1, false⟩

theorem stay_le (kp : Option Int) (f : Fl) (h : f.sure ≤ f.b.length) : f.sure + stay kp f ≤ f.b.length := by
  unfold stay; split
  · omega
  · omega

theorem getM_upd {β : Type} {k : ByteArray} {g : β → β} : ∀ {l : List (ByteArray × β)} {v : β}, getM k l = some v → getM k (updM k g l) = some (g v)
  | [], _, h => by cases h
  | e :: l, v, h => by
    rw [getM] at h
    rw [updM]
    split at h
    · rename_i hk; rw [if_pos hk, getM, if_pos hk]; simp only [Option.some.injEq] at h ⊢; rw [h]
    · rename_i hk; rw [if_neg hk, getM, if_neg hk]; exact getM_upd h

theorem total_upd {k : ByteArray} {g : Fl → Fl} {fs : Fs} {f : Fl} (h : getM k fs = some f) : total (updM k g fs) = total fs - f.b.length + (g f).b.length := by
  obtain ⟨a, b, rfl, ha⟩ := getM_split h
  rw [updM_app ha, total_one, total_one]; omega

theorem mem_names {fs : Fs} {k : ByteArray} : k ∈ namesOf fs ↔ k ∈ fs.map (·.1) := by
  unfold namesOf
  rw [List.mem_map]
  constructor
  · rintro ⟨l, hl, rfl⟩
    rw [List.mem_mergeSort, List.mem_map] at hl
    obtain ⟨e, he, rfl⟩ := hl
    exact List.mem_map.2 ⟨e, he, by simp⟩
  · intro h
    obtain ⟨e, he, rfl⟩ := List.mem_map.1 h
    exact ⟨e.1.data.toList, by rw [List.mem_mergeSort]; exact List.mem_map.2 ⟨e, he, rfl⟩, by simp⟩

theorem isSome_of_mem {β : Type} {k : ByteArray} {l : List (ByteArray × β)} (h : k ∈ l.map (·.1)) : (getM k l).isSome = true := by
  cases hg : getM k l with
  | some _ => rfl
  | none => exact absurd h (notin_of_getM hg)

theorem namesOf_len (fs : Fs) : (namesOf fs).length = fs.length := by simp [namesOf]

end Go.Proofs.Ytgfneeoponiibaa
/- The check sum, plain: a table by linear algebra, and by steps. No program. No condition. -/
namespace Go.VC

def cstep (r : Nat) : Nat := if r % 2 = 1 then (r / 2) ^^^ 2197175160 else r / 2
def cstepN : Nat → Nat → Nat
  | 0, r => r
  | n + 1, r => cstepN n (cstep r)

theorem xor_mod2 (a b : Nat) : (a ^^^ b) % 2 = (a % 2 + b % 2) % 2 := by
  rcases Nat.mod_two_eq_zero_or_one a with ha | ha <;> rcases Nat.mod_two_eq_zero_or_one b with hb | hb <;>
    simp [Nat.xor_mod_two_eq_one, Nat.mod_two_eq_zero_iff_testBit_zero, ha, hb] <;> (try omega) <;>
    (have := Nat.xor_mod_two_eq_one (a := a) (b := b); rcases Nat.mod_two_eq_zero_or_one (a ^^^ b) with h | h <;> omega)

theorem cstep_xor (a b : Nat) : cstep (a ^^^ b) = cstep a ^^^ cstep b := by
  have hd : (a ^^^ b) / 2 = a / 2 ^^^ b / 2 := Nat.xor_div_two
  have hm := xor_mod2 a b
  unfold cstep
  rw [hd]
  rcases Nat.mod_two_eq_zero_or_one a with ha | ha <;> rcases Nat.mod_two_eq_zero_or_one b with hb | hb <;> rw [ha, hb] at hm
  · rw [if_neg (by omega), if_neg (by omega), if_neg (by omega)]
  · rw [if_pos (by omega), if_neg (by omega), if_pos hb, Nat.xor_assoc]
  · rw [if_pos (by omega), if_pos ha, if_neg (by omega), Nat.xor_assoc, Nat.xor_assoc]
    congr 1; exact Nat.xor_comm _ _
  · rw [if_neg (by omega), if_pos ha, if_pos hb]
    rw [Nat.xor_assoc, Nat.xor_comm (2197175160) (b / 2 ^^^ 2197175160), Nat.xor_assoc, Nat.xor_self, Nat.xor_zero]

theorem cstepN_xor : ∀ (n a b : Nat), cstepN n (a ^^^ b) = cstepN n a ^^^ cstepN n b
  | 0, _, _ => rfl
  | n + 1, a, b => by rw [cstepN, cstepN, cstepN, cstep_xor, cstepN_xor n]

theorem cstepN_shift : ∀ (n a : Nat), cstepN n (a * 2 ^ n) = a
  | 0, a => by simp [cstepN]
  | n + 1, a => by
    have : cstep (a * 2 ^ (n + 1)) = a * 2 ^ n := by
      unfold cstep
      have e : a * 2 ^ (n + 1) = 2 * (a * 2 ^ n) := by rw [Nat.pow_succ, Nat.mul_comm 2, Nat.mul_assoc]
      rw [e, if_neg (by omega)]; omega
    rw [cstepN, this, cstepN_shift n]

theorem split8 (x : Nat) : x = (x / 256 * 2 ^ 8) ^^^ (x % 256) := by
  have h : (x / 256 * 2 ^ 8) ^^^ (x % 256) = x / 256 * 2 ^ 8 + x % 256 := by
    have := Nat.two_pow_add_eq_or_of_lt (i := 8) (b := x % 256) (by omega) (x / 256)
    rw [Nat.mul_comm] at this
    rw [this]
    apply Nat.eq_of_testBit_eq
    intro j
    rw [Nat.testBit_xor, Nat.testBit_or]
    by_cases hj : j < 8
    · have : (x / 256 * 2 ^ 8).testBit j = false := by rw [Nat.testBit_mul_two_pow]; simp; omega
      rw [this]; simp
    · have : (x % 256).testBit j = false := Nat.testBit_lt_two_pow (Nat.lt_of_lt_of_le (show x % 256 < 2 ^ 8 by omega) (Nat.pow_le_pow_right (by omega) (by omega)))
      rw [this]; simp
  rw [h]; omega

theorem cstep8_eq (x : Nat) : cstepN 8 x = (x / 256) ^^^ cstepN 8 (x % 256) := by
  conv => lhs; rw [split8 x]
  rw [cstepN_xor, cstepN_shift]

/-! ### Matrices -/
def mtimesAt (m : List Nat) (r : Nat) : Nat → Nat → Nat
  | 0, out => out
  | k + 1, out => mtimesAt m r k (out ^^^ (if (r / 2 ^ (32 - (k + 1))) % 2 = 1 then m.getD (32 - (k + 1)) 0 else 0))
def mtimes (m : List Nat) (r : Nat) : Nat := mtimesAt m r 32 0
def msq (m : List Nat) : List Nat := m.map (mtimes m)
def mstep : List Nat := 2197175160 :: (List.range 31).map fun i => 2 ^ i
def mbyte : List Nat := msq (msq (msq mstep))

theorem mbyte_eq : ∀ i, i < 256 → mtimes mbyte i = cstepN 8 i := by decide +kernel

theorem mbyte_len : mbyte.length = 32 := by decide +kernel

end Go.VC
/- Codes of numbers and of bytes, plain. No program. No condition. -/
namespace Go.VC

/-- The digits to the base 256, the highest first. -/
def dig (n : Nat) : List Int := if h : n = 0 then [] else dig (n / 256) ++ [((n % 256 : Nat) : Int)]
termination_by n
decreasing_by omega

theorem dig_zero : dig 0 = [] := by unfold dig; simp
theorem dig_pos {n : Nat} (h : n ≠ 0) : dig n = dig (n / 256) ++ [((n % 256 : Nat) : Int)] := by
  conv => lhs; unfold dig
  rw [dif_neg h]

/-- What digits are worth, behind acc. -/
def valI (acc : Int) (l : List Int) : Int := l.foldl (fun a b => a * 256 + b) acc
theorem valI_nil (acc : Int) : valI acc [] = acc := rfl
theorem valI_cons (acc b : Int) (l : List Int) : valI acc (b :: l) = valI (acc * 256 + b) l := rfl
theorem valI_app (acc : Int) (a b : List Int) : valI acc (a ++ b) = valI (valI acc a) b := List.foldl_append
theorem valI_snoc (acc : Int) (a : List Int) (b : Int) : valI acc (a ++ [b]) = valI acc a * 256 + b := by rw [valI_app]; rfl
theorem valI_nn : ∀ {l : List Int} {acc : Int}, 0 ≤ acc → (∀ x ∈ l, 0 ≤ x ∧ x < 256) → 0 ≤ valI acc l
  | [], _, h, _ => h
  | b :: l, acc, h, hb => by
    rw [valI_cons]
    have := hb b List.mem_cons_self
    exact valI_nn (by omega) fun x hx => hb x (List.mem_cons_of_mem _ hx)
theorem valI_lt : ∀ {l : List Int} {acc : Int}, 0 ≤ acc → (∀ x ∈ l, 0 ≤ x ∧ x < 256) → valI acc l < (acc + 1) * 256 ^ l.length
  | [], acc, h, _ => by simp [valI]; omega
  | b :: l, acc, h, hb => by
    rw [valI_cons]
    have h1 := hb b List.mem_cons_self
    have := valI_lt (l := l) (acc := acc * 256 + b) (by omega) fun x hx => hb x (List.mem_cons_of_mem _ hx)
    refine Int.lt_of_lt_of_le this ?_
    rw [List.length_cons, Int.pow_succ, Int.mul_comm (256 ^ l.length) 256, ← Int.mul_assoc]
    exact Int.mul_le_mul_of_nonneg_right (by omega) (Int.le_of_lt (Int.pow_pos (by decide)))

theorem dig_val (n : Nat) : valI 0 (dig n) = n := by
  induction n using Nat.strongRecOn with
  | ind n ih =>
    by_cases h : n = 0
    · subst h; rw [dig_zero]; rfl
    · rw [dig_pos h, valI_snoc, ih (n / 256) (by omega)]; omega
theorem dig_bd (n : Nat) : ∀ x ∈ dig n, 0 ≤ x ∧ x < 256 := by
  induction n using Nat.strongRecOn with
  | ind n ih =>
    by_cases h : n = 0
    · subst h; rw [dig_zero]; intro x hx; cases hx
    · rw [dig_pos h]
      intro x hx
      rcases List.mem_append.1 hx with hx | hx
      · exact ih (n / 256) (by omega) x hx
      · simp at hx; omega
theorem dig_head (n : Nat) : ∀ x l, dig n = x :: l → x ≠ 0 := by
  induction n using Nat.strongRecOn with
  | ind n ih =>
    intro x l hx
    by_cases h : n = 0
    · subst h; rw [dig_zero] at hx; cases hx
    · rw [dig_pos h] at hx
      by_cases h2 : n / 256 = 0
      · rw [h2, dig_zero] at hx
        simp at hx
        omega
      · cases hd : dig (n / 256) with
        | nil => rw [dig_pos h2] at hd; simp at hd
        | cons y l' =>
          rw [hd] at hx
          simp at hx
          obtain ⟨rfl, _⟩ := hx
          exact ih (n / 256) (by omega) _ _ hd
theorem dig_len_le : ∀ (k n : Nat), n < 256 ^ k → (dig n).length ≤ k
  | 0, n, h => by
    have : n = 0 := by simpa using h
    subst this; rw [dig_zero]; simp
  | k + 1, n, h => by
    by_cases h0 : n = 0
    · subst h0; rw [dig_zero]; simp
    · rw [dig_pos h0, List.length_append]
      have := dig_len_le k (n / 256) (by rw [Nat.pow_succ] at h; exact Nat.div_lt_of_lt_mul (by rwa [Nat.mul_comm] at h))
      simp; omega
theorem dig_len8 {n : Nat} (h : n < 18446744073709551616) : (dig n).length ≤ 8 := dig_len_le 8 n (by simpa using h)

/-- The width that the program reckons. -/
theorem dig_width (n : Nat) (h : n < 18446744073709551616) : (Lib.bitLen n + 7) / 8 = (dig n).length := by
  induction n using Nat.strongRecOn with
  | ind n ih =>
    by_cases h0 : n = 0
    · subst h0; rw [dig_zero]; decide
    · rw [dig_pos h0, List.length_append]
      by_cases h1 : 256 ≤ n
      · rw [Lib.bitLen_shift8 n h1 h, ← ih (n / 256) (by omega) (by omega)]
        simp; omega
      · have e : n / 256 = 0 := by omega
        rw [e, dig_zero]
        have h2 : ∀ m : Fin 256, m.val ≠ 0 → (Lib.bitLen m.val + 7) / 8 = 1 := by decide +kernel
        simpa using h2 ⟨n, by omega⟩ h0

/-- One digit after the other, from the highest on. -/
theorem dig_drop : ∀ (k n : Nat), k ≤ (dig n).length → (dig n).take ((dig n).length - k) = dig (n / 256 ^ k)
  | 0, n, _ => by simp
  | k + 1, n, h => by
    by_cases h0 : n = 0
    · subst h0; rw [dig_zero] at h; simp at h
    · rw [dig_pos h0] at h ⊢
      rw [List.length_append] at h ⊢
      simp only [List.length_cons, List.length_nil] at h ⊢
      have e : (dig (n / 256)).length + (0 + 1) - (k + 1) = (dig (n / 256)).length - k := by omega
      rw [e, List.take_append_of_le_length (by omega), dig_drop k (n / 256) (by omega), Nat.div_div_eq_div_mul, Nat.pow_succ, Nat.mul_comm 256]

theorem dig_get {n k : Nat} (h : k < (dig n).length) : (dig n)[(dig n).length - 1 - k]'(by omega) = ((n / 256 ^ k % 256 : Nat) : Int) := by
  have h1 := dig_drop k n (by omega)
  have hn : n / 256 ^ k ≠ 0 := by
    intro h0
    rw [h0, dig_zero] at h1
    have := congrArg List.length h1
    simp at this; omega
  rw [dig_pos hn] at h1
  have h2 : ((dig n).take ((dig n).length - k)).getLast? = some ((n / 256 ^ k % 256 : Nat) : Int) := by rw [h1]; simp
  rw [List.getLast?_eq_getElem?, List.length_take, Nat.min_eq_left (by omega), List.getElem?_take] at h2
  split at h2
  · rw [List.getElem?_eq_some_iff] at h2
    obtain ⟨h3, h4⟩ := h2
    have e : (dig n).length - 1 - k = (dig n).length - k - 1 := by omega
    simp only [e]
    exact h4
  · cases h2

/-! ### Codes -/
def numB (n : Nat) : List Int := ((dig n).length : Int) :: dig n
def textB (b : List Int) : List Int := numB b.length ++ b

theorem numB_bd {n : Nat} (h : n < 18446744073709551616) : ∀ x ∈ numB n, 0 ≤ x ∧ x < 256 := by
  intro x hx
  rcases List.mem_cons.1 hx with rfl | hx
  · have := dig_len8 h; omega
  · exact dig_bd n x hx
theorem numB_len {n : Nat} (h : n < 18446744073709551616) : (numB n).length ≤ 9 := by
  have := dig_len8 h; unfold numB; simp; omega

/-- The code that stands first: its number, whether it is one below 0, how many bytes it has. -/
def parse (l : List Int) : Option (Int × Bool × Nat) :=
  match l with
  | [] => none
  | k :: rest =>
    let neg := decide (16 ≤ k)
    let w := (if 16 ≤ k then k - 16 else k).toNat
    if k < 32 ∧ w ≤ 8 ∧ w ≤ rest.length ∧ (w = 0 → k = 0) ∧ (w ≠ 0 → rest.head? ≠ some 0) then some (valI 0 (rest.take w), neg, w + 1) else none

theorem parse_num {n : Nat} (h : n < 18446744073709551616) (rest : List Int) : parse (numB n ++ rest) = some ((n : Int), false, (numB n).length) := by
  have h8 := dig_len8 h
  unfold parse numB
  simp only [List.cons_append]
  have e1 : ¬ (16 : Int) ≤ ((dig n).length : Int) := by omega
  rw [if_neg e1]
  rw [if_pos]
  · simp only [Int.toNat_natCast, List.take_left', dig_val, List.length_cons, Option.some.injEq, Prod.mk.injEq, and_true, true_and]
    simpa using e1
  · refine ⟨by omega, by omega, by simp, fun h0 => by omega, fun h0 => ?_⟩
    simp only [Int.toNat_natCast] at h0
    cases hd : dig n with
    | nil => rw [hd] at h0; simp at h0
    | cons x l =>
      have := dig_head n x l hd
      simp; exact this

theorem parse_bd {l : List Int} {n : Int} {neg : Bool} {k : Nat} (hb : ∀ x ∈ l, 0 ≤ x ∧ x < 256) (h : parse l = some (n, neg, k)) : 0 ≤ n ∧ n < 18446744073709551616 ∧ 1 ≤ k ∧ k ≤ 9 ∧ k ≤ l.length := by
  unfold parse at h
  split at h
  · cases h
  · rename_i c rest
    simp only at h
    generalize hw : (if 16 ≤ c then c - 16 else c).toNat = w at h
    split at h
    · rename_i hc
      obtain ⟨_, h8, hr, _, _⟩ := hc
      simp only [Option.some.injEq, Prod.mk.injEq] at h
      obtain ⟨rfl, _, rfl⟩ := h
      have hb2 : ∀ x ∈ rest.take w, 0 ≤ x ∧ x < 256 := fun x hx => hb x (List.mem_cons_of_mem _ (List.mem_of_mem_take hx))
      refine ⟨valI_nn (Int.le_refl _) hb2, ?_, by omega, by omega, by simp; omega⟩
      refine Int.lt_of_lt_of_le (valI_lt (Int.le_refl _) hb2) ?_
      rw [List.length_take, Nat.min_eq_left hr, Int.zero_add, Int.one_mul]
      have h9 : 256 ^ w ≤ 256 ^ 8 := Nat.pow_le_pow_right (by omega) h8
      have : ((256 ^ w : Nat) : Int) ≤ ((256 ^ 8 : Nat) : Int) := Int.ofNat_le.2 h9
      rw [Int.natCast_pow] at this
      exact Int.le_trans this (by decide)
    · cases h

/-! ### A reader -/
structure Rd where
  bs : List Int
  bad : Bool
def rdNum (most : Int) (r : Rd) : Int × Rd :=
  if r.bad then (0, r) else match parse r.bs with
  | some (n, neg, k) => if neg = false ∧ n ≤ most then (n, ⟨r.bs.drop k, false⟩) else (0, ⟨r.bs, true⟩)
  | none => (0, ⟨r.bs, true⟩)
def rdText (most : Int) (r : Rd) : List Int × Rd :=
  if r.bad then ([], r) else match parse r.bs with
  | some (n, neg, k) => if neg = false ∧ 0 ≤ most ∧ n ≤ most ∧ n ≤ ((r.bs.length : Int) - k) then (((r.bs.drop k).take n.toNat), ⟨r.bs.drop (k + n.toNat), false⟩) else ([], ⟨r.bs, true⟩)
  | none => ([], ⟨r.bs, true⟩)
def rdWhole (r : Rd) : Bool := !r.bad && decide (r.bs.length = 0)

end Go.VC
/- Records, plain. No program. No condition. -/
namespace Go.VC

def ones32 : Nat := 4294967295
def crcRun (r : Nat) (bs : List Int) : Nat := bs.foldl (fun r c => cstepN 8 (r ^^^ c.toNat)) r
def crcAdd (sum : Nat) (bs : List Int) : Nat := crcRun (sum ^^^ ones32) bs ^^^ ones32

theorem crcRun_app (r : Nat) (a b : List Int) : crcRun r (a ++ b) = crcRun (crcRun r a) b := List.foldl_append
theorem crcAdd_app (s : Nat) (a b : List Int) : crcAdd (crcAdd s a) b = crcAdd s (a ++ b) := by
  unfold crcAdd
  rw [Nat.xor_assoc, Nat.xor_self, Nat.xor_zero, crcRun_app]

theorem cstep_lt {r : Nat} (h : r < 4294967296) : cstep r < 4294967296 := by
  unfold cstep
  split
  · exact Nat.xor_lt_two_pow (n := 32) (by omega) (by decide)
  · omega
theorem cstepN_lt : ∀ (n : Nat) {r : Nat}, r < 4294967296 → cstepN n r < 4294967296
  | 0, _, h => h
  | n + 1, _, h => cstepN_lt n (cstep_lt h)
theorem crcRun_lt : ∀ {bs : List Int} {r : Nat}, r < 4294967296 → (∀ x ∈ bs, 0 ≤ x ∧ x < 256) → crcRun r bs < 4294967296
  | [], _, h, _ => h
  | b :: bs, r, h, hb => by
    have := hb b List.mem_cons_self
    exact crcRun_lt (bs := bs) (cstepN_lt 8 (Nat.xor_lt_two_pow (n := 32) h (by omega))) fun x hx => hb x (List.mem_cons_of_mem _ hx)
theorem crcAdd_lt {s : Nat} {bs : List Int} (hs : s < 4294967296) (hb : ∀ x ∈ bs, 0 ≤ x ∧ x < 256) : crcAdd s bs < 4294967296 :=
  Nat.xor_lt_two_pow (n := 32) (crcRun_lt (Nat.xor_lt_two_pow (n := 32) hs (by decide)) hb) (by decide)

/-- A number's four bytes. -/
def word4 (n : Nat) : List Int := [((n / 16777216 % 256 : Nat) : Int), ((n / 65536 % 256 : Nat) : Int), ((n / 256 % 256 : Nat) : Int), ((n % 256 : Nat) : Int)]
theorem word4_len (n : Nat) : (word4 n).length = 4 := rfl
theorem word4_bd (n : Nat) : ∀ x ∈ word4 n, 0 ≤ x ∧ x < 256 := by
  intro x hx
  simp only [word4, List.mem_cons, List.not_mem_nil, or_false] at hx
  rcases hx with rfl | rfl | rfl | rfl <;> omega
theorem word4_val {n : Nat} (h : n < 4294967296) : valI 0 (word4 n) = n := by
  simp only [word4, valI, List.foldl]; omega
theorem val_word4 {l : List Int} (hl : l.length = 4) (hb : ∀ x ∈ l, 0 ≤ x ∧ x < 256) : word4 (valI 0 l).toNat = l := by
  match l, hl with
  | [a, b, c, d], _ =>
    have ha := hb a (by simp); have h2 := hb b (by simp); have h3 := hb c (by simp); have h4 := hb d (by simp)
    simp only [word4, valI, List.foldl, List.cons.injEq, and_true]
    omega

/-- A record. -/
def recB (b : List Int) : List Int := word4 b.length ++ word4 (crcAdd 0 (word4 b.length ++ b)) ++ b
theorem recB_len (b : List Int) : (recB b).length = 8 + b.length := by simp [recB, word4_len]; omega
theorem recB_bd {b : List Int} (h : ∀ x ∈ b, 0 ≤ x ∧ x < 256) : ∀ x ∈ recB b, 0 ≤ x ∧ x < 256 := by
  intro x hx
  simp only [recB, List.mem_append] at hx
  rcases hx with (hx | hx) | hx
  · exact word4_bd _ x hx
  · exact word4_bd _ x hx
  · exact h x hx

/-- The record that stands first: its bytes. -/
def first (l : List Int) : Option (List Int) :=
  if 8 ≤ l.length then
    let n := (valI 0 (l.take 4)).toNat
    if n ≤ 65536 ∧ n ≤ l.length - 8 ∧ crcAdd 0 (l.take 4 ++ (l.drop 8).take n) = (valI 0 ((l.drop 4).take 4)).toNat then some ((l.drop 8).take n) else none
  else none

theorem first_len {l b : List Int} (h : first l = some b) : 8 + b.length ≤ l.length ∧ b.length ≤ 65536 ∧ b = (l.drop 8).take b.length ∧ b.length = (valI 0 (l.take 4)).toNat := by
  unfold first at h
  split at h
  · simp only at h
    split at h
    · rename_i h8 hc
      obtain ⟨h1, h2, _⟩ := hc
      simp only [Option.some.injEq] at h
      have hl : b.length = (valI 0 (l.take 4)).toNat := by rw [← h]; simp; omega
      exact ⟨by omega, by omega, by rw [hl]; exact h.symm, hl⟩
    · cases h
  · cases h

/-- The records with which bytes begin. -/
def scan (l : List Int) : List (List Int) :=
  match h : first l with
  | none => []
  | some b => b :: scan (l.drop (8 + b.length))
termination_by l.length
decreasing_by
  have := (first_len h).1
  simp; omega

theorem scan_none {l : List Int} (h : first l = none) : scan l = [] := by
  unfold scan
  split
  · rfl
  · rename_i b hb; rw [h] at hb; cases hb
theorem scan_some {l b : List Int} (h : first l = some b) : scan l = b :: scan (l.drop (8 + b.length)) := by
  conv => lhs; unfold scan
  split
  · rename_i hb; rw [h] at hb; cases hb
  · rename_i b' hb; rw [h] at hb; cases hb; rfl

def scanLen (l : List (List Int)) : Nat := (l.map fun b => 8 + b.length).foldr (· + ·) 0
theorem scanLen_cons (b : List Int) (l : List (List Int)) : scanLen (b :: l) = 8 + b.length + scanLen l := rfl

theorem first_rec {b rest : List Int} (hb : b.length ≤ 65536) (hbd : ∀ x ∈ b, 0 ≤ x ∧ x < 256) : first (recB b ++ rest) = some b := by
  unfold first
  have hl := recB_len b
  rw [if_pos (by rw [List.length_append]; omega)]
  have e0 : recB b ++ rest = word4 b.length ++ (word4 (crcAdd 0 (word4 b.length ++ b)) ++ (b ++ rest)) := by simp [recB]
  have e1 : (recB b ++ rest).take 4 = word4 b.length := by rw [e0, List.take_left' (word4_len _)]
  have e2 : (recB b ++ rest).drop 4 = word4 (crcAdd 0 (word4 b.length ++ b)) ++ (b ++ rest) := by rw [e0, List.drop_left' (word4_len _)]
  have e3 : (recB b ++ rest).drop 8 = b ++ rest := by
    rw [show 8 = 4 + 4 from rfl, ← List.drop_drop, e2, List.drop_left' (word4_len _)]
  have hv : (valI 0 (word4 b.length)).toNat = b.length := by rw [word4_val (by omega)]; rfl
  simp only
  have hc : crcAdd 0 (word4 b.length ++ b) < 4294967296 := crcAdd_lt (by decide) fun x hx => (List.mem_append.1 hx).elim (word4_bd _ x) (hbd x)
  rw [e1, e2, e3, hv, List.take_left' rfl, List.take_left' (word4_len _), word4_val hc]
  rw [if_pos ⟨hb, by rw [List.length_append]; omega, rfl⟩]

theorem scan_rec {b : List Int} (hb : b.length ≤ 65536) (hbd : ∀ x ∈ b, 0 ≤ x ∧ x < 256) : scan (recB b) = [b] := by
  have h := first_rec (rest := []) hb hbd
  rw [List.append_nil] at h
  rw [scan_some h]
  have : (recB b).drop (8 + b.length) = [] := List.drop_eq_nil_of_le (by rw [recB_len]; omega)
  rw [this, scan_none]
  unfold first; simp

end Go.VC
/- Package crc: the check sum. No condition. -/
namespace Go.Proofs.Ytgfneeoponiibaa
open Go Go.VC

variable {R : Cx} {Hs Rest : List HP} {w : World}

theorem At.intsK {kd : IntKind} {S : World → Prop} {b : Nat} {xs : List Int} {T : TypeId} {fr : Nat × Nat} (hS : ∀ w, S w → Sat R Hs w)
    [t : TakeP b Hs (.cells (xs.map (Value.int kd)).toArray T fr) Rest] {i : Nat} (hi : i < xs.length) : At S (Addr.add ⟨b, 0, none⟩ i) [.int kd xs[i]] := by
  rw [add_off]
  refine At.own hS ?_
  rw [Nat.zero_add, List.drop_eq_getElem_cons (by simpa using hi)]
  exact ⟨by simp, trivial⟩

/-! ### Bits -/
theorem shr_nat32 (n k : Nat) (hk : k ≤ 32) : shrI .u32 (n : Int) (k : Int) = ((n / 2 ^ k : Nat) : Int) := by
  have e : min ((k : Int).toNat) IntKind.u32.bits = k := by rw [Int.toNat_natCast]; exact Nat.min_eq_left hk
  unfold shrI
  rw [e, Int.fdiv_eq_ediv_of_nonneg _ (by exact Int.le_of_lt (Int.pow_pos (by decide)))]
  rw [show ((2 : Int) ^ k) = ((2 ^ k : Nat) : Int) from (Int.natCast_pow 2 k).symm]
  exact (Int.natCast_ediv n (2 ^ k)).symm
theorem and_one (x : Nat) (hx : x < 4294967296) : bitI .and .u32 (x : Int) 1 = ((x % 2 : Nat) : Int) := by
  have := andU32 (x := x) (y := 1) hx (by omega)
  rw [Nat.and_one_is_mod] at this
  exact this
theorem mask32 {x b : Nat} (hx : x < 4294967296) (hb : b < 2) : bitI .and .u32 (x : Int) (IntKind.u32.wrap (0 - (b : Int))) = ((if b = 1 then x else 0 : Nat) : Int) := by
  rw [wrapU32m]
  rcases (show b = 0 ∨ b = 1 by omega) with rfl | rfl
  · have := andU32 (x := x) (y := 0) hx (by omega)
    rw [Nat.and_zero] at this
    exact this
  · have := andU32 (x := x) (y := 4294967295) hx (by omega)
    have e : x &&& 4294967295 = x := by
      have := Nat.and_two_pow_sub_one_eq_mod x 32
      rw [show (2 : Nat) ^ 32 - 1 = 4294967295 from rfl, show (2 : Nat) ^ 32 = 4294967296 from rfl] at this
      rw [this]; omega
    rw [e] at this
    exact this
theorem notU32 {x : Nat} (hx : x < 4294967296) : IntKind.u32.wrap ((BitVec.ofInt IntKind.u32.bits (if IntKind.u32.signed = true then -1 else IntKind.u32.max) ^^^ BitVec.ofInt IntKind.u32.bits (x : Int)).toNat : Nat) = ((x ^^^ ones32 : Nat) : Int) := by
  have := xorU32 (x := 4294967295) (y := x) (by omega) hx
  rw [Nat.xor_comm] at this
  exact this

/-! ### Matrices -/
abbrev mi (l : List Nat) : List Int := l.map (fun n : Nat => (n : Int))
abbrev m32 (l : List Nat) : List Value := (mi l).map (Value.int .u32)
abbrev mAt (m : Nat) (l : List Nat) : HP := pts m (.cells (m32 l).toArray 124 (0, 0))

/-- A row that is filled. -/
def Fill (t c : List Nat) (k : Nat) : Prop := c.length = t.length ∧ ∀ i, i < k → c[i]? = t[i]?
theorem Fill.set {t c : List Nat} {k x : Nat} (h : Fill t c k) (hk : k < t.length) (hx : x = t[k]) : Fill t (c.set k x) (k + 1) := by
  refine ⟨by simp [h.1], fun i hi => ?_⟩
  rcases (show i = k ∨ i < k by omega) with rfl | hik
  · rw [List.getElem?_set_self (by rw [h.1]; exact hk), hx, List.getElem?_eq_getElem hk]
  · rw [List.getElem?_set_ne (by omega)]; exact h.2 i hik
theorem Fill.done {t c : List Nat} {k : Nat} (h : Fill t c k) (hk : t.length ≤ k) : c = t := by
  apply List.ext_getElem?
  intro i
  rcases Nat.lt_or_ge i k with hi | hi
  · exact h.2 i hi
  · rw [List.getElem?_eq_none (by rw [h.1]; omega), List.getElem?_eq_none (by omega)]

theorem xor32 {a b : Nat} (ha : a < 4294967296) (hb : b < 4294967296) : a ^^^ b < 4294967296 := Nat.xor_lt_two_pow (n := 32) ha hb
theorem mtimesAt_lt {l : List Nat} (hl : ∀ x ∈ l, x < 4294967296) (r : Nat) : ∀ (k : Nat) {out : Nat}, out < 4294967296 → mtimesAt l r k out < 4294967296
  | 0, _, h => h
  | k + 1, out, h => by
    refine mtimesAt_lt hl r k (xor32 h ?_)
    split
    · rw [List.getD_eq_getElem?_getD]
      cases hx : l[32 - (k + 1)]? with
      | none => simp
      | some x => exact hl x (List.mem_of_getElem? hx)
    · omega
theorem msq_bd {l : List Nat} (hl : ∀ x ∈ l, x < 4294967296) : ∀ x ∈ msq l, x < 4294967296 := by
  intro x hx
  obtain ⟨r, _, rfl⟩ := List.mem_map.1 hx
  exact mtimesAt_lt hl r 32 (by omega)

theorem times_spec {m r : Nat} {l : List Nat} (hl : l.length = 32) (hb : ∀ x ∈ l, x < 4294967296) (hr : r < 4294967296) (hw : Sat R (mAt m l :: Hs) w) :
    Gets Try.prog 68 #[.pointer (some ⟨m, 0, none⟩), .int .u32 r] w fun v w' => v = .int .u32 (mtimes l r : Nat) ∧ Sat R (mAt m l :: Hs) w' := by
  apply call68
  refine ⟨fun o t w => ∃ k n : Nat, t = k ∧ k ≤ 32 ∧ o = n ∧ n < 4294967296 ∧ mtimesAt l r (32 - k) n = mtimes l r ∧ Sat R (mAt m l :: Hs) w, fun _ t _ => 32 - t.toNat, ⟨0, 0, rfl, by omega, rfl, by omega, rfl, hw⟩, ?_⟩
  rintro _ _ _ w ⟨k, n, rfl, hk, rfl, hn, he, hw⟩
  refine Br.d (fun h => ?_) (fun h => ?_)
  · refine drw_rule hw fun w hw => NilP.mk rfl (Rng.mk (by omega) (by omega) ⟨(l[k]'(by omega) : Nat), ?_, Ge0.mk (by omega) ?_⟩)
    · have := At.intsK (b := m) (T := 124) (fr := (0, 0)) (kd := .u32) (xs := mi l) (S := Sat R (mAt m l :: Hs)) selfS (i := k) (by simp; omega)
      rw [Int.toNat_natCast]
      simpa using this
    · have hx := hb (l[k]'(by omega)) (List.getElem_mem _)
      have h2 : r / 2 ^ k < 4294967296 := Nat.lt_of_le_of_lt (Nat.div_le_self _ _) hr
      rw [shr_nat32 r k (by omega), and_one _ h2, mask32 hx (by omega), wrap64 (by omega) (by omega)]
      have hm : (if r / 2 ^ k % 2 = 1 then l[k]'(by omega) else 0) < 4294967296 := by split <;> omega
      rw [xorU32 hn hm]
      refine ⟨⟨k + 1, _, by omega, by omega, rfl, xor32 hn hm, ?_, hw⟩, by dsimp only; omega⟩
      rw [← he]
      have e : 32 - k = (31 - k) + 1 := by omega
      have e2 : 32 - (k + 1) = 31 - k := by omega
      have e3 : 32 - (31 - k + 1) = k := by omega
      rw [e, e2, mtimesAt, e3, List.getD_eq_getElem?_getD, List.getElem?_eq_getElem (by omega : k < l.length)]
      rfl
  · have hk2 : k = 32 := by omega
    subst hk2
    refine ⟨?_, hw⟩
    rw [← he]; rfl

theorem zeros_at {b : Nat} {n : Nat} {T : TypeId} {o : Obj} (ho : o = .cells (m32 (List.replicate n 0)).toArray T (0, 0)) (hw : Sat R (pts b o :: Hs) w) : Sat R (pts b (.cells (m32 (List.replicate n 0)).toArray T (0, 0)) :: Hs) w := by
  rw [← ho]; exact hw

theorem mi_set (l : List Nat) (i x : Nat) : (mi l).set i (x : Int) = mi (l.set i x) := by simp [mi, List.map_set]

theorem squared_spec {m : Nat} {l : List Nat} (hl : l.length = 32) (hb : ∀ x ∈ l, x < 4294967296) (hw : Sat R (mAt m l :: Hs) w) :
    Gets Try.prog 67 #[.pointer (some ⟨m, 0, none⟩)] w fun v w' => ∃ b, v = .pointer (some ⟨b, 0, none⟩) ∧ Sat R (mAt b (msq l) :: Hs) w' := by
  have hml : (msq l).length = 32 := by simp [msq, hl]
  apply call67
  refine new_rule hw fun b w hw => ?_
  have hw := zeros_at (n := 32) (T := 124) rfl hw
  refine ⟨fun t w => ∃ k : Nat, t = k ∧ k ≤ 32 ∧ ∃ c, Fill (msq l) c k ∧ Sat R (mAt b c :: mAt m l :: Hs) w, fun t _ => 32 - t.toNat, ⟨0, rfl, by omega, _, ⟨by simp [hml], fun i hi => absurd hi (by omega)⟩, hw⟩, ?_⟩
  rintro _ _ w ⟨k, rfl, hk, c, hf, hw⟩
  refine Br.d (fun h => ?_) (fun h => ?_)
  · have hkl : k < l.length := by omega
    refine drw_rule hw fun w hw => NilP.mk rfl (Rng.mk (by omega) (by omega) ⟨(l[k] : Nat), ?_, ?_⟩)
    · have := At.intsK (b := m) (T := 124) (fr := (0, 0)) (kd := .u32) (xs := mi l) (S := Sat R (mAt m l :: mAt b c :: Hs)) selfS (i := k) (by simp; omega)
      rw [Int.toNat_natCast]
      have h2 : At (Sat R (mAt m l :: mAt b c :: Hs)) (Addr.add ⟨m, 0, none⟩ k) [.int .u32 (l[k] : Nat)] := by simpa using this
      exact fun w hw => h2 w hw.swap
    · refine (times_spec hl hb (hb l[k] (List.getElem_mem _)) hw.swap).use ?_
      rintro _ w ⟨rfl, hw⟩
      refine ⟨_, rfl, Rng.mk (by omega) (by omega) ?_⟩
      rw [Int.toNat_natCast]
      refine storeI_rule (l := mi c) (by kernel_rfl) hw (by simp [hf.1, hml]; omega) fun w hw => ?_
      rw [mi_set] at hw
      rw [wrap64 (by omega) (by omega)]
      exact ⟨⟨k + 1, by omega, by omega, _, hf.set (by omega) (by simp [msq]), hw⟩, by dsimp only; omega⟩
  · have := hf.done (by omega)
    subst this
    exact ⟨b, rfl, hw.swap.drop⟩

theorem mstep_len : mstep.length = 32 := by decide
theorem mstep_bd : ∀ x ∈ mstep, x < 4294967296 := by decide +kernel
theorem mstep_get {k : Nat} (hk : k < 31) : mstep[k + 1]'(by rw [mstep_len]; omega) = 2 ^ k := by simp [mstep]

theorem stepped_spec (hw : Sat R Hs w) : Gets Try.prog 66 #[] w fun v w' => ∃ b, v = .pointer (some ⟨b, 0, none⟩) ∧ Sat R (mAt b mstep :: Hs) w' := by
  apply call66
  refine new_rule hw fun b w hw => ?_
  have hw : Sat R (mAt b (2197175160 :: List.replicate 31 0) :: Hs) w := hw
  refine ⟨fun t w => ∃ k : Nat, t = k ∧ k ≤ 31 ∧ ∃ c, Fill mstep c (k + 1) ∧ Sat R (mAt b c :: Hs) w, fun t _ => 31 - t.toNat, ⟨0, rfl, by omega, _, ⟨by simp [mstep], fun i hi => by have : i = 0 := by omega
                                                                                                                                                                                      subst this; rfl⟩, hw⟩, ?_⟩
  rintro _ _ w ⟨k, rfl, hk, c, hf, hw⟩
  refine Br.d (fun h => ?_) (fun h => ?_)
  · refine drw_rule hw fun w hw => Ge0.mk (by omega) ?_
    rw [wrap64 (by omega) (by omega)]
    refine Rng.mk (by omega) (by omega) ?_
    have e : ((k : Int) + 1).toNat = k + 1 := by omega
    have e2 : shlI .u32 1 (k : Int) = ((2 ^ k : Nat) : Int) := by
      unfold shlI
      have e3 : min ((k : Int).toNat) IntKind.u32.bits = k := by rw [Int.toNat_natCast]; exact Nat.min_eq_left (by show k ≤ 32; omega)
      rw [e3, Int.one_mul, show ((2 : Int) ^ k) = ((2 ^ k : Nat) : Int) from (Int.natCast_pow 2 k).symm]
      have : 2 ^ k < 4294967296 := Nat.pow_lt_pow_right (n := 32) (by omega) (by omega)
      generalize 2 ^ k = q at this ⊢
      exact wrapU32 (by omega) (by omega)
    rw [e, e2]
    refine storeI_rule (l := mi c) (by kernel_rfl) hw (by simp [hf.1, mstep_len]; omega) fun w hw => ?_
    rw [mi_set] at hw
    exact ⟨⟨k + 1, by omega, by omega, _, hf.set (by rw [mstep_len]; omega) (mstep_get (by omega)).symm, hw⟩, by dsimp only; omega⟩
  · have := hf.done (by rw [mstep_len]; omega)
    subst this
    exact ⟨b, rfl, hw⟩

def tabL : List Nat := (List.range 256).map (cstepN 8)
theorem tabL_len : tabL.length = 256 := by simp [tabL]
theorem tabL_get {k : Nat} (hk : k < 256) : tabL[k]'(by rw [tabL_len]; exact hk) = cstepN 8 k := by simp [tabL]

set_option maxRecDepth 20000 in
theorem table_spec (hw : Sat R Hs w) : Gets Try.prog 56 #[] w fun v w' => v = .agg (m32 tabL).toArray ∧ Sat R Hs w' := by
  apply call56
  refine new_rule hw fun b0 w hw => ?_
  have hw := zeros_at (n := 256) (T := 107) (by kernel_rfl) hw
  refine (stepped_spec hw).use ?_
  rintro _ w ⟨m1, rfl, hw⟩
  refine ⟨_, rfl, (squared_spec mstep_len mstep_bd hw).use ?_⟩
  rintro _ w ⟨m2, rfl, hw⟩
  have l2 : (msq mstep).length = 32 := by simp [msq, mstep_len]
  refine ⟨_, rfl, (squared_spec l2 (msq_bd mstep_bd) hw).use ?_⟩
  rintro _ w ⟨m3, rfl, hw⟩
  have l3 : (msq (msq mstep)).length = 32 := by simp [msq, mstep_len]
  refine ⟨_, rfl, (squared_spec l3 (msq_bd (msq_bd mstep_bd)) hw).use ?_⟩
  rintro _ w ⟨m4, rfl, hw⟩
  have hmb : ∀ x ∈ mbyte, x < 4294967296 := msq_bd (msq_bd (msq_bd mstep_bd))
  have hw : Sat R (mAt m4 mbyte :: pts b0 (.cells (m32 (List.replicate 256 0)).toArray 107 (0, 0)) :: Hs) w := hw
  refine ⟨_, rfl, ?_⟩
  refine new_rule hw fun b2 w hw => ?_
  have hw := zeros_at (n := 256) (T := 107) (by kernel_rfl) hw
  refine ⟨fun t w => ∃ k : Nat, t = k ∧ k ≤ 256 ∧ ∃ c, Fill tabL c k ∧ Sat R (pts b2 (.cells (m32 c).toArray 107 (0, 0)) :: mAt m4 mbyte :: pts b0 (.cells (m32 (List.replicate 256 0)).toArray 107 (0, 0)) :: Hs) w, fun t _ => 256 - t.toNat, ⟨0, rfl, by omega, _, ⟨by simp [tabL_len], fun i hi => absurd hi (by omega)⟩, hw⟩, ?_⟩
  rintro _ _ w ⟨k, rfl, hk, c, hf, hw⟩
  have hcl : c.length = 256 := by rw [hf.1, tabL_len]
  refine Br.d (fun h => ?_) (fun h => ?_)
  · rw [wrapU32 (by omega) (by omega)]
    refine (times_spec mbyte_len hmb (r := k) (by omega) hw.swap).use ?_
    rintro _ w ⟨rfl, hw⟩
    refine ⟨_, rfl, Rng.mk (by omega) (by omega) ?_⟩
    rw [Int.toNat_natCast]
    refine storeI_rule (l := mi c) (by kernel_rfl) hw (by simp; omega) fun w hw => ?_
    rw [mi_set] at hw
    rw [wrap64 (by omega) (by omega)]
    exact ⟨⟨k + 1, by omega, by omega, _, hf.set (by rw [tabL_len]; omega) (by rw [tabL_get (by omega)]; exact mbyte_eq k (by omega)), hw⟩, by dsimp only; omega⟩
  · have := hf.done (by rw [tabL_len]; omega)
    subst this
    have hlen : (m32 tabL).length = 256 := by simp [tabL_len]
    have h1 : oneAll (m32 tabL) = true := by unfold oneAll; simp [Value.oneCell']
    refine ⟨m32 tabL, hlen, At.own (eqS hw) (by exact Pre.refl _), ?_⟩
    have hw : Sat R (pts b0 (.cells (m32 (List.replicate 256 0)).toArray 107 (0, 0)) :: Hs) w := hw.drop.drop
    refine store_rule hw (v := .agg (m32 tabL).toArray) (by show _ = some ((m32 tabL).length); rw [hlen]; kernel_rfl) h1 (by show 0 + (m32 tabL).length ≤ _; rw [hlen]; simp) fun w hw => ?_
    have e : putL (m32 (List.replicate 256 0)) 0 (Value.agg (m32 tabL).toArray).cells.toList = m32 tabL := by
      show putL _ 0 (m32 tabL) = _
      rw [putL_eq _ _ _ (by rw [hlen]; simp), hlen]
      simp
    rw [e] at hw
    exact ⟨m32 tabL, hlen, At.own (eqS hw) (by exact Pre.refl _), rfl, hw.drop⟩

theorem cstep_byte {n c : Nat} (hc : c < 256) : (n / 256) ^^^ cstepN 8 ((n % 256) ^^^ c) = cstepN 8 (n ^^^ c) := by
  rw [cstep8_eq (n ^^^ c)]
  have h1 : (n ^^^ c) / 256 = n / 256 := by
    have := Nat.xor_div_two_pow (a := n) (b := c) (n := 8)
    rw [show (2 : Nat) ^ 8 = 256 from rfl] at this
    rw [this, Nat.div_eq_of_lt hc, Nat.xor_zero]
  have h2 : (n ^^^ c) % 256 = (n % 256) ^^^ c := by
    have := Nat.xor_mod_two_pow (a := n) (b := c) (n := 8)
    rw [show (2 : Nat) ^ 8 = 256 from rfl] at this
    rw [this, Nat.mod_eq_of_lt hc]
  rw [h1, h2]

set_option maxRecDepth 20000 in
theorem add_spec {sum : Nat} {s : Sl} {xs : List Int} (hsum : sum < 4294967296) (hxs : ∀ x ∈ xs, 0 ≤ x ∧ x < 256) (hs : Ro R s (b8 xs)) (hw : Sat R Hs w) :
    Gets Try.prog 36 #[.int .u32 sum, .slice s.a s.len s.cap] w fun v w' => v = .int .u32 (crcAdd sum xs : Nat) ∧ Sat R Hs w' := by
  have hlen : s.len = xs.length := by have := hs.len; simpa using this
  have hbd : xs.length ≤ 9223372036854775807 := by have := hs.bound; simpa using this
  apply call36
  refine (table_spec hw).use ?_
  rintro _ w ⟨rfl, hw⟩
  refine ⟨_, rfl, ?_⟩
  refine new_rule hw fun b w hw => ?_
  have hw := zeros_at (n := 256) (T := 107) (by kernel_rfl) hw
  have htl : (m32 tabL).length = 256 := by simp [tabL_len]
  have h1 : oneAll (m32 tabL) = true := by unfold oneAll; simp [Value.oneCell']
  refine store_rule hw (v := .agg (m32 tabL).toArray) (by show _ = some ((m32 tabL).length); rw [htl]; kernel_rfl) h1 (by show 0 + (m32 tabL).length ≤ _; rw [htl]; simp) fun w hw => ?_
  have e : putL (m32 (List.replicate 256 0)) 0 (Value.agg (m32 tabL).toArray).cells.toList = m32 tabL := by
    show putL _ 0 (m32 tabL) = _
    rw [putL_eq _ _ _ (by rw [htl]; simp), htl]
    simp
  rw [e] at hw
  clear e
  have hst : sum ^^^ ones32 < 4294967296 := xor32 hsum (by unfold ones32; omega)
  rw [notU32 hsum]
  refine ⟨fun r t w => ∃ k n : Nat, t = k ∧ k ≤ xs.length ∧ r = n ∧ n < 4294967296 ∧ crcRun n (xs.drop k) = crcRun (sum ^^^ ones32) xs ∧ Sat R (pts b (.cells (m32 tabL).toArray 107 (0, 0)) :: Hs) w, fun _ t _ => xs.length - t.toNat, ⟨0, _, rfl, by omega, rfl, hst, rfl, hw⟩, ?_⟩
  rintro _ _ _ w ⟨k, n, rfl, hk, rfl, hn, he, hw⟩
  refine Br.d (fun h => ?_) (fun h => ?_)
  · have hkx : k < xs.length := by omega
    have := Ro.idxK (S := fun w' => w' = w) hs (eqS hw) (k := k) hkx (F := fun t => t = xs[k]) rfl
    obtain ⟨h0, h1, this⟩ := this.out
    obtain ⟨a, ha, t, hat, rfl⟩ := this.out
    refine Rng.mk h0 h1 (NilP.mk ha ⟨_, hat, ?_⟩)
    have hc := hxs xs[k] (List.getElem_mem _)
    obtain ⟨c, hce⟩ := Int.eq_ofNat_of_zero_le hc.1
    have hc2 : c < 256 := by omega
    have e1 : bitI .xor .u8 (IntKind.u8.wrap (n : Int)) xs[k] = (((n % 256) ^^^ c : Nat) : Int) := by
      rw [wrapU8m, hce, show (n : Int) % 256 = ((n % 256 : Nat) : Int) from (Int.natCast_emod _ _).symm]
      exact xorU8 (by omega) hc2
    have hlt : (n % 256) ^^^ c < 256 := Nat.xor_lt_two_pow (n := 8) (by omega) hc2
    rw [e1]
    refine Rng.mk (by omega) (by omega) ⟨(tabL[(n % 256) ^^^ c]'(by rw [tabL_len]; exact hlt) : Nat), ?_, ?_⟩
    · have := At.intsK (b := b) (T := 107) (fr := (0, 0)) (kd := .u32) (xs := mi tabL) (S := fun w' => w' = w) (eqS hw) (i := (n % 256) ^^^ c) (by simp [tabL_len]; exact hlt)
      rw [Int.toNat_natCast]
      simpa using this
    · have hct : cstepN 8 ((n % 256) ^^^ c) < 4294967296 := cstepN_lt 8 (by omega)
      rw [tabL_get hlt, show shrI .u32 (n : Int) 8 = ((n / 256 : Nat) : Int) from shr_nat32 n 8 (by omega), xorU32 (by omega) hct, cstep_byte hc2, wrap64 (by omega) (by omega)]
      refine ⟨⟨k + 1, _, by omega, by omega, rfl, cstepN_lt 8 (xor32 hn (by omega)), ?_, hw⟩, by dsimp only; omega⟩
      rw [← he, List.drop_eq_getElem_cons hkx]
      show _ = crcRun (cstepN 8 (n ^^^ xs[k].toNat)) (xs.drop (k + 1))
      rw [hce]; rfl
  · have hk2 : k = xs.length := by omega
    subst hk2
    rw [notU32 hn]
    refine ⟨?_, hw.drop⟩
    have : n = crcRun (sum ^^^ ones32) xs := by rw [← he, List.drop_length]; rfl
    unfold crcAdd
    rw [this]

theorem sum_spec {s : Sl} {xs : List Int} (hxs : ∀ x ∈ xs, 0 ≤ x ∧ x < 256) (hs : Ro R s (b8 xs)) (hw : Sat R Hs w) :
    Gets Try.prog 37 #[.slice s.a s.len s.cap] w fun v w' => v = .int .u32 (crcAdd 0 xs : Nat) ∧ Sat R Hs w' := by
  apply call37
  refine (add_spec (sum := 0) (by omega) hxs hs hw).use ?_
  rintro _ w ⟨rfl, hw⟩
  exact ⟨_, rfl, rfl, hw⟩

end Go.Proofs.Ytgfneeoponiibaa
/- Package record: words, Put. Condition: bounds on lengths. -/
namespace Go.Proofs.Ytgfneeoponiibaa
open Go Go.VC

variable {R : Cx} {Hs Rest : List HP} {w : World}

theorem word_spec {n : Nat} (hn : n < 4294967296) (hw : Sat R Hs w) :
    Gets Try.prog 34 #[.int .u32 n] w fun v w' => ∃ b, v = .slice (some ⟨b, 0, none⟩) 4 4 ∧ Sat R (pts b (.cells (b8 (word4 n)).toArray 5 (0, 0)) :: Hs) w' := by
  apply call34
  have e : ∀ k : Nat, k ≤ 32 → IntKind.u8.wrap (shrI .u32 (n : Int) (k : Int)) = ((n / 2 ^ k % 256 : Nat) : Int) := fun k hk => by
    rw [shr_nat32 n k hk, wrapU8m]; exact (Int.natCast_emod _ _).symm
  have e0 : IntKind.u8.wrap (n : Int) = ((n % 256 : Nat) : Int) := by rw [wrapU8m]; exact (Int.natCast_emod _ _).symm
  have e1 := e 24 (by omega)
  have e2 := e 16 (by omega)
  have e3 := e 8 (by omega)
  rw [show ((24 : Nat) : Int) = 24 from rfl] at e1
  rw [show ((16 : Nat) : Int) = 16 from rfl] at e2
  rw [show ((8 : Nat) : Int) = 8 from rfl] at e3
  unfold B34
  rw [e1, e2, e3, e0]
  refine new_rule hw fun b w hw => ⟨b, rfl, hw⟩

theorem ro_blk {b : Nat} {xs : List Int} {T : TypeId} (hl : xs.length ≤ 9223372036854775807) (hc : R.m b = .none) : Ro (R.add (Heap.one b (.cells (b8 xs).toArray T (0, 0)))) ⟨some ⟨b, 0, none⟩, xs.length, xs.length⟩ (b8 xs) :=
  ⟨by simp, by simpa using hl, fun _ => ⟨b, 0, _, T, (0, 0), rfl, Cx.lent hc, fun i v hv => by rw [Nat.zero_add]; simpa using hv⟩⟩

theorem shl8_or32 {n t : Int} (h0 : 0 ≤ n) (h1 : n < 16777216) (t0 : 0 ≤ t) (t1 : t < 256) : bitI .or .u32 (shlI .u32 n 8) (IntKind.u32.wrap t) = n * 256 + t := by
  have e : shlI .u32 n 8 = n * 256 := by
    show IntKind.u32.wrap (n * 2 ^ 8) = _
    rw [wrapU32 (by omega) (by omega)]; omega
  rw [e, wrapU32 t0 (by omega)]
  obtain ⟨a, rfl⟩ := Int.eq_ofNat_of_zero_le h0
  obtain ⟨b, rfl⟩ := Int.eq_ofNat_of_zero_le t0
  have := orU32 (x := a * 256) (y := b) (by omega) (by omega)
  rw [or_byte a b (by omega)] at this
  rw [show ((a * 256 : Nat) : Int) = (a : Int) * 256 from Int.natCast_mul a 256] at this
  rw [this]
  exact (Int.natCast_add (a * 256) b).trans (by rw [Int.natCast_mul]; rfl)

theorem number4_spec {s : Sl} {xs : List Int} (hl : xs.length ≤ 4) (hxs : ∀ x ∈ xs, 0 ≤ x ∧ x < 256) (hs : Ro R s (b8 xs)) (hw : Sat R Hs w) :
    Gets Try.prog 63 #[.slice s.a s.len s.cap] w fun v w' => v = .int .u32 (valI 0 xs) ∧ Sat R Hs w' := by
  have hlen : s.len = xs.length := by have := hs.len; simpa using this
  apply call63
  refine ⟨fun n t w => ∃ k : Nat, t = k ∧ k ≤ xs.length ∧ n = valI 0 (xs.take k) ∧ Sat R Hs w, fun _ t _ => xs.length - t.toNat, ⟨0, rfl, by omega, rfl, hw⟩, ?_⟩
  rintro _ _ _ w ⟨k, rfl, hk, rfl, hw⟩
  refine Br.d (fun h => ?_) (fun h => ?_)
  · have hkx : k < xs.length := by omega
    have := Ro.idxK (S := fun w' => w' = w) hs (eqS hw) (k := k) hkx (F := fun t => t = xs[k]) rfl
    obtain ⟨h0, h1, this⟩ := this.out
    obtain ⟨a, ha, t, hat, rfl⟩ := this.out
    refine Rng.mk h0 h1 (NilP.mk ha ⟨_, hat, ?_⟩)
    have hx := hxs xs[k] (List.getElem_mem _)
    have hvb : ∀ x ∈ xs.take k, 0 ≤ x ∧ x < 256 := fun x hx => hxs x (List.mem_of_mem_take hx)
    have hv0 := valI_nn (acc := 0) (Int.le_refl _) hvb
    have hv1 : valI 0 (xs.take k) < 16777216 := by
      refine Int.lt_of_lt_of_le (valI_lt (Int.le_refl _) hvb) ?_
      rw [List.length_take, Nat.min_eq_left (by omega), Int.zero_add, Int.one_mul]
      have h9 : 256 ^ k ≤ 256 ^ 3 := Nat.pow_le_pow_right (by omega) (by omega)
      have : ((256 ^ k : Nat) : Int) ≤ ((256 ^ 3 : Nat) : Int) := Int.ofNat_le.2 h9
      rw [Int.natCast_pow] at this
      exact Int.le_trans this (by decide)
    rw [shl8_or32 hv0 hv1 hx.1 hx.2, wrap64 (by omega) (by omega)]
    refine ⟨⟨k + 1, by omega, by omega, ?_, hw⟩, by dsimp only; omega⟩
    rw [List.take_succ_eq_append_getElem hkx, valI_snoc]
  · have hk2 : k = xs.length := by omega
    subst hk2
    exact ⟨by rw [List.take_length], hw⟩

theorem grow_spec {n : Nat} (hn : n ≤ 1099511627776) (hw : Sat R Hs w) :
    Gets Try.prog 55 #[.slice none 0 0, .int .i64 n] w fun v w' => ∃ t : Sl, v = .slice t.a t.len t.cap ∧ Sat R (Own t 5 [] :: Hs) w' := by
  refine GetsX.gets (call55 ⟨none, 0, 0⟩ n _ _ w ?_)
  refine ⟨fun w => Sat R Hs w, ?_, ?_⟩
  · exact Br.d (fun h => absurd h (by omega)) (fun h => hw)
  intro _ w hw
  have e : IntKind.i64.wrap ((n : Int) - IntKind.i64.wrap (((0 : Nat) : Int) - ((0 : Nat) : Int))) = n := by
    rw [wrap64 (x := ((0 : Nat) : Int) - ((0 : Nat) : Int)) (by omega) (by omega), wrap64 (by omega) (by omega)]; omega
  refine Br.mk (fun h => ?_) (fun h => ?_)
  · have h : decide (IntKind.i64.wrap ((n : Int) - IntKind.i64.wrap (((0 : Nat) : Int) - ((0 : Nat) : Int))) > 0) = true := h
    rw [e] at h
    have h := of_decide_eq_true h
    refine ⟨by simp, by simp, ?_⟩
    show ∃ w', ∃ t : Sl, (Builtin.append_ #[22, 3 ] 22 #[.slice none 0 0, .int .i64 (IntKind.i64.wrap ((n : Int) - IntKind.i64.wrap (((0 : Nat) : Int) - ((0 : Nat) : Int))))]).run Try.prog w = _ ∧ _
    rw [e]
    exact zeros_rule Try.underlying22 Try.underlying3 (by kernel_rfl) (n := n) (bytes := 1) (by omega) (by omega) (by omega) hw fun t w hw => ⟨by simp, by simp, ⟨t.a, 0, t.cap⟩, rfl, hw⟩
  · exact ⟨⟨none, 0, 0⟩, rfl, Own.nil hw⟩

abbrev joined (ps : List (Sl × List Int)) : List Int := (ps.map (·.2)).flatten
theorem joined_take {ps : List (Sl × List Int)} {k : Nat} (h : k < ps.length) : joined (ps.take (k + 1)) = joined (ps.take k) ++ ps[k].2 := by
  unfold joined
  rw [List.take_succ_eq_append_getElem h, List.map_append, List.flatten_append]; congr 1; simp
theorem joined_le (ps : List (Sl × List Int)) (k : Nat) : (joined (ps.take k)).length ≤ (joined ps).length := by
  have : joined ps = joined (ps.take k) ++ joined (ps.drop k) := by
    unfold joined
    rw [← List.flatten_append, ← List.map_append, List.take_append_drop]
  rw [this]; simp

theorem concat_spec {m : Sl} {ps : List (Sl × List Int)} (hm : Ro R m ((ps.map (·.1)).map Sl.v)) (hps : ∀ p ∈ ps, Ro R p.1 (b8 p.2)) (hl : (joined ps).length ≤ 1099511627776) (hw : Sat R Hs w) :
    Gets Try.prog 35 #[.slice m.a m.len m.cap] w fun v w' => ∃ t : Sl, v = .slice t.a t.len t.cap ∧ Sat R (Own t 5 (b8 (joined ps)) :: Hs) w' := by
  have hlen : m.len = ps.length := by have := hm.len; simpa using this
  have hbd : ps.length ≤ 9223372036854775807 := by have := hm.bound; simpa using this
  refine GetsX.gets (call35 m _ _ w ?_)
  refine ⟨fun n t w => ∃ k : Nat, t = k ∧ k ≤ ps.length ∧ n = ((joined (ps.take k)).length : Nat) ∧ Sat R Hs w, fun _ t _ => ps.length - t.toNat, ⟨0, rfl, by omega, rfl, hw⟩, ?_⟩
  rintro _ _ _ w ⟨k, rfl, hk, rfl, hw⟩
  refine Br.d (fun h => ?_) (fun h => ?_)
  · have hkx : k < ps.length := by omega
    have := Ro.idxS (S := fun w' => w' = w) hm (eqS hw) (k := k) (by simpa using hkx) (F := fun t => t = ps[k].1) (by simp)
    obtain ⟨h0, h1, this⟩ := this.out
    obtain ⟨a, ha, t, hat, rfl⟩ := this.out
    refine Rng.mk h0 h1 (NilP.mk ha ⟨_, hat, ?_⟩)
    have hp := (hps ps[k] (List.getElem_mem _)).len
    rw [List.length_map] at hp
    have h1 := joined_le ps (k + 1)
    rw [joined_take hkx, List.length_append] at h1
    have e : IntKind.i64.wrap (((joined (ps.take k)).length : Int) + ((ps[k].1.len : Nat) : Int)) = ((joined (ps.take (k + 1))).length : Nat) := by
      rw [joined_take hkx, List.length_append, hp, wrap64 (by omega) (by omega)]; omega
    rw [e]
    refine Br.d (fun h => absurd h (by omega)) (fun h => ?_)
    rw [wrap64 (by omega) (by omega)]
    exact ⟨⟨k + 1, by omega, by omega, rfl, hw⟩, by dsimp only; omega⟩
  · have hk2 : k = ps.length := by omega
    subst hk2
    rw [List.take_length]
    refine (grow_spec hl hw).use ?_
    rintro _ w ⟨t, rfl, hw⟩
    refine .inl ⟨t, rfl, ?_⟩
    refine ⟨fun ns t w => ∃ k : Nat, t = k ∧ k ≤ ps.length ∧ Sat R (Own ns 5 (b8 (joined (ps.take k))) :: Hs) w, fun _ t _ => ps.length - t.toNat, ⟨0, rfl, by omega, by simpa [joined] using hw⟩, ?_⟩
    rintro _ ns _ w ⟨k, rfl, hk, hw⟩
    refine Br.d (fun h => ?_) (fun h => ?_)
    · have hkx : k < ps.length := by omega
      have := Ro.idxS (S := fun w' => w' = w) hm (eqS hw) (k := k) (by simpa using hkx) (F := fun t => t = ps[k].1) (by simp)
      obtain ⟨h0, h1, this⟩ := this.out
      obtain ⟨a, ha, t, hat, rfl⟩ := this.out
      refine Rng.mk h0 h1 (NilP.mk ha ⟨_, hat, ?_⟩)
      have h1 := joined_le ps (k + 1)
      rw [joined_take hkx, List.length_append] at h1
      have hsrc : Src Try.prog 1 22 (.slice ps[k].1.a ps[k].1.len ps[k].1.cap) ps[k].2.length (b8 ps[k].2) w := by
        have := srcRo Try.underlying22 hw (hps ps[k] (List.getElem_mem _)) (one_b8 _)
        simpa using this
      refine append_rule elB8 (s := ns) hw hsrc (one_b8 _) (by rw [List.length_map]; omega) (by rw [List.length_map]; omega) fun t w hw => ?_
      rw [wrap64 (by omega) (by omega)]
      refine ⟨⟨k + 1, by omega, by omega, ?_⟩, by dsimp only; omega⟩
      rw [joined_take hkx]
      simpa [b8] using hw
    · have hk2 : k = ps.length := by omega
      subst hk2
      rw [List.take_length] at hw
      exact ⟨ns, rfl, hw⟩

/-- What Put tells. -/
def recE (bs : List Int) : Int := if bs.length > 65536 then 3 else 0

theorem rput_spec {s : Sl} {bs : List Int} (hbs : ∀ x ∈ bs, 0 ≤ x ∧ x < 256) (hs : Ro R s (b8 bs)) (hw : Sat R Hs w) :
    Gets Try.prog 21 #[.slice s.a s.len s.cap] w fun v w' =>
      (bs.length > 65536 ∧ v = .tuple #[.slice none 0 0, .int .i64 3] ∧ Sat R Hs w') ∨
      (bs.length ≤ 65536 ∧ ∃ t : Sl, v = .tuple #[.slice t.a t.len t.cap, .int .i64 0] ∧ Sat R (Own t 5 (b8 (recB bs)) :: Hs) w') := by
  have hlen : s.len = bs.length := by have := hs.len; simpa using this
  apply call21
  refine Br.d (fun h => ?_) (fun h => ?_)
  · exact .inl ⟨by omega, rfl, hw⟩
  · have hb : bs.length ≤ 65536 := by omega
    have hb' : s.len ≤ 65536 := by omega
    rw [wrapU32 (by omega) (by omega)]
    refine (word_spec (n := s.len) (by omega) hw).use ?_
    rintro _ w ⟨b1, rfl, hw⟩
    refine ⟨⟨some ⟨b1, 0, none⟩, 4, 4⟩, rfl, ?_⟩
    obtain ⟨hn1, hw⟩ := Sat.lend.1 hw
    have r1 := ro_blk (R := R) (b := b1) (xs := word4 s.len) (T := 5) (by rw [word4_len]; omega) hn1
    refine (sum_spec (word4_bd _) r1 hw).use ?_
    rintro _ w ⟨rfl, hw⟩
    refine ⟨_, rfl, ?_⟩
    have hc1 : crcAdd 0 (word4 s.len) < 4294967296 := crcAdd_lt (by omega) (word4_bd _)
    have hq2 := crcAdd_app 0 (word4 s.len) bs
    generalize crcAdd 0 (word4 s.len) = q at hc1 hq2 ⊢
    refine (add_spec (sum := q) hc1 hbs hs.add hw).use ?_
    rintro _ w ⟨rfl, hw⟩
    refine ⟨_, rfl, ?_⟩
    rw [hq2]
    have hc2 : crcAdd 0 (word4 s.len ++ bs) < 4294967296 := crcAdd_lt (by omega) fun x hx => (List.mem_append.1 hx).elim (word4_bd _ x) (hbs x)
    clear hq2 hc1
    refine (word_spec hc2 hw).use ?_
    rintro _ w ⟨b2, rfl, hw⟩
    refine ⟨⟨some ⟨b2, 0, none⟩, 4, 4⟩, rfl, ?_⟩
    obtain ⟨hn2, hw⟩ := Sat.lend.1 hw
    have r2 := ro_blk (b := b2) (xs := word4 (crcAdd 0 (word4 s.len ++ bs))) (T := 5) (by rw [word4_len]; omega) hn2
    refine new_rule hw fun b3 w hw => ?_
    have hw : Sat _ (pts b3 (.cells ([(⟨some ⟨b1, 0, none⟩, 4, 4⟩ : Sl), ⟨some ⟨b2, 0, none⟩, 4, 4⟩, s].map Sl.v).toArray 22 (0, 0)) :: Hs) w := hw
    obtain ⟨hn3, hw⟩ := Sat.lend.1 hw
    refine (concat_spec (m := ⟨some ⟨b3, 0, none⟩, 3, 3⟩) (ps := [(⟨some ⟨b1, 0, none⟩, 4, 4⟩, word4 s.len), (⟨some ⟨b2, 0, none⟩, 4, 4⟩, word4 (crcAdd 0 (word4 s.len ++ bs))), (s, bs)]) ?_ ?_ ?_ hw).use ?_
    · exact ⟨rfl, by simp, fun _ => ⟨b3, 0, _, 22, (0, 0), rfl, Cx.lent hn3, fun i v hv => by rw [Nat.zero_add, List.getElem?_toArray]; exact hv⟩⟩
    · intro p hp
      simp only [List.mem_cons, List.not_mem_nil, or_false] at hp
      rcases hp with rfl | rfl | rfl
      · exact r1.add.add
      · exact r2.add
      · exact hs.add.add.add
    · simp [joined, word4_len]; omega
    · rintro _ w ⟨t, rfl, hw⟩
      refine ⟨t, rfl, .inr ⟨hb, t, rfl, ?_⟩⟩
      have e : joined [((⟨some ⟨b1, 0, none⟩, 4, 4⟩ : Sl), word4 s.len), (⟨some ⟨b2, 0, none⟩, 4, 4⟩, word4 (crcAdd 0 (word4 s.len ++ bs))), (s, bs)] = recB bs := by simp [joined, recB, hlen]
      rw [e] at hw
      have hw := (Sat.lend.2 ⟨hn3, hw⟩).drop
      have hw := (Sat.lend.2 ⟨hn2, hw⟩).drop
      exact (Sat.lend.2 ⟨hn1, hw⟩).drop

end Go.Proofs.Ytgfneeoponiibaa
/- Package field: numbers and bytes as bytes. Condition: bounds on lengths. -/
namespace Go.Proofs.Ytgfneeoponiibaa
open Go Go.VC

variable {R : Cx} {Hs Rest : List HP} {w : World}

theorem _root_.Go.VC.SlR.mono {h h' : Heap} {s : Sl} {xs : List Value} (hs : ∀ b o, h b = some o → h' b = some o) (a : SlR h s xs) : SlR h' s xs :=
  ⟨a.len, a.cap, fun hx => let ⟨b, off, l, T, fr, ha, hb, hl⟩ := a.mem hx; ⟨b, off, l, T, fr, ha, hs _ _ hb, hl⟩⟩

abbrev amissP : List PanicEntry := [⟨.iface 116 (.agg #[]), false, false⟩]

theorem must_c {b : Bool} {Q : Ending → World → Prop} (h1 : b = true → Q (.returned (.tuple #[])) w) (h2 : b = false → Q (.panicked amissP) w) : Calls Try.prog 54 #[.bool b] w Q := by
  have h : GetsX Try.prog 54 #[.bool b] w (fun ch w' => b = false ∧ ch = amissP ∧ w' = w) (fun v w' => b = true ∧ v = .tuple #[] ∧ w' = w) := by
    apply call54
    refine Br.nb (fun h => ?_) (fun h => ?_)
    · exact ⟨h, rfl, rfl⟩
    · exact ⟨h, rfl, rfl⟩
  refine h.use ?_ ?_
  · rintro v w' ⟨hb, rfl, e⟩; rw [e]; exact h1 hb
  · rintro v w' ⟨hb, rfl, e⟩; rw [e]; exact h2 hb

/-- A block with a slice. -/
abbrev lp (l : Nat) (s : Sl) : HP := pts l (.cells [.slice s.a s.len s.cap].toArray 22 (0, 0))
abbrev sdrop (s : Sl) (k : Nat) : Sl := ⟨cutA s.a k s.cap 1, s.len - k, s.cap - k⟩

theorem take_spec {l : Nat} {s : Sl} {xs : List Value} {k : Nat} (hr : SlR R.m s xs) (hw : Sat R (lp l s :: Hs) w) :
    GetsX Try.prog 65 #[.pointer (some ⟨l, 0, none⟩), .int .i64 k] w
      (fun ch w' => xs.length < k ∧ ch = amissP ∧ Sat R (lp l s :: Hs) w')
      (fun v w' => k ≤ xs.length ∧ v = .slice s.a k s.cap ∧ Sat R (lp l (sdrop s k) :: Hs) w') := by
  have hlen := hr.len
  have hcap := hr.cap
  apply call65
  refine NilP.mk rfl ⟨s, At.own (eqS hw) (by exact ⟨rfl, trivial⟩), must_c (fun h => .inl ⟨rfl, ?_⟩) (fun h => .inr ⟨_, rfl, ?_⟩)⟩
  · have h := of_decide_eq_true h
    refine NilP.mk rfl ⟨s, At.own (eqS hw) (by exact ⟨rfl, trivial⟩), by omega, by omega, NilP.mk rfl ⟨s, At.own (eqS hw) (by exact ⟨rfl, trivial⟩), by omega, by omega, NilP.mk rfl ?_⟩⟩
    rw [Int.toNat_natCast]
    refine store_rule hw (by kernel_rfl) rfl (by simp [Value.cells]) fun w hw => ?_
    exact ⟨by omega, rfl, hw⟩
  · have h := of_decide_eq_false h
    exact ⟨by omega, rfl, hw⟩

theorem andn32 : ∀ c : Fin 32, bitI .andNot .u8 ((c.1 : Nat) : Int) 16 = if 16 ≤ ((c.1 : Nat) : Int) then ((c.1 : Nat) : Int) - 16 else ((c.1 : Nat) : Int) := by decide +kernel
theorem andn {c : Int} (h0 : 0 ≤ c) (h1 : c < 32) : IntKind.i64.wrap (bitI .andNot .u8 c 16) = if 16 ≤ c then c - 16 else c := by
  obtain ⟨n, rfl⟩ := Int.eq_ofNat_of_zero_le h0
  have := andn32 ⟨n, by omega⟩
  simp only at this
  rw [this]
  split <;> exact wrap64 (by omega) (by omega)

theorem shl8_or {n t : Int} (h0 : 0 ≤ n) (h1 : n < 72057594037927936) (t0 : 0 ≤ t) (t1 : t < 256) : bitI .or .u64 (shlI .u64 n 8) (IntKind.u64.wrap t) = n * 256 + t := by
  have e : shlI .u64 n 8 = n * 256 := by
    show IntKind.u64.wrap (n * 2 ^ 8) = _
    rw [wrapU64 (by omega) (by omega)]; omega
  rw [e, wrapU64 t0 (by omega)]
  obtain ⟨a, rfl⟩ := Int.eq_ofNat_of_zero_le h0
  obtain ⟨b, rfl⟩ := Int.eq_ofNat_of_zero_le t0
  have := orU64 (x := a * 256) (y := b) (by omega) (by omega)
  rw [or_byte a b (by omega)] at this
  rw [show ((a * 256 : Nat) : Int) = (a : Int) * 256 from Int.natCast_mul a 256] at this
  rw [this]
  exact (Int.natCast_add (a * 256) b).trans (by rw [Int.natCast_mul]; rfl)

/-- How many bytes follow. -/
abbrev widN (c : Int) : Nat := (if 16 ≤ c then c - 16 else c).toNat

theorem fsize_spec {h : Heap} {l : Nat} {s : Sl} {bs : List Int} (hb : ∀ x ∈ bs, 0 ≤ x ∧ x < 256) (hsub : ∀ b o, h b = some o → R.m b = some o) (hr0 : SlR h s (b8 bs)) (hw : Sat R (lp l s :: Hs) w) :
    GetsX Try.prog 53 #[.pointer (some ⟨l, 0, none⟩)] w
      (fun ch w' => parse bs = none ∧ ch = amissP ∧ ∃ s', Sat R (lp l s' :: Hs) w')
      (fun v w' => ∃ n neg k s', parse bs = some (n, neg, k) ∧ v = .tuple #[.int .u64 n, .bool neg] ∧ SlR h s' (b8 (bs.drop k)) ∧ Sat R (lp l s' :: Hs) w') := by
  have hr : SlR R.m s (b8 bs) := hr0.mono hsub
  apply call53
  refine (take_spec (k := 1) hr hw).use ?_ ?_
  rotate_left
  · rintro _ w ⟨h, rfl, hw⟩
    refine .inr ⟨_, rfl, ?_, rfl, s, hw⟩
    cases bs with
    | nil => rfl
    | cons => simp at h
  rintro _ w ⟨hlen, rfl, hw⟩
  cases bs with
  | nil => simp at hlen
  | cons c rest =>
  have hc := hb c List.mem_cons_self
  have hbr : ∀ x ∈ rest, 0 ≤ x ∧ x < 256 := fun x hx => hb x (List.mem_cons_of_mem _ hx)
  refine .inl ⟨⟨s.a, 1, s.cap⟩, rfl, ?_⟩
  have hr1 : SlR R.m ⟨s.a, 1, s.cap⟩ (b8 [c]) := hr.take (k := 1) hlen
  have hrd : SlR R.m (sdrop s 1) (b8 rest) := hr.drop (k := 1) hlen
  have := SlR.idxK (Hs := lp l (sdrop s 1) :: Hs) (S := fun w' => w' = w) hr1 (eqS hw) (k := 0) (by simp) (F := fun t => t = c) rfl
  obtain ⟨h0, h1, this⟩ := this.out
  obtain ⟨a, ha, t, hat, rfl⟩ := this.out
  refine Rng.mk h0 h1 (NilP.mk ha ⟨t, hat, ?_⟩)
  have hsnone : ∀ {p : Prop}, ¬ p → True := fun _ => trivial
  refine ⟨fun w => (t < 32 ∧ widN t ≤ 8 ∧ (widN t = 0 → t = 0)) ∧ Sat R (lp l (sdrop s 1) :: Hs) w, ?_, ?_⟩
  · have bad : (t < 32 ∧ widN t ≤ 8 ∧ widN t ≤ rest.length ∧ (widN t = 0 → t = 0) ∧ (widN t ≠ 0 → rest.head? ≠ some 0) → False) → parse (t :: rest) = none := fun h => by
      unfold parse; simp only; rw [if_neg h]
    refine Br.d (fun h => ?_) (fun h => ?_)
    · rw [andn hc.1 h]
      refine Br.d (fun h2 => ?_) (fun h2 => ?_)
      · refine Br.d (fun h3 => ?_) (fun h3 => ?_)
        · exact must_c (fun _ => .inl ⟨rfl, ⟨h, by unfold widN; omega, fun h4 => by unfold widN at h4; omega⟩, hw⟩) (fun h => by cases h)
        · refine must_c (fun h4 => .inl ⟨rfl, ⟨h, by unfold widN; omega, fun h5 => ?_⟩, hw⟩) (fun h4 => .inr ⟨_, rfl, bad ?_, rfl, _, hw⟩)
          · simp only [ge_iff_le, Bool.not_eq_true', decide_eq_false_iff_not] at h4
            rw [if_neg h4] at h3; omega
          · simp only [ge_iff_le, Bool.not_eq_false', decide_eq_true_eq] at h4
            rintro ⟨_, _, _, h5, _⟩
            rw [if_pos h4] at h3
            have := h5 (by unfold widN; rw [if_pos h4]; omega)
            omega
      · exact must_c (fun h => by cases h) (fun _ => .inr ⟨_, rfl, bad (by rintro ⟨_, h3, _⟩; unfold widN at h3; omega), rfl, _, hw⟩)
    · exact must_c (fun h => by cases h) (fun _ => .inr ⟨_, rfl, bad (by rintro ⟨h3, _⟩; exact h h3), rfl, _, hw⟩)
  clear hat ha h0 h1
  rintro _ w ⟨⟨h32, h8, hz⟩, hw⟩
  rw [andn hc.1 h32]
  have hwid : (if 16 ≤ t then t - 16 else t) = ((widN t : Nat) : Int) := by
    unfold widN; rw [Int.toNat_of_nonneg]; split <;> omega
  rw [hwid]
  generalize hW : widN t = W at *
  refine (take_spec (k := W) hrd hw).use ?_ ?_
  rotate_left
  · rintro _ w ⟨h, rfl, hw⟩
    refine .inr ⟨_, rfl, ?_, rfl, _, hw⟩
    unfold parse; simp only; rw [if_neg]
    rintro ⟨_, _, h3, _⟩
    have : widN t ≤ rest.length := h3
    simp at h; omega
  rintro _ w ⟨hl, rfl, hw⟩
  have hl : W ≤ rest.length := by simpa using hl
  have hrt : SlR R.m ⟨(sdrop s 1).a, W, (sdrop s 1).cap⟩ (b8 (rest.take W)) := by have := hrd.take (k := W) (by simpa using hl); rwa [← List.map_take] at this
  have hlt : (rest.take W).length = W := by simp; omega
  refine .inl ⟨⟨(sdrop s 1).a, W, (sdrop s 1).cap⟩, rfl, ?_⟩
  refine ⟨fun n i w => ∃ k : Nat, i = k ∧ k ≤ W ∧ n = valI 0 (rest.take k) ∧ (k ≠ 0 → rest.head? ≠ some 0) ∧ Sat R (lp l (sdrop (sdrop s 1) W) :: Hs) w, fun _ i _ => W - i.toNat, ⟨0, rfl, Nat.zero_le _, rfl, fun h => absurd rfl h, hw⟩, ?_⟩
  rintro _ _ _ w ⟨k, rfl, hk, rfl, hh, hw⟩
  refine Br.d (fun h => ?_) (fun h => ?_)
  · have hk2 : k < W := by have : ((k : Nat) : Int) < (W : Int) := h; omega
    have hkr : k < rest.length := by omega
    have := SlR.idxK (Hs := lp l (sdrop (sdrop s 1) W) :: Hs) (S := fun w' => w' = w) hrt (eqS hw) (k := k) (by omega) (F := fun t => t = rest[k]) (by simp)
    obtain ⟨h0, h1, this⟩ := this.out
    obtain ⟨a, ha, x, hat, rfl⟩ := this.out
    refine Rng.mk h0 h1 (NilP.mk ha ⟨_, hat, ?_⟩)
    have hx := hbr rest[k] (List.getElem_mem _)
    have hvb : ∀ x ∈ rest.take k, 0 ≤ x ∧ x < 256 := fun x hx => hbr x (List.mem_of_mem_take hx)
    have hv0 := valI_nn (acc := 0) (Int.le_refl _) hvb
    have hv1 : valI 0 (rest.take k) < 72057594037927936 := by
      refine Int.lt_of_lt_of_le (valI_lt (Int.le_refl _) hvb) ?_
      rw [List.length_take, Nat.min_eq_left (by omega), Int.zero_add, Int.one_mul]
      have h9 : 256 ^ k ≤ 256 ^ 7 := Nat.pow_le_pow_right (by omega) (by omega)
      have : ((256 ^ k : Nat) : Int) ≤ ((256 ^ 7 : Nat) : Int) := Int.ofNat_le.2 h9
      rw [Int.natCast_pow] at this
      exact Int.le_trans this (by decide)
    have hstep : ∀ w, (rest.head? ≠ some 0) → Sat R (lp l (sdrop (sdrop s 1) W) :: Hs) w →
        (∃ k' : Nat, IntKind.i64.wrap ((k : Int) + 1) = k' ∧ k' ≤ W ∧ bitI .or .u64 (shlI .u64 (valI 0 (rest.take k)) 8) (IntKind.u64.wrap rest[k]) = valI 0 (rest.take k') ∧ (k' ≠ 0 → rest.head? ≠ some 0) ∧ Sat R (lp l (sdrop (sdrop s 1) W) :: Hs) w) ∧ W - (IntKind.i64.wrap ((k : Int) + 1)).toNat < W - (k : Int).toNat := fun w h1 hw => by
      rw [wrap64 (by omega) (by omega)]
      refine ⟨⟨k + 1, by omega, by omega, ?_, fun _ => h1, hw⟩, by omega⟩
      rw [shl8_or hv0 hv1 hx.1 hx.2, List.take_succ_eq_append_getElem hkr, valI_snoc]
    refine Br.d (fun h3 => ?_) (fun h3 => ?_)
    · exact must_c (fun _ => .inl ⟨rfl, hstep _ (hh (by omega)) hw⟩) (fun h => by cases h)
    · have hk0 : k = 0 := by omega
      subst hk0
      have hhead : rest.head? = some rest[0] := by rw [List.head?_eq_getElem?, List.getElem?_eq_getElem hkr]
      refine must_c (fun h4 => .inl ⟨rfl, hstep _ ?_ hw⟩) (fun h4 => .inr ⟨_, rfl, ?_, rfl, _, hw⟩)
      · have h4 := of_decide_eq_true h4
        rw [hhead]; intro h5; simp only [Option.some.injEq] at h5; omega
      · have h4 := of_decide_eq_false h4
        unfold parse; simp only; rw [if_neg]
        rintro ⟨_, _, _, _, h5⟩
        have h6 : widN t ≠ 0 := by omega
        refine h5 h6 ?_
        rw [hhead]; congr 1; omega
  · have hkW : k = W := by have : ¬ ((k : Nat) : Int) < (W : Int) := h; omega
    subst hkW
    refine ⟨valI 0 (rest.take k), decide (t ≥ 16), k + 1, sdrop (sdrop s 1) k, ?_, rfl, ?_, ?_⟩
    · unfold parse; simp only
      have e : (if 16 ≤ t then t - 16 else t).toNat = k := hW
      rw [e, if_pos ⟨h32, h8, hl, hz, hh⟩]
    · have := (hr0.drop (k := 1) hlen).drop (k := k) (by simpa using hl)
      simpa using this
    · exact hw

end Go.Proofs.Ytgfneeoponiibaa
/- Package record: Scan. Condition: bounds on lengths. -/
namespace Go.Proofs.Ytgfneeoponiibaa
open Go Go.VC

variable {R : Cx} {Hs Rest : List HP} {w : World}

theorem _root_.Go.VC.Sat.restTru {A : HP} (h : Sat R (A :: Hs) w) : Sat R [A, VC.tru] w :=
  h.cons fun R' h => by
    have key : ∀ (Hs : List HP) (R' : Cx), Sat R' Hs w → Sat R' [VC.tru] w := fun Hs => by
      induction Hs with
      | nil => exact fun R' h => h.tru
      | cons B Hs ih => exact fun R' h => Sat.absorb (h.cons fun R'' h => ih R'' h)
    exact key _ _ h

/-- The length of the slice that a block holds. -/
def slLen (c : Nat) (w : World) : Nat := match (w.heap[c]? : Option Obj) with
  | some (Obj.cells l _ _) => (match (l[0]? : Option Value) with | some (Value.slice _ n _) => n | _ => 0)
  | _ => 0
theorem slLen_at {c : Nat} {t : Sl} {T : TypeId} (hw : Sat R (pts c (.cells [.slice t.a t.len t.cap].toArray T (0, 0)) :: Hs) w) : slLen c w = t.len := by
  unfold slLen
  rw [hw.at]
  rfl

theorem records_spec {s : Sl} (hw : Sat R Hs w) : Gets Try.prog 50 #[.slice s.a s.len s.cap] w fun v w' => ∃ c, v = .func (.func 62) #[] #[.pointer (some ⟨c, 0, none⟩)] ∧ Sat R (lp c s :: Hs) w' := by
  apply call50
  exact new_rule hw fun c w hw => ⟨c, rfl, hw⟩

theorem _root_.Go.VC.SlR.b8take {h : Heap} {s : Sl} {xs : List Int} (a : SlR h s (b8 xs)) {k : Nat} (hk : k ≤ xs.length) : SlR h ⟨s.a, k, s.cap⟩ (b8 (xs.take k)) := by
  have := a.take (k := k) (by simpa using hk)
  simpa using this
theorem _root_.Go.VC.SlR.b8drop {h : Heap} {s : Sl} {xs : List Int} (a : SlR h s (b8 xs)) {k : Nat} (hk : k ≤ xs.length) : SlR h (sdrop s k) (b8 (xs.drop k)) := by
  have := a.drop (k := k) (by simpa using hk)
  simpa using this

theorem iter_spec {L c nn : Nat} {s : Sl} {bs : List Int} (hbs : ∀ x ∈ bs, 0 ≤ x ∧ x < 256) (hlen : bs.length ≤ 1099511627776) (hs : SlR R.m s (b8 bs)) (I : List (List Int) → List HP)
    (hY : ∀ (pre : List (List Int)) (x : List Int) (W : World) (A : HP) (t : Sl), pre ++ [x] <+: scan bs → SlR R.m t (b8 x) → Sat R (A :: I pre) W →
      YieldAt Fence.wide (nn - 1) Try.prog L #[.slice t.a t.len t.cap] W fun e W' => e = .returned (.bool true) ∧ Sat R (A :: I (pre ++ [x])) W')
    (hw : Sat R (lp c s :: I []) w) :
    CallsIn Fence.wide nn Try.prog 62 #[.func (.yield L) #[] #[], .pointer (some ⟨c, 0, none⟩)] w fun e w' => (∃ v, e = .returned v) ∧ Sat R (I (scan bs)) w' := by
  refine CallsIn.mono (cally62 L (some ⟨c, 0, none⟩) (fun _ w' => Sat R (I (scan bs)) w') w ?_) (fun e w' ⟨v, hv, h⟩ => ⟨⟨v, hv⟩, h⟩)
  refine ⟨fun w => ∃ pre rest t, scan bs = pre ++ scan rest ∧ rest.length ≤ bs.length ∧ (∀ x ∈ rest, 0 ≤ x ∧ x < 256) ∧ SlR R.m t (b8 rest) ∧ Sat R (lp c t :: I pre) w, fun w => slLen c w, ⟨[], bs, s, rfl, Nat.le_refl _, hbs, hs, hw⟩, ?_⟩
  clear hw
  rintro _ w0 ⟨pre, rest, t, hsc, hrl, hrb, hr, hw⟩
  have hmu : slLen c w0 = t.len := slLen_at hw
  have hl : t.len = rest.length := by have := hr.len; simpa using this
  have hcap := hr.cap
  have stop : ∀ {w}, first rest = none → Sat R (lp c t :: I pre) w → Sat R (I (scan bs)) w := fun hf hw => by
    rw [hsc, scan_none hf, List.append_nil]; exact hw.drop
  refine NilP.mk rfl ⟨t, At.own (eqS hw) (by exact ⟨rfl, trivial⟩), ?_⟩
  refine Br.mk (fun h => ?_) (fun h => ?_)
  rotate_left
  · have h := of_decide_eq_false h
    exact stop (by unfold first; rw [if_neg (by omega)]) hw
  have h8 : 8 ≤ rest.length := by have := of_decide_eq_true h; omega
  have hfirst : first rest = if (valI 0 (rest.take 4)).toNat ≤ 65536 ∧ (valI 0 (rest.take 4)).toNat ≤ rest.length - 8 ∧ crcAdd 0 (rest.take 4 ++ (rest.drop 8).take (valI 0 (rest.take 4)).toNat) = (valI 0 ((rest.drop 4).take 4)).toNat then some ((rest.drop 8).take (valI 0 (rest.take 4)).toNat) else none := by
    unfold first; rw [if_pos h8]
  have hb4 : ∀ x ∈ rest.take 4, 0 ≤ x ∧ x < 256 := fun x hx => hrb x (List.mem_of_mem_take hx)
  have hb8 : ∀ x ∈ (rest.drop 4).take 4, 0 ≤ x ∧ x < 256 := fun x hx => hrb x (List.mem_of_mem_drop (List.mem_of_mem_take hx))
  have hn0 := valI_nn (acc := 0) (Int.le_refl _) hb4
  have hn1 : valI 0 (rest.take 4) < 4294967296 := by
    refine Int.lt_of_lt_of_le (valI_lt (Int.le_refl _) hb4) ?_
    rw [List.length_take, Nat.min_eq_left (by omega)]; decide
  have hm0 := valI_nn (acc := 0) (Int.le_refl _) hb8
  obtain ⟨n, hn⟩ := Int.eq_ofNat_of_zero_le hn0
  rw [hn] at hn1 hfirst
  rw [Int.toNat_natCast] at hfirst
  have r4 : SlR R.m ⟨t.a, 4, t.cap⟩ (b8 (rest.take 4)) := hr.b8take (by omega)
  have r48 : SlR R.m ⟨(sdrop t 4).a, 4, (sdrop t 4).cap⟩ (b8 ((rest.drop 4).take 4)) := (hr.b8drop (k := 4) (by omega)).b8take (by simp; omega)
  refine NilP.mk rfl ⟨t, At.own (eqS hw) (by exact ⟨rfl, trivial⟩), by omega, by omega, ?_⟩
  refine (number4_spec (s := ⟨t.a, 4, t.cap⟩) (xs := rest.take 4) (by simp; omega) hb4 (r4.ro (by simp; omega)) hw).use ?_
  rintro _ w ⟨rfl, hw⟩
  rw [hn]
  refine ⟨_, rfl, fun w => (n ≤ 65536 ∧ n ≤ rest.length - 8) ∧ Sat R (lp c t :: I pre) w, ?_, ?_⟩
  · refine Br.mk (fun h => ?_) (fun h => ?_)
    · have h := of_decide_eq_true h
      exact stop (by rw [hfirst, if_neg]; rintro ⟨h1, _⟩; omega) hw
    · have h := of_decide_eq_false h
      refine NilP.mk rfl ⟨t, At.own (eqS hw) (by exact ⟨rfl, trivial⟩), ?_⟩
      rw [wrap64 (by omega) (by omega), wrap64 (by omega) (by omega)]
      refine Br.mk (fun h2 => ?_) (fun h2 => ?_)
      · have h2 := of_decide_eq_true h2
        exact stop (by rw [hfirst, if_neg]; rintro ⟨_, h1, _⟩; omega) hw
      · have h2 := of_decide_eq_false h2
        exact ⟨⟨by omega, by omega⟩, hw⟩
  clear hw
  rintro _ w ⟨⟨hn2, hn3⟩, hw⟩
  have e8 : IntKind.i64.wrap (8 + IntKind.i64.wrap (n : Int)) = ((8 + n : Nat) : Int) := by
    rw [wrap64 (x := (n : Int)) (by omega) (by omega), wrap64 (by omega) (by omega)]; omega
  have e9 : (((8 + n : Nat) : Int)).toNat - Int.toNat 8 = n := by omega
  have rb : SlR R.m ⟨(sdrop t 8).a, n, (sdrop t 8).cap⟩ (b8 ((rest.drop 8).take n)) := (hr.b8drop (k := 8) (by omega)).b8take (by simp; omega)
  have hbb : ∀ x ∈ (rest.drop 8).take n, 0 ≤ x ∧ x < 256 := fun x hx => hrb x (List.mem_of_mem_drop (List.mem_of_mem_take hx))
  refine NilP.mk rfl ⟨t, At.own (eqS hw) (by exact ⟨rfl, trivial⟩), ?_⟩
  rw [e8, e9]
  refine ⟨by omega, by omega, by omega, by omega, ?_⟩
  refine drw_rule' (Sat R [lp c t, VC.tru]) hw (fun w hw => hw.restTru) fun w hw => ?_
  refine NilP.mk rfl ⟨t, At.own selfS (by exact ⟨rfl, trivial⟩), by omega, by omega, NilP.mk rfl ⟨t, At.own selfS (by exact ⟨rfl, trivial⟩), by omega, by omega, by omega, by omega, ?_⟩⟩
  refine (sum_spec (s := ⟨t.a, 4, t.cap⟩) (xs := rest.take 4) hb4 (r4.ro (by simp; omega)) hw).use ?_
  rintro _ w ⟨rfl, hw⟩
  refine ⟨_, rfl, hw.restTru, ?_⟩
  have hc1 : crcAdd 0 (rest.take 4) < 4294967296 := crcAdd_lt (by omega) hb4
  have hq2 := crcAdd_app 0 (rest.take 4) ((rest.drop 8).take n)
  generalize crcAdd 0 (rest.take 4) = q at hc1 hq2 ⊢
  refine (add_spec (sum := q) (s := ⟨(sdrop t 8).a, n, (sdrop t 8).cap⟩) hc1 hbb (rb.ro (by simp; omega)) hw).use ?_
  rintro _ w ⟨rfl, hw⟩
  refine ⟨_, rfl, hw.restTru, ?_⟩
  rw [hq2]
  refine (number4_spec (s := ⟨(sdrop t 4).a, 4, (sdrop t 4).cap⟩) (xs := (rest.drop 4).take 4) (by simp; omega) hb8 (r48.ro (by simp; omega)) hw).use ?_
  rintro _ w ⟨rfl, hw⟩
  refine ⟨_, rfl, hw.restTru, ?_⟩
  generalize hC : crcAdd 0 (rest.take 4 ++ (rest.drop 8).take n) = C at hfirst ⊢
  refine Br.ne (fun h => ?_) (fun h => ?_)
  · exact stop (by rw [hfirst, if_neg]; rintro ⟨_, _, h1⟩; omega) hw
  have hsome : first rest = some ((rest.drop 8).take n) := by rw [hfirst, if_pos ⟨hn2, hn3, by omega⟩]
  have hxl : ((rest.drop 8).take n).length = n := by simp; omega
  have hss := scan_some hsome
  rw [hxl] at hss
  refine (hY pre ((rest.drop 8).take n) w (lp c t) ⟨(sdrop t 8).a, n, (sdrop t 8).cap⟩ ⟨scan (rest.drop (8 + n)), by rw [hsc, hss]; simp⟩ rb hw).imp ?_
  rintro fn ⟨tmps, assign, body, hrun, hround⟩
  refine ⟨tmps, assign, body, hrun, RoundIn.mono hround ?_⟩
  rintro e w ⟨rfl, hw⟩
  refine ⟨true, rfl, hw.restTru, ?_⟩
  refine Br.f rfl ?_
  refine NilP.mk rfl ⟨t, At.own (eqS hw) (by exact ⟨rfl, trivial⟩), ?_⟩
  refine ⟨by omega, by omega, ?_⟩
  rw [Int.toNat_natCast]
  refine store_rule hw (by kernel_rfl) rfl (by simp [Value.cells]) fun w hw => ?_
  have hw : Sat R (lp c (sdrop t (8 + n)) :: I (pre ++ [(rest.drop 8).take n])) w := hw
  refine ⟨⟨pre ++ [(rest.drop 8).take n], rest.drop (8 + n), sdrop t (8 + n), ?_, by simp; omega, fun x hx => hrb x (List.mem_of_mem_drop hx), hr.b8drop (by omega), hw⟩, ?_⟩
  · rw [hsc, hss]; simp
  · show slLen c w < slLen c w0
    rw [slLen_at hw, hmu]
    show t.len - (8 + n) < t.len
    omega

end Go.Proofs.Ytgfneeoponiibaa
/- Package record: Scan, the whole. Condition: bounds on lengths. -/
namespace Go.Proofs.Ytgfneeoponiibaa
open Go Go.VC

variable {R : Cx} {Hs Rest : List HP} {w : World}

/-- Slices of bytes, each of its own, in a slice of one's own. -/
def BytesL (l : Sl) (xss : List (List Int)) : HP :=
  exs fun ps : List (Sl × List Int) => Star [pur (ps.map (·.2) = xss), Own l 22 (ps.map fun p => Sl.v p.1), Star (ps.map fun p => Own p.1 5 (b8 p.2))]
theorem Sat.bytesL {l : Sl} {xss : List (List Int)} : Sat R (BytesL l xss :: Hs) w ↔ ∃ ps : List (Sl × List Int), ps.map (·.2) = xss ∧ Sat R (Own l 22 (ps.map fun p => Sl.v p.1) :: Star (ps.map fun p => Own p.1 5 (b8 p.2)) :: Hs) w := by
  unfold BytesL
  rw [Sat.exs]
  exact ⟨fun ⟨ps, h⟩ => let h := Sat.pur.1 (Sat.star.1 h); ⟨ps, h.1, h.2⟩, fun ⟨ps, h, hs⟩ => ⟨ps, Sat.star.2 (Sat.pur.2 ⟨h, hs⟩)⟩⟩
def OutAt (b : Nat) (xss : List (List Int)) : HP := exs fun l : Sl => Star [pts b (.cells [.slice l.a l.len l.cap].toArray 24 (0, 0)), BytesL l xss]
theorem Sat.outAt {b : Nat} {xss : List (List Int)} : Sat R (OutAt b xss :: Hs) w ↔ ∃ l : Sl, Sat R (pts b (.cells [.slice l.a l.len l.cap].toArray 24 (0, 0)) :: BytesL l xss :: Hs) w := by
  unfold OutAt
  rw [Sat.exs]
  exact ⟨fun ⟨s, h⟩ => ⟨s, Sat.star.1 h⟩, fun ⟨s, h⟩ => ⟨s, Sat.star.2 h⟩⟩

theorem elBB : El Try.prog 24 24 22 24 := ⟨Try.underlying24, ⟨_, Try.underlying24⟩, by kernel_rfl⟩

theorem one_sl (ps : List (Sl × List Int)) : oneAll (ps.map fun p => Sl.v p.1) = true := by unfold oneAll; simp [Value.oneCell', Sl.v]

theorem scanLen_app : ∀ a b : List (List Int), scanLen (a ++ b) = scanLen a + scanLen b
  | [], b => by simp [scanLen]
  | x :: a, b => by rw [List.cons_append, scanLen_cons, scanLen_cons, scanLen_app a b]; omega
theorem len_scanLen : ∀ a : List (List Int), 8 * a.length ≤ scanLen a
  | [] => by simp [scanLen]
  | x :: a => by rw [scanLen_cons, List.length_cons]; have := len_scanLen a; omega
theorem scanLen_le : ∀ (n : Nat) (bs : List Int), bs.length ≤ n → scanLen (scan bs) ≤ bs.length := fun n => by
  induction n with
  | zero =>
    intro bs h
    cases hf : first bs with
    | none => rw [scan_none hf]; simp [scanLen]
    | some b => have := (first_len hf).1; omega
  | succ n ih =>
    intro bs h
    cases hf : first bs with
    | none => rw [scan_none hf]; simp [scanLen]
    | some b =>
      have hb := (first_len hf).1
      rw [scan_some hf, scanLen_cons]
      have := ih (bs.drop (8 + b.length)) (by simp; omega)
      rw [List.length_drop] at this
      omega
theorem scanLen_pre {pre bs} (h : pre <+: scan bs) : scanLen pre ≤ bs.length := by
  obtain ⟨r, hr⟩ := h
  have := scanLen_le _ bs (Nat.le_refl _)
  rw [← hr, scanLen_app] at this
  omega

/-- One round's body. -/
theorem body_spec {b4 b5 : Nat} {s : Sl} {x : List Int} {pre : List (List Int)} {K : World → Prop} (hs : Ro R s (b8 x)) (hl : scanLen (pre ++ [x]) ≤ 1099511627776)
    (hw : Sat R (OutAt b4 pre :: pts b5 (.cells [.int .i64 (scanLen pre : Nat)].toArray 3 (0, 0)) :: Hs) w)
    (k : ∀ w, Sat R (OutAt b4 (pre ++ [x]) :: pts b5 (.cells [.int .i64 (scanLen (pre ++ [x]) : Nat)].toArray 3 (0, 0)) :: Hs) w → K w) :
    Bb30 (some ⟨b4, 0, none⟩) (some ⟨b5, 0, none⟩) s K w := by
  have hsl : s.len = x.length := by have := hs.len; simpa using this
  have happ := scanLen_app pre [x]
  rw [scanLen_cons] at happ
  have hsn : scanLen [] = 0 := rfl
  have hpl := len_scanLen pre
  obtain ⟨l, hw⟩ := Sat.outAt.1 hw
  refine drw_rule' (Sat R [pts b4 (.cells [.slice l.a l.len l.cap].toArray 24 (0, 0)), VC.tru]) hw (fun w hw => hw.restTru) fun w hw => ?_
  refine NilP.mk rfl ⟨l, At.own selfS (by exact ⟨rfl, trivial⟩), ?_⟩
  refine (clone_spec hs (by omega) hw).use ?_
  rintro _ w ⟨t, rfl, hw⟩
  refine ⟨t, rfl, hw.swap.restTru, ?_⟩
  refine new_rule hw fun b13 w hw => ?_
  have hw : Sat R (pts b13 (.cells [Value.slice t.a t.len t.cap].toArray 22 (0, 0)) :: Own t 5 (b8 x) :: pts b4 (.cells [.slice l.a l.len l.cap].toArray 24 (0, 0)) :: BytesL l pre :: pts b5 (.cells [.int .i64 (scanLen pre : Nat)].toArray 3 (0, 0)) :: Hs) w := hw
  have hw2 : Sat R (pts b4 (.cells [.slice l.a l.len l.cap].toArray 24 (0, 0)) :: BytesL l pre :: pts b5 (.cells [.int .i64 (scanLen pre : Nat)].toArray 3 (0, 0)) :: pts b13 (.cells [Value.slice t.a t.len t.cap].toArray 22 (0, 0)) :: Own t 5 (b8 x) :: Hs) w := hw.arr
  refine ⟨hw2.restTru, ?_⟩
  have hw3 : Sat R (BytesL l pre :: pts b4 (.cells [.slice l.a l.len l.cap].toArray 24 (0, 0)) :: pts b5 (.cells [.int .i64 (scanLen pre : Nat)].toArray 3 (0, 0)) :: pts b13 (.cells [Value.slice t.a t.len t.cap].toArray 22 (0, 0)) :: Own t 5 (b8 x) :: Hs) w := hw2.swap
  obtain ⟨ps, hps, hw4⟩ := Sat.bytesL.1 hw3
  have hpsl : ps.length = pre.length := by rw [← hps]; simp
  have hsrc : Src Try.prog 1 24 (.slice (some ⟨b13, 0, none⟩) 1 1) 1 [Value.slice t.a t.len t.cap] w := Src_one elBB.hk 1 hw rfl
  refine append_rule elBB (s := l) hw4 hsrc (one_sl ps) (by rw [List.length_map]; omega) (by rw [List.length_map]; omega) fun l2 w hw => ?_
  have hw : Sat R (pts b4 (.cells [.slice l.a l.len l.cap].toArray 24 (0, 0)) :: Own l2 22 ((ps.map fun p => Sl.v p.1) ++ [Value.slice t.a t.len t.cap]) :: Star (ps.map fun p => Own p.1 5 (b8 p.2)) :: pts b5 (.cells [.int .i64 (scanLen pre : Nat)].toArray 3 (0, 0)) :: pts b13 (.cells [Value.slice t.a t.len t.cap].toArray 22 (0, 0)) :: Own t 5 (b8 x) :: Hs) w := hw.arr
  refine store_rule hw (by kernel_rfl) rfl (by simp [Value.cells]) fun w hw => ?_
  have hw := hw.re (pts b4 (.cells [.slice l2.a l2.len l2.cap].toArray 24 (0, 0)))
  have hw : Sat R (pts b5 (.cells [.int .i64 (scanLen pre : Nat)].toArray 3 (0, 0)) :: pts b4 (.cells [.slice l2.a l2.len l2.cap].toArray 24 (0, 0)) :: Own l2 22 ((ps.map fun p => Sl.v p.1) ++ [Value.slice t.a t.len t.cap]) :: Own t 5 (b8 x) :: Star (ps.map fun p => Own p.1 5 (b8 p.2)) :: pts b13 (.cells [Value.slice t.a t.len t.cap].toArray 22 (0, 0)) :: Hs) w := hw.arr
  refine NilP.mk rfl ⟨_, At.own (eqS hw) (by exact ⟨rfl, trivial⟩), ?_⟩
  rw [hsl, wrap64 (x := 8 + (x.length : Int)) (by omega) (by omega), wrap64 (by omega) (by omega)]
  refine store_rule hw (by kernel_rfl) rfl (by simp [Value.cells]) fun w hw => k w ?_
  have e : ((scanLen pre : Nat) : Int) + (8 + (x.length : Int)) = ((scanLen (pre ++ [x]) : Nat) : Int) := by rw [happ, hsn]; omega
  rw [e] at hw
  have hw : Sat R (pts b5 (.cells [.int .i64 (scanLen (pre ++ [x]) : Nat)].toArray 3 (0, 0)) :: pts b4 (.cells [.slice l2.a l2.len l2.cap].toArray 24 (0, 0)) :: Own l2 22 ((ps.map fun p => Sl.v p.1) ++ [Value.slice t.a t.len t.cap]) :: Own t 5 (b8 x) :: Star (ps.map fun p => Own p.1 5 (b8 p.2)) :: pts b13 (.cells [Value.slice t.a t.len t.cap].toArray 22 (0, 0)) :: Hs) w := hw
  have hw : Sat R (pts b4 (.cells [.slice l2.a l2.len l2.cap].toArray 24 (0, 0)) :: Own l2 22 ((ps.map fun p => Sl.v p.1) ++ [Value.slice t.a t.len t.cap]) :: Own t 5 (b8 x) :: Star (ps.map fun p => Own p.1 5 (b8 p.2)) :: pts b13 (.cells [Value.slice t.a t.len t.cap].toArray 22 (0, 0)) :: pts b5 (.cells [.int .i64 (scanLen (pre ++ [x]) : Nat)].toArray 3 (0, 0)) :: Hs) w := hw.arr
  refine Sat.outAt.2 ⟨l2, hw.cons fun R' hw => Sat.bytesL.2 ⟨ps ++ [(t, x)], by simp [hps], ?_⟩⟩
  have e2 : ((ps ++ [(t, x)]).map fun p => Sl.v p.1) = (ps.map fun p => Sl.v p.1) ++ [Value.slice t.a t.len t.cap] := by simp [Sl.v]
  rw [e2]
  refine hw.cons fun R' hw => ?_
  refine Sat.star.2 ?_
  rw [List.map_append, List.append_assoc]
  have h3 : Sat R' (Star (ps.map fun p => Own p.1 5 (b8 p.2)) :: Own t 5 (b8 x) :: pts b13 (.cells [Value.slice t.a t.len t.cap].toArray 22 (0, 0)) :: pts b5 (.cells [.int .i64 (scanLen (pre ++ [x]) : Nat)].toArray 3 (0, 0)) :: Hs) w := hw.swap
  have h4 := Sat.star.1 h3
  have dropB : ∀ (l : List HP) (R : Cx), Sat R (l ++ (Own t 5 (b8 x) :: pts b13 (.cells [Value.slice t.a t.len t.cap].toArray 22 (0, 0)) :: pts b5 (.cells [.int .i64 (scanLen (pre ++ [x]) : Nat)].toArray 3 (0, 0)) :: Hs)) w → Sat R (l ++ (Own t 5 (b8 x) :: pts b5 (.cells [.int .i64 (scanLen (pre ++ [x]) : Nat)].toArray 3 (0, 0)) :: Hs)) w := fun l => by
    induction l with
    | nil => exact fun R h => h.cons fun _ h => h.drop
    | cons A l ih => exact fun R h => h.cons fun _ h => ih _ h
  exact dropB _ _ h4

end Go.Proofs.Ytgfneeoponiibaa
