/- The formulas of functions of this seat's translation, printed by a program of mine off the translation; each is proved equal to 'fnF' of the function's body, so it is enough for the call. No condition. -/
import Derived.Test.YtjbpncdealpmhaaProg
import Derived.Test.YtjbpncdealpmhaaSl2
namespace Go.Proofs.Ytjbpncdealpmhaa
open Go Go.VC
set_option linter.unusedVariables false

def clList : List Nat := [10,11,12,13,14,15,16,17,18,19,20,21,22,23,24,25,26,27,28,29,30,31,32,33,34,35,36,37,38,39,40,41,42,43]
def cl : FuncId → Bool := fun g => memB g clList
theorem clList_ok : clList.all (callable Try.prog) = true := by kernel_rfl
theorem cl_ok (g : FuncId) (h : cl g = true) : callable Try.prog g = true := by
  have key : ∀ l : List Nat, memB g l = true → l.all (callable Try.prog) = true → callable Try.prog g = true := fun l => by
    induction l with
    | nil => intro h; cases h
    | cons x l ih =>
      intro h h2
      simp only [List.all_cons, Bool.and_eq_true] at h2
      simp only [memB] at h
      split at h
      · rename_i hb; rw [Nat.eq_of_beq_eq_true hb]; exact h2.1
      · exact ih h h2.2
  exact key _ h clList_ok
theorem mixed : Try.prog.follows .mixedOrders = true := by kernel_rfl

/-- jetway/jetwaylaw09.QuorumCounts. -/
def B3 (g0_0 : Sl) (g0_1 : Sl) (l1 : Sl) (K : Value → World → Prop) (w : World) : Prop :=
  New (.cells #[.slice g0_0.a g0_0.len g0_0.cap, .slice g0_1.a g0_1.len g0_1.cap] 24 (0, 0)) (fun b_g2 w_1 =>
  Calls Try.prog 10 #[] w_1 fun e w_2 =>
  ∃ t7 : Bool, (e = .returned (.bool t7)) ∧
  ∃ t8 : Sl, ∃ t8_1 : Sl, (At (fun w' => w' = w_2) ⟨b_g2, 0, none⟩ [.slice t8.a t8.len t8.cap, .slice t8_1.a t8_1.len t8_1.cap]) ∧
  New (.cells #[.slice l1.a l1.len l1.cap] 22 (0, 0)) (fun b_t10 w_3 =>
  Calls Try.prog 11 #[.agg #[.slice t8.a t8.len t8.cap, .slice t8_1.a t8_1.len t8_1.cap], .slice ((some ⟨b_t10, 0, none⟩)) 1 1] w_3 fun e_1 w_4 =>
  ∃ t11 : Bool, (e_1 = .returned (.bool t11)) ∧
  ∃ (J : World → Prop), (Br (!t7)
     (K (.bool t7) w_4)
     (Br (!t11)
       (K (.bool t7) w_4)
       (J  w_4))) ∧
  ∀ (z : Env)  (w_5 : World), J  w_5 →
  Drw w_5 fun S w_6 =>
  ∃ t19 : Sl, ∃ t19_1 : Sl, (At S ⟨b_g2, 0, none⟩ [.slice t19.a t19.len t19.cap, .slice t19_1.a t19_1.len t19_1.cap]) ∧
  ∃ t21 : Sl, ∃ t21_1 : Sl, (At S ⟨b_g2, 0, none⟩ [.slice t21.a t21.len t21.cap, .slice t21_1.a t21_1.len t21_1.cap]) ∧
  Calls Try.prog 12 #[.agg #[.slice t19.a t19.len t19.cap, .slice t19_1.a t19_1.len t19_1.cap]] w_6 fun e_2 w_7 =>
  ∃ t20 : Bool, (e_2 = .returned (.bool t20)) ∧
  (S w_7) ∧
  Calls Try.prog 13 #[.agg #[.slice t21.a t21.len t21.cap, .slice t21_1.a t21_1.len t21_1.cap]] w_7 fun e_3 w_8 =>
  ∃ t22 : Bool, (e_3 = .returned (.bool t22)) ∧
  (S w_8) ∧
  Br (t20 == t22)
   (∃ t25 : Sl, ∃ t25_1 : Sl, (At S ⟨b_g2, 0, none⟩ [.slice t25.a t25.len t25.cap, .slice t25_1.a t25_1.len t25_1.cap]) ∧
    ∃ t27 : Sl, ∃ t27_1 : Sl, (At S ⟨b_g2, 0, none⟩ [.slice t27.a t27.len t27.cap, .slice t27_1.a t27_1.len t27_1.cap]) ∧
    Calls Try.prog 14 #[.agg #[.slice t25.a t25.len t25.cap, .slice t25_1.a t25_1.len t25_1.cap]] w_8 fun e_4 w_9 =>
    ∃ t26 : Int, (e_4 = .returned (.int .i64 t26)) ∧
    (S w_9) ∧
    Calls Try.prog 15 #[.agg #[.slice t27.a t27.len t27.cap, .slice t27_1.a t27_1.len t27_1.cap]] w_9 fun e_5 w_10 =>
    ∃ t28 : Int, (e_5 = .returned (.int .i64 t28)) ∧
    (S w_10) ∧
    Br (t26 == t28)
     (∃ t32 : Sl, ∃ t32_1 : Sl, (At S ⟨b_g2, 0, none⟩ [.slice t32.a t32.len t32.cap, .slice t32_1.a t32_1.len t32_1.cap]) ∧
      ∃ t35 : Sl, ∃ t35_1 : Sl, (At S ⟨b_g2, 0, none⟩ [.slice t35.a t35.len t35.cap, .slice t35_1.a t35_1.len t35_1.cap]) ∧
      Calls Try.prog 16 #[.agg #[.slice t32.a t32.len t32.cap, .slice t32_1.a t32_1.len t32_1.cap], .slice l1.a l1.len l1.cap] w_10 fun e_6 w_11 =>
      ∃ t34 : Bool, (e_6 = .returned (.bool t34)) ∧
      (S w_11) ∧
      Calls Try.prog 17 #[.agg #[.slice t35.a t35.len t35.cap, .slice t35_1.a t35_1.len t35_1.cap], .slice l1.a l1.len l1.cap] w_11 fun e_7 w_12 =>
      ∃ t37 : Bool, (e_7 = .returned (.bool t37)) ∧
      (S w_12) ∧
      Br (t34 == t37)
       (∃ t41 : Sl, ∃ t41_1 : Sl, (At S ⟨b_g2, 0, none⟩ [.slice t41.a t41.len t41.cap, .slice t41_1.a t41_1.len t41_1.cap]) ∧
        ∃ t44 : Sl, ∃ t44_1 : Sl, (At S ⟨b_g2, 0, none⟩ [.slice t44.a t44.len t44.cap, .slice t44_1.a t44_1.len t44_1.cap]) ∧
        Calls Try.prog 18 #[.agg #[.slice t41.a t41.len t41.cap, .slice t41_1.a t41_1.len t41_1.cap], .slice l1.a l1.len l1.cap] w_12 fun e_8 w_13 =>
        ∃ t43 : Bool, (e_8 = .returned (.bool t43)) ∧
        (S w_13) ∧
        Calls Try.prog 19 #[.agg #[.slice t44.a t44.len t44.cap, .slice t44_1.a t44_1.len t44_1.cap], .slice l1.a l1.len l1.cap] w_13 fun e_9 w_14 =>
        ∃ t46 : Bool, (e_9 = .returned (.bool t46)) ∧
        (S w_14) ∧
        K (.bool (t43 == t46)) w_14)
       (K (.bool false) w_12))
     (K (.bool false) w_10))
   (K (.bool false) w_8)) w_2) w

def sk3 : Sk := (.seq .leaf (.seq .leaf (.seq .leaf (.cut [] [] [4, 12, 13, 14, 15, 16, 17, 18] .leaf .leaf))))
theorem ok3 : fnOk Try.prog Try.f3.ntmps Try.f3 sk3 = true := by kernel_rfl
theorem eq3 (g0_0 : Sl) (g0_1 : Sl) (l1 : Sl) (K : Value → World → Prop) (w : World) : fnF Try.prog cl Try.f3 sk3 [.agg #[.slice g0_0.a g0_0.len g0_0.cap, .slice g0_1.a g0_1.len g0_1.cap], .slice l1.a l1.len l1.cap] K w = B3 g0_0 g0_1 l1 K w := by kernel_rfl
theorem call3 (g0_0 : Sl) (g0_1 : Sl) (l1 : Sl) (K : Value → World → Prop) (w : World) (h : B3 g0_0 g0_1 l1 K w) : Gets Try.prog 3 #[.agg #[.slice g0_0.a g0_0.len g0_0.cap, .slice g0_1.a g0_1.len g0_1.cap], .slice l1.a l1.len l1.cap] w K :=
  calls_of (sk := sk3) cl_ok mixed Try.func3 ok3 (args := [.agg #[.slice g0_0.a g0_0.len g0_0.cap, .slice g0_1.a g0_1.len g0_1.cap], .slice l1.a l1.len l1.cap]) (Nat.le_of_ble_eq_true (by kernel_rfl)) (by rw [eq3]; exact h)

/-- jetway/jetwaylaw09.awake. -/
def B10  (K : Value → World → Prop) (w : World) : Prop :=
  New (.cells #[.int .i64 1, .int .i64 2, .int .i64 3] 3 (0, 0)) (fun b_t1 w_1 =>
  Calls Try.prog 14 #[.agg #[.slice ((some ⟨b_t1, 0, none⟩)) 3 3, .slice none 0 0]] w_1 fun e w_2 =>
  ∃ t3 : Int, (e = .returned (.int .i64 t3)) ∧
  K (.bool (t3 == 2)) w_2) w

def sk10 : Sk := .leaf
theorem ok10 : fnOk Try.prog Try.f10.ntmps Try.f10 sk10 = true := by kernel_rfl
theorem eq10  (K : Value → World → Prop) (w : World) : fnF Try.prog cl Try.f10 sk10 [] K w = B10  K w := by kernel_rfl
theorem call10  (K : Value → World → Prop) (w : World) (h : B10  K w) : Gets Try.prog 10 #[] w K :=
  calls_of (sk := sk10) cl_ok mixed Try.func10 ok10 (args := []) (Nat.le_of_ble_eq_true (by kernel_rfl)) (by rw [eq10]; exact h)

/-- jetway/jetwaylaw09.few. -/
def B11 (g0_0 : Sl) (g0_1 : Sl) (l1 : Sl) (K : Value → World → Prop) (w : World) : Prop :=
  New (.cells #[.slice g0_0.a g0_0.len g0_0.cap, .slice g0_1.a g0_1.len g0_1.cap] 24 (0, 0)) (fun b_g2 w_1 =>
  ∃ (I : Int → World → Prop) (μ : Int → World → Nat), (I 0 w_1) ∧ ∀ (z : Env) (i5 : Int) (w_2 : World), I i5 w_2 →
  Br (decide (i5 < (↑l1.len : Int)))
   (Rng i5 l1.len (NilP l1.a fun a_t14 =>
    ∃ t15 : Sl, (At (fun w' => w' = w_2) (Addr.add a_t14 i5.toNat) [.slice t15.a t15.len t15.cap]) ∧
    Br (decide ((↑t15.len : Int) > 1000))
     (K (.bool false) w_2)
     ((I (IntKind.i64.wrap (i5 + 1)) w_2) ∧ μ (IntKind.i64.wrap (i5 + 1)) w_2 < μ i5 w_2)))
   (∃ t19 : Sl, (At (fun w' => w' = w_2) ⟨b_g2, 0, none⟩ [.slice t19.a t19.len t19.cap]) ∧
    Br (decide ((↑t19.len : Int) ≤ 1000))
     (∃ t24 : Sl, (At (fun w' => w' = w_2) ⟨b_g2, 0 + 1, none⟩ [.slice t24.a t24.len t24.cap]) ∧
      K (.bool (decide ((↑t24.len : Int) ≤ 1000))) w_2)
     (K (.bool false) w_2))) w

def sk11 : Sk := (.seq .leaf (.seq (.seq .leaf (.block (.loop [5] [(.int .i64)] [4, 5, 6, 7, 8, 9, 10, 11, 12, 13, 14, 15, 16, 17] .leaf))) .leaf))
theorem ok11 : fnOk Try.prog Try.f11.ntmps Try.f11 sk11 = true := by kernel_rfl
theorem eq11 (g0_0 : Sl) (g0_1 : Sl) (l1 : Sl) (K : Value → World → Prop) (w : World) : fnF Try.prog cl Try.f11 sk11 [.agg #[.slice g0_0.a g0_0.len g0_0.cap, .slice g0_1.a g0_1.len g0_1.cap], .slice l1.a l1.len l1.cap] K w = B11 g0_0 g0_1 l1 K w := by kernel_rfl
theorem call11 (g0_0 : Sl) (g0_1 : Sl) (l1 : Sl) (K : Value → World → Prop) (w : World) (h : B11 g0_0 g0_1 l1 K w) : Gets Try.prog 11 #[.agg #[.slice g0_0.a g0_0.len g0_0.cap, .slice g0_1.a g0_1.len g0_1.cap], .slice l1.a l1.len l1.cap] w K :=
  calls_of (sk := sk11) cl_ok mixed Try.func11 ok11 (args := [.agg #[.slice g0_0.a g0_0.len g0_0.cap, .slice g0_1.a g0_1.len g0_1.cap], .slice l1.a l1.len l1.cap]) (Nat.le_of_ble_eq_true (by kernel_rfl)) (by rw [eq11]; exact h)

/-- jetway/quorum.Right. -/
def B12 (g0_0 : Sl) (g0_1 : Sl) (K : Value → World → Prop) (w : World) : Prop :=
  New (.cells #[.slice g0_0.a g0_0.len g0_0.cap, .slice g0_1.a g0_1.len g0_1.cap] 24 (0, 0)) (fun b_g1 w_1 =>
  Drw w_1 fun S w_2 =>
  ∃ t4 : Sl, (At S ⟨b_g1, 0, none⟩ [.slice t4.a t4.len t4.cap]) ∧
  Calls Try.prog 26 #[.slice t4.a t4.len t4.cap] w_2 fun e w_3 =>
  ∃ t5 : Bool, (e = .returned (.bool t5)) ∧
  (S w_3) ∧
  Br t5
   (∃ t8 : Sl, (At S ⟨b_g1, 0 + 1, none⟩ [.slice t8.a t8.len t8.cap]) ∧
    Calls Try.prog 26 #[.slice t8.a t8.len t8.cap] w_3 fun e_1 w_4 =>
    ∃ t9 : Bool, (e_1 = .returned (.bool t9)) ∧
    (S w_4) ∧
    Br t9
     (∃ t13 : Sl, (At S ⟨b_g1, 0, none⟩ [.slice t13.a t13.len t13.cap]) ∧
      Br (decide ((↑t13.len : Int) > 0))
       (∃ t19 : Sl, (At S ⟨b_g1, 0, none⟩ [.slice t19.a t19.len t19.cap]) ∧
        ∃ t21 : Sl, (At S ⟨b_g1, 0 + 1, none⟩ [.slice t21.a t21.len t21.cap]) ∧
        Calls Try.prog 28 #[.slice t21.a t21.len t21.cap] w_4 fun e_2 w_5 =>
        ∃ t22 : Value, (e_2 = .returned (t22)) ∧
        (S w_5) ∧
        Calls Try.prog 27 #[.slice t19.a t19.len t19.cap, t22] w_5 fun e_3 w_6 =>
        ∃ t23 : Int, (e_3 = .returned (.int .i64 t23)) ∧
        (S w_6) ∧
        K (.bool (t23 == 0)) w_6)
       (K (.bool false) w_4))
     (K (.bool false) w_4))
   (K (.bool false) w_3)) w

def sk12 : Sk := .leaf
theorem ok12 : fnOk Try.prog Try.f12.ntmps Try.f12 sk12 = true := by kernel_rfl
theorem eq12 (g0_0 : Sl) (g0_1 : Sl) (K : Value → World → Prop) (w : World) : fnF Try.prog cl Try.f12 sk12 [.agg #[.slice g0_0.a g0_0.len g0_0.cap, .slice g0_1.a g0_1.len g0_1.cap]] K w = B12 g0_0 g0_1 K w := by kernel_rfl
theorem call12 (g0_0 : Sl) (g0_1 : Sl) (K : Value → World → Prop) (w : World) (h : B12 g0_0 g0_1 K w) : Gets Try.prog 12 #[.agg #[.slice g0_0.a g0_0.len g0_0.cap, .slice g0_1.a g0_1.len g0_1.cap]] w K :=
  calls_of (sk := sk12) cl_ok mixed Try.func12 ok12 (args := [.agg #[.slice g0_0.a g0_0.len g0_0.cap, .slice g0_1.a g0_1.len g0_1.cap]]) (Nat.le_of_ble_eq_true (by kernel_rfl)) (by rw [eq12]; exact h)

/-- jetway/jetwayref07.RightGroup. -/
def B13 (g0_0 : Sl) (g0_1 : Sl) (K : Value → World → Prop) (w : World) : Prop :=
  New (.cells #[.slice g0_0.a g0_0.len g0_0.cap, .slice g0_1.a g0_1.len g0_1.cap] 24 (0, 0)) (fun b_g1 w_1 =>
  ∃ t8 : Sl, (At (fun w' => w' = w_1) ⟨b_g1, 0, none⟩ [.slice t8.a t8.len t8.cap]) ∧
  Calls Try.prog 29 #[.slice t8.a t8.len t8.cap] w_1 fun e w_2 =>
  ∃ t9 : Bool, (e = .returned (.bool t9)) ∧
  ∃ t11 : Sl, (At (fun w' => w' = w_2) ⟨b_g1, 0 + 1, none⟩ [.slice t11.a t11.len t11.cap]) ∧
  Calls Try.prog 29 #[.slice t11.a t11.len t11.cap] w_2 fun e_1 w_3 =>
  ∃ t12 : Bool, (e_1 = .returned (.bool t12)) ∧
  ∃ (J : World → Prop), (Br (!t9)
     (K (.bool false) w_3)
     (Br (!t12)
       (K (.bool false) w_3)
       (∃ t21 : Sl, (At (fun w' => w' = w_3) ⟨b_g1, 0, none⟩ [.slice t21.a t21.len t21.cap]) ∧
        Br ((↑t21.len : Int) == 0)
         (K (.bool false) w_3)
         (J  w_3)))) ∧
  ∀ (z : Env)  (w_4 : World), J  w_4 →
  ∃ (I : Int → World → Prop) (μ : Int → World → Nat), (I 0 w_4) ∧ ∀ (z_1 : Env) (i5 : Int) (w_5 : World), I i5 w_5 →
  ∃ t27 : Sl, (At (fun w' => w' = w_5) ⟨b_g1, 0, none⟩ [.slice t27.a t27.len t27.cap]) ∧
  Br (decide (i5 < (↑t27.len : Int)))
   (Drw w_5 fun S w_6 =>
    ∃ t33 : Sl, (At S ⟨b_g1, 0 + 1, none⟩ [.slice t33.a t33.len t33.cap]) ∧
    ∃ t35 : Sl, (At S ⟨b_g1, 0, none⟩ [.slice t35.a t35.len t35.cap]) ∧
    Rng i5 t35.len (NilP t35.a fun a_t37 =>
    ∃ t38 : Int, (At S (Addr.add a_t37 i5.toNat) [.int .i64 t38]) ∧
    Calls Try.prog 22 #[.slice t33.a t33.len t33.cap, .int .i64 t38] w_6 fun e_2 w_7 =>
    ∃ t39 : Bool, (e_2 = .returned (.bool t39)) ∧
    (S w_7) ∧
    Br t39
     (K (.bool false) w_7)
     ((I (IntKind.i64.wrap (i5 + 1)) w_7) ∧ μ (IntKind.i64.wrap (i5 + 1)) w_7 < μ i5 w_5)))
   (K (.bool true) w_5)) w

def sk13 : Sk := (.seq .leaf (.seq .leaf (.seq .leaf (.cut [] [] [2, 13, 14, 15, 16, 17, 18, 19, 20, 21, 22, 23, 24] .leaf (.seq (.seq .leaf (.block (.loop [5] [(.int .i64)] [2, 5, 6, 25, 26, 27, 28, 29, 30, 31, 32, 33, 34, 35, 36, 37, 38, 39, 40] .leaf))) .leaf)))))
theorem ok13 : fnOk Try.prog Try.f13.ntmps Try.f13 sk13 = true := by kernel_rfl
theorem eq13 (g0_0 : Sl) (g0_1 : Sl) (K : Value → World → Prop) (w : World) : fnF Try.prog cl Try.f13 sk13 [.agg #[.slice g0_0.a g0_0.len g0_0.cap, .slice g0_1.a g0_1.len g0_1.cap]] K w = B13 g0_0 g0_1 K w := by kernel_rfl
theorem call13 (g0_0 : Sl) (g0_1 : Sl) (K : Value → World → Prop) (w : World) (h : B13 g0_0 g0_1 K w) : Gets Try.prog 13 #[.agg #[.slice g0_0.a g0_0.len g0_0.cap, .slice g0_1.a g0_1.len g0_1.cap]] w K :=
  calls_of (sk := sk13) cl_ok mixed Try.func13 ok13 (args := [.agg #[.slice g0_0.a g0_0.len g0_0.cap, .slice g0_1.a g0_1.len g0_1.cap]]) (Nat.le_of_ble_eq_true (by kernel_rfl)) (by rw [eq13]; exact h)

/-- jetway/quorum.Need. -/
def B14 (g0_0 : Sl) (g0_1 : Sl) (K : Value → World → Prop) (w : World) : Prop :=
  New (.cells #[.slice g0_0.a g0_0.len g0_0.cap, .slice g0_1.a g0_1.len g0_1.cap] 24 (0, 0)) (fun b_g1 w_1 =>
  ∃ t3 : Sl, ∃ t3_1 : Sl, (At (fun w' => w' = w_1) ⟨b_g1, 0, none⟩ [.slice t3.a t3.len t3.cap, .slice t3_1.a t3_1.len t3_1.cap]) ∧
  Calls Try.prog 12 #[.agg #[.slice t3.a t3.len t3.cap, .slice t3_1.a t3_1.len t3_1.cap]] w_1 fun e w_2 =>
  ∃ t4 : Bool, (e = .returned (.bool t4)) ∧
  Br (!t4)
   (K (.int .i64 0) w_2)
   (∃ t7 : Sl, (At (fun w' => w' = w_2) ⟨b_g1, 0, none⟩ [.slice t7.a t7.len t7.cap]) ∧
    K (.int .i64 (IntKind.i64.wrap (IntKind.i64.wrap ((↑t7.len : Int).tdiv 2) + 1))) w_2)) w

def sk14 : Sk := .leaf
theorem ok14 : fnOk Try.prog Try.f14.ntmps Try.f14 sk14 = true := by kernel_rfl
theorem eq14 (g0_0 : Sl) (g0_1 : Sl) (K : Value → World → Prop) (w : World) : fnF Try.prog cl Try.f14 sk14 [.agg #[.slice g0_0.a g0_0.len g0_0.cap, .slice g0_1.a g0_1.len g0_1.cap]] K w = B14 g0_0 g0_1 K w := by kernel_rfl
theorem call14 (g0_0 : Sl) (g0_1 : Sl) (K : Value → World → Prop) (w : World) (h : B14 g0_0 g0_1 K w) : Gets Try.prog 14 #[.agg #[.slice g0_0.a g0_0.len g0_0.cap, .slice g0_1.a g0_1.len g0_1.cap]] w K :=
  calls_of (sk := sk14) cl_ok mixed Try.func14 ok14 (args := [.agg #[.slice g0_0.a g0_0.len g0_0.cap, .slice g0_1.a g0_1.len g0_1.cap]]) (Nat.le_of_ble_eq_true (by kernel_rfl)) (by rw [eq14]; exact h)

/-- jetway/jetwayref09.Need. -/
def B15 (g0_0 : Sl) (g0_1 : Sl) (K : Value → World → Prop) (w : World) : Prop :=
  New (.cells #[.slice g0_0.a g0_0.len g0_0.cap, .slice g0_1.a g0_1.len g0_1.cap] 24 (0, 0)) (fun b_g1 w_1 =>
  ∃ t4 : Sl, ∃ t4_1 : Sl, (At (fun w' => w' = w_1) ⟨b_g1, 0, none⟩ [.slice t4.a t4.len t4.cap, .slice t4_1.a t4_1.len t4_1.cap]) ∧
  Calls Try.prog 13 #[.agg #[.slice t4.a t4.len t4.cap, .slice t4_1.a t4_1.len t4_1.cap]] w_1 fun e w_2 =>
  ∃ t5 : Bool, (e = .returned (.bool t5)) ∧
  Br (!t5)
   (K (.int .i64 0) w_2)
   (∃ t9 : Sl, (At (fun w' => w' = w_2) ⟨b_g1, 0, none⟩ [.slice t9.a t9.len t9.cap]) ∧
    K (.int .i64 (IntKind.i64.wrap (IntKind.i64.wrap ((↑t9.len : Int).tdiv 2) + 1))) w_2)) w

def sk15 : Sk := .leaf
theorem ok15 : fnOk Try.prog Try.f15.ntmps Try.f15 sk15 = true := by kernel_rfl
theorem eq15 (g0_0 : Sl) (g0_1 : Sl) (K : Value → World → Prop) (w : World) : fnF Try.prog cl Try.f15 sk15 [.agg #[.slice g0_0.a g0_0.len g0_0.cap, .slice g0_1.a g0_1.len g0_1.cap]] K w = B15 g0_0 g0_1 K w := by kernel_rfl
theorem call15 (g0_0 : Sl) (g0_1 : Sl) (K : Value → World → Prop) (w : World) (h : B15 g0_0 g0_1 K w) : Gets Try.prog 15 #[.agg #[.slice g0_0.a g0_0.len g0_0.cap, .slice g0_1.a g0_1.len g0_1.cap]] w K :=
  calls_of (sk := sk15) cl_ok mixed Try.func15 ok15 (args := [.agg #[.slice g0_0.a g0_0.len g0_0.cap, .slice g0_1.a g0_1.len g0_1.cap]]) (Nat.le_of_ble_eq_true (by kernel_rfl)) (by rw [eq15]; exact h)

/-- jetway/quorum.Wins. -/
def B16 (g0_0 : Sl) (g0_1 : Sl) (l1 : Sl) (K : Value → World → Prop) (w : World) : Prop :=
  New (.cells #[.slice g0_0.a g0_0.len g0_0.cap, .slice g0_1.a g0_1.len g0_1.cap] 24 (0, 0)) (fun b_g2 w_1 =>
  Drw w_1 fun S w_2 =>
  ∃ t5 : Sl, ∃ t5_1 : Sl, (At S ⟨b_g2, 0, none⟩ [.slice t5.a t5.len t5.cap, .slice t5_1.a t5_1.len t5_1.cap]) ∧
  Calls Try.prog 12 #[.agg #[.slice t5.a t5.len t5.cap, .slice t5_1.a t5_1.len t5_1.cap]] w_2 fun e w_3 =>
  ∃ t6 : Bool, (e = .returned (.bool t6)) ∧
  (S w_3) ∧
  Br t6
   (∃ t9 : Sl, (At S ⟨b_g2, 0, none⟩ [.slice t9.a t9.len t9.cap]) ∧
    ∃ t13 : Sl, ∃ t13_1 : Sl, (At S ⟨b_g2, 0, none⟩ [.slice t13.a t13.len t13.cap, .slice t13_1.a t13_1.len t13_1.cap]) ∧
    Calls Try.prog 28 #[.slice l1.a l1.len l1.cap] w_3 fun e_1 w_4 =>
    ∃ t11 : Value, (e_1 = .returned (t11)) ∧
    (S w_4) ∧
    Calls Try.prog 27 #[.slice t9.a t9.len t9.cap, t11] w_4 fun e_2 w_5 =>
    ∃ t12 : Int, (e_2 = .returned (.int .i64 t12)) ∧
    (S w_5) ∧
    Calls Try.prog 14 #[.agg #[.slice t13.a t13.len t13.cap, .slice t13_1.a t13_1.len t13_1.cap]] w_5 fun e_3 w_6 =>
    ∃ t14 : Int, (e_3 = .returned (.int .i64 t14)) ∧
    (S w_6) ∧
    K (.bool (decide (t12 ≥ t14))) w_6)
   (K (.bool false) w_3)) w

def sk16 : Sk := .leaf
theorem ok16 : fnOk Try.prog Try.f16.ntmps Try.f16 sk16 = true := by kernel_rfl
theorem eq16 (g0_0 : Sl) (g0_1 : Sl) (l1 : Sl) (K : Value → World → Prop) (w : World) : fnF Try.prog cl Try.f16 sk16 [.agg #[.slice g0_0.a g0_0.len g0_0.cap, .slice g0_1.a g0_1.len g0_1.cap], .slice l1.a l1.len l1.cap] K w = B16 g0_0 g0_1 l1 K w := by kernel_rfl
theorem call16 (g0_0 : Sl) (g0_1 : Sl) (l1 : Sl) (K : Value → World → Prop) (w : World) (h : B16 g0_0 g0_1 l1 K w) : Gets Try.prog 16 #[.agg #[.slice g0_0.a g0_0.len g0_0.cap, .slice g0_1.a g0_1.len g0_1.cap], .slice l1.a l1.len l1.cap] w K :=
  calls_of (sk := sk16) cl_ok mixed Try.func16 ok16 (args := [.agg #[.slice g0_0.a g0_0.len g0_0.cap, .slice g0_1.a g0_1.len g0_1.cap], .slice l1.a l1.len l1.cap]) (Nat.le_of_ble_eq_true (by kernel_rfl)) (by rw [eq16]; exact h)

/-- jetway/jetwayref09.Wins. -/
def B17 (g0_0 : Sl) (g0_1 : Sl) (l1 : Sl) (K : Value → World → Prop) (w : World) : Prop :=
  New (.cells #[.slice g0_0.a g0_0.len g0_0.cap, .slice g0_1.a g0_1.len g0_1.cap] 24 (0, 0)) (fun b_g2 w_1 =>
  ∃ t6 : Sl, ∃ t6_1 : Sl, (At (fun w' => w' = w_1) ⟨b_g2, 0, none⟩ [.slice t6.a t6.len t6.cap, .slice t6_1.a t6_1.len t6_1.cap]) ∧
  Calls Try.prog 13 #[.agg #[.slice t6.a t6.len t6.cap, .slice t6_1.a t6_1.len t6_1.cap]] w_1 fun e w_2 =>
  ∃ t7 : Bool, (e = .returned (.bool t7)) ∧
  Drw w_2 fun S w_3 =>
  Br t7
   (∃ t10 : Sl, ∃ t10_1 : Sl, (At S ⟨b_g2, 0, none⟩ [.slice t10.a t10.len t10.cap, .slice t10_1.a t10_1.len t10_1.cap]) ∧
    ∃ t13 : Sl, ∃ t13_1 : Sl, (At S ⟨b_g2, 0, none⟩ [.slice t13.a t13.len t13.cap, .slice t13_1.a t13_1.len t13_1.cap]) ∧
    Calls Try.prog 30 #[.agg #[.slice t10.a t10.len t10.cap, .slice t10_1.a t10_1.len t10_1.cap], .slice l1.a l1.len l1.cap] w_3 fun e_1 w_4 =>
    ∃ t12 : Int, (e_1 = .returned (.int .i64 t12)) ∧
    (S w_4) ∧
    Calls Try.prog 15 #[.agg #[.slice t13.a t13.len t13.cap, .slice t13_1.a t13_1.len t13_1.cap]] w_4 fun e_2 w_5 =>
    ∃ t14 : Int, (e_2 = .returned (.int .i64 t14)) ∧
    (S w_5) ∧
    K (.bool (decide (t12 ≥ t14))) w_5)
   (K (.bool false) w_3)) w

def sk17 : Sk := .leaf
theorem ok17 : fnOk Try.prog Try.f17.ntmps Try.f17 sk17 = true := by kernel_rfl
theorem eq17 (g0_0 : Sl) (g0_1 : Sl) (l1 : Sl) (K : Value → World → Prop) (w : World) : fnF Try.prog cl Try.f17 sk17 [.agg #[.slice g0_0.a g0_0.len g0_0.cap, .slice g0_1.a g0_1.len g0_1.cap], .slice l1.a l1.len l1.cap] K w = B17 g0_0 g0_1 l1 K w := by kernel_rfl
theorem call17 (g0_0 : Sl) (g0_1 : Sl) (l1 : Sl) (K : Value → World → Prop) (w : World) (h : B17 g0_0 g0_1 l1 K w) : Gets Try.prog 17 #[.agg #[.slice g0_0.a g0_0.len g0_0.cap, .slice g0_1.a g0_1.len g0_1.cap], .slice l1.a l1.len l1.cap] w K :=
  calls_of (sk := sk17) cl_ok mixed Try.func17 ok17 (args := [.agg #[.slice g0_0.a g0_0.len g0_0.cap, .slice g0_1.a g0_1.len g0_1.cap], .slice l1.a l1.len l1.cap]) (Nat.le_of_ble_eq_true (by kernel_rfl)) (by rw [eq17]; exact h)

/-- jetway/quorum.Lost. -/
def B18 (g0_0 : Sl) (g0_1 : Sl) (l1 : Sl) (K : Value → World → Prop) (w : World) : Prop :=
  New (.cells #[.slice g0_0.a g0_0.len g0_0.cap, .slice g0_1.a g0_1.len g0_1.cap] 24 (0, 0)) (fun b_g2 w_1 =>
  Drw w_1 fun S w_2 =>
  ∃ t5 : Sl, ∃ t5_1 : Sl, (At S ⟨b_g2, 0, none⟩ [.slice t5.a t5.len t5.cap, .slice t5_1.a t5_1.len t5_1.cap]) ∧
  Calls Try.prog 12 #[.agg #[.slice t5.a t5.len t5.cap, .slice t5_1.a t5_1.len t5_1.cap]] w_2 fun e w_3 =>
  ∃ t6 : Bool, (e = .returned (.bool t6)) ∧
  (S w_3) ∧
  Br t6
   (∃ t9 : Sl, (At S ⟨b_g2, 0, none⟩ [.slice t9.a t9.len t9.cap]) ∧
    ∃ t12 : Sl, (At S ⟨b_g2, 0, none⟩ [.slice t12.a t12.len t12.cap]) ∧
    ∃ t17 : Sl, ∃ t17_1 : Sl, (At S ⟨b_g2, 0, none⟩ [.slice t17.a t17.len t17.cap, .slice t17_1.a t17_1.len t17_1.cap]) ∧
    Calls Try.prog 28 #[.slice l1.a l1.len l1.cap] w_3 fun e_1 w_4 =>
    ∃ t14 : Value, (e_1 = .returned (t14)) ∧
    (S w_4) ∧
    Calls Try.prog 27 #[.slice t12.a t12.len t12.cap, t14] w_4 fun e_2 w_5 =>
    ∃ t15 : Int, (e_2 = .returned (.int .i64 t15)) ∧
    (S w_5) ∧
    Calls Try.prog 14 #[.agg #[.slice t17.a t17.len t17.cap, .slice t17_1.a t17_1.len t17_1.cap]] w_5 fun e_3 w_6 =>
    ∃ t18 : Int, (e_3 = .returned (.int .i64 t18)) ∧
    (S w_6) ∧
    K (.bool (decide (IntKind.i64.wrap ((↑t9.len : Int) - t15) < t18))) w_6)
   (K (.bool false) w_3)) w

def sk18 : Sk := .leaf
theorem ok18 : fnOk Try.prog Try.f18.ntmps Try.f18 sk18 = true := by kernel_rfl
theorem eq18 (g0_0 : Sl) (g0_1 : Sl) (l1 : Sl) (K : Value → World → Prop) (w : World) : fnF Try.prog cl Try.f18 sk18 [.agg #[.slice g0_0.a g0_0.len g0_0.cap, .slice g0_1.a g0_1.len g0_1.cap], .slice l1.a l1.len l1.cap] K w = B18 g0_0 g0_1 l1 K w := by kernel_rfl
theorem call18 (g0_0 : Sl) (g0_1 : Sl) (l1 : Sl) (K : Value → World → Prop) (w : World) (h : B18 g0_0 g0_1 l1 K w) : Gets Try.prog 18 #[.agg #[.slice g0_0.a g0_0.len g0_0.cap, .slice g0_1.a g0_1.len g0_1.cap], .slice l1.a l1.len l1.cap] w K :=
  calls_of (sk := sk18) cl_ok mixed Try.func18 ok18 (args := [.agg #[.slice g0_0.a g0_0.len g0_0.cap, .slice g0_1.a g0_1.len g0_1.cap], .slice l1.a l1.len l1.cap]) (Nat.le_of_ble_eq_true (by kernel_rfl)) (by rw [eq18]; exact h)

/-- jetway/jetwayref09.Lost. -/
def B19 (g0_0 : Sl) (g0_1 : Sl) (l1 : Sl) (K : Value → World → Prop) (w : World) : Prop :=
  New (.cells #[.slice g0_0.a g0_0.len g0_0.cap, .slice g0_1.a g0_1.len g0_1.cap] 24 (0, 0)) (fun b_g2 w_1 =>
  ∃ t6 : Sl, ∃ t6_1 : Sl, (At (fun w' => w' = w_1) ⟨b_g2, 0, none⟩ [.slice t6.a t6.len t6.cap, .slice t6_1.a t6_1.len t6_1.cap]) ∧
  Calls Try.prog 13 #[.agg #[.slice t6.a t6.len t6.cap, .slice t6_1.a t6_1.len t6_1.cap]] w_1 fun e w_2 =>
  ∃ t7 : Bool, (e = .returned (.bool t7)) ∧
  Drw w_2 fun S w_3 =>
  Br t7
   (∃ t11 : Sl, (At S ⟨b_g2, 0, none⟩ [.slice t11.a t11.len t11.cap]) ∧
    ∃ t13 : Sl, ∃ t13_1 : Sl, (At S ⟨b_g2, 0, none⟩ [.slice t13.a t13.len t13.cap, .slice t13_1.a t13_1.len t13_1.cap]) ∧
    ∃ t17 : Sl, ∃ t17_1 : Sl, (At S ⟨b_g2, 0, none⟩ [.slice t17.a t17.len t17.cap, .slice t17_1.a t17_1.len t17_1.cap]) ∧
    Calls Try.prog 30 #[.agg #[.slice t13.a t13.len t13.cap, .slice t13_1.a t13_1.len t13_1.cap], .slice l1.a l1.len l1.cap] w_3 fun e_1 w_4 =>
    ∃ t15 : Int, (e_1 = .returned (.int .i64 t15)) ∧
    (S w_4) ∧
    Calls Try.prog 15 #[.agg #[.slice t17.a t17.len t17.cap, .slice t17_1.a t17_1.len t17_1.cap]] w_4 fun e_2 w_5 =>
    ∃ t18 : Int, (e_2 = .returned (.int .i64 t18)) ∧
    (S w_5) ∧
    K (.bool (decide (IntKind.i64.wrap ((↑t11.len : Int) - t15) < t18))) w_5)
   (K (.bool false) w_3)) w

def sk19 : Sk := .leaf
theorem ok19 : fnOk Try.prog Try.f19.ntmps Try.f19 sk19 = true := by kernel_rfl
theorem eq19 (g0_0 : Sl) (g0_1 : Sl) (l1 : Sl) (K : Value → World → Prop) (w : World) : fnF Try.prog cl Try.f19 sk19 [.agg #[.slice g0_0.a g0_0.len g0_0.cap, .slice g0_1.a g0_1.len g0_1.cap], .slice l1.a l1.len l1.cap] K w = B19 g0_0 g0_1 l1 K w := by kernel_rfl
theorem call19 (g0_0 : Sl) (g0_1 : Sl) (l1 : Sl) (K : Value → World → Prop) (w : World) (h : B19 g0_0 g0_1 l1 K w) : Gets Try.prog 19 #[.agg #[.slice g0_0.a g0_0.len g0_0.cap, .slice g0_1.a g0_1.len g0_1.cap], .slice l1.a l1.len l1.cap] w K :=
  calls_of (sk := sk19) cl_ok mixed Try.func19 ok19 (args := [.agg #[.slice g0_0.a g0_0.len g0_0.cap, .slice g0_1.a g0_1.len g0_1.cap], .slice l1.a l1.len l1.cap]) (Nat.le_of_ble_eq_true (by kernel_rfl)) (by rw [eq19]; exact h)

/-- jetway/jetwayref07.Has. -/
def B22 (l0 : Sl) (n1 : Int) (K : Value → World → Prop) (w : World) : Prop :=
  ∃ (I : Int → World → Prop) (μ : Int → World → Nat), (I 0 w) ∧ ∀ (z : Env) (i5 : Int) (w_1 : World), I i5 w_1 →
  Br (decide (i5 < (↑l0.len : Int)))
   (Rng i5 l0.len (NilP l0.a fun a_t14 =>
    ∃ t15 : Int, (At (fun w' => w' = w_1) (Addr.add a_t14 i5.toNat) [.int .i64 t15]) ∧
    Br (t15 == n1)
     (K (.bool true) w_1)
     ((I (IntKind.i64.wrap (i5 + 1)) w_1) ∧ μ (IntKind.i64.wrap (i5 + 1)) w_1 < μ i5 w_1)))
   (K (.bool false) w_1)

def sk22 : Sk := (.seq .leaf (.seq (.seq .leaf (.block (.loop [5] [(.int .i64)] [4, 5, 6, 7, 8, 9, 10, 11, 12, 13, 14, 15, 16, 17] .leaf))) .leaf))
theorem ok22 : fnOk Try.prog Try.f22.ntmps Try.f22 sk22 = true := by kernel_rfl
theorem eq22 (l0 : Sl) (n1 : Int) (K : Value → World → Prop) (w : World) : fnF Try.prog cl Try.f22 sk22 [.slice l0.a l0.len l0.cap, .int .i64 n1] K w = B22 l0 n1 K w := by kernel_rfl
theorem call22 (l0 : Sl) (n1 : Int) (K : Value → World → Prop) (w : World) (h : B22 l0 n1 K w) : Gets Try.prog 22 #[.slice l0.a l0.len l0.cap, .int .i64 n1] w K :=
  calls_of (sk := sk22) cl_ok mixed Try.func22 ok22 (args := [.slice l0.a l0.len l0.cap, .int .i64 n1]) (Nat.le_of_ble_eq_true (by kernel_rfl)) (by rw [eq22]; exact h)

/-- jetway/quorum.rises. -/
def B26 (l0 : Sl) (K : Value → World → Prop) (w : World) : Prop :=
  ∃ (I : Int → Int → World → Prop) (μ : Int → Int → World → Nat), (I 0 0 w) ∧ ∀ (z : Env) (last3 : Int) (t8 : Int) (w_1 : World), I last3 t8 w_1 →
  Br (decide (t8 < (↑l0.len : Int)))
   (Rng t8 l0.len (NilP l0.a fun a_t10 =>
    ∃ t11 : Int, (At (fun w' => w' = w_1) (Addr.add a_t10 t8.toNat) [.int .i64 t11]) ∧
    Br (decide (t11 ≤ last3))
     (K (.bool false) w_1)
     (Br (decide (t11 > 15))
       (K (.bool false) w_1)
       ((I t11 (IntKind.i64.wrap (t8 + 1)) w_1) ∧ μ t11 (IntKind.i64.wrap (t8 + 1)) w_1 < μ last3 t8 w_1))))
   (K (.bool true) w_1)

def sk26 : Sk := (.seq .leaf (.seq .leaf (.seq (.seq .leaf (.block (.loop [3, 8] [(.int .i64), (.int .i64)] [2, 3, 5, 8, 9, 10, 11, 12, 13, 14, 15, 16, 17, 18, 19, 20] .leaf))) .leaf)))
theorem ok26 : fnOk Try.prog Try.f26.ntmps Try.f26 sk26 = true := by kernel_rfl
theorem eq26 (l0 : Sl) (K : Value → World → Prop) (w : World) : fnF Try.prog cl Try.f26 sk26 [.slice l0.a l0.len l0.cap] K w = B26 l0 K w := by kernel_rfl
theorem call26 (l0 : Sl) (K : Value → World → Prop) (w : World) (h : B26 l0 K w) : Gets Try.prog 26 #[.slice l0.a l0.len l0.cap] w K :=
  calls_of (sk := sk26) cl_ok mixed Try.func26 ok26 (args := [.slice l0.a l0.len l0.cap]) (Nat.le_of_ble_eq_true (by kernel_rfl)) (by rw [eq26]; exact h)

/-- jetway/quorum.count[int]. -/
def B27 (l0 : Sl) (is1 : Value) (K : Value → World → Prop) (w : World) : Prop :=
  ∃ (I : Int → Int → World → Prop) (μ : Int → Int → World → Nat), (I 0 0 w) ∧ ∀ (z : Env) (n5 : Int) (t10 : Int) (w_1 : World), I n5 t10 w_1 →
  Br (decide (t10 < (↑l0.len : Int)))
   (Rng t10 l0.len (NilP l0.a fun a_t12 =>
    ∃ t13 : Int, (At (fun w' => w' = w_1) (Addr.add a_t12 t10.toNat) [.int .i64 t13]) ∧
    CalW Try.prog cl is1 [.int .i64 t13] w_1 fun e w_2 =>
    ∃ t16 : Bool, (e = .returned (.bool t16)) ∧
    Br t16
     ((I (IntKind.i64.wrap (n5 + 1)) (IntKind.i64.wrap (t10 + 1)) w_2) ∧ μ (IntKind.i64.wrap (n5 + 1)) (IntKind.i64.wrap (t10 + 1)) w_2 < μ n5 t10 w_1)
     ((I n5 (IntKind.i64.wrap (t10 + 1)) w_2) ∧ μ n5 (IntKind.i64.wrap (t10 + 1)) w_2 < μ n5 t10 w_1)))
   (K (.int .i64 n5) w_1)

def sk27 : Sk := (.seq .leaf (.seq .leaf (.seq (.seq .leaf (.block (.loop [5, 10] [(.int .i64), (.int .i64)] [5, 7, 10, 11, 12, 13, 14, 15, 16, 17, 18, 19] .leaf))) .leaf)))
theorem ok27 : fnOk Try.prog Try.f27.ntmps Try.f27 sk27 = true := by kernel_rfl
theorem eq27 (l0 : Sl) (is1 : Value) (K : Value → World → Prop) (w : World) : fnF Try.prog cl Try.f27 sk27 [.slice l0.a l0.len l0.cap, is1] K w = B27 l0 is1 K w := by kernel_rfl
theorem call27 (l0 : Sl) (is1 : Value) (K : Value → World → Prop) (w : World) (h : B27 l0 is1 K w) : Gets Try.prog 27 #[.slice l0.a l0.len l0.cap, is1] w K :=
  calls_of (sk := sk27) cl_ok mixed Try.func27 ok27 (args := [.slice l0.a l0.len l0.cap, is1]) (Nat.le_of_ble_eq_true (by kernel_rfl)) (by rw [eq27]; exact h)

/-- jetway/quorum.among. -/
def B28 (l0 : Sl) (K : Value → World → Prop) (w : World) : Prop :=
  New (.cells #[.slice l0.a l0.len l0.cap] 22 (0, 0)) (fun b_l1 w_1 =>
  K (.func (.func 38) #[] #[.pointer ((some ⟨b_l1, 0, none⟩))]) w_1) w

def sk28 : Sk := .leaf
theorem ok28 : fnOk Try.prog Try.f28.ntmps Try.f28 sk28 = true := by kernel_rfl
theorem eq28 (l0 : Sl) (K : Value → World → Prop) (w : World) : fnF Try.prog cl Try.f28 sk28 [.slice l0.a l0.len l0.cap] K w = B28 l0 K w := by kernel_rfl
theorem call28 (l0 : Sl) (K : Value → World → Prop) (w : World) (h : B28 l0 K w) : Gets Try.prog 28 #[.slice l0.a l0.len l0.cap] w K :=
  calls_of (sk := sk28) cl_ok mixed Try.func28 ok28 (args := [.slice l0.a l0.len l0.cap]) (Nat.le_of_ble_eq_true (by kernel_rfl)) (by rw [eq28]; exact h)

/-- jetway/jetwayref07.rises. -/
def B29 (l0 : Sl) (K : Value → World → Prop) (w : World) : Prop :=
  ∃ (I : Int → World → Prop) (μ : Int → World → Nat), (I 0 w) ∧ ∀ (z : Env) (i3 : Int) (w_1 : World), I i3 w_1 →
  Br (decide (i3 < (↑l0.len : Int)))
   (Drw w_1 fun S w_2 =>
    Rng i3 l0.len (NilP l0.a fun a_t12 =>
    ∃ t13 : Int, (At S (Addr.add a_t12 i3.toNat) [.int .i64 t13]) ∧
    Br (decide (t13 < 1))
     (K (.bool false) w_2)
     (Rng i3 l0.len (NilP l0.a fun a_t18 =>
      ∃ t19 : Int, (At S (Addr.add a_t18 i3.toNat) [.int .i64 t19]) ∧
      Br (decide (t19 > 15))
       (K (.bool false) w_2)
       (Br (decide (i3 > 0))
         (Rng i3 l0.len (NilP l0.a fun a_t28 =>
          ∃ t29 : Int, (At S (Addr.add a_t28 i3.toNat) [.int .i64 t29]) ∧
          Rng (IntKind.i64.wrap (i3 - 1)) l0.len (NilP l0.a fun a_t33 =>
          ∃ t34 : Int, (At S (Addr.add a_t33 ((IntKind.i64.wrap (i3 - 1)).toNat)) [.int .i64 t34]) ∧
          Br (decide (t29 ≤ t34))
           (K (.bool false) w_2)
           ((I (IntKind.i64.wrap (i3 + 1)) w_2) ∧ μ (IntKind.i64.wrap (i3 + 1)) w_2 < μ i3 w_1))))
         ((I (IntKind.i64.wrap (i3 + 1)) w_2) ∧ μ (IntKind.i64.wrap (i3 + 1)) w_2 < μ i3 w_1))))))
   (K (.bool true) w_1)

def sk29 : Sk := (.seq .leaf (.seq (.seq .leaf (.block (.loop [3] [(.int .i64)] [2, 3, 4, 5, 6, 7, 8, 9, 10, 11, 12, 13, 14, 15, 16, 17, 18, 19, 20, 21, 22, 23, 24, 25, 26, 27, 28, 29, 30, 31, 32, 33, 34, 35, 36, 37] .leaf))) .leaf))
theorem ok29 : fnOk Try.prog Try.f29.ntmps Try.f29 sk29 = true := by kernel_rfl
theorem eq29 (l0 : Sl) (K : Value → World → Prop) (w : World) : fnF Try.prog cl Try.f29 sk29 [.slice l0.a l0.len l0.cap] K w = B29 l0 K w := by kernel_rfl
theorem call29 (l0 : Sl) (K : Value → World → Prop) (w : World) (h : B29 l0 K w) : Gets Try.prog 29 #[.slice l0.a l0.len l0.cap] w K :=
  calls_of (sk := sk29) cl_ok mixed Try.func29 ok29 (args := [.slice l0.a l0.len l0.cap]) (Nat.le_of_ble_eq_true (by kernel_rfl)) (by rw [eq29]; exact h)

/-- jetway/jetwayref09.count. -/
def B30 (g0_0 : Sl) (g0_1 : Sl) (l1 : Sl) (K : Value → World → Prop) (w : World) : Prop :=
  New (.cells #[.slice g0_0.a g0_0.len g0_0.cap, .slice g0_1.a g0_1.len g0_1.cap] 24 (0, 0)) (fun b_g2 w_1 =>
  ∃ (I : Int → Int → World → Prop) (μ : Int → Int → World → Nat), (I 0 0 w_1) ∧ ∀ (z : Env) (n5 : Int) (i6 : Int) (w_2 : World), I n5 i6 w_2 →
  ∃ t9 : Sl, (At (fun w' => w' = w_2) ⟨b_g2, 0, none⟩ [.slice t9.a t9.len t9.cap]) ∧
  Br (decide (i6 < (↑t9.len : Int)))
   (∃ t16 : Sl, (At (fun w' => w' = w_2) ⟨b_g2, 0, none⟩ [.slice t16.a t16.len t16.cap]) ∧
    Rng i6 t16.len (NilP t16.a fun a_t18 =>
    ∃ t19 : Int, (At (fun w' => w' = w_2) (Addr.add a_t18 i6.toNat) [.int .i64 t19]) ∧
    Calls Try.prog 22 #[.slice l1.a l1.len l1.cap, .int .i64 t19] w_2 fun e w_3 =>
    ∃ t20 : Bool, (e = .returned (.bool t20)) ∧
    Br t20
     ((I (IntKind.i64.wrap (n5 + 1)) (IntKind.i64.wrap (i6 + 1)) w_3) ∧ μ (IntKind.i64.wrap (n5 + 1)) (IntKind.i64.wrap (i6 + 1)) w_3 < μ n5 i6 w_2)
     ((I n5 (IntKind.i64.wrap (i6 + 1)) w_3) ∧ μ n5 (IntKind.i64.wrap (i6 + 1)) w_3 < μ n5 i6 w_2)))
   (K (.int .i64 n5) w_2)) w

def sk30 : Sk := (.seq .leaf (.seq .leaf (.seq (.seq .leaf (.block (.loop [5, 6] [(.int .i64), (.int .i64)] [5, 6, 7, 8, 9, 10, 11, 12, 13, 14, 15, 16, 17, 18, 19, 20, 21, 22] .leaf))) .leaf)))
theorem ok30 : fnOk Try.prog Try.f30.ntmps Try.f30 sk30 = true := by kernel_rfl
theorem eq30 (g0_0 : Sl) (g0_1 : Sl) (l1 : Sl) (K : Value → World → Prop) (w : World) : fnF Try.prog cl Try.f30 sk30 [.agg #[.slice g0_0.a g0_0.len g0_0.cap, .slice g0_1.a g0_1.len g0_1.cap], .slice l1.a l1.len l1.cap] K w = B30 g0_0 g0_1 l1 K w := by kernel_rfl
theorem call30 (g0_0 : Sl) (g0_1 : Sl) (l1 : Sl) (K : Value → World → Prop) (w : World) (h : B30 g0_0 g0_1 l1 K w) : Gets Try.prog 30 #[.agg #[.slice g0_0.a g0_0.len g0_0.cap, .slice g0_1.a g0_1.len g0_1.cap], .slice l1.a l1.len l1.cap] w K :=
  calls_of (sk := sk30) cl_ok mixed Try.func30 ok30 (args := [.agg #[.slice g0_0.a g0_0.len g0_0.cap, .slice g0_1.a g0_1.len g0_1.cap], .slice l1.a l1.len l1.cap]) (Nat.le_of_ble_eq_true (by kernel_rfl)) (by rw [eq30]; exact h)

/-- jetway/quorum.among$1. -/
def B38 (n0 : Int) (c1 : Option Addr) (K : Value → World → Prop) (w : World) : Prop :=
  NilP c1 fun a_t4 =>
  ∃ t4 : Sl, (At (fun w' => w' = w) a_t4 [.slice t4.a t4.len t4.cap]) ∧
  Calls Try.prog 39 #[.slice t4.a t4.len t4.cap, .int .i64 n0] w fun e w_1 =>
  ∃ t6 : Bool, (e = .returned (.bool t6)) ∧
  K (.bool t6) w_1

def sk38 : Sk := .leaf
theorem ok38 : fnOk Try.prog Try.f38.ntmps Try.f38 sk38 = true := by kernel_rfl
theorem eq38 (n0 : Int) (c1 : Option Addr) (K : Value → World → Prop) (w : World) : fnF Try.prog cl Try.f38 sk38 [.int .i64 n0, .pointer c1] K w = B38 n0 c1 K w := by kernel_rfl
theorem call38 (n0 : Int) (c1 : Option Addr) (K : Value → World → Prop) (w : World) (h : B38 n0 c1 K w) : Gets Try.prog 38 #[.int .i64 n0, .pointer c1] w K :=
  calls_of (sk := sk38) cl_ok mixed Try.func38 ok38 (args := [.int .i64 n0, .pointer c1]) (Nat.le_of_ble_eq_true (by kernel_rfl)) (by rw [eq38]; exact h)

/-- slices.Contains[[]int,int]. -/
def B39 (s0 : Sl) (v1 : Int) (K : Value → World → Prop) (w : World) : Prop :=
  Calls Try.prog 43 #[.slice s0.a s0.len s0.cap, .int .i64 v1] w fun e w_1 =>
  ∃ t7 : Int, (e = .returned (.int .i64 t7)) ∧
  K (.bool (decide (t7 ≥ 0))) w_1

def sk39 : Sk := .leaf
theorem ok39 : fnOk Try.prog Try.f39.ntmps Try.f39 sk39 = true := by kernel_rfl
theorem eq39 (s0 : Sl) (v1 : Int) (K : Value → World → Prop) (w : World) : fnF Try.prog cl Try.f39 sk39 [.slice s0.a s0.len s0.cap, .int .i64 v1] K w = B39 s0 v1 K w := by kernel_rfl
theorem call39 (s0 : Sl) (v1 : Int) (K : Value → World → Prop) (w : World) (h : B39 s0 v1 K w) : Gets Try.prog 39 #[.slice s0.a s0.len s0.cap, .int .i64 v1] w K :=
  calls_of (sk := sk39) cl_ok mixed Try.func39 ok39 (args := [.slice s0.a s0.len s0.cap, .int .i64 v1]) (Nat.le_of_ble_eq_true (by kernel_rfl)) (by rw [eq39]; exact h)

/-- slices.Index[[]int,int]. -/
def B43 (s0 : Sl) (v1 : Int) (K : Value → World → Prop) (w : World) : Prop :=
  ∃ (I : Int → World → Prop) (μ : Int → World → Nat), (I 0 w) ∧ ∀ (z : Env) (t8 : Int) (w_1 : World), I t8 w_1 →
  Br (decide (t8 < (↑s0.len : Int)))
   (Rng t8 s0.len (NilP s0.a fun a_t14 =>
    ∃ t15 : Int, (At (fun w' => w' = w_1) (Addr.add a_t14 t8.toNat) [.int .i64 t15]) ∧
    Br (v1 == t15)
     (K (.int .i64 t8) w_1)
     ((I (IntKind.i64.wrap (t8 + 1)) w_1) ∧ μ (IntKind.i64.wrap (t8 + 1)) w_1 < μ t8 w_1)))
   (K (.int .i64 ((-1))) w_1)

def sk43 : Sk := (.seq .leaf (.seq (.seq .leaf (.block (.loop [8] [(.int .i64)] [4, 5, 8, 9, 10, 11, 12, 13, 14, 15, 16, 17, 18] .leaf))) .leaf))
theorem ok43 : fnOk Try.prog Try.f43.ntmps Try.f43 sk43 = true := by kernel_rfl
theorem eq43 (s0 : Sl) (v1 : Int) (K : Value → World → Prop) (w : World) : fnF Try.prog cl Try.f43 sk43 [.slice s0.a s0.len s0.cap, .int .i64 v1] K w = B43 s0 v1 K w := by kernel_rfl
theorem call43 (s0 : Sl) (v1 : Int) (K : Value → World → Prop) (w : World) (h : B43 s0 v1 K w) : Gets Try.prog 43 #[.slice s0.a s0.len s0.cap, .int .i64 v1] w K :=
  calls_of (sk := sk43) cl_ok mixed Try.func43 ok43 (args := [.slice s0.a s0.len s0.cap, .int .i64 v1]) (Nat.le_of_ble_eq_true (by kernel_rfl)) (by rw [eq43]; exact h)

end Go.Proofs.Ytjbpncdealpmhaa
