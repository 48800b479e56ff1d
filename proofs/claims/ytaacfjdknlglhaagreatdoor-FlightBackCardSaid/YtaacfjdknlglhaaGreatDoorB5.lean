/- A part of some seats: package fare and reference 03. Condition: none. -/
import Derived.Test.YtaacfjdknlglhaaGreatDoorB4
import Derived.Laws.Externs
import Derived.Lib.Overlaps
import Derived.Shelf.SlIterI.Nil
import Derived.Shelf.SlIterI.Collect
import Derived.Shelf.SlIterI.Sorted
import Derived.Shelf.SortM.Plain
import Derived.Shelf.SortM.SortNone
import Derived.Ground.GgzProg
import Derived.Ground.SlgmProg
import Derived.Test.YtaacfjdknlglhaaGreatDoorProg
import Derived.Test.YtaacfjdknlglhaaGreatDoorB2
namespace Go.Proofs.YtaacfjdknlglhaaGreatDoor
set_option linter.unusedVariables false
open Go Go.VC Ieee

variable {R : Cx} {Hs Rest : List HP} {w : World}

/-- What is whole of the part's seats. -/
def floF (x s : Nat) : Nat := match double.mul x (fw s) with
  | some p => (match double.read p with | .number _ m e => m / 2 ^ (-e).toNat | _ => 0)
  | none => 0
def isGt (x : Nat) : Bool := double.order x 0 == some .gt
def isGe1 (x : Nat) : Bool := double.order x 4607182418800017408 == some .gt || double.order x 4607182418800017408 == some .eq
def levelT (x : Nat) (s : Int) : Int × Int :=
  if s < 0 ∨ s > 10000 then (0, 1) else if isGt x = false then (0, 0) else if isGe1 x = true then (s, 0) else ((floF x s.toNat : Nat), 0)

theorem flo_out {x s : Nat} (h0 : isGt x = true) (h1 : isGe1 x = false) (hs : s ≤ 10000) : ∃ p mp dp, double.mul x (fw s) = some p ∧ NumW p mp dp ∧ mp ≤ s * 2 ^ dp ∧ floF x s = mp / 2 ^ dp ∧ floF x s ≤ s := by
  unfold isGt at h0
  unfold isGe1 at h1
  simp only [Bool.or_eq_false_iff, beq_eq_false_iff_ne, ne_eq] at h1
  obtain ⟨m, d, hx, _, hlt⟩ := part_num (beq_iff_eq.1 h0) h1.1 h1.2
  obtain ⟨p, mp, dp, hp, hn, hle⟩ := part_mul hx hlt hs
  have e : floF x s = mp / 2 ^ dp := by
    unfold floF
    rw [hp]
    unfold NumW at hn
    simp only [hn]
    rw [show (-(-(dp : Int))).toNat = dp by omega]
  refine ⟨p, mp, dp, hp, hn, hle, e, ?_⟩
  rw [e]
  exact Nat.div_le_of_le_mul (by rw [Nat.mul_comm]; exact hle)

theorem cmp_gt (t1 t2 : Operand) (T : TypeId) (x y : Nat) (w : World) : ((do eqGuard BinOp.gtr T t1 t2 (.float .f64 x) (.float .f64 y); binOp BinOp.gtr T (.float .f64 x) (.float .f64 y) : Sem Value)).run Tryz.prog w = .ok (.bool (double.order x y == some .gt)) w := by
  simp [eqGuard, binOp, Op.floatCmp, FloatKind.format]
theorem cmp_ge (t1 t2 : Operand) (T : TypeId) (x y : Nat) (w : World) : ((do eqGuard BinOp.geq T t1 t2 (.float .f64 x) (.float .f64 y); binOp BinOp.geq T (.float .f64 x) (.float .f64 y) : Sem Value)).run Tryz.prog w = .ok (.bool (double.order x y == some .gt || double.order x y == some .eq)) w := by
  simp [eqGuard, binOp, Op.floatCmp, FloatKind.format]
theorem cmp_le (t1 t2 : Operand) (T : TypeId) (x y : Nat) (w : World) : ((do eqGuard BinOp.leq T t1 t2 (.float .f64 x) (.float .f64 y); binOp BinOp.leq T (.float .f64 x) (.float .f64 y) : Sem Value)).run Tryz.prog w = .ok (.bool (double.order x y == some .lt || double.order x y == some .eq)) w := by
  simp [eqGuard, binOp, Op.floatCmp, FloatKind.format]
theorem cmp_ne (t1 t2 : Operand) (T : TypeId) (x y : Nat) (w : World) : ((do eqGuard BinOp.neq T t1 t2 (.float .f64 x) (.float .f64 y); binOp BinOp.neq T (.float .f64 x) (.float .f64 y) : Sem Value)).run Tryz.prog w = .ok (.bool (double.order x y != some .eq)) w := by
  simp [eqGuard, binOp, Op.floatCmp, FloatKind.format]
theorem mul_run (t1 t2 : Operand) (T : TypeId) {x y p : Nat} (h : double.mul x y = some p) (w : World) : ((do eqGuard BinOp.mul T t1 t2 (.float .f64 x) (.float .f64 y); binOp BinOp.mul T (.float .f64 x) (.float .f64 y) : Sem Value)).run Tryz.prog w = .ok (.float .f64 p) w := by
  simp [eqGuard, binOp, Op.floatArith, FloatKind.format, h]
theorem toF_run (n : Nat) (w : World) : (convert 3 66 (.int .i64 n)).run Tryz.prog w = .ok (.float .f64 (fw n)) w := by
  have h : FloatKind.f64.nearest (n : Int) = fw n := by
    unfold FloatKind.nearest FloatKind.encode FloatKind.format
    rw [decide_eq_false (show ¬ (n : Int) < 0 by omega), Int.natAbs_natCast]
    rfl
  simp [convert, run_underlying Tryz.underlying3, run_underlying Tryz.underlying66, Conv.intToFloat, h]
theorem toI_run {n : Nat} (hn : n ≤ 10001) (w : World) : (convert 66 3 (.float .f64 (fw n))).run Tryz.prog w = .ok (.int .i64 n) w := by
  have h : (FloatKind.f64.decode (fw n)).toInt .zero = some (n : Int) := fw_int hn
  have hr : IntKind.i64.min ≤ (n : Int) ∧ (n : Int) ≤ IntKind.i64.max := by
    have h1 : IntKind.i64.min = -9223372036854775808 := by decide
    have h2 : IntKind.i64.max = 9223372036854775807 := by decide
    omega
  simp [convert, run_underlying Tryz.underlying3, run_underlying Tryz.underlying66, Conv.floatToInt, h, hr]
  intro h2; omega

theorem fl_name : (Tryz.f143.name == "runtime.NumGoroutine") = false := by kernel_rfl
theorem fl_body : Tryz.f143.body.isNone = true := by kernel_rfl
theorem fl_next : Extern.findNext Tryz.f143 = none := by kernel_rfl
theorem fl_find : Extern.find Tryz.f143 = some (Extern.MathFloor.toIntegral "math.archFloor" .down) := by kernel_rfl

theorem floor_val {p m : Nat} {e : Int} (hd : FloatKind.f64.decode p = .number false m e) : Extern.MathFloor.toIntegral "math.archFloor" .down #[.float .f64 p] = pure (.float .f64 (FloatKind.f64.encode ((Datum.number false m e).integral .down))) := by
  unfold Extern.MathFloor.toIntegral
  generalize FloatKind.decode FloatKind.f64 = D at hd ⊢
  conv => lhs; whnf
  rw [hd]

theorem floor_spec {p mp dp : Nat} (hp : NumW p mp dp) (hw : Sat R Hs w) : Gets Tryz.prog 130 #[.float .f64 p] w fun v w' => v = .float .f64 (fw (mp / 2 ^ dp)) ∧ Sat R Hs w' := by
  apply call130
  refine ⟨.float .f64 (fw (mp / 2 ^ dp)), w, ?_, _, rfl, rfl, hw⟩
  rw [run_callFunc_extern Tryz.func143 fl_name fl_body fl_next fl_find]
  have hd : FloatKind.f64.decode p = .number false mp (-(dp : Int)) := hp
  have hf : FloatKind.f64.encode ((Datum.number false mp (-(dp : Int))).integral .down) = fw (mp / 2 ^ dp) := by
    have := floor_word hp
    rw [show double.read p = .number false mp (-(dp : Int)) from hp] at this
    exact this
  rw [floor_val hd, hf]
  rfl

theorem level_spec {x : Nat} {s : Int} (hw : Sat R Hs w) : Gets Tryz.prog 120 #[.float .f64 x, .int .i64 s] w fun v w' => v = .tuple #[.int .i64 (levelT x s).1, .int .i64 (levelT x s).2] ∧ Sat R Hs w' := by
  apply call120
  refine ⟨fun t w => t = decide (s < 0 ∨ s > 10000) ∧ Sat R Hs w, Br.d (fun h => ⟨by rw [decide_eq_true (.inl h)], hw⟩) (fun h => ⟨by rw [decide_eq_decide]; omega, hw⟩), ?_⟩
  clear hw
  rintro _ _ w ⟨rfl, hw⟩
  unfold levelT
  refine Br.d (fun h => ⟨by rw [if_pos h], hw⟩) (fun h => ?_)
  rw [if_neg h]
  refine ⟨isGt x, fun w' e => cmp_gt _ _ _ _ _ _, Br.nb (fun h1 => ⟨by rw [if_pos h1], hw⟩) (fun h1 => ?_)⟩
  rw [if_neg (by rw [h1]; simp)]
  refine ⟨isGe1 x, fun w' e => cmp_ge _ _ _ _ _ _, Br.mk (fun h2 => ⟨by rw [if_pos h2], hw⟩) (fun h2 => ?_)⟩
  rw [if_neg (by rw [h2]; simp)]
  obtain ⟨n, rfl⟩ := Int.eq_ofNat_of_zero_le (show 0 ≤ s by omega)
  obtain ⟨p, mp, dp, hp, hn, hle, e, he⟩ := flo_out (s := n) h1 h2 (by omega)
  refine ⟨w, _, toF_run n w, _, fun w' _ => mul_run _ _ _ hp w', ?_⟩
  refine (floor_spec hn hw).use ?_
  rintro _ w ⟨rfl, hw⟩
  rw [← e]
  refine ⟨_, rfl, _, fun w' _ => toI_run (by omega) w', ?_, hw⟩
  rw [Int.toNat_natCast]

theorem order_none {x : Nat} (h : double.order x 0 = none) : double.order x x = none := by
  unfold Format.order at *
  have h0 : double.read 0 = .number false 0 (-1074) := by decide
  rw [h0] at h
  cases hx : double.read x with
  | nan s t => rfl
  | infinity s => rw [hx] at h; simp [Datum.order] at h
  | number s m e => rw [hx] at h; simp [Datum.order] at h

theorem rlevel_spec {x : Nat} {s : Int} (hw : Sat R Hs w) : Gets Tryz.prog 121 #[.float .f64 x, .int .i64 s] w fun v w' => v = .tuple #[.int .i64 (levelT x s).1, .int .i64 (levelT x s).2] ∧ Sat R Hs w' := by
  apply call121
  have bad : (s < 0 ∨ s > 10000) → levelT x s = (0, 1) := fun h => by unfold levelT; rw [if_pos h]
  refine ⟨fun w => ¬ (s < 0 ∨ s > 10000) ∧ Sat R Hs w, Br.d (fun h => ⟨by rw [bad (.inl h)], hw⟩) (fun h => Br.d (fun h2 => ⟨by rw [bad (.inr h2)], hw⟩) (fun h2 => ⟨by omega, hw⟩)), ?_⟩
  clear hw
  rintro _ w ⟨h, hw⟩
  unfold levelT
  rw [if_neg h]
  refine ⟨fun w => isGt x = true ∧ Sat R Hs w, ?_, ?_⟩
  · refine ⟨_, fun w' e => cmp_ne _ _ _ _ _ _, Br.mk (fun h1 => ⟨?_, hw⟩) (fun h1 => ?_)⟩
    · rw [if_pos]
      unfold isGt
      cases ho : double.order x 0 with
      | none => rfl
      | some o =>
        exfalso
        have h1 := bne_iff_ne.1 h1
        unfold Format.order at ho h1
        cases hx : double.read x with
        | nan s t => rw [hx] at ho; simp [Datum.order] at ho
        | infinity s => rw [hx] at h1; apply h1; cases s <;> rfl
        | number s m e => rw [hx] at h1; apply h1; cases s <;> simp [Datum.order]
    · have h1 := bne_eq_false_iff_eq.1 h1
      refine ⟨_, fun w' e => cmp_le _ _ _ _ _ _, Br.mk (fun h2 => ⟨?_, hw⟩) (fun h2 => ⟨?_, hw⟩)⟩
      · rw [if_pos]
        unfold isGt
        rcases (Bool.or_eq_true _ _).mp h2 with h3 | h3
        · rw [beq_iff_eq.1 h3]; rfl
        · rw [beq_iff_eq.1 h3]; rfl
      · unfold isGt
        obtain ⟨h3, h4⟩ := Bool.or_eq_false_iff.1 h2
        cases ho : double.order x 0 with
        | none => rw [order_none ho] at h1; cases h1
        | some o =>
          rw [ho] at h3 h4
          cases o
          · simp at h3
          · simp at h4
          · rfl
  clear hw
  rintro _ w ⟨h1, hw⟩
  rw [if_neg (by rw [h1]; simp)]
  refine ⟨isGe1 x, fun w' e => cmp_ge _ _ _ _ _ _, Br.mk (fun h2 => ⟨by rw [if_pos h2], hw⟩) (fun h2 => ?_)⟩
  rw [if_neg (by rw [h2]; simp)]
  obtain ⟨n, rfl⟩ := Int.eq_ofNat_of_zero_le (show 0 ≤ s by omega)
  obtain ⟨p, mp, dp, hp, hn, hle, e, he⟩ := flo_out (s := n) h1 h2 (by omega)
  rw [Int.toNat_natCast]
  refine ⟨w, _, toF_run n w, _, fun w' _ => mul_run _ _ _ hp w', ?_⟩
  refine ⟨fun i w => ∃ j : Nat, i = j ∧ j ≤ floF x n ∧ Sat R Hs w, fun i _ => n - i.toNat, ⟨0, rfl, by omega, hw⟩, ?_⟩
  clear hw
  rintro _ _ w ⟨j, rfl, hj, hw⟩
  refine Br.d (fun h3 => ?_) (fun h3 => ⟨?_, hw⟩)
  · rw [show IntKind.i64.wrap ((j : Int) + 1) = ((j + 1 : Nat) : Int) from wrap64 (by omega) (by omega)]
    refine ⟨w, _, toF_run (j + 1) w, _, fun w' _ => cmp_le _ _ _ _ _ _, ?_⟩
    rw [fw_le (by omega) hn, ← e]
    refine Br.d (fun h4 => ⟨⟨j + 1, rfl, h4, hw⟩, by dsimp only; omega⟩) (fun h4 => ⟨?_, hw⟩)
    rw [show j = floF x n by omega]
  · rw [show j = floF x n by omega]
end Go.Proofs.YtaacfjdknlglhaaGreatDoor
/- The limits that parts give: package nest, reference 14. Condition: none. -/
namespace Go.Proofs.YtaacfjdknlglhaaGreatDoor
set_option linter.unusedVariables false
open Go Go.VC

variable {R : Cx} {Hs Rest : List HP} {w : World}

theorem _root_.Go.VC.Ro.ixV {xs : List Value} {s : Sl} {S : World → Prop} {i : Int} (hr : Ro R s xs) (hS : ∀ w, S w → Sat R Hs w) (j : Nat) (hi : i = j) (hj : j < xs.length) {F : Value → Prop} (h : F xs[j]) :
    Rng i s.len (NilP s.a fun a => ∃ t : Value, (At S (a.add i.toNat) [t]) ∧ F t) := by
  subst hi
  obtain ⟨a, ha, hat⟩ := hr.addr hj
  have hl := hr.len
  exact Rng.mk (by omega) (by omega) (NilP.mk ha ⟨_, hat hS, h⟩)

def limGo (s : Int) : Int → List Nat → List Int
  | _, [] => []
  | last, x :: xs => (if last < (levelT x s).1 then last else (levelT x s).1) :: limGo s (if last < (levelT x s).1 then last else (levelT x s).1) xs
def limitsT (s : Int) (parts : List Nat) : List Int × Int := if s < 0 ∨ s > 10000 ∨ parts.length < 1 ∨ parts.length > 8 then ([], 1) else (s :: limGo s s parts.tail, 0)

theorem limGo_len (s : Int) : ∀ (xs : List Nat) (last : Int), (limGo s last xs).length = xs.length
  | [], _ => rfl
  | x :: xs, last => by simp [limGo, limGo_len s xs]
/-- One more part. -/
theorem limGo_snoc (s : Int) : ∀ (xs : List Nat) (last : Int) (x : Nat), limGo s last (xs ++ [x]) = limGo s last xs ++
    [if (last :: limGo s last xs).getD xs.length 0 < (levelT x s).1 then (last :: limGo s last xs).getD xs.length 0 else (levelT x s).1]
  | [], last, x => by simp [limGo]
  | y :: xs, last, x => by
    simp only [List.cons_append, limGo, limGo_snoc s xs, List.length_cons, List.getD_cons_succ]

abbrev flts (l : List Nat) : List Value := l.map (Value.float .f64)
abbrev intsI (l : List Int) : List Value := l.map (Value.int .i64)

theorem limits_spec {s : Int} {sp : Sl} {parts : List Nat} (hp : SlR R.m sp (flts parts)) (hw : Sat R Hs w) :
    Gets Tryz.prog 95 #[.int .i64 s, .slice sp.a sp.len sp.cap] w fun v w' => ∃ t : Sl, v = .tuple #[.slice t.a t.len t.cap, .int .i64 (limitsT s parts).2] ∧ Sat R (Own t 3 (intsI (limitsT s parts).1) :: Hs) w' := by
  have hlen := hp.len
  rw [List.length_map] at hlen
  have bad : (s < 0 ∨ s > 10000 ∨ parts.length < 1 ∨ parts.length > 8) → ∀ w, Sat R Hs w → ∃ t : Sl, Value.tuple #[.slice none 0 0, .int .i64 1] = .tuple #[.slice t.a t.len t.cap, .int .i64 (limitsT s parts).2] ∧ Sat R (Own t 3 (intsI (limitsT s parts).1) :: Hs) w := fun h w hw => by
    unfold limitsT; rw [if_pos h]; exact ⟨⟨none, 0, 0⟩, rfl, Own.nil hw⟩
  apply call95
  refine ⟨fun w => (0 ≤ s ∧ s ≤ 10000 ∧ 1 ≤ parts.length ∧ parts.length ≤ 8) ∧ Sat R Hs w, ?_, ?_⟩
  · refine (within_spec hw).use ?_
    rintro _ w ⟨rfl, hw⟩
    unfold inR
    refine ⟨_, rfl, Br.nd (fun h => bad (by omega) _ hw) (fun h1 => Br.d (fun h => bad (by omega) _ hw) (fun h2 => Br.d (fun h => bad (by omega) _ hw) (fun h3 => ⟨⟨by omega, by omega, by omega, by omega⟩, hw⟩)))⟩
  clear hw
  rintro _ w ⟨⟨h1, h2, h3, h4⟩, hw⟩
  have e : limitsT s parts = (s :: limGo s s parts.tail, 0) := by unfold limitsT; rw [if_neg (by omega)]
  rw [e]
  clear bad
  refine new_rule hw fun b w hw => ⟨by omega, by omega, ?_⟩
  have hw : Sat R (Own ⟨some ⟨b, 0, none⟩, 1, 1⟩ 3 (intsI [s]) :: Hs) w := own_lit hw
  have hd := (hp.drop (k := 1) (by rw [List.length_map]; omega)).ro (by rw [List.length_drop, List.length_map]; omega)
  have hdl : (flts parts).drop 1 = flts parts.tail := by simp [flts, List.drop_one, List.map_tail]
  rw [hdl] at hd
  have htl : parts.tail.length = parts.length - 1 := List.length_tail
  have hslen : (sp.len - Int.toNat 1 : Nat) = parts.tail.length := by rw [htl]; show sp.len - 1 = _; omega
  refine ⟨fun so i w => ∃ j : Nat, i = j ∧ j ≤ parts.tail.length ∧ Sat R (Own so 3 (intsI (s :: limGo s s (parts.tail.take j))) :: Hs) w, fun _ i _ => parts.tail.length - i.toNat, ⟨0, rfl, by omega, hw⟩, ?_⟩
  clear hw
  rintro _ so _ w ⟨j, rfl, hj, hw⟩
  refine Br.d (fun h => ?_) (fun h => ?_)
  · have hj2 : j < parts.tail.length := by omega
    refine Ro.ixV hd (eqS hw) j rfl (by rw [List.length_map]; exact hj2) ?_
    rw [List.getElem_map]
    refine (level_spec hw).use ?_
    rintro _ w ⟨rfl, hw⟩
    refine ⟨_, _, rfl, ?_⟩
    have hl : (s :: limGo s s (parts.tail.take j)).length = j + 1 := by rw [List.length_cons, limGo_len, List.length_take]; omega
    refine Own.ix hw (eqS hw) j rfl (by omega) ?_
    refine pushI_rule elI8 hw (by omega) fun so' w hw => ?_
    rw [wrap64 (by omega) (by omega)]
    refine ⟨⟨j + 1, by omega, by omega, ?_⟩, by dsimp only; omega⟩
    rw [List.take_add_one, List.getElem?_eq_getElem hj2]
    simp only [Option.toList_some]
    rw [limGo_snoc, List.length_take, show min j parts.tail.length = j by omega, getD_lt (by omega)]
    exact hw
  · rw [List.take_of_length_le (by omega)] at hw
    exact ⟨so, rfl, hw⟩

theorem rlimits_spec {s : Int} {sp : Sl} {parts : List Nat} (hp : SlR R.m sp (flts parts)) (hw : Sat R Hs w) :
    Gets Tryz.prog 96 #[.int .i64 s, .slice sp.a sp.len sp.cap] w fun v w' => ∃ t : Sl, v = .tuple #[.slice t.a t.len t.cap, .int .i64 (limitsT s parts).2] ∧ Sat R (Own t 3 (intsI (limitsT s parts).1) :: Hs) w' := by
  have hlen := hp.len
  rw [List.length_map] at hlen
  have bad : (s < 0 ∨ s > 10000 ∨ parts.length < 1 ∨ parts.length > 8) → ∀ w, Sat R Hs w → ∃ t : Sl, Value.tuple #[.slice none 0 0, .int .i64 1] = .tuple #[.slice t.a t.len t.cap, .int .i64 (limitsT s parts).2] ∧ Sat R (Own t 3 (intsI (limitsT s parts).1) :: Hs) w := fun h w hw => by
    unfold limitsT; rw [if_pos h]; exact ⟨⟨none, 0, 0⟩, rfl, Own.nil hw⟩
  apply call96
  refine ⟨fun w => (0 ≤ s ∧ s ≤ 10000 ∧ 1 ≤ parts.length ∧ parts.length ≤ 8) ∧ Sat R Hs w, ?_, ?_⟩
  · exact Br.d (fun h => bad (by omega) _ hw) (fun h1 => Br.d (fun h => bad (by omega) _ hw) (fun h2 => Br.d (fun h => bad (by omega) _ hw) (fun h3 => Br.d (fun h => bad (by omega) _ hw) (fun h4 => ⟨⟨by omega, by omega, by omega, by omega⟩, hw⟩))))
  clear hw
  rintro _ w ⟨⟨h1, h2, h3, h4⟩, hw⟩
  have e : limitsT s parts = (s :: limGo s s parts.tail, 0) := by unfold limitsT; rw [if_neg (by omega)]
  rw [e]
  clear bad
  refine new_rule hw fun b w hw => ?_
  have hw : Sat R (Own ⟨some ⟨b, 0, none⟩, 1, 1⟩ 3 (intsI [s]) :: Hs) w := own_lit hw
  have htl : parts.tail.length = parts.length - 1 := List.length_tail
  refine ⟨fun so i w => ∃ j : Nat, i = ((j + 1 : Nat) : Int) ∧ j ≤ parts.tail.length ∧ Sat R (Own so 3 (intsI (s :: limGo s s (parts.tail.take j))) :: Hs) w, fun _ i _ => parts.length - i.toNat, ⟨0, rfl, by omega, hw⟩, ?_⟩
  clear hw
  rintro _ so _ w ⟨j, rfl, hj, hw⟩
  refine Br.d (fun h => ?_) (fun h => ?_)
  · have hj2 : j < parts.tail.length := by omega
    have hj3 : j + 1 < parts.length := by omega
    have hg : parts[j + 1] = parts.tail[j] := by rw [List.getElem_tail]
    refine Ro.ixV (hp.ro (by rw [List.length_map]; omega)) (eqS hw) (j + 1) rfl (by rw [List.length_map]; exact hj3) ?_
    rw [List.getElem_map, hg]
    refine (rlevel_spec hw).use ?_
    rintro _ w ⟨rfl, hw⟩
    refine ⟨_, _, rfl, ?_⟩
    have hl : (s :: limGo s s (parts.tail.take j)).length = j + 1 := by rw [List.length_cons, limGo_len, List.length_take]; omega
    refine Own.ix hw (eqS hw) j (by rw [wrap64 (by omega) (by omega)]; omega) (by omega) ?_
    refine pushI_rule elI8 hw (by omega) fun so' w hw => ?_
    rw [wrap64 (by omega) (by omega)]
    refine ⟨⟨j + 1, by omega, by omega, ?_⟩, by dsimp only; omega⟩
    rw [List.take_add_one, List.getElem?_eq_getElem hj2]
    simp only [Option.toList_some]
    rw [limGo_snoc, List.length_take, show min j parts.tail.length = j by omega, getD_lt (by omega)]
    exact hw
  · rw [List.take_of_length_le (by omega)] at hw
    exact ⟨so, rfl, hw⟩

theorem limGo_ok (s : Int) (h0 : 0 ≤ s) (h1 : s ≤ 10000) : ∀ (xs : List Nat) (last : Int), 0 ≤ last → last ≤ 10000 → ∀ k (h : k < (limGo s last xs).length), (0 ≤ (limGo s last xs)[k] ∧ (limGo s last xs)[k] ≤ 10000) ∧ (limGo s last xs)[k] ≤ (last :: limGo s last xs).getD k 0
  | [], last, _, _, k, h => by simp [limGo] at h
  | x :: xs, last, a, b, k, h => by
    have hlv : 0 ≤ (levelT x s).1 := by
      unfold levelT
      split
      · simp
      · split
        · simp
        · split
          · exact h0
          · simp
    rcases k with _ | k
    · simp only [limGo, List.getElem_cons_zero, List.getD_cons_zero]
      split <;> omega
    · simp only [limGo, List.getElem_cons_succ, List.getD_cons_succ]
      exact limGo_ok s h0 h1 xs _ (by split <;> omega) (by split <;> omega) k (by simpa [limGo] using h)
theorem limits_ok {s : Int} {parts : List Nat} (h : (limitsT s parts).2 = 0) : limOk (limitsT s parts).1 = true ∧ (limitsT s parts).1.getD 0 0 = s := by
  unfold limitsT at *
  split at h
  · simp at h
  · rename_i hn
    rw [if_neg hn]
    refine ⟨limOk_iff.2 ⟨⟨by simp, ?_⟩, fun k hk => ?_⟩, rfl⟩
    · simp only [List.length_cons, limGo_len, List.length_tail]; omega
    · rcases k with _ | k
      · simp; omega
      · have := limGo_ok s (by omega) (by omega) parts.tail s (by omega) (by omega) k (by simpa using hk)
        simp only [List.getElem_cons_succ]
        exact ⟨this.1, fun _ => by rw [show k + 1 - 1 = k by omega]; exact this.2⟩
end Go.Proofs.YtaacfjdknlglhaaGreatDoor
/- Sorted numbers: package slices. Condition: none. -/
namespace Go.Proofs.YtaacfjdknlglhaaGreatDoor
set_option linter.unusedVariables false
open Go Go.VC

variable {R : Cx} {Hs Rest : List HP} {w : World}

/-- They rise. -/
def Rise (l : List Int) : Prop := ∀ i j (hj : j < l.length), (hij : i < j) → l[i] < l[j]
/-- n, put where it belongs. -/
def insS (n : Int) : List Int → List Int
  | [] => [n]
  | x :: l => if x < n then x :: insS n l else n :: x :: l
theorem insS_at {n : Int} : ∀ {l : List Int} {p : Nat}, p ≤ l.length → (∀ k (h : k < l.length), k < p → l[k] < n) → (∀ k (h : k < l.length), p ≤ k → n ≤ l[k]) → insS n l = l.take p ++ n :: l.drop p
  | [], p, hp, _, _ => by
    obtain rfl : p = 0 := by simpa using hp
    rfl
  | x :: l, 0, _, _, h2 => by
    have := h2 0 (by simp) (by omega)
    simp only [List.getElem_cons_zero] at this
    unfold insS
    rw [if_neg (by omega)]; rfl
  | x :: l, p + 1, hp, h1, h2 => by
    have h0 := h1 0 (by simp) (by omega)
    simp only [List.getElem_cons_zero] at h0
    unfold insS
    rw [if_pos h0, insS_at (p := p) (by simpa using hp) (fun k h hk => by have := h1 (k + 1) (by simpa using h) (by omega); simpa using this) (fun k h hk => by have := h2 (k + 1) (by simpa using h) (by omega); simpa using this)]
    rfl

theorem half_eq {a b : Nat} (h : a + b ≤ 1000000000000000000) : IntKind.i64.wrap (shrI .u64 (IntKind.u64.wrap (IntKind.i64.wrap ((a : Int) + b))) 1) = ((a + b) / 2 : Nat) := by
  rw [wrap64 (x := (a : Int) + b) (by omega) (by omega), IntKind.wrap_u64]
  have e : shrI .u64 (((a : Int) + b) % 18446744073709551616) 1 = (((a + b) / 2 : Nat) : Int) := by
    unfold shrI
    show Int.fdiv _ 2 = _
    rw [Int.fdiv_eq_ediv_of_nonneg _ (by omega)]
    omega
  rw [e, wrap64 (by omega) (by omega)]

theorem isNaN_spec {x : Int} (hw : Sat R Hs w) : Gets Tryz.prog 125 #[.int .i64 x] w fun v w' => v = .bool false ∧ Sat R Hs w' := by
  apply call125
  exact ⟨by simp, hw⟩
theorem cNaN_spec {x : Int} (hw : Sat R Hs w) : Gets Tryz.prog 140 #[.int .i64 x] w fun v w' => v = .bool false ∧ Sat R Hs w' := by
  apply call140
  exact ⟨by simp, hw⟩
theorem less_spec {x y : Int} (hw : Sat R Hs w) : Gets Tryz.prog 124 #[.int .i64 x, .int .i64 y] w fun v w' => v = .bool (decide (x < y)) ∧ Sat R Hs w' := by
  apply call124
  refine (cNaN_spec hw).use ?_
  rintro _ w ⟨rfl, hw⟩
  exact ⟨_, rfl, Br.f rfl ⟨rfl, hw⟩⟩

theorem bsearch_spec {s : Sl} {l : List Int} {n : Int} (hs : RoI R s l) (hr : Rise l) (hl : l.length ≤ 1000000000) (hw : Sat R Hs w) :
    Gets Tryz.prog 106 #[.slice s.a s.len s.cap, .int .i64 n] w fun v w' => ∃ (p : Nat) (b : Bool), v = .tuple #[.int .i64 p, .bool b] ∧ p ≤ l.length ∧ (∀ k (h : k < l.length), k < p → l[k] < n) ∧ (∀ k (h : k < l.length), p ≤ k → n ≤ l[k]) ∧ Sat R Hs w' := by
  have hlen := hs.len
  apply call106
  refine ⟨fun i j w => ∃ a b : Nat, i = a ∧ j = b ∧ a ≤ b ∧ b ≤ l.length ∧ (∀ k (h : k < l.length), k < a → l[k] < n) ∧ (∀ k (h : k < l.length), b ≤ k → n ≤ l[k]) ∧ Sat R Hs w, fun i j _ => j.toNat - i.toNat, ⟨0, l.length, rfl, by rw [hlen], by omega, by omega, fun k _ h => by omega, fun k h h' => by omega, hw⟩, ?_⟩
  clear hw
  rintro _ _ _ w ⟨a, b, rfl, rfl, hab, hb, h1, h2, hw⟩
  rw [half_eq (by omega)]
  refine Br.d (fun h => ?_) (fun h => ?_)
  · have hm : (a + b) / 2 < l.length := by omega
    refine Ro.ix hs (eqS hw) ((a + b) / 2) rfl hm ?_
    refine (less_spec hw).use ?_
    rintro _ w ⟨rfl, hw⟩
    refine ⟨_, rfl, Br.d (fun h3 => ?_) (fun h3 => ?_)⟩
    · rw [show IntKind.i64.wrap ((((a + b) / 2 : Nat) : Int) + 1) = (((a + b) / 2 + 1 : Nat) : Int) from wrap64 (by omega) (by omega)]
      refine ⟨⟨(a + b) / 2 + 1, b, rfl, rfl, by omega, hb, fun k hk hk2 => ?_, h2, hw⟩, by dsimp only; omega⟩
      by_cases hkm : k = (a + b) / 2
      · subst hkm; exact h3
      · have := hr k ((a + b) / 2) hm (by omega); omega
    · refine ⟨⟨a, (a + b) / 2, rfl, rfl, by omega, by omega, h1, fun k hk hk2 => ?_, hw⟩, by dsimp only; omega⟩
      by_cases hkm : k = (a + b) / 2
      · subst hkm; omega
      · have := hr ((a + b) / 2) k hk (by omega); omega
  · obtain rfl : a = b := by omega
    have fin : ∀ (t : Bool) w, Sat R Hs w → ∃ (p : Nat) (b : Bool), Value.tuple #[.int .i64 a, .bool t] = .tuple #[.int .i64 p, .bool b] ∧ p ≤ l.length ∧ (∀ k (h : k < l.length), k < p → l[k] < n) ∧ (∀ k (h : k < l.length), p ≤ k → n ≤ l[k]) ∧ Sat R Hs w := fun t w hw => ⟨a, t, rfl, hb, h1, h2, hw⟩
    refine Br.d (fun h3 => ?_) (fun h3 => fin _ _ hw)
    have ha : a < l.length := by omega
    refine Ro.ix hs (eqS hw) a rfl ha ?_
    refine Br.e (fun h4 => fin _ _ hw) (fun h4 => ?_)
    refine Ro.ix hs (eqS hw) a rfl ha ?_
    refine (isNaN_spec hw).use ?_
    rintro _ w ⟨rfl, hw⟩
    exact ⟨_, rfl, Br.f rfl (fin _ _ hw)⟩

/-! ### What is left when some go -/
theorem deleteF_spec {s : Sl} {l : List Int} {f : Value} {p : Int → Bool} (hl : l.length ≤ 1000000000)
    (hf : ∀ x l' w, Sat R (Own s 3 (intsI l') :: Hs) w → CalW Tryz.prog cl f [.int .i64 x] w fun e w' => e = .returned (.bool (p x)) ∧ Sat R (Own s 3 (intsI l') :: Hs) w')
    (hw : Sat R (Own s 3 (intsI l) :: Hs) w) :
    Gets Tryz.prog 75 #[.slice s.a s.len s.cap, f] w fun v w' => ∃ t : Sl, v = .slice t.a t.len t.cap ∧ Sat R (Own t 3 (intsI (l.filter fun x => !p x)) :: Hs) w' := by
  have hlen := Own.len hw
  have hcap := Own.cap hw
  rw [List.length_map] at hlen
  apply call75
  -- the first that goes
  have hidx : Gets Tryz.prog 113 #[.slice s.a s.len s.cap, f] w fun v w' => (∃ i : Int, v = .int .i64 i ∧ ((i = -1 ∧ l.any p = false) ∨ ∃ k : Nat, i = k ∧ ∃ (hk : k < l.length), p l[k] = true ∧ (l.take k).any p = false)) ∧ Sat R (Own s 3 (intsI l) :: Hs) w' := by
    apply call113
    refine ⟨fun i w => ∃ j : Nat, i = j ∧ j ≤ l.length ∧ (l.take j).any p = false ∧ Sat R (Own s 3 (intsI l) :: Hs) w, fun i _ => l.length - i.toNat, ⟨0, rfl, by omega, by simp, hw⟩, ?_⟩
    clear hw
    rintro _ _ w ⟨j, rfl, hj, hn, hw⟩
    refine Br.d (fun h => ?_) (fun h => ?_)
    · have hj2 : j < l.length := by omega
      refine Own.ix hw (eqS hw) j rfl hj2 ?_
      refine (hf l[j] l _ hw).mono ?_
      rintro _ w ⟨rfl, hw⟩
      refine ⟨_, rfl, Br.mk (fun h => ⟨⟨j, rfl, .inr ⟨j, rfl, hj2, h, hn⟩⟩, hw⟩) (fun h => ?_)⟩
      rw [wrap64 (by omega) (by omega)]
      refine ⟨⟨j + 1, by omega, by omega, ?_, hw⟩, by dsimp only; omega⟩
      rw [List.take_add_one, List.getElem?_eq_getElem hj2, List.any_append, hn]
      simp [h]
    · rw [List.take_of_length_le (by omega)] at hn
      exact ⟨⟨-1, rfl, .inl ⟨rfl, hn⟩⟩, hw⟩
  refine hidx.use ?_
  clear hw hidx
  rintro _ w ⟨⟨i, rfl, hi⟩, hw⟩
  have keep : ∀ m : List Int, m.any p = false → m.filter (fun x => !p x) = m := fun m hm => by
    rw [List.filter_eq_self]
    intro x hx
    cases hpx : p x with
    | false => rfl
    | true => rw [List.any_eq_true.2 ⟨x, hx, hpx⟩] at hm; cases hm
  refine ⟨_, rfl, Br.e (fun h => ?_) (fun h => ?_)⟩
  · rcases hi with ⟨_, ha⟩ | ⟨k, hk, _⟩
    · rw [keep l ha]; exact ⟨s, rfl, hw⟩
    · omega
  rcases hi with ⟨h2, _⟩ | ⟨k, rfl, hk, hpk, hpn⟩
  · exact absurd h2 h
  -- the others move down
  have hf0 : l.filter (fun x => !p x) = l.take k ++ (l.drop (k + 1)).filter (fun x => !p x) := by
    conv => lhs; rw [← List.take_append_drop k l, List.drop_eq_getElem_cons hk]
    rw [List.filter_append, keep _ hpn, List.filter_cons, hpk]; rfl
  rw [wrap64 (x := (k : Int) + 1) (by omega) (by omega)]
  refine ⟨fun i j w => ∃ (a b : Nat) (l' : List Int), i = a ∧ j = b ∧ a < b ∧ b ≤ l.length ∧ l'.length = l.length ∧ l'.take a = (l.take b).filter (fun x => !p x) ∧ l'.drop b = l.drop b ∧ Sat R (Own s 3 (intsI l') :: Hs) w, fun _ j _ => l.length - j.toNat, ⟨k, k + 1, l, rfl, by omega, by omega, by omega, rfl, ?_, rfl, hw⟩, ?_⟩
  · rw [List.take_add_one, List.filter_append, keep _ hpn, List.getElem?_eq_getElem hk]
    simp [hpk]
  clear hw
  rintro _ _ _ w ⟨a, b, l', rfl, rfl, hab, hb, hll, ht, hd, hw⟩
  refine Br.d (fun h2 => ?_) (fun h2 => ?_)
  · have hb2 : b < l.length := by omega
    have hb3 : b < l'.length := by omega
    have hx : l'[b] = l[b] := by
      rw [List.drop_eq_getElem_cons hb3, List.drop_eq_getElem_cons hb2] at hd
      exact (List.cons.inj hd).1
    have hd' : l'.drop (b + 1) = l.drop (b + 1) := by
      rw [List.drop_eq_getElem_cons hb3, List.drop_eq_getElem_cons hb2] at hd
      exact (List.cons.inj hd).2
    have htk : (l.take (b + 1)).filter (fun x => !p x) = l'.take a ++ (if p l[b] then [] else [l[b]]) := by
      rw [List.take_add_one, List.filter_append, ← ht, List.getElem?_eq_getElem hb2]
      cases hpb : p l[b] <;> simp [hpb]
    refine Own.ix hw (eqS hw) b rfl hb3 ?_
    rw [hx]
    refine (hf l[b] l' _ hw).mono ?_
    rintro _ w ⟨rfl, hw⟩
    rw [show IntKind.i64.wrap ((b : Int) + 1) = ((b + 1 : Nat) : Int) from wrap64 (by omega) (by omega), show IntKind.i64.wrap ((a : Int) + 1) = ((a + 1 : Nat) : Int) from wrap64 (by omega) (by omega)]
    refine ⟨_, rfl, Br.nb (fun h3 => ?_) (fun h3 => ?_)⟩
    · refine Own.store (by kernel_rfl) hw (k := a) (by omega) fun w hw => ?_
      refine ⟨⟨a + 1, b + 1, l'.set a l[b], rfl, rfl, by omega, by omega, by rw [List.length_set]; exact hll, ?_, ?_, hw⟩, by dsimp only; omega⟩
      · rw [htk, h3, List.take_add_one, List.take_set_of_le (by omega), List.getElem?_set_self (by omega)]; rfl
      · rw [List.drop_set_of_lt (by omega), hd']
    · refine ⟨⟨a, b + 1, l', rfl, rfl, by omega, by omega, hll, ?_, hd', hw⟩, by dsimp only; omega⟩
      rw [htk, h3]; simp
  · obtain rfl : b = l.length := by omega
    refine ⟨by omega, by omega, ?_⟩
    rw [Int.toNat_natCast]
    refine Own.clearTail Tryz.underlying33 Tryz.zeroValue3 hw (by omega) fun w hw => ?_
    rw [ht, List.take_length] at hw
    exact ⟨by omega, by omega, ⟨s.a, a, s.cap⟩, rfl, hw⟩
end Go.Proofs.YtaacfjdknlglhaaGreatDoor
/- SL, part 16: copy; append of zeros to the head of a slice of one's own, where there is no room. Condition: bounds on lengths. -/
namespace Go.VC
set_option linter.unusedVariables false
variable {P : Program} {R : Cx} {Hs Rest : List HP} {w : World} {s : Sl} {T : TypeId}

/-- 'copy': what goes over was read before. -/
theorem copy_rule {dT sT ty elem : TypeId} {b o dLen dCap sLen sCap : Nat} {a : Addr} {cs l : List Value} {fr : Nat × Nat} {K : Int → World → Prop} (hu : P.underlying dT = some (.slice elem)) (hs : (P.info? elem).map (·.size) = some 1)
    (hw : Sat R (pts b (.cells l.toArray T fr) :: Hs) w) (hfr : okFr l.length fr) (hn : cs.length = Nat.min sLen dLen) (hfit : o + cs.length ≤ l.length) (hsrc : ∀ j v, cs[j]? = some v → w.cell? (a.add j) = some v) (h1 : oneAll cs = true)
    (k : ∀ t w', Sat R (pts b (.cells (putL l o cs).toArray T fr) :: Hs) w' → K t w') :
    ∃ w', ∃ t : Int, (Builtin.copy_ #[dT, sT] ty #[.slice (some ⟨b, o, none⟩) dLen dCap, .slice (some a) sLen sCap]).run P w = .ok (.int .i64 t) w' ∧ K t w' := by
  have hat := hw.at
  have hr := run_copy_cells (P := P) w dT sT ty elem b o dLen dCap a sLen sCap cs hu hs hn hsrc (fun j hj => by rw [cell_of hat]; simp; omega) (fun j hj => frozen_no hat hfr (by omega)) (fun v hv => List.all_eq_true.1 h1 v hv)
  exact ⟨_, _, hr, k _ _ (setCells_sat cs l o w hw)⟩

/-- 'append(s[:k], make([]T, n)...)' where there is no room: a new row; s stays. -/
theorem zerosGrow_rule {t1 t2 ty : TypeId} {bytes k n : Nat} {kd kn : IntKind} {z : Value} {xs : List Value} {K : Sl → World → Prop} (ht : P.underlying t1 = some (.slice T)) (htn : P.underlying t2 = some (.int kn)) (hi : elB P T bytes = true)
    (h0 : 0 < n) (hk : k < xs.length) (hc : s.cap < k + n) (hb : 2 * (k + n) * bytes ≤ 281474976710656) (hb' : k + n ≤ 9223372036854775807) (hw : Sat R (Own s T xs :: Hs) w)
    (h : ∀ t w' ys, ys.length = n → Sat R (Own t T (xs.take k ++ ys) :: Own s T xs :: Hs) w' → K t w') :
    ∃ w', ∃ t : Sl, (Builtin.append_ #[t1, t2] ty #[.slice s.a k s.cap, .int kd n]).run P w = .ok (.slice t.a t.len t.cap) w' ∧ K t w' := by
  obtain ⟨i, z, hi, hz, hsize, hbytes, hzc⟩ := elB_out hi
  rcases Own.cases hw with ⟨_, rfl, _⟩ | ⟨b, rest, fr, rfl, hfr, hp⟩
  · simp at hk
  have hat := hp.at
  dsimp only at hc ⊢
  have hcap : Builtin.nextslicecap (k + n) (xs ++ rest).length * i.bytes ≤ 281474976710656 := by
    have h2 : Builtin.nextslicecap (k + n) (xs ++ rest).length ≤ 2 * (k + n) := by
      unfold Builtin.nextslicecap
      split
      · omega
      · split
        · omega
        · have := nextslicecap_le_wide hc
          unfold Builtin.nextslicecap at this
          rw [if_neg (by assumption), if_neg (by assumption)] at this
          omega
    rw [hbytes]
    exact Nat.le_trans (Nat.mul_le_mul_right _ h2) hb
  have hold : (Builtin.firstCells i.size k (.slice (some ⟨b, 0, none⟩) k (xs ++ rest).length)).run P w.drew = .ok (xs.take k).toArray w.drew := by
    refine run_firstCells_some w.drew i.size k ⟨b, 0, none⟩ k _ (xs.take k) (by rw [hsize, List.length_take]; omega) ?_
    intro j u hj
    rw [World.cell?_drew, add_off, cell_of hat, Nat.zero_add]
    obtain ⟨hlt, rfl⟩ := List.getElem?_eq_some_iff.1 hj
    rw [List.length_take] at hlt
    rw [List.getElem?_append_left (by omega), List.getElem?_eq_getElem (by omega), List.getElem_take]
  have hwr : IntKind.i64.wrap (n : Int) = n := by rw [IntKind.wrap_i64]; omega
  have hn : ¬ (k + n ≤ (xs ++ rest).length) := by omega
  have h63' : ¬ (9223372036854775807 < ((k : Int) + (n : Int))) := by omega
  have h48' : ¬ (281474976710656 < Builtin.nextslicecap (k + n) (xs ++ rest).length * i.bytes) := by omega
  have h48i : ¬ (281474976710656 < (n : Int) * (i.bytes : Int)) := by
    rw [← Int.natCast_mul, hbytes]
    have : n * bytes ≤ 2 * (k + n) * bytes := Nat.mul_le_mul_right _ (by omega)
    omega
  have hneg : ¬ ((n : Int) < 0) := by omega
  have hn0 : n ≠ 0 := by omega
  have hns : ¬ (n * i.size = 0) := by rw [hsize]; omega
  have hg := grownCap_ge w (k + n) (xs ++ rest).length T
  have hr : (Builtin.append_ #[t1, t2] ty #[.slice (some ⟨b, 0, none⟩) k (xs ++ rest).length, .int kd n]).run P w =
      .ok (.slice (some ⟨w.heap.size, 0, none⟩) (k + n) (grownCap w (k + n) (xs ++ rest).length T)) (w.drew.alloc (.cells ((xs.take k).toArray ++ Builtin.zeroCells z.cells n ++ Builtin.zeroCells z.cells (grownCap w (k + n) (xs ++ rest).length T - (k + n))) T)) := by
    simp only [List.length_append] at hn h48' hold ⊢
    simp [Builtin.append_, run_underlying ht, run_underlying htn, sizeOf, typeInfo, zeroValue, hi, hz, asInt, asIntOf, hwr, hn, hn0, hneg, hns, h63', h48', h48i, Question.forced, hold, newRow, grownCap]
  have hzs : ∀ m, (Builtin.zeroCells z.cells m).size = m := fun m => by simp [Builtin.zeroCells, hzc]
  refine ⟨_, ⟨some ⟨w.heap.size, 0, none⟩, k + n, grownCap w (k + n) (xs ++ rest).length T⟩, hr, h _ _ (Builtin.zeroCells z.cells n).toList (by rw [Array.length_toList, hzs]) ?_⟩
  have h3 := Sat.alloc (Obj.cells ((xs.take k).toArray ++ Builtin.zeroCells z.cells n ++ Builtin.zeroCells z.cells (grownCap w (k + n) (xs ++ rest).length T - (k + n))) T) (Sat.drew hp)
  have e : Obj.cells ((xs.take k).toArray ++ Builtin.zeroCells z.cells n ++ Builtin.zeroCells z.cells (grownCap w (k + n) (xs ++ rest).length T - (k + n))) T = .cells ((xs.take k ++ (Builtin.zeroCells z.cells n).toList) ++ (Builtin.zeroCells z.cells (grownCap w (k + n) (xs ++ rest).length T - (k + n))).toList).toArray T (0, 0) := by
    congr 1
    apply Array.ext'; simp
  rw [e] at h3 ⊢
  have h4 := Own.of_pts (Sat.swap h3) hfr
  have h5 := Own.of_pts (Sat.swap h4)
  have e2 : (⟨some ⟨w.drew.heap.size, 0, none⟩, (xs.take k ++ (Builtin.zeroCells z.cells n).toList).length, ((xs.take k ++ (Builtin.zeroCells z.cells n).toList) ++ (Builtin.zeroCells z.cells (grownCap w (k + n) (xs ++ rest).length T - (k + n))).toList).length⟩ : Sl) = ⟨some ⟨w.heap.size, 0, none⟩, k + n, grownCap w (k + n) (xs ++ rest).length T⟩ := by
    have : (xs.take k).length = k := by rw [List.length_take]; omega
    simp only [List.length_append, Array.length_toList, hzs, World.size_drew, this] at hg ⊢
    congr 1
    omega
  rw [e2] at h5
  exact h5
end Go.VC
/- Package slices: Insert of one number. Condition: a bound on the length. -/
namespace Go.Proofs.YtaacfjdknlglhaaGreatDoor
set_option linter.unusedVariables false
open Go Go.VC

variable {R : Cx} {Hs Rest : List HP} {w : World}

theorem ov_name : (Tryz.f126.name == "runtime.NumGoroutine") = false := by kernel_rfl
theorem ov_body : Tryz.f126.body.isNone = true := by kernel_rfl
theorem ov_next : Extern.findNext Tryz.f126 = none := by kernel_rfl
theorem ov_find : ∃ tR, Extern.find Tryz.f126 = some (Extern.SlicesOverlaps.overlaps #[ 33 , 33 ] #[tR]) := ⟨4, by kernel_rfl⟩

theorem szI1 : szOf Tryz.prog 3 = 1 := by kernel_rfl
theorem szI (w : World) : (sizeOf 3).run Tryz.prog w = .ok 1 w := by
  obtain ⟨i, hi⟩ := szOf_pos (P := Tryz.prog) (t := 3) (by rw [szI1]; decide)
  have := sizeOf_run hi w
  rw [szI1] at this
  exact this

abbrev oneC (n : Int) (T : TypeId) : Obj := .cells [.int .i64 n].toArray T (0, 0)

theorem cut_some {b k m : Nat} (h : m ≠ k) : cutA (some ⟨b, 0, none⟩) k m 1 = some ⟨b, k, none⟩ := by
  simp only [cutA, if_neg h, Option.map_some, add_off]; simp

theorem overlaps_spec {b1 b2 o : Nat} {n : Int} {T1 T2 : TypeId} {l : List Value} {fr : Nat × Nat} {la lc : Nat} {Q : Ending → World → Prop} (hl : l ≠ [])
    (hw : Sat R (pts b2 (.cells l.toArray T2 fr) :: pts b1 (oneC n T1) :: Hs) w) (k : Q (.returned (.bool false)) w) :
    Ext Tryz.prog 126 #[.slice (some ⟨b1, 0, none⟩) 1 1, .slice (some ⟨b2, o, none⟩) la lc] w Q := by
  have h2 := hw.at
  have h1 := hw.swap.at
  have hne : b1 ≠ b2 := by
    rintro rfl
    obtain ⟨h, hA, hd, h', hB, hd', _⟩ := hw
    rw [show h = _ from hA] at hd hd'
    rw [show h' = _ from hB] at hd'
    have := hd' b1 (by simp [Heap.one])
    simp only [Cx.add, Heap.add, Heap.one] at this
    split at this <;> simp_all
  obtain ⟨tR, hf⟩ := ov_find
  refine ⟨.bool false, w, ?_, k⟩
  rw [run_callFunc_extern Tryz.func126 ov_name ov_body ov_next hf]
  rw [Lib.run_overlaps_apart (P := Tryz.prog) w 33 tR 3 Tryz.underlying33 1 (fun w => szI w) ⟨b1, 0, none⟩ ⟨b2, o, none⟩ 1 1 la lc hne T1 T2 1 l.length ?_ ?_ ?_ ?_ ?_]
  · rfl
  · simp only [World.shape?, h1]; rfl
  · simp only [World.shape?, h2]; simp
  · cases l with
    | nil => exact absurd rfl hl
    | cons a l => simp
  · simp [World.frozen?, h1]
  · simp [World.frozen?, h1]
end Go.Proofs.YtaacfjdknlglhaaGreatDoor
/- Package slices: Insert of one number. Condition: a bound on the length. -/
namespace Go.Proofs.YtaacfjdknlglhaaGreatDoor
set_option linter.unusedVariables false
open Go Go.VC

variable {R : Cx} {Hs Rest : List HP} {w : World}

theorem putL_mid {A B C V : List Value} {p : Nat} (hp : A.length = p) (hB : B.length = V.length) : putL (A ++ B ++ C) p V = A ++ V ++ C := by
  rw [putL_eq _ _ _ (by simp only [List.length_append]; omega)]
  have e1 : (A ++ B ++ C).take p = A := by rw [List.append_assoc, List.take_left' hp]
  have e2 : (A ++ B ++ C).drop (p + V.length) = C := by rw [List.drop_left' (by rw [List.length_append]; omega)]
  rw [e1, e2]
theorem put2 {A ys D rest : List Value} {x : Value} {p : Nat} (hA : A.length = p) (hy : ys.length = D.length + 1) : putL (putL ((A ++ ys) ++ rest) p [x]) (p + 1) D = (A ++ x :: D) ++ rest := by
  match ys, hy with
  | y0 :: ys', hy =>
    have h1 : putL ((A ++ y0 :: ys') ++ rest) p [x] = A ++ [x] ++ (ys' ++ rest) := by
      have := putL_mid (A := A) (B := [y0]) (C := ys' ++ rest) (V := [x]) hA rfl
      rw [← this]; simp
    have h2 := putL_mid (A := A ++ [x]) (B := ys') (C := rest) (V := D) (p := p + 1) (by simp [hA]) (by simpa using hy)
    rw [h1, ← List.append_assoc, h2]; simp
theorem put2' {A D rest : List Value} {x : Value} {p : Nat} (hA : A.length = p) (hr : 1 ≤ rest.length) : putL (putL ((A ++ D) ++ rest) (p + 1) D) p [x] = (A ++ x :: D) ++ rest.drop 1 := by
  match rest, hr with
  | r0 :: rest', _ =>
    obtain ⟨y0, ys', hy, hl⟩ : ∃ y0 ys', D ++ [r0] = y0 :: ys' ∧ ys'.length = D.length := by
      cases D with
      | nil => exact ⟨r0, [], rfl, rfl⟩
      | cons d D => exact ⟨d, D ++ [r0], rfl, by simp⟩
    have e : (A ++ D) ++ r0 :: rest' = (A ++ [y0]) ++ ys' ++ rest' := by
      have : (A ++ D) ++ r0 :: rest' = A ++ (D ++ [r0]) ++ rest' := by simp
      rw [this, hy]; simp
    rw [e, putL_mid (p := p + 1) (by simp [hA]) hl]
    have := putL_mid (A := A) (B := [y0]) (C := D ++ rest') (V := [x]) hA rfl
    rw [show (A ++ [y0]) ++ D ++ rest' = A ++ [y0] ++ (D ++ rest') by simp, this]; simp

theorem src_one {b : Nat} {n : Int} {T : TypeId} (h : w.heap[b]? = some (oneC n T)) : ∀ j v, [Value.int .i64 n][j]? = some v → w.cell? ((⟨b, 0, none⟩ : Addr).add j) = some v := by
  intro j v hj
  rw [add_off, cell_of h, Nat.zero_add]; exact hj
theorem src_part {b p : Nat} {xs rest : List Value} {T : TypeId} {fr : Nat × Nat} (h : w.heap[b]? = some (.cells (xs ++ rest).toArray T fr)) (_hp : p ≤ xs.length) : ∀ j v, (xs.drop p)[j]? = some v → w.cell? ((⟨b, p, none⟩ : Addr).add j) = some v := by
  intro j v hj
  rw [add_off, cell_of h]
  rw [List.getElem?_drop] at hj
  have hlt := (List.getElem?_eq_some_iff.1 hj).1
  rw [List.getElem?_append_left (by omega)]; exact hj

theorem insert_spec {s : Sl} {l : List Int} {n : Int} {p b : Nat} {T : TypeId} (hl : l.length ≤ 1000000000) (hp : p ≤ l.length) (hw : Sat R (Own s 3 (intsI l) :: pts b (oneC n T) :: Hs) w) :
    Gets Tryz.prog 107 #[.slice s.a s.len s.cap, .int .i64 p, .slice (some ⟨b, 0, none⟩) 1 1] w fun v w' => ∃ t : Sl, v = .slice t.a t.len t.cap ∧ Sat R (Own t 3 (intsI (l.take p ++ n :: l.drop p)) :: pts b (oneC n T) :: Hs) w' := by
  have hlen := Own.len hw
  have hcap := Own.cap hw
  rw [List.length_map] at hlen
  refine call107 s p ⟨some ⟨b, 0, none⟩, 1, 1⟩ _ _ ?_
  unfold B107
  dsimp only
  have w1 : IntKind.i64.wrap ((s.len : Int) + ((1 : Nat) : Int)) = ((l.length + 1 : Nat) : Int) := by rw [wrap64 (by omega) (by omega)]; omega
  have w2 : IntKind.i64.wrap (((l.length + 1 : Nat) : Int) - p) = ((l.length + 1 - p : Nat) : Int) := by rw [wrap64 (by omega) (by omega)]; omega
  have w3 : IntKind.i64.wrap ((p : Int) + ((1 : Nat) : Int)) = ((p + 1 : Nat) : Int) := by rw [wrap64 (by omega) (by omega)]; omega
  rw [w1, w2, w3]
  simp only [Int.toNat_natCast]
  refine ⟨by omega, by omega, Br.f rfl (Br.e (fun h => ?_) (fun h => Br.d (fun h2 => ?_) (fun h2 => ?_)))⟩
  · -- behind all
    refine append_rule elI8 hw (Src_one elI8.hk 1 hw rfl) (oneAll_k _ _) (by rw [List.length_map]; omega) (by rw [List.length_map]; omega) fun t w hw => ⟨t, rfl, ?_⟩
    have e : intsI l ++ [Value.int .i64 n] = intsI (l.take p ++ n :: l.drop p) := by
      rw [List.take_of_length_le (by omega), List.drop_eq_nil_of_le (by omega)]; simp
    rw [e] at hw; exact hw
  · -- no room
    refine ⟨by omega, by omega, ?_⟩
    refine zerosGrow_rule (z := .int .i64 0) Tryz.underlying33 Tryz.underlying3 elI8.hi (by omega) (by rw [List.length_map]; omega) (by omega) (by omega) (by omega) hw fun t w ys hys hw => ?_
    have htl := Own.len hw
    rw [List.length_append, List.length_take, List.length_map, hys] at htl
    refine ⟨by omega, by omega, ?_⟩
    rcases Own.cases hw with ⟨_, h0, _⟩ | ⟨b', rest, fr, rfl, hfr, hw⟩
    · have := congrArg List.length h0
      rw [List.length_append, hys, List.length_nil] at this; omega
    dsimp only at htl ⊢
    have hA : ((intsI l).take p).length = p := by rw [List.length_take, List.length_map]; omega
    have hxs : ((intsI l).take p ++ ys).length = l.length + 1 := by rw [List.length_append, hA, hys]; omega
    have hb1 := (hw.takeP (b := b) inferInstance).at
    rw [hxs, cut_some (by rw [List.length_append, hxs]; omega)]
    refine copy_rule Tryz.underlying33 (by kernel_rfl) hw hfr (cs := [.int .i64 n]) (by show 1 = min _ _; omega) (by rw [List.length_append, hxs]; show p + 1 ≤ _; omega) (src_one hb1) rfl fun _ w hw => ?_
    refine drw_rule hw fun w hw => ⟨by omega, by omega, by omega, by omega, ?_⟩
    rcases Own.cases hw.swap with ⟨_, h0, _⟩ | ⟨bs, rest2, fr2, rfl, hfr2, hws⟩
    · have h3 : l.length = 0 := by
        have := congrArg List.length h0
        rw [List.length_map] at this; exact this
      omega
    clear w1 w2 w3
    dsimp only at hlen hcap h h2 ⊢
    rw [List.length_map] at h
    have hsat := hws.at
    rw [cut_some (by rw [List.length_append, hxs]; omega), cut_some (by rw [List.length_append, List.length_map]; omega)]
    refine copy_rule Tryz.underlying33 (by kernel_rfl) hws.swap (by rw [putL_len]; exact hfr) (cs := (intsI l).drop p) (by rw [List.length_drop, List.length_map]; show _ = min _ _; omega)
      (by rw [putL_len, List.length_append, hxs, List.length_drop, List.length_map]; omega) (src_part hsat (by rw [List.length_map]; omega)) (by rw [← List.map_drop]; exact oneAll_k _ _) fun _ w hw => ?_
    rw [put2 hA (by rw [hys, List.length_drop, List.length_map]; omega)] at hw
    have e : (intsI l).take p ++ Value.int .i64 n :: (intsI l).drop p = intsI (l.take p ++ n :: l.drop p) := by simp [List.map_take, List.map_drop]
    have hel : (intsI (l.take p ++ n :: l.drop p)).length = l.length + 1 := by simp; omega
    rw [e] at hw
    have hfin := Own.of_pts hw (by have := hfr; rw [List.length_append, hxs] at this; rw [List.length_append, hel]; exact this)
    rw [hel] at hfin
    refine ⟨⟨some ⟨b', 0, none⟩, l.length + 1, (intsI (l.take p ++ n :: l.drop p) ++ rest).length⟩, ?_, ?_⟩
    · dsimp only
      have c1 : ((intsI l).take p ++ ys ++ rest).length = l.length + 1 + rest.length := List.length_append.trans (by rw [hxs])
      have c2 : (intsI (l.take p ++ n :: l.drop p) ++ rest).length = l.length + 1 + rest.length := List.length_append.trans (by rw [hel])
      rw [c1, c2]
    · exact Sat.cons (fun R' h => h.drop) hfin
  · -- room
    rcases Own.cases hw with ⟨_, h0, _⟩ | ⟨bs, rest, fr, rfl, hfr, hws⟩
    · have h3 : l.length = 0 := by
        have := congrArg List.length h0
        rw [List.length_map] at this; exact this
      omega
    clear w1 w2 w3
    dsimp only at hlen hcap h h2 ⊢
    rw [List.length_map] at h
    have hA : ((intsI l).take p).length = p := by rw [List.length_take, List.length_map]; omega
    have hcl : (intsI l ++ rest).length = l.length + rest.length := by rw [List.length_append, List.length_map]
    have hroom : 1 ≤ rest.length := by
      rw [hcl] at h2
      omega
    refine ⟨by omega, by omega, by omega, by omega, ?_⟩
    rw [cut_some (by omega)]
    refine overlaps_spec (by intro h0; have h5 := congrArg List.length h0; rw [hcl, List.length_nil] at h5; omega) hws ?_
    refine ⟨_, rfl, Br.t rfl ?_⟩
    refine drw_rule hws fun w hws => ⟨by omega, by omega, by omega, by omega, ?_⟩
    rw [cut_some (by omega)]
    have hsat := hws.at
    refine copy_rule Tryz.underlying33 (by kernel_rfl) hws hfr (cs := (intsI l).drop p) (by rw [List.length_drop, List.length_map]; show _ = min _ _; omega)
      (by rw [hcl, List.length_drop, List.length_map]; omega) (src_part hsat (by rw [List.length_map]; omega)) (by rw [← List.map_drop]; exact oneAll_k _ _) fun _ w hw => ?_
    refine ⟨by omega, by omega, ?_⟩
    have hb1 := hw.swap.at
    refine copy_rule Tryz.underlying33 (by kernel_rfl) hw (by rw [putL_len]; exact hfr) (cs := [.int .i64 n]) (by show 1 = min _ _; omega) (by rw [putL_len, hcl]; show p + 1 ≤ _; omega) (src_one hb1) rfl fun _ w hw => ?_
    have e0 : intsI l ++ rest = ((intsI l).take p ++ (intsI l).drop p) ++ rest := by rw [List.take_append_drop]
    rw [e0, put2' hA hroom] at hw
    have e : (intsI l).take p ++ Value.int .i64 n :: (intsI l).drop p = intsI (l.take p ++ n :: l.drop p) := by simp [List.map_take, List.map_drop]
    have hel : (intsI (l.take p ++ n :: l.drop p)).length = l.length + 1 := by simp; omega
    rw [e] at hw
    have hll : (intsI (l.take p ++ n :: l.drop p) ++ rest.drop 1).length = (intsI l ++ rest).length := by rw [List.length_append, hel, hcl, List.length_drop]; omega
    have hfin := Own.of_pts hw (by rw [hll]; exact hfr)
    rw [hel, hll] at hfin
    exact ⟨_, rfl, hfin⟩
end Go.Proofs.YtaacfjdknlglhaaGreatDoor
/- SL, part 17: maps whose keys are ints; memory that is only read, several pieces of it lent at once. No condition. -/
namespace Go.VC
set_option linter.unusedVariables false
variable {P : Program} {R R' R'' : Cx} {Hs Rest : List HP} {w : World} {s : Sl} {T : TypeId}

instance : KeyK Int where
  enc := Value.int .i64
  desc := .int .i64
  same a b := by
    show (if IntKind.i64 = IntKind.i64 then some (a == b) else none) = some (a == b)
    rw [if_pos rfl]
  bits a := by
    have : ∀ n, Instr.sameBits n (.int .i64 a) (.int .i64 a) = (IntKind.i64 == IntKind.i64 && a == a) := fun n => by cases n <;> rfl
    rw [this]; simp
  eq a b h := beq_iff_eq.1 h
  check P em K a w h := by
    show (Instr.checkKey em (9999 + 1) K (.int .i64 a)).run P w = _
    unfold Instr.checkKey
    simp [run_underlying h]

/-- Lent out, with the way back. -/
theorem Reads.out {xs : List Value} (h : Sat R (Reads s xs :: Hs) w) : ∃ R', R.Ext R' ∧ SlR R'.m s xs ∧ Sat R' Hs w ∧ ∀ Hs' w', Sat R' Hs' w' → Sat R (Reads s xs :: Hs') w' := by
  obtain ⟨x, hd, hs, hw, hx⟩ := Reads.lend h
  exact ⟨R.add x, Cx.Ext.add, hs, hw, fun Hs' w' h => Reads.back hd hx h⟩
end Go.VC
/- A flight in memory. Condition: none. -/
namespace Go.Proofs.YtaacfjdknlglhaaGreatDoor
set_option linter.unusedVariables false
open Go Go.VC

variable {R : Cx} {Hs Rest : List HP} {w : World}

/-! ### Plain -/
/-- One owner's hold. -/
structure Hold where
  owner : Int
  cls : Int
  many : Int
  seats : List Int

/-- A flight as the program keeps it: holds and owners in the order in which they came. -/
structure PF where
  num : Int
  rows : Int
  grps : List Int
  lims : List Int
  sold : List Int
  hs : List (Int × Hold)
  own : List (Int × Int)

/-! ### Memory -/
abbrev hCells (h : Hold) (s : Sl) : Obj := .cells [.int .i64 h.owner, .int .i64 h.cls, .int .i64 h.many, .slice s.a s.len s.cap].toArray 51 (0, 0)
def HoldAt (b : Nat) (h : Hold) : HP := exs fun s : Sl => Star [pts b (hCells h s), Own s 3 (intsI h.seats)]
/-- Owner, block, hold. -/
abbrev HE := Int × Nat × Hold
def HoldsAt (E : List HE) : HP := Star (E.map fun e => HoldAt e.2.1 e.2.2)
abbrev hPtrs (E : List HE) : List (Int × Value) := E.map fun e => (e.1, .pointer (some ⟨e.2.1, 0, none⟩))
abbrev hEr (E : List HE) : List (Int × Hold) := E.map fun e => (e.1, e.2.2)
abbrev oVals (l : List (Int × Int)) : List (Int × Value) := l.map fun e => (e.1, .int .i64 e.2)
abbrev fCells (f : PF) (sg sl ss : Sl) (hm om : Nat) : Obj :=
  .cells [.int .i64 f.num, .int .i64 f.rows, .slice sg.a sg.len sg.cap, .slice sl.a sl.len sl.cap, .slice ss.a ss.len ss.cap, .map (some hm), .map (some om)].toArray 78 (0, 0)
/-- What the flight's record names, laid open. -/
abbrev FO (p hm om : Nat) (sg sl ss : Sl) (E : List HE) (f : PF) (Hs : List HP) : List HP :=
  pts p (fCells f sg sl ss hm om) :: MapAt hm (hPtrs E) :: MapAt om (oVals f.own) :: HoldsAt E :: Hs
structure FX where
  hm : Nat
  om : Nat
  sg : Sl
  sl : Sl
  ss : Sl
  E : List HE
def FlightAt (p : Nat) (f : PF) : HP := exs fun x : FX =>
  Star [pur (hEr x.E = f.hs), Reads x.sg (intsI f.grps), Reads x.sl (intsI f.lims), Reads x.ss (intsI f.sold), pts p (fCells f x.sg x.sl x.ss x.hm x.om), MapAt x.hm (hPtrs x.E), MapAt x.om (oVals f.own), HoldsAt x.E]

theorem Sat.flight {p : Nat} {f : PF} : Sat R (FlightAt p f :: Hs) w ↔ ∃ hm om sg sl ss E, hEr E = f.hs ∧ Sat R (Reads sg (intsI f.grps) :: Reads sl (intsI f.lims) :: Reads ss (intsI f.sold) :: FO p hm om sg sl ss E f Hs) w := by
  unfold FlightAt
  rw [Sat.exs]
  constructor
  · rintro ⟨⟨hm, om, sg, sl, ss, E⟩, h⟩
    obtain ⟨h1, h2⟩ := Sat.pur.1 (Sat.star.1 h)
    exact ⟨hm, om, sg, sl, ss, E, h1, h2⟩
  · rintro ⟨hm, om, sg, sl, ss, E, h1, h2⟩
    exact ⟨⟨hm, om, sg, sl, ss, E⟩, Sat.star.2 (Sat.pur.2 ⟨h1, h2⟩)⟩

/-- Opened: groups, limits and what is sold only to be read. -/
theorem Sat.flightO {p : Nat} {f : PF} (hw : Sat R (FlightAt p f :: Hs) w) : ∃ hm om sg sl ss E R', hEr E = f.hs ∧ R.Ext R' ∧ SlR R'.m sg (intsI f.grps) ∧ SlR R'.m sl (intsI f.lims) ∧ SlR R'.m ss (intsI f.sold) ∧ Sat R' (FO p hm om sg sl ss E f Hs) w ∧
    ∀ Hs' w', Sat R' Hs' w' → Sat R (Reads sg (intsI f.grps) :: Reads sl (intsI f.lims) :: Reads ss (intsI f.sold) :: Hs') w' := by
  obtain ⟨hm, om, sg, sl, ss, E, hE, hw⟩ := Sat.flight.1 hw
  obtain ⟨R1, e1, g1, hw, b1⟩ := Reads.out hw
  obtain ⟨R2, e2, g2, hw, b2⟩ := Reads.out hw
  obtain ⟨R3, e3, g3, hw, b3⟩ := Reads.out hw
  exact ⟨hm, om, sg, sl, ss, E, R3, hE, e1.trans (e2.trans e3), e3.slR (e2.slR g1), e3.slR g2, g3, hw, fun Hs' w' h => b1 _ _ (b2 _ _ (b3 _ _ h))⟩
/-- .. and closed, what the record names being as it was. -/
theorem Sat.flightC {p hm om : Nat} {sg sl ss : Sl} {E : List HE} {f : PF} (hE : hEr E = f.hs) (hw : Sat R (Reads sg (intsI f.grps) :: Reads sl (intsI f.lims) :: Reads ss (intsI f.sold) :: FO p hm om sg sl ss E f Hs) w) : Sat R (FlightAt p f :: Hs) w :=
  Sat.flight.2 ⟨hm, om, sg, sl, ss, E, hE, hw⟩

theorem Sat.hold {b : Nat} {h : Hold} : Sat R (HoldAt b h :: Hs) w ↔ ∃ s : Sl, Sat R (pts b (hCells h s) :: Own s 3 (intsI h.seats) :: Hs) w := by
  unfold HoldAt
  rw [Sat.exs]
  exact ⟨fun ⟨s, h⟩ => ⟨s, Sat.star.1 h⟩, fun ⟨s, h⟩ => ⟨s, Sat.star.2 h⟩⟩
/-- One of the holds. -/
theorem Sat.holds {a b : List HE} {e : HE} : Sat R (HoldsAt (a ++ e :: b) :: Hs) w ↔ Sat R (HoldAt e.2.1 e.2.2 :: HoldsAt (a ++ b) :: Hs) w := by
  have p : ((a ++ e :: b).map fun e : HE => HoldAt e.2.1 e.2.2).Perm (HoldAt e.2.1 e.2.2 :: (a ++ b).map fun e : HE => HoldAt e.2.1 e.2.2) := by
    rw [List.map_append, List.map_cons, List.map_append]; exact List.perm_middle
  unfold HoldsAt
  constructor
  · intro h
    have h1 := (Sat.star.1 h).perm (p.append_right Hs)
    exact h1.cons fun _ h => Sat.star.2 h
  · intro h
    have h1 : Sat R ((HoldAt e.2.1 e.2.2 :: (a ++ b).map fun e : HE => HoldAt e.2.1 e.2.2) ++ Hs) w := h.cons fun _ h => Sat.star.1 h
    exact Sat.star.2 (h1.perm (p.symm.append_right Hs))

abbrev hMap : MapT Tryz.prog 75 Int 3 93 (.pointer none) := ⟨Tryz.underlying75, Tryz.underlying3, Tryz.zeroValue93⟩
abbrev oMap : MapT Tryz.prog 76 Int 3 3 (.int .i64 0) := ⟨Tryz.underlying76, Tryz.underlying3, Tryz.zeroValue3⟩

/-- The owner's block and hold. -/
theorem hPtrs_get (k : Int) (E : List HE) : getM k (hPtrs E) = (getM k E).map fun x => .pointer (some ⟨x.1, 0, none⟩) := getM_map (fun x : Nat × Hold => Value.pointer (some ⟨x.1, 0, none⟩)) k E
theorem hEr_get (k : Int) (E : List HE) : getM k (hEr E) = (getM k E).map (·.2) := getM_map (fun x : Nat × Hold => x.2) k E
theorem oVals_get (k : Int) (l : List (Int × Int)) : getM k (oVals l) = (getM k l).map (Value.int .i64) := getM_map (Value.int .i64) k l

theorem hold_look {m : Nat} {E : List HE} (hw : Sat R (MapAt m (hPtrs E) :: Hs) w) (k : Int) (c : Bool) :
    (Instr.lookup 75 (.map (some m)) (.int .i64 k) c).run Tryz.prog w = .ok (if c then .tuple #[.pointer ((getM k E).map fun x => ⟨x.1, 0, none⟩), .bool (getM k E).isSome] else .pointer ((getM k E).map fun x => ⟨x.1, 0, none⟩)) w := by
  have h := MapAt.look hMap hw k c
  rw [hPtrs_get] at h
  rw [show Value.int .i64 k = KeyK.enc k from rfl, h]
  cases getM k E <;> rfl
theorem own_look {m : Nat} {l : List (Int × Int)} (hw : Sat R (MapAt m (oVals l) :: Hs) w) (k : Int) (c : Bool) :
    (Instr.lookup 76 (.map (some m)) (.int .i64 k) c).run Tryz.prog w = .ok (if c then .tuple #[.int .i64 ((getM k l).getD 0), .bool (getM k l).isSome] else .int .i64 ((getM k l).getD 0)) w := by
  have h := MapAt.look oMap hw k c
  rw [oVals_get] at h
  rw [show Value.int .i64 k = KeyK.enc k from rfl, h]
  cases getM k l <;> rfl

end Go.Proofs.YtaacfjdknlglhaaGreatDoor
/- A flight: seats told, names, reading. Condition: bounds on lengths. -/
namespace Go.Proofs.YtaacfjdknlglhaaGreatDoor
set_option linter.unusedVariables false
open Go Go.VC

variable {R : Cx} {Hs Rest : List HP} {w : World}

theorem setM_map {α β γ : Type} [BEq α] (f : β → γ) (k : α) (v : β) : ∀ l : List (α × β), setM k (f v) (l.map fun e => (e.1, f e.2)) = (setM k v l).map fun e => (e.1, f e.2)
  | [] => rfl
  | e :: l => by
    simp only [List.map_cons, setM]
    split
    · rfl
    · rw [setM_map f k v l]; rfl
theorem delM_map {α β γ : Type} [BEq α] (f : β → γ) (k : α) : ∀ l : List (α × β), delM k (l.map fun e => (e.1, f e.2)) = (delM k l).map fun e => (e.1, f e.2)
  | [] => rfl
  | e :: l => by
    simp only [List.map_cons, delM]
    split
    · rfl
    · rw [delM_map f k l]; rfl
theorem putM_map {α β γ : Type} [BEq α] (f : β → γ) (k : α) (v : β) (l : List (α × β)) : putM k (f v) (l.map fun e => (e.1, f e.2)) = (putM k v l).map fun e => (e.1, f e.2) := by
  unfold putM
  rw [getM_map, Option.isSome_map]
  split
  · exact setM_map f k v l
  · simp

/-- The hold, with one more seat. -/
def Hold.put (h : Hold) (n : Int) : Hold := { h with seats := insS n h.seats }

theorem tell_spec {p hm om b : Nat} {sg sl ss : Sl} {a c : List HE} {k n : Int} {h : Hold} {f : PF} (hr : Rise h.seats) (hl : h.seats.length ≤ 1000000000) (hw : Sat R (FO p hm om sg sl ss (a ++ (k, b, h) :: c) f Hs) w) :
    Gets Tryz.prog 65 #[.pointer (some ⟨p, 0, none⟩), .pointer (some ⟨b, 0, none⟩), .int .i64 n] w fun v w' => v = .tuple #[] ∧ Sat R (FO p hm om sg sl ss (a ++ (k, b, h.put n) :: c) { f with own := putM n h.owner f.own } Hs) w' := by
  have hw := hw.take (HoldsAt (a ++ (k, b, h) :: c))
  obtain ⟨s, hw⟩ := Sat.hold.1 (Sat.holds.1 hw)
  apply call65
  refine NilP.mk rfl ⟨s, At.own (eqS hw) (by exact ⟨rfl, trivial⟩), ?_⟩
  obtain ⟨R', hro, _, hw', back⟩ := Own.lend (hw.take (Own s 3 (intsI h.seats))) (by rw [List.length_map]; omega)
  refine (bsearch_spec (l := h.seats) hro hr hl hw').use ?_
  clear hw hw'
  rintro _ w ⟨q, bb, rfl, hq, h1, h2, hw⟩
  have hw := (back hw).swap
  refine ⟨_, _, rfl, NilP.mk rfl ⟨s, At.own (eqS hw) (by exact ⟨rfl, trivial⟩), ?_⟩⟩
  refine new_rule hw fun bn w hw => ?_
  refine (insert_spec (T := 3) hl hq (hw.take (Own s 3 (intsI h.seats)))).use ?_
  clear hw
  rintro _ w ⟨t, rfl, hw⟩
  rw [← insS_at hq h1 h2] at hw
  refine ⟨_, rfl, NilP.mk rfl ?_⟩
  refine store_rule hw (by kernel_rfl) rfl (by simp [Value.cells]) fun w hw => ?_
  have hw : Sat R (pts b (hCells (h.put n) t) :: Own t 3 (intsI (insS n h.seats)) :: pts bn (oneC n 3) :: HoldsAt (a ++ c) :: pts p (fCells f sg sl ss hm om) :: MapAt hm (hPtrs (a ++ (k, b, h) :: c)) :: MapAt om (oVals f.own) :: Hs) w := hw
  refine drw_rule hw fun w hw => ?_
  refine NilP.mk rfl ⟨some om, At.own selfS (by exact ⟨rfl, trivial⟩), NilP.mk rfl ⟨h.owner, by rw [add_off]; exact At.own selfS (by exact ⟨rfl, trivial⟩), ?_⟩⟩
  refine MapAt.put oMap (hw.take (MapAt om (oVals f.own))) n (.int .i64 h.owner) fun w hw => ⟨rfl, ?_⟩
  rw [putM_map (Value.int .i64) n h.owner f.own] at hw
  have hw := (hw.take (pts bn (oneC n 3))).drop
  have hw : Sat R (pts b (hCells (h.put n) t) :: Own t 3 (intsI (h.put n).seats) :: MapAt om (oVals (putM n h.owner f.own)) :: HoldsAt (a ++ c) :: pts p (fCells f sg sl ss hm om) :: MapAt hm (hPtrs (a ++ (k, b, h) :: c)) :: Hs) w :=
    (hw.take (Own t 3 (intsI (insS n h.seats)))).take (pts b (hCells (h.put n) t))
  have hw := Sat.hold.2 ⟨t, hw⟩
  have hw := (Sat.holds (e := ((k, b, h.put n) : HE)) (a := a) (b := c)).2 (hw.cons fun _ h => h.take (HoldsAt (a ++ c)))
  have e : hPtrs (a ++ (k, b, h.put n) :: c) = hPtrs (a ++ (k, b, h) :: c) := by simp [hPtrs]
  show Sat R (pts p (fCells f sg sl ss hm om) :: MapAt hm (hPtrs (a ++ (k, b, h.put n) :: c)) :: MapAt om (oVals (putM n h.owner f.own)) :: HoldsAt (a ++ (k, b, h.put n) :: c) :: Hs) w
  rw [e]
  exact ((hw.take (MapAt om (oVals (putM n h.owner f.own)))).take (MapAt hm (hPtrs (a ++ (k, b, h) :: c)))).take (pts p (fCells f sg sl ss hm om))

theorem fnumber_spec {p : Nat} {f : PF} (hw : Sat R (FlightAt p f :: Hs) w) : Gets Tryz.prog 49 #[.pointer (some ⟨p, 0, none⟩)] w fun v w' => v = .int .i64 f.num ∧ Sat R (FlightAt p f :: Hs) w' := by
  obtain ⟨hm, om, sg, sl, ss, E, hE, hw2⟩ := Sat.flight.1 hw
  apply call49
  exact NilP.mk rfl ⟨f.num, by rw [add_off]; exact At.own (eqS hw2) (by exact ⟨rfl, trivial⟩), rfl, hw⟩

theorem soldC_spec {p : Nat} {f : PF} (hl : f.sold.length ≤ 1000) (hw : Sat R (FlightAt p f :: Hs) w) : Gets Tryz.prog 46 #[.pointer (some ⟨p, 0, none⟩)] w fun v w' => ∃ t : Sl, v = .slice t.a t.len t.cap ∧ Sat R (Own t 3 (intsI f.sold) :: FlightAt p f :: Hs) w' := by
  obtain ⟨hm, om, sg, sl, ss, E, R', hE, _, _, _, hs, hw, back⟩ := Sat.flightO hw
  apply call46
  refine NilP.mk rfl ⟨ss, At.own (eqS hw) (by exact ⟨rfl, trivial⟩), ?_⟩
  refine (cloneI_spec (hs.ro (by rw [List.length_map]; omega)) (by omega) hw).use ?_
  rintro _ w ⟨t, rfl, hw⟩
  refine ⟨t, rfl, t, rfl, ?_⟩
  have hw := back _ _ hw
  exact Sat.cons (fun _ h => Sat.flightC hE h) (hw.take (Own t 3 (intsI f.sold)))

/-! ### Names -/
def labsF (n : Int) (g : List Int) (l : List Int) : List ByteArray := l.map fun k => (labT n g k).1
theorem elStr : El Tryz.prog 54 54 9 16 := ⟨Tryz.underlying54, ⟨_, Tryz.underlying54⟩, by kernel_rfl⟩
theorem oneAll_str (l : List ByteArray) : oneAll (l.map Value.string) = true := by unfold oneAll; simp [Value.oneCell']

theorem labels_spec {p hm om : Nat} {sg sl ss sq : Sl} {f : PF} {l : List Int} [tk : TakeP p Hs (fCells f sg sl ss hm om) Rest] (hg : RoI R sg f.grps) (hl : RoI R sq l) (hlen : l.length ≤ 1000000) (hw : Sat R Hs w) :
    Gets Tryz.prog 66 #[.pointer (some ⟨p, 0, none⟩), .slice sq.a sq.len sq.cap] w fun v w' => ∃ t : Sl, v = .slice t.a t.len t.cap ∧ Sat R (Own t 9 ((labsF f.rows f.grps l).map Value.string) :: Hs) w' := by
  have hll := hl.len
  apply call66
  refine ⟨fun so i w => ∃ j : Nat, i = j ∧ j ≤ l.length ∧ Sat R (Own so 9 ((labsF f.rows f.grps (l.take j)).map Value.string) :: Hs) w, fun _ i _ => l.length - i.toNat, ⟨0, rfl, by omega, Own.nil hw⟩, ?_⟩
  clear hw
  rintro _ so _ w ⟨j, rfl, hj, hw⟩
  refine Br.d (fun h => ?_) (fun h => ?_)
  · have hj2 : j < l.length := by omega
    refine Ro.ix hl (eqS hw) j rfl hj2 ?_
    refine NilP.mk rfl ⟨f.rows, sg, At.own (l := [.int .i64 f.num, .int .i64 f.rows, .slice sg.a sg.len sg.cap, .slice sl.a sl.len sl.cap, .slice ss.a ss.len ss.cap, .map (some hm), .map (some om)]) (t := TakeP.tail (t := tk)) (eqS hw) (by exact ⟨rfl, rfl, trivial⟩), ?_⟩
    refine (label_spec hg hw).use ?_
    rintro _ w ⟨rfl, hw⟩
    have hlab : (labsF f.rows f.grps (l.take j)).length = j := by unfold labsF; rw [List.length_map, List.length_take]; omega
    refine ⟨_, _, rfl, ?_⟩
    refine push_rule elStr hw (oneAll_str _) rfl (by rw [List.length_map, hlab]; omega) (by rw [List.length_map, hlab]; omega) fun t w hw => ?_
    rw [wrap64 (by omega) (by omega)]
    refine ⟨⟨j + 1, by omega, by omega, ?_⟩, by dsimp only; omega⟩
    have e : (labsF f.rows f.grps (l.take (j + 1))).map Value.string = (labsF f.rows f.grps (l.take j)).map Value.string ++ [.string (labT f.rows f.grps l[j]).1] := by
      unfold labsF
      rw [List.take_add_one, List.getElem?_eq_getElem hj2, Option.toList_some, List.map_append, List.map_append]
      rfl
    rw [e]; exact hw
  · rw [List.take_of_length_le (by omega)] at hw
    exact ⟨so, rfl, hw⟩
end Go.Proofs.YtaacfjdknlglhaaGreatDoor
/- A flight: a new one. Condition: bounds on lengths. -/
namespace Go.Proofs.YtaacfjdknlglhaaGreatDoor
set_option linter.unusedVariables false
open Go Go.VC

variable {R : Cx} {Hs Rest : List HP} {w : World}

theorem map_rule {K : Nat → World → Prop} (hw : Sat R Hs w) (k : ∀ m w', Sat R (MapAt (α := Int) m [] :: Hs) w' → K m w') : New (.map #[] 0) K w :=
  new_rule hw fun m w hw => k m w (MapAt.new rfl hw)
theorem zer_rule {n : Nat} {K : Sl → World → Prop} (hn : n ≤ 1000) (hw : Sat R Hs w) (k : ∀ s w', Sat R (Own s 3 (intsI (List.replicate n 0)) :: Hs) w' → K s w') :
    ∃ w', ∃ t : Sl, (Instr.makeSlice 33 (.int .i64 (n : Int)) (.int .i64 (n : Int))).run Tryz.prog w = .ok (.slice t.a t.len t.cap) w' ∧ K t w' :=
  make_rule (bytes := 8) (z := .int .i64 0) Tryz.underlying33 (by kernel_rfl) Tryz.zeroValue3 rfl (by omega) (by omega) hw fun s w hw => k s w (by
    rw [show intsI (List.replicate n 0) = List.replicate n (.int .i64 0) by simp [intsI]]; exact hw)

def emptyF (num rows : Int) (grps lims : List Int) : PF := ⟨num, rows, grps, lims, List.replicate lims.length 0, [], []⟩

theorem empty_spec {num rows : Int} {sg sl : Sl} {grps lims : List Int} (hl : lims.length ≤ 1000) (hw : Sat R (Reads sg (intsI grps) :: Reads sl (intsI lims) :: Hs) w) :
    Gets Tryz.prog 34 #[.int .i64 num, .agg #[.int .i64 rows, .slice sg.a sg.len sg.cap], .slice sl.a sl.len sl.cap] w fun v w' => ∃ p, v = .pointer (some ⟨p, 0, none⟩) ∧ Sat R (FlightAt p (emptyF num rows grps lims) :: Hs) w' := by
  have hlen : sl.len = lims.length := by
    obtain ⟨_, _, h, _⟩ := Reads.out hw.swap
    have := h.len
    rw [List.length_map] at this; exact this
  apply call34
  refine new_rule hw fun b4 w hw => ?_
  have hw : Sat R (pts b4 (layC rows sg) :: Reads sg (intsI grps) :: Reads sl (intsI lims) :: Hs) w := hw
  refine drw_rule hw fun w hw => ?_
  rw [hlen]
  have fin : ∀ {hm om : Nat} {ss : Sl} {w : World} (_ : Sat R (MapAt (α := Int) om [] :: MapAt (α := Int) hm [] :: Own ss 3 (intsI (List.replicate lims.length 0)) :: pts b4 (layC rows sg) :: Reads sg (intsI grps) :: Reads sl (intsI lims) :: Hs) w),
      New (.cells #[.int .i64 num, .int .i64 rows, .slice sg.a sg.len sg.cap, .slice sl.a lims.length sl.cap, .slice ss.a ss.len ss.cap, .map (some hm), .map (some om)] 78 (0, 0))
        (fun p w => Sat R (pts b4 (layC rows sg) :: Reads sg (intsI grps) :: Reads sl (intsI lims) :: Hs) w ∧ ∃ p', Value.pointer (some ⟨p, 0, none⟩) = .pointer (some ⟨p', 0, none⟩) ∧ Sat R (FlightAt p' (emptyF num rows grps lims) :: Hs) w) w := fun {hm om ss w} hw => by
    refine new_rule hw fun p w hw => ⟨hw.drop.drop.drop.drop, p, rfl, ?_⟩
    refine Sat.flight.2 ⟨hm, om, sg, sl, ss, [], rfl, ?_⟩
    have ec : (Obj.cells #[.int .i64 num, .int .i64 rows, .slice sg.a sg.len sg.cap, .slice sl.a lims.length sl.cap, .slice ss.a ss.len ss.cap, .map (some hm), .map (some om)] 78 (0, 0)) = fCells (emptyF num rows grps lims) sg sl ss hm om := by rw [← hlen]; rfl
    rw [ec] at hw
    have hw := (hw.take (pts b4 (layC rows sg))).drop
    have hw := hw.take (Own ss 3 (intsI (List.replicate lims.length 0)))
    have hw : Sat R (Reads ss (intsI (List.replicate lims.length 0)) :: pts p (fCells (emptyF num rows grps lims) sg sl ss hm om) :: MapAt (α := Int) om [] :: MapAt (α := Int) hm [] :: Reads sg (intsI grps) :: Reads sl (intsI lims) :: Hs) w := Own.reads hw
    have h2 : Sat R (HoldsAt [] :: Reads ss (intsI (List.replicate lims.length 0)) :: pts p (fCells (emptyF num rows grps lims) sg sl ss hm om) :: MapAt (α := Int) om [] :: MapAt (α := Int) hm [] :: Reads sg (intsI grps) :: Reads sl (intsI lims) :: Hs) w := Sat.star.2 hw
    have h3 := (((((((h2.take (HoldsAt [])).take (MapAt (α := Int) om [])).take (MapAt (α := Int) hm [])).take (pts p (fCells (emptyF num rows grps lims) sg sl ss hm om))).take (Reads ss (intsI (List.replicate lims.length 0)))).take (Reads sl (intsI lims))).take (Reads sg (intsI grps)))
    exact h3
  refine ⟨rows, sg, At.own selfS (by exact ⟨rfl, rfl, trivial⟩), ?_, ?_, ?_⟩
  · refine zer_rule hl hw fun ss w hw => ⟨hw.drop, ?_, ?_⟩
    · refine map_rule hw fun hm w hw => ⟨hw.drop.drop, map_rule hw fun om w hw => ⟨hw.drop.drop.drop, fin hw⟩⟩
    · refine map_rule hw fun om w hw => ⟨hw.drop.drop, map_rule hw fun hm w hw => ⟨hw.drop.drop.drop, fin hw.swap⟩⟩
  · refine map_rule hw fun hm w hw => ⟨hw.drop, ?_, ?_⟩
    · refine zer_rule hl hw fun ss w hw => ⟨hw.drop.drop, map_rule hw fun om w hw => ⟨hw.drop.drop.drop, fin ((hw.take (MapAt (α := Int) hm [])).take (MapAt (α := Int) om []))⟩⟩
    · refine map_rule hw fun om w hw => ⟨hw.drop.drop, zer_rule hl hw fun ss w hw => ⟨hw.drop.drop.drop, fin ((hw.take (MapAt (α := Int) hm [])).take (MapAt (α := Int) om []))⟩⟩
  · refine map_rule hw fun om w hw => ⟨hw.drop, ?_, ?_⟩
    · refine zer_rule hl hw fun ss w hw => ⟨hw.drop.drop, map_rule hw fun hm w hw => ⟨hw.drop.drop.drop, fin ((hw.take (MapAt (α := Int) hm [])).take (MapAt (α := Int) om []))⟩⟩
    · refine map_rule hw fun hm w hw => ⟨hw.drop.drop, zer_rule hl hw fun ss w hw => ⟨hw.drop.drop.drop, fin ((hw.take (MapAt (α := Int) hm [])).take (MapAt (α := Int) om []))⟩⟩
end Go.Proofs.YtaacfjdknlglhaaGreatDoor
/- A flight: New, Take. Condition: bounds on lengths. -/
namespace Go.Proofs.YtaacfjdknlglhaaGreatDoor
set_option linter.unusedVariables false
open Go Go.VC

variable {R : Cx} {Hs Rest : List HP} {w : World}

def newOk (num rows : Int) (grps : List Int) (parts : List Nat) : Prop := 1 ≤ num ∧ num ≤ 9999 ∧ layOk rows grps = true ∧ (limitsT (layN rows grps) parts).2 = 0

theorem limits_len {s : Int} {parts : List Nat} : (limitsT s parts).1.length ≤ 8 := by
  unfold limitsT
  split
  · simp
  · simp only [List.length_cons, limGo_len, List.length_tail]; omega

theorem fnew_spec' {num rows : Int} {sg sp : Sl} {grps : List Int} {parts : List Nat} (hg : RoI R sg grps) (hp : SlR R.m sp (flts parts)) (hw : Sat R Hs w) :
    Gets Tryz.prog 51 #[.int .i64 num, .agg #[.int .i64 rows, .slice sg.a sg.len sg.cap], .slice sp.a sp.len sp.cap] w fun v w' =>
      (¬ newOk num rows grps parts ∧ v = .tuple #[.pointer none, .int .i64 1] ∧ Sat R Hs w') ∨
      (newOk num rows grps parts ∧ ∃ p, v = .tuple #[.pointer (some ⟨p, 0, none⟩), .int .i64 0] ∧ Sat R (FlightAt p (emptyF num rows grps (limitsT (layN rows grps) parts).1) :: Hs) w') := by
  apply call51
  refine new_rule hw fun b4 w hw => ?_
  have hw : Sat R (pts b4 (layC rows sg) :: Hs) w := hw
  refine ⟨rows, sg, At.own (eqS hw) (by exact ⟨rfl, rfl, trivial⟩), ?_⟩
  refine (count_spec hg hw).use ?_
  rintro _ w ⟨rfl, hw⟩
  refine ⟨_, rfl, ?_⟩
  refine (limits_spec hp hw).use ?_
  rintro _ w ⟨t, rfl, hw⟩
  have bad : ¬ newOk num rows grps parts → ∀ {w}, Sat R (Own t 3 (intsI (limitsT (layN rows grps) parts).1) :: pts b4 (layC rows sg) :: Hs) w → (¬ newOk num rows grps parts ∧ Value.tuple #[.pointer none, .int .i64 1] = .tuple #[.pointer none, .int .i64 1] ∧ Sat R Hs w) ∨
      (newOk num rows grps parts ∧ ∃ p, Value.tuple #[.pointer none, .int .i64 1] = .tuple #[.pointer (some ⟨p, 0, none⟩), .int .i64 0] ∧ Sat R (FlightAt p (emptyF num rows grps (limitsT (layN rows grps) parts).1) :: Hs) w) := fun h w hw => .inl ⟨h, rfl, hw.drop.drop⟩
  refine ⟨_, _, rfl, Br.d (fun h => bad (fun h2 => by have := h2.1; omega) hw) (fun h1 => Br.d (fun h => bad (fun h2 => by have := h2.2.1; omega) hw) (fun h2 => ?_))⟩
  refine ⟨rows, sg, At.own (eqS hw) (by exact ⟨rfl, rfl, trivial⟩), ?_⟩
  refine (right_spec hg hw).use ?_
  rintro _ w ⟨rfl, hw⟩
  refine ⟨_, rfl, Br.nb (fun h => bad (fun h2 => by have h5 := h2.2.2.1; rw [h] at h5; cases h5) hw) (fun h3 => Br.ne (fun h => bad (fun h2 => h h2.2.2.2) hw) (fun h4 => ?_))⟩
  refine ⟨sg, At.own (eqS hw) (by exact ⟨rfl, trivial⟩), ?_⟩
  obtain ⟨l1, _, _⟩ := layOk_iff.1 h3
  refine (cloneI_spec hg (by omega) hw).use ?_
  rintro _ w ⟨tg, rfl, hw⟩
  refine ⟨tg, rfl, ?_⟩
  refine store_rule hw (by kernel_rfl) rfl (by simp [Value.cells]) fun w hw => ?_
  have hw : Sat R (pts b4 (layC rows tg) :: Own tg 3 (intsI grps) :: Own t 3 (intsI (limitsT (layN rows grps) parts).1) :: Hs) w := hw
  refine ⟨rows, tg, At.own (eqS hw) (by exact ⟨rfl, rfl, trivial⟩), ?_⟩
  have hw : Sat R (Reads tg (intsI grps) :: Reads t (intsI (limitsT (layN rows grps) parts).1) :: Hs) w := Sat.cons (fun _ h => Own.reads h) (Own.reads hw.drop)
  refine (empty_spec (by have := limits_len (s := layN rows grps) (parts := parts); omega) hw).use ?_
  rintro _ w ⟨p, rfl, hw⟩
  exact ⟨_, rfl, .inr ⟨⟨by omega, by omega, h3, h4⟩, p, rfl, hw⟩⟩

def takeF (f : PF) (owner cls many : Int) : PF × Int :=
  if owner < 1 ∨ owner > 28629151 then (f, 1) else if (getM owner f.hs).isSome then (f, 7)
  else if (sellT f.lims f.sold cls many).2 = 0 then ({ f with sold := (sellT f.lims f.sold cls many).1, hs := f.hs ++ [(owner, ⟨owner, cls, many, []⟩)] }, 0) else (f, (sellT f.lims f.sold cls many).2)

theorem take_fspec {p : Nat} {f : PF} {owner cls many : Int} (hl : f.lims.length ≤ 1000) (hs : f.sold.length ≤ 1000) (hw : Sat R (FlightAt p f :: Hs) w) :
    Gets Tryz.prog 26 #[.pointer (some ⟨p, 0, none⟩), .int .i64 owner, .int .i64 cls, .int .i64 many] w fun v w' => v = .int .i64 (takeF f owner cls many).2 ∧ Sat R (FlightAt p (takeF f owner cls many).1 :: Hs) w' := by
  obtain ⟨hm, om, sg, sl, ss, E, R', hE, _, _, rl, rs, hw, back⟩ := Sat.flightO hw
  have same : ∀ {w}, Sat R' (FO p hm om sg sl ss E f Hs) w → Sat R (FlightAt p f :: Hs) w := fun hw => Sat.flightC hE (back _ _ hw)
  have eget : (getM owner f.hs).isSome = (getM owner E).isSome := by rw [← hE, hEr_get, Option.isSome_map]
  apply call26
  refine NilP.mk rfl ⟨some hm, At.own (eqS hw) (by exact ⟨rfl, trivial⟩), (getM owner E).map (fun x => ⟨x.1, 0, none⟩), (getM owner E).isSome, fun w' e => by rw [show w' = w from e]; exact hold_look (hw.take (MapAt hm (hPtrs E))) owner true, ?_⟩
  refine ⟨fun w => (1 ≤ owner ∧ owner ≤ 28629151 ∧ (getM owner E).isSome = false) ∧ Sat R' (FO p hm om sg sl ss E f Hs) w, ?_, ?_⟩
  · refine Br.d (fun h => ?_) (fun h1 => Br.d (fun h => ?_) (fun h2 => Br.mk (fun h => ?_) (fun h => ⟨⟨by omega, by omega, h⟩, hw⟩)))
    · rw [show takeF f owner cls many = (f, 1) by unfold takeF; rw [if_pos (.inl h)]]; exact ⟨rfl, same hw⟩
    · rw [show takeF f owner cls many = (f, 1) by unfold takeF; rw [if_pos (.inr h)]]; exact ⟨rfl, same hw⟩
    · rw [show takeF f owner cls many = (f, 7) by unfold takeF; rw [if_neg (by omega), if_pos (by rw [eget]; exact h)]]; exact ⟨rfl, same hw⟩
  clear hw
  rintro _ w ⟨⟨h1, h2, h3⟩, hw⟩
  have e : takeF f owner cls many = if (sellT f.lims f.sold cls many).2 = 0 then ({ f with sold := (sellT f.lims f.sold cls many).1, hs := f.hs ++ [(owner, ⟨owner, cls, many, []⟩)] }, 0) else (f, (sellT f.lims f.sold cls many).2) := by
    unfold takeF; rw [if_neg (by omega), if_neg (by rw [eget, h3]; simp)]
  rw [e]
  refine drw_rule hw fun w hw => ?_
  refine NilP.mk rfl ⟨sl, At.own selfS (by exact ⟨rfl, trivial⟩), NilP.mk rfl ⟨ss, At.own selfS (by exact ⟨rfl, trivial⟩), ?_⟩⟩
  refine (sell_spec (rl.ro (by rw [List.length_map]; omega)) (rs.ro (by rw [List.length_map]; omega)) hw).use ?_
  rintro _ w ⟨t, rfl, hw⟩
  refine ⟨_, _, rfl, Br.e (fun h4 => ?_) (fun h4 => ?_)⟩
  · rw [if_pos h4, h4]
    refine NilP.mk rfl ?_
    refine store_rule hw (by kernel_rfl) rfl (by simp [Value.cells]) fun w hw => ?_
    have hw : Sat R' (pts p (fCells f sg sl t hm om) :: Own t 3 (intsI (sellT f.lims f.sold cls many).1) :: MapAt hm (hPtrs E) :: MapAt om (oVals f.own) :: HoldsAt E :: Hs) w := hw
    refine NilP.mk rfl ⟨some hm, At.own (eqS hw) (by exact ⟨rfl, trivial⟩), ?_⟩
    refine new_rule hw fun b w hw => ?_
    have hw : Sat R' (pts b (hCells ⟨owner, cls, many, []⟩ ⟨none, 0, 0⟩) :: pts p (fCells f sg sl t hm om) :: Own t 3 (intsI (sellT f.lims f.sold cls many).1) :: MapAt hm (hPtrs E) :: MapAt om (oVals f.own) :: HoldsAt E :: Hs) w := hw
    refine MapAt.put hMap (hw.take (MapAt hm (hPtrs E))) owner (.pointer (some ⟨b, 0, none⟩)) fun w hw => ⟨rfl, ?_⟩
    have ep : putM owner (Value.pointer (some ⟨b, 0, none⟩)) (hPtrs E) = hPtrs (E ++ [(owner, b, ⟨owner, cls, many, []⟩)]) := by
      unfold putM
      rw [hPtrs_get, Option.isSome_map, h3]
      simp [hPtrs]
    rw [ep] at hw
    have hw := hw.take (HoldsAt E)
    have hw := hw.take (pts b (hCells ⟨owner, cls, many, []⟩ ⟨none, 0, 0⟩))
    have hw := (Sat.hold (b := b) (h := ⟨owner, cls, many, []⟩)).2 ⟨⟨none, 0, 0⟩, hw.cons fun _ h => Own.nil (T := 3) h⟩
    rw [← List.append_nil E] at hw
    have hw := (Sat.holds (e := ((owner, b, ⟨owner, cls, many, []⟩) : HE)) (a := E) (b := [])).2 hw
    rw [List.append_nil] at hw
    have hw := hw.take (Own t 3 (intsI (sellT f.lims f.sold cls many).1))
    have hw := back _ _ (Own.reads hw)
    refine Sat.flight.2 ⟨hm, om, sg, sl, t, E ++ [(owner, b, ⟨owner, cls, many, []⟩)], by rw [← hE]; simp [hEr], ?_⟩
    have hw := (hw.take (Reads ss (intsI f.sold))).drop
    exact (((((hw.take (HoldsAt (E ++ [(owner, b, ⟨owner, cls, many, []⟩)]))).take (MapAt om (oVals f.own))).take (MapAt hm (hPtrs (E ++ [(owner, b, ⟨owner, cls, many, []⟩)])))).take (pts p (fCells f sg sl t hm om))).take (Reads t (intsI (sellT f.lims f.sold cls many).1))).take (Reads sl (intsI f.lims)) |>.take (Reads sg (intsI f.grps))
  · rw [if_neg h4]; exact ⟨rfl, same hw.drop⟩
end Go.Proofs.YtaacfjdknlglhaaGreatDoor
/- A flight: Seat, Labels. Condition: bounds on lengths. -/
namespace Go.Proofs.YtaacfjdknlglhaaGreatDoor
set_option linter.unusedVariables false
open Go Go.VC

variable {R : Cx} {Hs Rest : List HP} {w : World}

/-- One hold laid open. -/
abbrev FO1 (p hm om b : Nat) (sg sl ss s : Sl) (E Er : List HE) (f : PF) (h : Hold) (own : List (Int × Int)) (Hs : List HP) : List HP :=
  pts b (hCells h s) :: Own s 3 (intsI h.seats) :: HoldsAt Er :: pts p (fCells f sg sl ss hm om) :: MapAt hm (hPtrs E) :: MapAt om (oVals own) :: Hs
theorem FO.open {p hm om b : Nat} {sg sl ss : Sl} {a c : List HE} {k : Int} {h : Hold} {f : PF} (hw : Sat R (FO p hm om sg sl ss (a ++ (k, b, h) :: c) f Hs) w) : ∃ s, Sat R (FO1 p hm om b sg sl ss s (a ++ (k, b, h) :: c) (a ++ c) f h f.own Hs) w :=
  Sat.hold.1 (Sat.holds.1 (hw.take (HoldsAt (a ++ (k, b, h) :: c))))
theorem FO.close {p hm om b : Nat} {sg sl ss s : Sl} {a c : List HE} {k : Int} {h h' : Hold} {f : PF} {own : List (Int × Int)} (hw : Sat R (FO1 p hm om b sg sl ss s (a ++ (k, b, h) :: c) (a ++ c) f h' own Hs) w) :
    Sat R (FO p hm om sg sl ss (a ++ (k, b, h') :: c) { f with own := own } Hs) w := by
  have hw := (Sat.hold (b := b) (h := h')).2 ⟨s, hw⟩
  have hw := (Sat.holds (e := ((k, b, h') : HE)) (a := a) (b := c)).2 hw
  have e : hPtrs (a ++ (k, b, h') :: c) = hPtrs (a ++ (k, b, h) :: c) := by simp [hPtrs]
  show Sat R (pts p (fCells f sg sl ss hm om) :: MapAt hm (hPtrs (a ++ (k, b, h') :: c)) :: MapAt om (oVals own) :: HoldsAt (a ++ (k, b, h') :: c) :: Hs) w
  rw [e]
  exact ((hw.take (MapAt om (oVals own))).take (MapAt hm (hPtrs (a ++ (k, b, h) :: c)))).take (pts p (fCells f sg sl ss hm om))

theorem both_spec {p hm om : Nat} {sg sl ss : Sl} {E : List HE} {f : PF} {owner : Int} {lab : ByteArray} (hg : RoI R sg f.grps) (hsz : lab.size ≤ 9223372036854775807) (hw : Sat R (FO p hm om sg sl ss E f Hs) w) :
    Gets Tryz.prog 74 #[.pointer (some ⟨p, 0, none⟩), .int .i64 owner, .string lab] w fun v w' =>
      v = .tuple #[.pointer ((getM owner E).map fun x => ⟨x.1, 0, none⟩), .int .i64 (findT f.rows f.grps lab).1, .bool ((getM owner E).isSome && (findT f.rows f.grps lab).2 == 0)] ∧ Sat R (FO p hm om sg sl ss E f Hs) w' := by
  apply call74
  refine NilP.mk rfl ⟨some hm, At.own (eqS hw) (by exact ⟨rfl, trivial⟩), (getM owner E).map (fun x => ⟨x.1, 0, none⟩), (getM owner E).isSome, fun w' e => by rw [show w' = w from e]; exact hold_look (hw.take (MapAt hm (hPtrs E))) owner true, ?_⟩
  refine NilP.mk rfl ⟨f.rows, sg, At.own (eqS hw) (by exact ⟨rfl, rfl, trivial⟩), ?_⟩
  refine (find_spec hg hsz hw).use ?_
  rintro _ w ⟨rfl, hw⟩
  refine ⟨_, _, rfl, Br.mk (fun h => ⟨?_, hw⟩) (fun h => ⟨?_, hw⟩)⟩
  · rw [h]; rfl
  · rw [h]; rfl

def seatF (f : PF) (owner : Int) (lab : ByteArray) : PF × Int :=
  match getM owner f.hs with
  | none => (f, 2)
  | some h => if (findT f.rows f.grps lab).2 ≠ 0 then (f, 2) else if (h.seats.length : Int) ≥ h.many then (f, 7)
    else if (getM (findT f.rows f.grps lab).1 f.own).isSome then (f, 3)
    else ({ f with hs := setM owner (h.put (findT f.rows f.grps lab).1) f.hs, own := putM (findT f.rows f.grps lab).1 h.owner f.own }, 0)

theorem hEr_app (a : List HE) (k : Int) (b : Nat) (h : Hold) (c : List HE) : hEr (a ++ (k, b, h) :: c) = hEr a ++ (k, h) :: hEr c := by simp [hEr]
theorem int_rfl (k : Int) : (k == k) = true := beq_self_eq_true k

theorem seat_fspec {p : Nat} {f : PF} {owner : Int} {lab : ByteArray} (hgl : f.grps.length ≤ 1000) (hsz : lab.size ≤ 9223372036854775807) (hR : ∀ e ∈ f.hs, Rise e.2.seats ∧ e.2.seats.length ≤ 1000000) (hw : Sat R (FlightAt p f :: Hs) w) :
    Gets Tryz.prog 24 #[.pointer (some ⟨p, 0, none⟩), .int .i64 owner, .string lab] w fun v w' => v = .int .i64 (seatF f owner lab).2 ∧ Sat R (FlightAt p (seatF f owner lab).1 :: Hs) w' := by
  obtain ⟨hm, om, sg, sl, ss, E, R', hE, _, rg, _, _, hw, back⟩ := Sat.flightO hw
  have same : ∀ {w}, Sat R' (FO p hm om sg sl ss E f Hs) w → Sat R (FlightAt p f :: Hs) w := fun hw => Sat.flightC hE (back _ _ hw)
  apply call24
  refine (both_spec (rg.ro (by rw [List.length_map]; omega)) hsz hw).use ?_
  clear hw
  rintro _ w ⟨rfl, hw⟩
  refine ⟨_, _, _, rfl, NilP.mk rfl ⟨some om, At.own (eqS hw) (by exact ⟨rfl, trivial⟩), (getM (findT f.rows f.grps lab).1 f.own).getD 0, (getM (findT f.rows f.grps lab).1 f.own).isSome, fun w' e => by rw [show w' = w from e]; exact own_look (hw.take (MapAt om (oVals f.own))) _ true, ?_⟩⟩
  cases hget : getM owner E with
  | none =>
    have e : seatF f owner lab = (f, 2) := by unfold seatF; rw [← hE, hEr_get, hget]; rfl
    rw [e]
    exact Br.t rfl ⟨rfl, same hw⟩
  | some x =>
    obtain ⟨b, h⟩ := x
    have hgf : getM owner f.hs = some h := by rw [← hE, hEr_get, hget]; rfl
    obtain ⟨a, c, rfl, hna⟩ := getM_split hget
    obtain ⟨hr, hl⟩ := hR (owner, h) (by rw [← hE, hEr_app]; simp)
    by_cases h2 : (findT f.rows f.grps lab).2 = 0
    · refine Br.f (by rw [h2]; rfl) ?_
      obtain ⟨s, hw⟩ := FO.open hw
      have hsl := Own.len (hw.take (Own s 3 (intsI h.seats)))
      rw [List.length_map] at hsl
      refine drw_rule hw fun w hw => ?_
      refine NilP.mk rfl ⟨s, At.own selfS (by exact ⟨rfl, trivial⟩), NilP.mk rfl ⟨h.many, At.own selfS (by exact ⟨rfl, trivial⟩), ?_⟩⟩
      refine Br.d (fun h3 => ?_) (fun h3 => ?_)
      · have e : seatF f owner lab = (f, 7) := by unfold seatF; rw [hgf]; dsimp only; rw [if_neg (by rw [h2]; simp), if_pos (by omega)]
        rw [e]; exact ⟨rfl, same (FO.close hw)⟩
      · refine Br.mk (fun h4 => ?_) (fun h4 => ?_)
        · have e : seatF f owner lab = (f, 3) := by unfold seatF; rw [hgf]; dsimp only; rw [if_neg (by rw [h2]; simp), if_neg (by omega), if_pos h4]
          rw [e]; exact ⟨rfl, same (FO.close hw)⟩
        · have e : seatF f owner lab = ({ f with hs := setM owner (h.put (findT f.rows f.grps lab).1) f.hs, own := putM (findT f.rows f.grps lab).1 h.owner f.own }, 0) := by
            unfold seatF; rw [hgf]; dsimp only; rw [if_neg (by rw [h2]; simp), if_neg (by omega), if_neg (by rw [h4]; simp)]
          rw [e]
          have hw : Sat R' (FO p hm om sg sl ss (a ++ (owner, b, h) :: c) f Hs) w := FO.close hw
          refine (tell_spec hr (by omega) hw).use ?_
          rintro _ w ⟨rfl, hw⟩
          refine ⟨rfl, rfl, ?_⟩
          refine Sat.flight.2 ⟨hm, om, sg, sl, ss, a ++ (owner, b, h.put (findT f.rows f.grps lab).1) :: c, ?_, back _ _ hw⟩
          show _ = setM owner _ f.hs
          rw [← hE, hEr_app, hEr_app, setM_app (by rw [hEr_get, hna]; rfl) (int_rfl owner)]
    · have e : seatF f owner lab = (f, 2) := by unfold seatF; rw [hgf]; dsimp only; rw [if_pos h2]
      rw [e]
      exact Br.t (by simp [h2]) ⟨rfl, same hw⟩

end Go.Proofs.YtaacfjdknlglhaaGreatDoor
/- A flight: Labels, Unseat. Condition: bounds on lengths. -/
namespace Go.Proofs.YtaacfjdknlglhaaGreatDoor
set_option linter.unusedVariables false
open Go Go.VC

variable {R : Cx} {Hs Rest : List HP} {w : World}

def labelsF (f : PF) (owner : Int) : List ByteArray := match getM owner f.hs with | none => [] | some h => labsF f.rows f.grps h.seats

theorem labels_fspec {p : Nat} {f : PF} {owner : Int} (hgl : f.grps.length ≤ 1000) (hR : ∀ e ∈ f.hs, e.2.seats.length ≤ 1000000) (hw : Sat R (FlightAt p f :: Hs) w) :
    Gets Tryz.prog 22 #[.pointer (some ⟨p, 0, none⟩), .int .i64 owner] w fun v w' => ∃ t : Sl, v = .slice t.a t.len t.cap ∧ Sat R (Own t 9 ((labelsF f owner).map Value.string) :: FlightAt p f :: Hs) w' := by
  obtain ⟨hm, om, sg, sl, ss, E, R', hE, _, rg, _, _, hw, back⟩ := Sat.flightO hw
  apply call22
  refine NilP.mk rfl ⟨some hm, At.own (eqS hw) (by exact ⟨rfl, trivial⟩), (getM owner E).map (fun x => ⟨x.1, 0, none⟩), (getM owner E).isSome, fun w' e => by rw [show w' = w from e]; exact hold_look (hw.take (MapAt hm (hPtrs E))) owner true, ?_⟩
  cases hget : getM owner E with
  | none =>
    have e : labelsF f owner = [] := by unfold labelsF; rw [← hE, hEr_get, hget]; rfl
    rw [e]
    exact Br.t rfl ⟨⟨none, 0, 0⟩, rfl, Own.nil (Sat.flightC hE (back _ _ hw))⟩
  | some x =>
    obtain ⟨b, h⟩ := x
    have hgf : getM owner f.hs = some h := by rw [← hE, hEr_get, hget]; rfl
    have e : labelsF f owner = labsF f.rows f.grps h.seats := by unfold labelsF; rw [hgf]
    rw [e]
    obtain ⟨a, c, rfl, hna⟩ := getM_split hget
    have hl : h.seats.length ≤ 1000000 := hR (owner, h) (by rw [← hE, hEr_app]; simp)
    refine Br.f rfl (NilP.mk rfl ?_)
    obtain ⟨s, hw⟩ := FO.open hw
    refine ⟨s, At.own (eqS hw) (by exact ⟨rfl, trivial⟩), ?_⟩
    obtain ⟨R2, hro, hmono, hw2, back2⟩ := Own.lend (hw.take (Own s 3 (intsI h.seats))) (by rw [List.length_map]; omega)
    refine (labels_spec (f := f) (hm := hm) (om := om) (sg := sg) (sl := sl) (ss := ss) (hmono _ _ (rg.ro (by rw [List.length_map]; omega))) hro hl hw2).use ?_
    clear hw hw2
    rintro _ w ⟨t, rfl, hw⟩
    refine ⟨t, rfl, t, rfl, ?_⟩
    have hw := (back2 hw).swap
    have hw := back _ _ (Sat.cons (fun _ h5 => FO.close (f := f) (h5.take (pts b (hCells h s)))) hw)
    exact Sat.cons (fun _ h5 => Sat.flightC hE h5) (hw.take (Own t 9 ((labsF f.rows f.grps h.seats).map Value.string)))

/-! ### Taken back -/
theorem unseat1_spec {bn : Nat} {x n : Int} {Hs : List HP} [tk : TakeP bn Hs (oneC n 3) Rest] (hw : Sat R Hs w) : Gets Tryz.prog 76 #[.int .i64 x, .pointer (some ⟨bn, 0, none⟩)] w fun v w' => v = .bool (x == n) ∧ Sat R Hs w' := by
  apply call76
  exact NilP.mk rfl ⟨n, At.own (l := [.int .i64 n]) (t := tk) (eqS hw) (by exact ⟨rfl, trivial⟩), rfl, hw⟩

/-- The hold, with a seat less. -/
def Hold.cut (h : Hold) (n : Int) : Hold := { h with seats := h.seats.filter fun x => !(x == n) }
def unseatF (f : PF) (owner : Int) (lab : ByteArray) : PF × Int :=
  match getM owner f.hs with
  | none => (f, 2)
  | some h => if (findT f.rows f.grps lab).2 ≠ 0 then (f, 2) else if (getM (findT f.rows f.grps lab).1 f.own).getD 0 ≠ owner then (f, 2)
    else ({ f with hs := setM owner (h.cut (findT f.rows f.grps lab).1) f.hs, own := delM (findT f.rows f.grps lab).1 f.own }, 0)

theorem unseat_fspec {p : Nat} {f : PF} {owner : Int} {lab : ByteArray} (hgl : f.grps.length ≤ 1000) (hsz : lab.size ≤ 9223372036854775807) (hR : ∀ e ∈ f.hs, e.2.seats.length ≤ 1000000) (hw : Sat R (FlightAt p f :: Hs) w) :
    Gets Tryz.prog 25 #[.pointer (some ⟨p, 0, none⟩), .int .i64 owner, .string lab] w fun v w' => v = .int .i64 (unseatF f owner lab).2 ∧ Sat R (FlightAt p (unseatF f owner lab).1 :: Hs) w' := by
  obtain ⟨hm, om, sg, sl, ss, E, R', hE, _, rg, _, _, hw, back⟩ := Sat.flightO hw
  have same : ∀ {w}, Sat R' (FO p hm om sg sl ss E f Hs) w → Sat R (FlightAt p f :: Hs) w := fun hw => Sat.flightC hE (back _ _ hw)
  apply call25
  refine (both_spec (rg.ro (by rw [List.length_map]; omega)) hsz hw).use ?_
  clear hw
  rintro _ w ⟨rfl, hw⟩
  refine ⟨_, _, _, rfl, ?_⟩
  refine new_rule hw fun bn w hw => ?_
  have hw : Sat R' (pts bn (oneC 0 3) :: FO p hm om sg sl ss E f Hs) w := hw
  refine store_rule hw (by kernel_rfl) rfl (by simp [Value.cells]) fun w hw => ?_
  generalize hn : (findT f.rows f.grps lab).1 = n at *
  have hw : Sat R' (pts bn (oneC n 3) :: FO p hm om sg sl ss E f Hs) w := hw
  refine ⟨fun w => ((getM owner E).isSome = true ∧ (findT f.rows f.grps lab).2 = 0 ∧ (getM n f.own).getD 0 = owner) ∧ Sat R' (pts bn (oneC n 3) :: FO p hm om sg sl ss E f Hs) w, ?_, ?_⟩
  · refine drw_rule hw fun w hw => ?_
    have bad : ¬ ((getM owner E).isSome = true ∧ (findT f.rows f.grps lab).2 = 0 ∧ (getM n f.own).getD 0 = owner) → Value.int .i64 2 = .int .i64 (unseatF f owner lab).2 ∧ Sat R (FlightAt p (unseatF f owner lab).1 :: Hs) w := fun hno => by
      have e : unseatF f owner lab = (f, 2) := by
        unfold unseatF
        rw [← hE, hEr_get, hn]
        cases hget : getM owner E with
        | none => rfl
        | some x =>
          dsimp only [Option.map_some]
          by_cases h2 : (findT f.rows f.grps lab).2 = 0
          · rw [if_neg (by rw [h2]; simp), if_pos (fun h3 => hno ⟨by rw [hget]; rfl, h2, h3⟩)]
          · rw [if_pos h2]
      rw [e]; exact ⟨rfl, same hw.drop⟩
    refine Br.nb (fun h => bad (fun h2 => ?_)) (fun h => ?_)
    · rw [h2.1, h2.2.1] at h; cases h
    · simp only [Bool.and_eq_true, beq_iff_eq] at h
      refine NilP.mk rfl ⟨some om, At.own selfS (by exact ⟨rfl, trivial⟩), n, At.own selfS (by exact ⟨rfl, trivial⟩), (getM n f.own).getD 0, fun w' hs => own_look (hs.take (MapAt om (oVals f.own))) n false, ?_⟩
      exact Br.ne (fun h3 => bad (fun h2 => h3 h2.2.2)) (fun h3 => ⟨⟨h.1, h.2, h3⟩, hw⟩)
  clear hw
  rintro _ w ⟨⟨h1, h2, h3⟩, hw⟩
  obtain ⟨x, hget⟩ := Option.isSome_iff_exists.1 h1
  obtain ⟨b, h⟩ := x
  have hgf : getM owner f.hs = some h := by rw [← hE, hEr_get, hget]; rfl
  have e : unseatF f owner lab = ({ f with hs := setM owner (h.cut n) f.hs, own := delM n f.own }, 0) := by
    unfold unseatF; rw [hgf, hn]; dsimp only; rw [if_neg (by rw [h2]; simp), if_neg (by rw [h3]; simp)]
  rw [e, hget]
  obtain ⟨a, c, rfl, hna⟩ := getM_split hget
  have hl : h.seats.length ≤ 1000000 := hR (owner, h) (by rw [← hE, hEr_app]; simp)
  obtain ⟨s, hw⟩ := FO.open (hw.take (pts p (fCells f sg sl ss hm om)) |> fun h5 => ((h5.take (HoldsAt (a ++ (owner, b, h) :: c))).take (MapAt om (oVals f.own))).take (MapAt hm (hPtrs (a ++ (owner, b, h) :: c))) |> fun h5 => h5.take (pts p (fCells f sg sl ss hm om)))
  refine NilP.mk rfl ⟨s, At.own (eqS hw) (by exact ⟨rfl, trivial⟩), ?_⟩
  have hw : Sat R' (Own s 3 (intsI h.seats) :: pts b (hCells h s) :: HoldsAt (a ++ c) :: pts p (fCells f sg sl ss hm om) :: MapAt hm (hPtrs (a ++ (owner, b, h) :: c)) :: MapAt om (oVals f.own) :: pts bn (oneC n 3) :: Hs) w := hw.swap
  refine (deleteF_spec (p := fun x => x == n) (by omega) (fun x l' w hw => CalW.mk (by kernel_rfl) ((unseat1_spec (n := n) hw).use fun v w' h5 => ⟨by rw [h5.1], h5.2⟩)) hw).use ?_
  clear hw
  rintro _ w ⟨t, rfl, hw⟩
  refine ⟨t, rfl, NilP.mk rfl ?_⟩
  refine store_rule hw (by kernel_rfl) rfl (by simp [Value.cells]) fun w hw => ?_
  have hw : Sat R' (pts b (hCells (h.cut n) t) :: Own t 3 (intsI (h.cut n).seats) :: HoldsAt (a ++ c) :: pts p (fCells f sg sl ss hm om) :: MapAt hm (hPtrs (a ++ (owner, b, h) :: c)) :: MapAt om (oVals f.own) :: pts bn (oneC n 3) :: Hs) w := hw
  refine drw_rule hw fun w hw => ?_
  refine NilP.mk rfl ⟨some om, At.own selfS (by exact ⟨rfl, trivial⟩), n, At.own selfS (by exact ⟨rfl, trivial⟩), ?_⟩
  refine MapAt.del oMap (hw.take (MapAt om (oVals f.own))) n fun w hw => ⟨rfl, ?_⟩
  rw [delM_map (Value.int .i64) n f.own] at hw
  have hw := (hw.take (pts bn (oneC n 3))).drop
  have hw : Sat R' (FO1 p hm om b sg sl ss t (a ++ (owner, b, h) :: c) (a ++ c) f (h.cut n) (delM n f.own) Hs) w :=
    ((((hw.take (MapAt hm (hPtrs (a ++ (owner, b, h) :: c)))).take (pts p (fCells f sg sl ss hm om))).take (HoldsAt (a ++ c))).take (Own t 3 (intsI (h.cut n).seats))).take (pts b (hCells (h.cut n) t)) |> fun h5 => h5.perm (by
      refine List.Perm.cons _ (List.Perm.cons _ (List.Perm.cons _ (List.Perm.cons _ (List.Perm.refl _)))))
  have hw := FO.close hw
  refine Sat.flight.2 ⟨hm, om, sg, sl, ss, a ++ (owner, b, h.cut n) :: c, ?_, back _ _ hw⟩
  show _ = setM owner _ f.hs
  rw [← hE, hEr_app, hEr_app, setM_app (by rw [hEr_get, hna]; rfl) (int_rfl owner)]
end Go.Proofs.YtaacfjdknlglhaaGreatDoor
/- A flight: Left, Give. Condition: bounds on lengths. -/
namespace Go.Proofs.YtaacfjdknlglhaaGreatDoor
set_option linter.unusedVariables false
open Go Go.VC

variable {R : Cx} {Hs Rest : List HP} {w : World}

def leftsF (f : PF) : List Int := (List.range f.lims.length).map fun (k : Nat) => (leftT f.lims f.sold k).1
def leftsTo (f : PF) (j : Nat) : List Int := (List.range f.lims.length).map fun (k : Nat) => if k < j then (leftT f.lims f.sold k).1 else 0
theorem leftsTo_set (f : PF) {j : Nat} (h : j < f.lims.length) : (leftsTo f j).set j (leftT f.lims f.sold j).1 = leftsTo f (j + 1) := by
  apply List.ext_getElem
  · simp [leftsTo]
  · intro i h1 h2
    simp only [leftsTo, List.length_set, List.length_map, List.length_range] at h1 h2
    rw [List.getElem_set]
    simp only [leftsTo, List.getElem_map, List.getElem_range]
    split
    · rename_i h3; subst h3; rw [if_pos (by omega)]
    · by_cases h4 : i < j
      · rw [if_pos h4, if_pos (by omega)]
      · rw [if_neg h4, if_neg (by omega)]

theorem left_fspec {p : Nat} {f : PF} (hl : f.lims.length ≤ 1000) (hs : f.sold.length ≤ 1000) (hw : Sat R (FlightAt p f :: Hs) w) :
    Gets Tryz.prog 29 #[.pointer (some ⟨p, 0, none⟩)] w fun v w' => ∃ t : Sl, v = .slice t.a t.len t.cap ∧ Sat R (Own t 3 (intsI (leftsF f)) :: FlightAt p f :: Hs) w' := by
  obtain ⟨hm, om, sg, sl, ss, E, R', hE, _, _, rl, rs, hw, back⟩ := Sat.flightO hw
  have hsl : sl.len = f.lims.length := by have := rl.len; rw [List.length_map] at this; exact this
  apply call29
  refine NilP.mk rfl ⟨sl, At.own (eqS hw) (by exact ⟨rfl, trivial⟩), ?_⟩
  rw [hsl]
  refine zer_rule hl hw fun t w hw => ?_
  have e0 : List.replicate f.lims.length (0 : Int) = leftsTo f 0 := by
    apply List.ext_getElem
    · simp [leftsTo]
    · intro i h1 h2; simp [leftsTo]
  rw [e0] at hw
  refine ⟨fun i w => ∃ j : Nat, i = j ∧ j ≤ f.lims.length ∧ Sat R' (Own t 3 (intsI (leftsTo f j)) :: FO p hm om sg sl ss E f Hs) w, fun i _ => f.lims.length - i.toNat, ⟨0, rfl, by omega, hw⟩, ?_⟩
  clear hw
  rintro _ _ w ⟨j, rfl, hj, hw⟩
  have htl := Own.len hw
  simp only [leftsTo, List.length_map, List.length_range] at htl
  refine Br.d (fun h => ?_) (fun h => ?_)
  · have hj2 : j < f.lims.length := by omega
    refine drw_rule hw fun w hw => ?_
    refine NilP.mk rfl ⟨sl, At.own selfS (by exact ⟨rfl, trivial⟩), NilP.mk rfl ⟨ss, At.own selfS (by exact ⟨rfl, trivial⟩), ?_⟩⟩
    refine (left_spec (rl.ro (by rw [List.length_map]; omega)) (rs.ro (by rw [List.length_map]; omega)) hw).use ?_
    rintro _ w ⟨rfl, hw⟩
    refine ⟨_, _, rfl, ?_⟩
    refine Own.store (by kernel_rfl) hw (by simp [leftsTo]; exact hj2) fun w hw => ?_
    rw [leftsTo_set f hj2] at hw
    rw [wrap64 (by omega) (by omega)]
    exact ⟨⟨j + 1, by omega, by omega, hw⟩, by dsimp only; omega⟩
  · obtain rfl : j = f.lims.length := by omega
    have e1 : leftsTo f f.lims.length = leftsF f := by
      unfold leftsTo leftsF
      refine List.map_congr_left fun k hk => ?_
      rw [if_pos (List.mem_range.1 hk)]
    rw [e1] at hw
    refine ⟨t, rfl, ?_⟩
    have hw := back _ _ hw
    exact Sat.cons (fun _ h5 => Sat.flightC hE h5) (hw.take (Own t 3 (intsI (leftsF f))))

/-! ### Given back -/
def delAll (l : List Int) (own : List (Int × Int)) : List (Int × Int) := l.foldl (fun o n => delM n o) own
def giveF (f : PF) (owner : Int) : PF × Int :=
  match getM owner f.hs with
  | none => (f, 2)
  | some h => ({ f with own := delAll h.seats f.own, sold := (backT f.lims f.sold h.cls h.many).1, hs := delM owner f.hs }, 0)

theorem give_fspec {p : Nat} {f : PF} {owner : Int} (hll : f.lims.length ≤ 1000) (hls : f.sold.length ≤ 1000) (hR : ∀ e ∈ f.hs, e.2.seats.length ≤ 1000000) (hw : Sat R (FlightAt p f :: Hs) w) :
    Gets Tryz.prog 27 #[.pointer (some ⟨p, 0, none⟩), .int .i64 owner] w fun v w' => v = .int .i64 (giveF f owner).2 ∧ Sat R (FlightAt p (giveF f owner).1 :: Hs) w' := by
  obtain ⟨hm, om, sg, sl, ss, E, R', hE, _, _, rl, rs, hw, back⟩ := Sat.flightO hw
  apply call27
  refine NilP.mk rfl ⟨some hm, At.own (eqS hw) (by exact ⟨rfl, trivial⟩), (getM owner E).map (fun x => ⟨x.1, 0, none⟩), (getM owner E).isSome, fun w' e => by rw [show w' = w from e]; exact hold_look (hw.take (MapAt hm (hPtrs E))) owner true, ?_⟩
  cases hget : getM owner E with
  | none =>
    have e : giveF f owner = (f, 2) := by unfold giveF; rw [← hE, hEr_get, hget]; rfl
    rw [e]
    exact Br.t rfl ⟨rfl, Sat.flightC hE (back _ _ hw)⟩
  | some x =>
    obtain ⟨b, h⟩ := x
    have hgf : getM owner f.hs = some h := by rw [← hE, hEr_get, hget]; rfl
    have e : giveF f owner = ({ f with own := delAll h.seats f.own, sold := (backT f.lims f.sold h.cls h.many).1, hs := delM owner f.hs }, 0) := by unfold giveF; rw [hgf]
    rw [e]
    obtain ⟨a, c, rfl, hna⟩ := getM_split hget
    have hl : h.seats.length ≤ 1000000 := hR (owner, h) (by rw [← hE, hEr_app]; simp)
    refine Br.f rfl (NilP.mk rfl ?_)
    obtain ⟨s, hw⟩ := FO.open hw
    have hsl := Own.len (hw.take (Own s 3 (intsI h.seats)))
    rw [List.length_map] at hsl
    refine ⟨s, At.own (eqS hw) (by exact ⟨rfl, trivial⟩), ?_⟩
    refine ⟨fun i w => ∃ j : Nat, i = j ∧ j ≤ h.seats.length ∧ Sat R' (FO1 p hm om b sg sl ss s (a ++ (owner, b, h) :: c) (a ++ c) f h (delAll (h.seats.take j) f.own) Hs) w, fun i _ => h.seats.length - i.toNat, ⟨0, rfl, by omega, hw⟩, ?_⟩
    clear hw
    rintro _ _ w ⟨j, rfl, hj, hw⟩
    refine Br.d (fun h2 => ?_) (fun h2 => ?_)
    · have hj2 : j < h.seats.length := by omega
      refine Own.ix (hw.take (Own s 3 (intsI h.seats))) (eqS (hw.take (Own s 3 (intsI h.seats)))) j rfl hj2 ?_
      refine NilP.mk rfl ⟨some om, At.own (eqS hw) (by exact ⟨rfl, trivial⟩), ?_⟩
      refine MapAt.del oMap (hw.take (MapAt om (oVals (delAll (h.seats.take j) f.own)))) h.seats[j] fun w hw => ?_
      rw [delM_map (Value.int .i64) h.seats[j] (delAll (h.seats.take j) f.own)] at hw
      have ed : delM h.seats[j] (delAll (h.seats.take j) f.own) = delAll (h.seats.take (j + 1)) f.own := by
        unfold delAll
        rw [List.take_add_one, List.getElem?_eq_getElem hj2, Option.toList_some, List.foldl_append]; rfl
      rw [ed] at hw
      rw [wrap64 (by omega) (by omega)]
      refine ⟨⟨j + 1, by omega, by omega, ?_⟩, by dsimp only; omega⟩
      exact ((((hw.take (MapAt hm (hPtrs (a ++ (owner, b, h) :: c)))).take (pts p (fCells f sg sl ss hm om))).take (HoldsAt (a ++ c))).take (Own s 3 (intsI h.seats))).take (pts b (hCells h s))
    · rw [List.take_of_length_le (by omega)] at hw
      refine drw_rule hw fun w hw => ?_
      refine NilP.mk rfl ⟨sl, At.own selfS (by exact ⟨rfl, trivial⟩), NilP.mk rfl ⟨ss, At.own selfS (by exact ⟨rfl, trivial⟩), NilP.mk rfl ⟨h.cls, At.own selfS (by exact ⟨rfl, trivial⟩), NilP.mk rfl ⟨h.many, At.own selfS (by exact ⟨rfl, trivial⟩), ?_⟩⟩⟩⟩
      refine (back_spec (rl.ro (by rw [List.length_map]; omega)) (rs.ro (by rw [List.length_map]; omega)) hw).use ?_
      rintro _ w ⟨t, rfl, hw⟩
      refine ⟨_, _, rfl, NilP.mk rfl ?_⟩
      refine store_rule hw (by kernel_rfl) rfl (by simp [Value.cells]) fun w hw => ?_
      have hw : Sat R' (pts p (fCells f sg sl t hm om) :: Own t 3 (intsI (backT f.lims f.sold h.cls h.many).1) :: pts b (hCells h s) :: Own s 3 (intsI h.seats) :: HoldsAt (a ++ c) :: MapAt hm (hPtrs (a ++ (owner, b, h) :: c)) :: MapAt om (oVals (delAll h.seats f.own)) :: Hs) w := hw
      refine NilP.mk rfl ⟨some hm, At.own (eqS hw) (by exact ⟨rfl, trivial⟩), ?_⟩
      refine MapAt.del hMap (hw.take (MapAt hm (hPtrs (a ++ (owner, b, h) :: c)))) owner fun w hw => ⟨rfl, ?_⟩
      have ep : delM owner (hPtrs (a ++ (owner, b, h) :: c)) = hPtrs (a ++ c) := by
        rw [show hPtrs (a ++ (owner, b, h) :: c) = hPtrs a ++ (owner, Value.pointer (some ⟨b, 0, none⟩)) :: hPtrs c by simp [hPtrs], delM_app (by rw [hPtrs_get, hna]; rfl) (int_rfl owner)]
        simp [hPtrs]
      rw [ep] at hw
      have hw := (hw.take (pts b (hCells h s))).drop
      have hw := (hw.take (Own s 3 (intsI h.seats))).drop
      have hw := hw.take (Own t 3 (intsI (backT f.lims f.sold h.cls h.many).1))
      have hw := back _ _ (Own.reads hw)
      have hw := (hw.take (Reads ss (intsI f.sold))).drop
      refine Sat.flight.2 ⟨hm, om, sg, sl, t, a ++ c, ?_, ?_⟩
      · show _ = delM owner f.hs
        rw [← hE, hEr_app, delM_app (by rw [hEr_get, hna]; rfl) (int_rfl owner)]
        simp [hEr]
      · exact (((((hw.take (HoldsAt (a ++ c))).take (MapAt om (oVals (delAll h.seats f.own)))).take (MapAt hm (hPtrs (a ++ c)))).take (pts p (fCells f sg sl t hm om))).take (Reads t (intsI (backT f.lims f.sold h.cls h.many).1))).take (Reads sl (intsI f.lims)) |>.take (Reads sg (intsI f.grps))
end Go.Proofs.YtaacfjdknlglhaaGreatDoor
/-
  DERIVED: THE SHELF's CONTRACTS AT THIS DUMP, IN PLAIN WORDS (tools/lay-plain.mjs out of 'TryIter.lean', which tools/lay-shelf.mjs wrote): THE SAME DECLARATIONS UNDER THE SAME NAMES: 'import', 'namespace', 'open', 'def', 'theorem' AND NOTHING ELSE: no command of the shelf's: FOR A HAND-IN. Each laying: the table of numbers ('.._ren') and one theorem, a field a fact of the dump's own or the kernel's comparison; each contract: ONE APPLICATION.
-/
namespace Go.Proofs
set_option linter.unusedVariables false
open Go.Shelf
def Tryz.sorted57_ren : Go.Shelf.Ren := ⟨fun | 6 => 57 | 8 => 63 | 9 => 100 | 11 => 104 | 13 => 123 | 12 => 122 | 23 => 139 | 24 => 111 | 14 => 131 | 15 => 132 | 16 => 133 | 17 => 134 | 18 => 135 | 19 => 136 | 20 => 124 | 21 => 137 | 22 => 138 | 25 => 145 | 26 => 146 | 27 => 147 | 28 => 148 | 29 => 149 | 30 => 140 | 31 => 155 | n => n, fun | 26 => 3 | 28 => 91 | 24 => 33 | 0 => 0 | 3 => 3 | 37 => 146 | 48 => 165 | 50 => 70 | 4 => 4 | 40 => 159 | 39 => 158 | 45 => 110 | 5 => 5 | 9 => 9 | 51 => 166 | 55 => 170 | 57 => 177 | 58 => 136 | 33 => 112 | n => n, fun | n => n⟩
theorem Tryz.sorted57 : Go.Proofs.SlLaysZI.n6 Tryz.prog Tryz.sorted57_ren := {
  mixed := by kernel_rfl
  f6 := ⟨Tryz.f57.name, by decide, Tryz.func57.trans (congrArg some (by kernel_rfl))⟩
  f8 := ⟨Tryz.f63.name, by decide, Tryz.func63.trans (congrArg some (by kernel_rfl))⟩
  f11 := ⟨Tryz.f104.name, by decide, Tryz.func104.trans (congrArg some (by kernel_rfl))⟩
  t0 := Tryz.underlying0
  a0 := Tryz.isAgg0
  z0 := Tryz.sizeOf0
  v0 := Tryz.zeroValue0
  t24 := Tryz.underlying33
  a24 := Tryz.isAgg33
  z24 := Tryz.sizeOf33
  v24 := Tryz.zeroValue33
  t26 := Tryz.underlying3
  a26 := Tryz.isAgg3
  z26 := Tryz.sizeOf3
  v26 := Tryz.zeroValue3
  t28 := Tryz.underlying91
  a28 := Tryz.isAgg91
  z28 := Tryz.sizeOf91
  v28 := Tryz.zeroValue91
  i26 := by kernel_rfl }
def Tryz.sort100_ren : Go.Shelf.Ren := ⟨fun | 5 => 100 | 8 => 123 | 7 => 122 | 19 => 139 | 20 => 111 | 10 => 131 | 11 => 132 | 12 => 133 | 13 => 134 | 14 => 135 | 15 => 136 | 16 => 124 | 17 => 137 | 18 => 138 | 30 => 145 | 31 => 146 | 32 => 147 | 33 => 148 | 34 => 149 | 35 => 140 | 40 => 155 | n => n, fun | 23 => 33 | 25 => 3 | 3 => 3 | 32 => 146 | 22 => 33 | 0 => 0 | 44 => 165 | 46 => 70 | 4 => 4 | 36 => 159 | 35 => 158 | 41 => 110 | 5 => 5 | 9 => 9 | 53 => 166 | 57 => 170 | 63 => 177 | 64 => 136 | n => n, fun | n => n⟩
theorem Tryz.sort100 : Go.Proofs.SlLaysM.n5 Tryz.prog Tryz.sort100_ren := {
  mixed := by kernel_rfl
  f5 := ⟨Tryz.f100.name, by decide, Tryz.func100.trans (congrArg some (by kernel_rfl))⟩
  f7 := ⟨Tryz.f122.name, by decide, Tryz.func122.trans (congrArg some (by kernel_rfl))⟩
  f8 := Tryz.func123.trans (congrArg some (by kernel_rfl))
  f10 := ⟨Tryz.f131.name, by decide, Tryz.func131.trans (congrArg some (by kernel_rfl))⟩
  f11 := ⟨Tryz.f132.name, by decide, Tryz.func132.trans (congrArg some (by kernel_rfl))⟩
  f12 := ⟨Tryz.f133.name, by decide, Tryz.func133.trans (congrArg some (by kernel_rfl))⟩
  f13 := ⟨Tryz.f134.name, by decide, Tryz.func134.trans (congrArg some (by kernel_rfl))⟩
  f14 := ⟨Tryz.f135.name, by decide, Tryz.func135.trans (congrArg some (by kernel_rfl))⟩
  f15 := ⟨Tryz.f136.name, by decide, Tryz.func136.trans (congrArg some (by kernel_rfl))⟩
  f16 := ⟨Tryz.f124.name, by decide, Tryz.func124.trans (congrArg some (by kernel_rfl))⟩
  f17 := ⟨Tryz.f137.name, by decide, Tryz.func137.trans (congrArg some (by kernel_rfl))⟩
  f18 := ⟨Tryz.f138.name, by decide, Tryz.func138.trans (congrArg some (by kernel_rfl))⟩
  f19 := Tryz.func139.trans (congrArg some (by kernel_rfl))
  f20 := Tryz.func111.trans (congrArg some (by kernel_rfl))
  f30 := ⟨Tryz.f145.name, by decide, Tryz.func145.trans (congrArg some (by kernel_rfl))⟩
  f31 := Tryz.func146.trans (congrArg some (by kernel_rfl))
  f32 := Tryz.func147.trans (congrArg some (by kernel_rfl))
  f33 := ⟨Tryz.f148.name, by decide, Tryz.func148.trans (congrArg some (by kernel_rfl))⟩
  f34 := ⟨Tryz.f149.name, by decide, Tryz.func149.trans (congrArg some (by kernel_rfl))⟩
  f35 := ⟨Tryz.f140.name, by decide, Tryz.func140.trans (congrArg some (by kernel_rfl))⟩
  f40 := ⟨Tryz.f155.name, by decide, Tryz.func155.trans (congrArg some (by kernel_rfl))⟩
  t0 := Tryz.underlying0
  a0 := Tryz.isAgg0
  z0 := Tryz.sizeOf0
  v0 := Tryz.zeroValue0
  t3 := Tryz.underlying3
  a3 := Tryz.isAgg3
  z3 := Tryz.sizeOf3
  v3 := Tryz.zeroValue3
  t4 := Tryz.underlying4
  a4 := Tryz.isAgg4
  z4 := Tryz.sizeOf4
  v4 := Tryz.zeroValue4
  t5 := Tryz.underlying5
  a5 := Tryz.isAgg5
  z5 := Tryz.sizeOf5
  v5 := Tryz.zeroValue5
  t9 := Tryz.underlying9
  a9 := Tryz.isAgg9
  z9 := Tryz.sizeOf9
  v9 := Tryz.zeroValue9
  t22 := Tryz.underlying33
  a22 := Tryz.isAgg33
  z22 := Tryz.sizeOf33
  v22 := Tryz.zeroValue33
  t23 := Tryz.underlying33
  a23 := Tryz.isAgg33
  z23 := Tryz.sizeOf33
  v23 := Tryz.zeroValue33
  t25 := Tryz.underlying3
  a25 := Tryz.isAgg3
  z25 := Tryz.sizeOf3
  v25 := Tryz.zeroValue3
  t32 := Tryz.underlying146
  a32 := Tryz.isAgg146
  z32 := Tryz.sizeOf146
  v32 := Tryz.zeroValue146
  t35 := Tryz.underlying158
  a35 := Tryz.isAgg158
  z35 := Tryz.sizeOf158
  v35 := Tryz.zeroValue158
  t36 := Tryz.underlying159
  a36 := Tryz.isAgg159
  z36 := Tryz.sizeOf159
  v36 := Tryz.zeroValue159
  t41 := Tryz.underlying110
  a41 := Tryz.isAgg110
  z41 := Tryz.sizeOf110
  v41 := Tryz.zeroValue110
  t44 := Tryz.underlying165
  a44 := Tryz.isAgg165
  z44 := Tryz.sizeOf165
  v44 := Tryz.zeroValue165
  t46 := Tryz.underlying70
  a46 := Tryz.isAgg70
  z46 := Tryz.sizeOf70
  v46 := Tryz.zeroValue70
  t53 := Tryz.underlying166
  a53 := Tryz.isAgg166
  z53 := Tryz.sizeOf166
  v53 := Tryz.zeroValue166
  t57 := Tryz.underlying170
  a57 := Tryz.isAgg170
  z57 := Tryz.sizeOf170
  v57 := Tryz.zeroValue170
  t63 := Tryz.underlying177
  a63 := Tryz.isAgg177
  z63 := Tryz.sizeOf177
  v63 := Tryz.zeroValue177
  t64 := Tryz.underlying136
  a64 := Tryz.isAgg136
  z64 := Tryz.sizeOf136
  v64 := Tryz.zeroValue136 }
open Go.RowKit Go.Maps Go.Sort Go.Shelf in
theorem Tryz.sorts57 (m : Nat) : AnyZI.SortsIn Tryz.prog Tryz.sorted57_ren Fence.wide m :=
  ⟨fun blk off cap ss W hH hblk hsz => callsIn_wide.2 (AnyM.slices_Sort_int Tryz.sort100 blk off cap ss W hH hblk hsz),
   fun p cap W => callsIn_wide.2 (AnyM.slices_Sort_int_none Tryz.sort100 p cap W)⟩
def Tryz.collect63_ren : Go.Shelf.Ren := ⟨fun | 8 => 63 | 11 => 104 | n => n, fun | 26 => 3 | 28 => 91 | 24 => 33 | 0 => 0 | 33 => 112 | 4 => 4 | n => n, fun | n => n⟩
theorem Tryz.collect63 : Go.Proofs.SlLaysZI.n8 Tryz.prog Tryz.collect63_ren := {
  mixed := by kernel_rfl
  f8 := ⟨Tryz.f63.name, by decide, Tryz.func63.trans (congrArg some (by kernel_rfl))⟩
  f11 := ⟨Tryz.f104.name, by decide, Tryz.func104.trans (congrArg some (by kernel_rfl))⟩
  t0 := Tryz.underlying0
  a0 := Tryz.isAgg0
  z0 := Tryz.sizeOf0
  v0 := Tryz.zeroValue0
  t24 := Tryz.underlying33
  a24 := Tryz.isAgg33
  z24 := Tryz.sizeOf33
  v24 := Tryz.zeroValue33
  t26 := Tryz.underlying3
  a26 := Tryz.isAgg3
  z26 := Tryz.sizeOf3
  v26 := Tryz.zeroValue3
  t28 := Tryz.underlying91
  a28 := Tryz.isAgg91
  z28 := Tryz.sizeOf91
  v28 := Tryz.zeroValue91
  i26 := by kernel_rfl }
def Tryz.keys58_ren : Go.Shelf.Ren := ⟨fun | 7 => 58 | 10 => 101 | n => n, fun | 23 => 75 | 26 => 3 | 3 => 93 | 28 => 91 | 0 => 0 | 27 => 90 | 33 => 112 | 4 => 4 | n => n, fun | n => n⟩
theorem Tryz.keys58 : Go.Proofs.SlLaysZI.n7 Tryz.prog Tryz.keys58_ren := {
  mixed := by kernel_rfl
  f7 := ⟨Tryz.f58.name, by decide, Tryz.func58.trans (congrArg some (by kernel_rfl))⟩
  f10 := ⟨Tryz.f101.name, by decide, Tryz.func101.trans (congrArg some (by kernel_rfl))⟩
  t0 := Tryz.underlying0
  a0 := Tryz.isAgg0
  z0 := Tryz.sizeOf0
  v0 := Tryz.zeroValue0
  t4 := Tryz.underlying4
  a4 := Tryz.isAgg4
  z4 := Tryz.sizeOf4
  v4 := Tryz.zeroValue4
  t23 := Tryz.underlying75
  a23 := Tryz.isAgg75
  z23 := Tryz.sizeOf75
  v23 := Tryz.zeroValue75
  t26 := Tryz.underlying3
  a26 := Tryz.isAgg3
  z26 := Tryz.sizeOf3
  v26 := Tryz.zeroValue3
  t27 := Tryz.underlying90
  a27 := Tryz.isAgg90
  z27 := Tryz.sizeOf90
  v27 := Tryz.zeroValue90
  t28 := Tryz.underlying91
  a28 := Tryz.isAgg91
  z28 := Tryz.sizeOf91
  v28 := Tryz.zeroValue91
  t33 := Tryz.underlying112
  a33 := Tryz.isAgg112
  z33 := Tryz.sizeOf112
  v33 := Tryz.zeroValue112 }
open Go.RowKit Go.Maps Go.Sort Go.Shelf in
theorem Tryz.maps_Keys_58 (mb : Option Nat) (W : World) : CallsIn Fence.wide 5 Tryz.prog 58 #[.map mb] W fun e w' => e = .returned (.func (.func 101) #[] #[.pointer (some ⟨W.heap.size, 0, none⟩)]) ∧ w' = W.alloc (.cells #[.map mb] 75) :=
  AnyZI.keys_in Tryz.keys58 Fence.wide 5 trivial rfl mb W
open Go.RowKit Go.Maps Go.Sort Go.Shelf in
theorem Tryz.slices_Sorted_keys_57_58 {H : Type} (b nn : Nat) (D0 : DataW H) (R : Value → Option (DataW H × List MemPlace)) (w : World) (hown : w.ownsMap Tryz.prog 3 R b nn D0) (hmax : Maps.size D0 ≤ maxLen) (hbytes : Maps.size D0 * 8 ≤ 140737488355328) :
    CallsIn Fence.wide 5 Tryz.prog 57 #[.func (.func 101) #[] #[.pointer (some ⟨w.heap.size, 0, none⟩)]] (w.alloc (.cells #[.map (some b)] 75)) fun e w' => ∃ (v : Value) (ss : List Int), e = .returned v ∧ ss.Perm (intKeys D0) ∧
      w'.ownsRow (w.alloc (.cells #[.map (some b)] 75)).heap.size 3 1 v ss.length ((ss.mergeSort (fun x y => decide (x ≤ y))).map encZ) ∧ (v = .slice none 0 0 ↔ ss = []) ∧ Below (w.alloc (.cells #[.map (some b)] 75)).heap.size (w.alloc (.cells #[.map (some b)] 75)) w' := by
  have hbl := hown.lt
  have hseq : SeqGives Fence.wide 2 Tryz.prog 101 #[.pointer (some ⟨w.heap.size, 0, none⟩)] encZ (fun ss => ss.Perm (intKeys D0)) (Maps.size D0) (w.alloc (.cells #[.map (some b)] 75)) :=
    AnyZI.keys_gives (ρ := Tryz.keys58_ren) { Tryz.keys58 with } Fence.wide _ trivial rfl (by omega) w.heap.size b nn D0 _ (by simp) (by simp) (by
      obtain ⟨es, clock, hb, Ft, hs, hD⟩ := hown
      exact ⟨es, clock, (Below.heap_alloc _ _ b hbl).trans hb, Ft, hs, hD⟩)
  exact AnyZI.sorted_in Tryz.sorted57 Fence.wide 5 trivial trivial trivial trivial rfl (by omega) (Tryz.sorts57 _) (enters_of Tryz.func100 (by kernel_rfl) rfl) 101 #[.pointer (some ⟨w.heap.size, 0, none⟩)] trivial (enters_of Tryz.func101 (by kernel_rfl) rfl) _ _ hmax hbytes _ hseq
open Go.RowKit Go.Maps Go.Sort Go.Shelf in
theorem Tryz.slices_Collect_keys_63_58 {H : Type} (b nn : Nat) (D0 : DataW H) (R : Value → Option (DataW H × List MemPlace)) (w : World) (hown : w.ownsMap Tryz.prog 3 R b nn D0) (hmax : Maps.size D0 ≤ maxLen) (hbytes : Maps.size D0 * 8 ≤ 140737488355328) :
    CallsIn Fence.wide 4 Tryz.prog 63 #[.func (.func 101) #[] #[.pointer (some ⟨w.heap.size, 0, none⟩)]] (w.alloc (.cells #[.map (some b)] 75)) fun e w' => ∃ (v : Value) (ss : List Int), e = .returned v ∧ ss.Perm (intKeys D0) ∧
      w'.ownsRow (w.alloc (.cells #[.map (some b)] 75)).heap.size 3 1 v ss.length (ss.map encZ) ∧ (v = .slice none 0 0 ↔ ss = []) ∧ Below (w.alloc (.cells #[.map (some b)] 75)).heap.size (w.alloc (.cells #[.map (some b)] 75)) w' := by
  have hbl := hown.lt
  have hseq : SeqGives Fence.wide 2 Tryz.prog 101 #[.pointer (some ⟨w.heap.size, 0, none⟩)] encZ (fun ss => ss.Perm (intKeys D0)) (Maps.size D0) (w.alloc (.cells #[.map (some b)] 75)) :=
    AnyZI.keys_gives (ρ := Tryz.keys58_ren) { Tryz.keys58 with } Fence.wide _ trivial rfl (by omega) w.heap.size b nn D0 _ (by simp) (by simp) (by
      obtain ⟨es, clock, hb, Ft, hs, hD⟩ := hown
      exact ⟨es, clock, (Below.heap_alloc _ _ b hbl).trans hb, Ft, hs, hD⟩)
  exact AnyZI.collect_in Tryz.collect63 Fence.wide 4 trivial trivial rfl (by omega) 101 #[.pointer (some ⟨w.heap.size, 0, none⟩)] trivial (enters_of Tryz.func101 (by kernel_rfl) rfl) _ _ hmax hbytes _ hseq
def Tryz.keys64_ren : Go.Shelf.Ren := ⟨fun | 7 => 64 | 10 => 105 | n => n, fun | 23 => 76 | 26 => 3 | 3 => 3 | 28 => 91 | 0 => 0 | 27 => 90 | 33 => 112 | 4 => 4 | n => n, fun | n => n⟩
theorem Tryz.keys64 : Go.Proofs.SlLaysZI.n7 Tryz.prog Tryz.keys64_ren := {
  mixed := by kernel_rfl
  f7 := ⟨Tryz.f64.name, by decide, Tryz.func64.trans (congrArg some (by kernel_rfl))⟩
  f10 := ⟨Tryz.f105.name, by decide, Tryz.func105.trans (congrArg some (by kernel_rfl))⟩
  t0 := Tryz.underlying0
  a0 := Tryz.isAgg0
  z0 := Tryz.sizeOf0
  v0 := Tryz.zeroValue0
  t4 := Tryz.underlying4
  a4 := Tryz.isAgg4
  z4 := Tryz.sizeOf4
  v4 := Tryz.zeroValue4
  t23 := Tryz.underlying76
  a23 := Tryz.isAgg76
  z23 := Tryz.sizeOf76
  v23 := Tryz.zeroValue76
  t26 := Tryz.underlying3
  a26 := Tryz.isAgg3
  z26 := Tryz.sizeOf3
  v26 := Tryz.zeroValue3
  t27 := Tryz.underlying90
  a27 := Tryz.isAgg90
  z27 := Tryz.sizeOf90
  v27 := Tryz.zeroValue90
  t28 := Tryz.underlying91
  a28 := Tryz.isAgg91
  z28 := Tryz.sizeOf91
  v28 := Tryz.zeroValue91
  t33 := Tryz.underlying112
  a33 := Tryz.isAgg112
  z33 := Tryz.sizeOf112
  v33 := Tryz.zeroValue112 }
open Go.RowKit Go.Maps Go.Sort Go.Shelf in
theorem Tryz.maps_Keys_64 (mb : Option Nat) (W : World) : CallsIn Fence.wide 5 Tryz.prog 64 #[.map mb] W fun e w' => e = .returned (.func (.func 105) #[] #[.pointer (some ⟨W.heap.size, 0, none⟩)]) ∧ w' = W.alloc (.cells #[.map mb] 76) :=
  AnyZI.keys_in Tryz.keys64 Fence.wide 5 trivial rfl mb W
open Go.RowKit Go.Maps Go.Sort Go.Shelf in
theorem Tryz.slices_Sorted_keys_57_64 {H : Type} (b nn : Nat) (D0 : DataW H) (R : Value → Option (DataW H × List MemPlace)) (w : World) (hown : w.ownsMap Tryz.prog 3 R b nn D0) (hmax : Maps.size D0 ≤ maxLen) (hbytes : Maps.size D0 * 8 ≤ 140737488355328) :
    CallsIn Fence.wide 5 Tryz.prog 57 #[.func (.func 105) #[] #[.pointer (some ⟨w.heap.size, 0, none⟩)]] (w.alloc (.cells #[.map (some b)] 76)) fun e w' => ∃ (v : Value) (ss : List Int), e = .returned v ∧ ss.Perm (intKeys D0) ∧
      w'.ownsRow (w.alloc (.cells #[.map (some b)] 76)).heap.size 3 1 v ss.length ((ss.mergeSort (fun x y => decide (x ≤ y))).map encZ) ∧ (v = .slice none 0 0 ↔ ss = []) ∧ Below (w.alloc (.cells #[.map (some b)] 76)).heap.size (w.alloc (.cells #[.map (some b)] 76)) w' := by
  have hbl := hown.lt
  have hseq : SeqGives Fence.wide 2 Tryz.prog 105 #[.pointer (some ⟨w.heap.size, 0, none⟩)] encZ (fun ss => ss.Perm (intKeys D0)) (Maps.size D0) (w.alloc (.cells #[.map (some b)] 76)) :=
    AnyZI.keys_gives (ρ := Tryz.keys64_ren) { Tryz.keys64 with } Fence.wide _ trivial rfl (by omega) w.heap.size b nn D0 _ (by simp) (by simp) (by
      obtain ⟨es, clock, hb, Ft, hs, hD⟩ := hown
      exact ⟨es, clock, (Below.heap_alloc _ _ b hbl).trans hb, Ft, hs, hD⟩)
  exact AnyZI.sorted_in Tryz.sorted57 Fence.wide 5 trivial trivial trivial trivial rfl (by omega) (Tryz.sorts57 _) (enters_of Tryz.func100 (by kernel_rfl) rfl) 105 #[.pointer (some ⟨w.heap.size, 0, none⟩)] trivial (enters_of Tryz.func105 (by kernel_rfl) rfl) _ _ hmax hbytes _ hseq
open Go.RowKit Go.Maps Go.Sort Go.Shelf in
theorem Tryz.slices_Collect_keys_63_64 {H : Type} (b nn : Nat) (D0 : DataW H) (R : Value → Option (DataW H × List MemPlace)) (w : World) (hown : w.ownsMap Tryz.prog 3 R b nn D0) (hmax : Maps.size D0 ≤ maxLen) (hbytes : Maps.size D0 * 8 ≤ 140737488355328) :
    CallsIn Fence.wide 4 Tryz.prog 63 #[.func (.func 105) #[] #[.pointer (some ⟨w.heap.size, 0, none⟩)]] (w.alloc (.cells #[.map (some b)] 76)) fun e w' => ∃ (v : Value) (ss : List Int), e = .returned v ∧ ss.Perm (intKeys D0) ∧
      w'.ownsRow (w.alloc (.cells #[.map (some b)] 76)).heap.size 3 1 v ss.length (ss.map encZ) ∧ (v = .slice none 0 0 ↔ ss = []) ∧ Below (w.alloc (.cells #[.map (some b)] 76)).heap.size (w.alloc (.cells #[.map (some b)] 76)) w' := by
  have hbl := hown.lt
  have hseq : SeqGives Fence.wide 2 Tryz.prog 105 #[.pointer (some ⟨w.heap.size, 0, none⟩)] encZ (fun ss => ss.Perm (intKeys D0)) (Maps.size D0) (w.alloc (.cells #[.map (some b)] 76)) :=
    AnyZI.keys_gives (ρ := Tryz.keys64_ren) { Tryz.keys64 with } Fence.wide _ trivial rfl (by omega) w.heap.size b nn D0 _ (by simp) (by simp) (by
      obtain ⟨es, clock, hb, Ft, hs, hD⟩ := hown
      exact ⟨es, clock, (Below.heap_alloc _ _ b hbl).trans hb, Ft, hs, hD⟩)
  exact AnyZI.collect_in Tryz.collect63 Fence.wide 4 trivial trivial rfl (by omega) 105 #[.pointer (some ⟨w.heap.size, 0, none⟩)] trivial (enters_of Tryz.func105 (by kernel_rfl) rfl) _ _ hmax hbytes _ hseq
end Go.Proofs
/- The keys of a map of ints: in any order, and sorted. Condition: bounds. -/
namespace Go.Proofs.YtaacfjdknlglhaaGreatDoor
set_option linter.unusedVariables false
open Go Go.VC

variable {R : Cx} {Hs Rest : List HP} {w : World}

theorem keysI_map {m c : Nat} {l : List (En Int)} {es : List (Int × Value)} (hs : strip l = es) (hst : StampsOk l c) (hu : (es.map (·.1)).Nodup) (hn : ∀ k ∈ es.map (·.1), -1000000000 ≤ k ∧ k ≤ 1000000000) (hlen : es.length ≤ 1000000)
    (hm : w.heap[m]? = some (.map (l.map mkE).toArray c)) :
    ∃ D0 : DataW Unit, w.ownsMap Tryz.prog 3 (fun _ => some (.nil, [])) m 1000000 D0 ∧ Maps.size D0 ≤ 1000000 ∧ ∀ ss : List Int, ss.Perm (intKeys D0) → ss.Perm (es.map (·.1)) := by
  have hkeys : l.map (·.1) = es.map (·.1) := by rw [← hs]; simp [strip, Function.comp_def]
  have hlen2 : l.length = es.length := by have := congrArg List.length hkeys; simpa using this
  have hkey : ∀ e ∈ l, keyOf Tryz.prog 3 (mkE e).key = some (.int .i64 e.1) := fun e he => by
    have hm : e.1 ∈ es.map (·.1) := by rw [← hkeys]; exact List.mem_map_of_mem he
    have hsz := hn _ hm
    have hwf : (Lit.int .i64 e.1).wf = true := by
      have h1 : IntKind.i64.min = -9223372036854775808 := by decide
      have h2 : IntKind.i64.max = 9223372036854775807 := by decide
      simp only [Lit.wf, Bool.and_eq_true, decide_eq_true_eq]; omega
    simp only [keyOf, Tryz.underlying3, mkE, mapKey, KeyK.enc]
    rw [if_pos ⟨trivial, hwf⟩]
  have hrd : ∀ e ∈ l, WideElems.rd Tryz.prog 3 (fun _ => some ((.nil : DataW Unit), [])) (mkE e) = some (.int .i64 e.1, .nil) := fun e he => by
    unfold WideElems.rd
    rw [hkey e he]; rfl
  have hrg : ((l.map mkE).map (WideElems.rg Tryz.prog 3 (fun _ => some ((.nil : DataW Unit), [])))) = l.map fun e => (.int .i64 e.1, .nil) := by
    rw [List.map_map]
    apply List.map_congr_left
    intro e he
    simp only [Function.comp, WideElems.rg, hrd e he, Option.getD_some]
  refine ⟨_, ⟨(l.map mkE).toArray, c, hm, ⟨by simp [maxLen]; omega, ?_, ?_⟩, by simp; omega, rfl⟩, ?_, ?_⟩
  · refine ⟨fun x hx => ?_, ?_, ?_⟩
    · simp only [List.mem_map] at hx
      obtain ⟨e, he, rfl⟩ := hx
      exact hst.1 e he
    · have := hst.2; simpa [mkE, Function.comp_def] using this
    · have h2 : (l.map (·.1)).Nodup := by rw [hkeys]; exact hu
      have e1 : ((l.map mkE).toArray.toList.map (·.key)) = (l.map (·.1)).map (Value.int .i64) := by simp [mkE, Function.comp_def, KeyK.enc]
      rw [e1]
      exact List.Pairwise.map _ (fun a b hab h => hab (by injection h)) h2
  · intro x hx
    simp only [List.mem_map] at hx
    obtain ⟨e, he, rfl⟩ := hx
    exact ⟨_, hrd e he⟩
  · simp only [Maps.size, hrg]
    rw [(WideShapes.sorted_perm _).length_eq]; simp; omega
  · intro ss hss
    refine hss.trans ?_
    simp only [intKeys, hrg]
    refine ((WideShapes.sorted_perm _).map _).trans ?_
    rw [List.map_map, ← hkeys]
    exact List.Perm.of_eq (List.map_congr_left fun e _ => rfl)
end Go.Proofs.YtaacfjdknlglhaaGreatDoor
/- The keys of a map of ints, by the library's calls. Condition: bounds. -/
namespace Go.Proofs.YtaacfjdknlglhaaGreatDoor
set_option linter.unusedVariables false
open Go Go.VC

variable {R : Cx} {Hs Rest : List HP} {w : World}

def sortI (l : List Int) : List Int := l.mergeSort fun x y => decide (x ≤ y)
theorem sortI_perm {a b : List Int} (h : a.Perm b) : sortI a = sortI b := by
  have tr : ∀ a b c : Int, decide (a ≤ b) = true → decide (b ≤ c) = true → decide (a ≤ c) = true := fun a b c h1 h2 => by simp only [decide_eq_true_eq] at *; omega
  have to : ∀ a b : Int, (decide (a ≤ b) || decide (b ≤ a)) = true := fun a b => by simp only [Bool.or_eq_true, decide_eq_true_eq]; omega
  have s1 := List.pairwise_mergeSort tr to a
  have s2 := List.pairwise_mergeSort tr to b
  have p : (a.mergeSort fun x y => decide (x ≤ y)).Perm (b.mergeSort fun x y => decide (x ≤ y)) := (List.mergeSort_perm a _).trans (h.trans (List.mergeSort_perm b _).symm)
  exact List.Perm.eq_of_pairwise (fun a b _ _ h1 h2 => by simp only [decide_eq_true_eq] at h1 h2; omega) s1 s2 p

theorem sortedH_rule {m : Nat} {es : List (Int × Value)} {K : Sl → World → Prop} (hu : (es.map (·.1)).Nodup) (hn : ∀ k ∈ es.map (·.1), -1000000000 ≤ k ∧ k ≤ 1000000000) (hlen : es.length ≤ 1000000) (hw : Sat R (MapAt m es :: Hs) w)
    (k : ∀ s w', Sat R (Own s 3 (intsI (sortI (es.map (·.1)))) :: MapAt m es :: Hs) w' → K s w') :
    Calls Tryz.prog 58 #[.map (some m)] w fun e w1 => ∃ t : Value, e = .returned t ∧ Calls Tryz.prog 57 #[t] w1 fun e w2 => ∃ t : Sl, e = .returned (.slice t.a t.len t.cap) ∧ K t w2 := by
  obtain ⟨l, c, hs, hst, hp⟩ := MapAt.iff.1 hw
  obtain ⟨D0, hown, hsz, hperm⟩ := keysI_map hs hst hu hn hlen hp.at
  refine (callsIn_wide.1 (Tryz.maps_Keys_58 (some m) w)).mono ?_
  rintro _ _ ⟨rfl, rfl⟩
  refine ⟨_, rfl, ?_⟩
  refine (callsIn_wide.1 (Tryz.slices_Sorted_keys_57_58 m _ D0 _ w hown (by unfold maxLen; omega) (by omega))).mono ?_
  rintro _ w' ⟨v, ss, rfl, hS, hrow, hnil, hb⟩
  have hw1 : Sat R (MapAt m es :: Hs) (w.alloc (.cells #[.map (some m)] 75)) := (Sat.alloc _ hw).drop
  obtain ⟨s, rfl, h3⟩ := Sat.ownsRow hw1 hb hrow
  refine ⟨s, rfl, k s _ ?_⟩
  rw [← sortI_perm (hperm ss hS)]
  exact h3

theorem collectO_rule {m : Nat} {es : List (Int × Value)} {S : World → Prop} {K : Sl → World → Prop} (hu : (es.map (·.1)).Nodup) (hn : ∀ k ∈ es.map (·.1), -1000000000 ≤ k ∧ k ≤ 1000000000) (hlen : es.length ≤ 1000000) (hw : Sat R (MapAt m es :: Hs) w)
    (hS : ∀ w', Sat R (MapAt m es :: Hs) w' → S w')
    (k : ∀ s ks w', ks.Perm (es.map (·.1)) → Sat R (Own s 3 (intsI ks) :: MapAt m es :: Hs) w' → K s w') :
    Calls Tryz.prog 64 #[.map (some m)] w fun e w1 => ∃ t : Value, e = .returned t ∧ S w1 ∧ Calls Tryz.prog 63 #[t] w1 fun e w2 => ∃ t : Sl, e = .returned (.slice t.a t.len t.cap) ∧ S w2 ∧ K t w2 := by
  obtain ⟨l, c, hs, hst, hp⟩ := MapAt.iff.1 hw
  obtain ⟨D0, hown, hsz, hperm⟩ := keysI_map hs hst hu hn hlen hp.at
  refine (callsIn_wide.1 (Tryz.maps_Keys_64 (some m) w)).mono ?_
  rintro _ _ ⟨rfl, rfl⟩
  have hw1 : Sat R (MapAt m es :: Hs) (w.alloc (.cells #[.map (some m)] 76)) := (Sat.alloc _ hw).drop
  refine ⟨_, rfl, hS _ hw1, ?_⟩
  refine (callsIn_wide.1 (Tryz.slices_Collect_keys_63_64 m _ D0 _ w hown (by unfold maxLen; omega) (by omega))).mono ?_
  rintro _ w' ⟨v, ss, rfl, hS2, hrow, hnil, hb⟩
  obtain ⟨s, rfl, h3⟩ := Sat.ownsRow hw1 hb hrow
  exact ⟨s, rfl, hS _ h3.drop, k s ss _ (hperm ss hS2) h3⟩
end Go.Proofs.YtaacfjdknlglhaaGreatDoor
/- A flight: Auto. Condition: bounds on lengths. -/
namespace Go.Proofs.YtaacfjdknlglhaaGreatDoor
set_option linter.unusedVariables false
open Go Go.VC

variable {R : Cx} {Hs Rest : List HP} {w : World}

/-! ### Plain -/
theorem bestT_perm {n : Int} {g a b : List Int} {many : Int} (h : a.Perm b) : bestT n g a many = bestT n g b many := by
  have : usedF a = usedF b := by
    funext j
    unfold usedF
    rw [decide_eq_decide]
    exact h.mem_iff
  unfold bestT
  rw [this]
theorem freeL_rise {u : Nat → Bool} {N i j : Nat} (hj : j < (freeL u N).length) (hij : i < j) : (freeL u N)[i] < (freeL u N)[j] := by
  have h1 := free_of (List.getElem?_eq_getElem (show i < (freeL u N).length by omega))
  have h2 := free_of (List.getElem?_eq_getElem hj)
  by_cases h : (freeL u N)[i] < (freeL u N)[j]
  · exact h
  · exfalso
    have h3 := free_ge (u := u) (j := (freeL u N)[j]) ((freeL u N)[i] - (freeL u N)[j])
    rw [show (freeL u N)[j] + ((freeL u N)[i] - (freeL u N)[j]) = (freeL u N)[i] by omega, h1.2.2, h2.2.2] at h3
    omega
theorem bestF_cases (u z : Nat → Bool) (N many : Nat) : (∃ k, (bestF u z N many).1 = upTo k many) ∨ (bestF u z N many).1 = [] ∨ (bestF u z N many).1 = (freeL u N).take many := by
  unfold bestF
  split
  · exact .inl ⟨_, rfl⟩
  · split
    · exact .inr (.inl rfl)
    · exact .inr (.inr rfl)
theorem rise_cast {l : List Nat} (h : ∀ i j (hj : j < l.length) (hij : i < j), l[i] < l[j]) : Rise (l.map fun (j : Nat) => (j : Int)) := fun i j hj hij => by
  rw [List.length_map] at hj
  simp only [List.getElem_map]
  have := h i j hj hij
  omega
theorem best_rise {n : Int} {g taken : List Int} {many : Int} : Rise (bestT n g taken many).1 := by
  unfold bestT
  split
  · intro i j hj hij; simp at hj
  · dsimp only
    rcases bestF_cases (usedF taken) (zF g) (layN n g).toNat many.toNat with ⟨k, h⟩ | h | h
    · rw [h]
      exact rise_cast fun i j hj hij => by simp only [upTo, List.getElem_map, List.getElem_range]; omega
    · rw [h]; intro i j hj hij; simp at hj
    · rw [h]
      exact rise_cast fun i j hj hij => by
        rw [List.length_take] at hj
        simp only [List.getElem_take]
        exact freeL_rise (by omega) hij
theorem best_len {n : Int} {g taken : List Int} {many : Int} : (bestT n g taken many).1.length ≤ 600 := by
  have hb := layN_bd n g
  unfold bestT
  split
  · simp
  rename_i hm
  simp only [List.length_map]
  unfold bestF
  split
  · rw [upTo_len]; omega
  · split
    · simp
    · simp only [List.length_take]; omega
theorem insS_end {n : Int} : ∀ {l : List Int}, (∀ x ∈ l, x < n) → insS n l = l ++ [n]
  | [], _ => rfl
  | x :: l, h => by
    unfold insS
    rw [if_pos (h x List.mem_cons_self), insS_end fun y hy => h y (List.mem_cons_of_mem _ hy)]; rfl
theorem rise_take {l : List Int} (h : Rise l) (j : Nat) : Rise (l.take j) := fun i k hk hik => by
  rw [List.length_take] at hk
  simp only [List.getElem_take]
  exact h i k (by omega) hik
theorem rise_ins {l : List Int} (h : Rise l) {j : Nat} (hj : j < l.length) : insS l[j] (l.take j) = l.take (j + 1) := by
  rw [insS_end, List.take_add_one, List.getElem?_eq_getElem hj, Option.toList_some]
  intro x hx
  obtain ⟨i, hi, rfl⟩ := List.getElem_of_mem hx
  rw [List.length_take] at hi
  rw [List.getElem_take]
  exact h i j hj (by omega)

def putAll (o : Int) (l : List Int) (own : List (Int × Int)) : List (Int × Int) := l.foldl (fun p n => putM n o p) own
def autoF (f : PF) (owner : Int) : PF × List ByteArray × Int :=
  match getM owner f.hs with
  | none => (f, [], 2)
  | some h => if h.seats.length > 0 then (f, [], 7)
    else ({ f with hs := setM owner { h with seats := (bestT f.rows f.grps (f.own.map (·.1)) h.many).1 } f.hs, own := putAll h.owner (bestT f.rows f.grps (f.own.map (·.1)) h.many).1 f.own },
      labsF f.rows f.grps (bestT f.rows f.grps (f.own.map (·.1)) h.many).1, (bestT f.rows f.grps (f.own.map (·.1)) h.many).2)

theorem auto_fspec {p : Nat} {f : PF} {owner : Int} (hgl : f.grps.length ≤ 1000) (hu : (f.own.map (·.1)).Nodup) (hk : ∀ k ∈ f.own.map (·.1), -1000000000 ≤ k ∧ k ≤ 1000000000) (hol : f.own.length ≤ 1000000) (hw : Sat R (FlightAt p f :: Hs) w) :
    Gets Tryz.prog 19 #[.pointer (some ⟨p, 0, none⟩), .int .i64 owner] w fun v w' => ∃ t : Sl, v = .tuple #[.slice t.a t.len t.cap, .int .i64 (autoF f owner).2.2] ∧ Sat R (Own t 9 ((autoF f owner).2.1.map Value.string) :: FlightAt p (autoF f owner).1 :: Hs) w' := by
  obtain ⟨hm, om, sg, sl, ss, E, R', hE, _, rg, _, _, hw, back⟩ := Sat.flightO hw
  have rgo : RoI R' sg f.grps := rg.ro (by rw [List.length_map]; omega)
  apply call19
  refine NilP.mk rfl ⟨some hm, At.own (eqS hw) (by exact ⟨rfl, trivial⟩), (getM owner E).map (fun x => ⟨x.1, 0, none⟩), (getM owner E).isSome, fun w' e => by rw [show w' = w from e]; exact hold_look (hw.take (MapAt hm (hPtrs E))) owner true, ?_⟩
  cases hget : getM owner E with
  | none =>
    have e : autoF f owner = (f, [], 2) := by unfold autoF; rw [← hE, hEr_get, hget]; rfl
    rw [e]
    exact Br.t rfl ⟨⟨none, 0, 0⟩, rfl, Own.nil (Sat.flightC hE (back _ _ hw))⟩
  | some x =>
    obtain ⟨b, h⟩ := x
    have hgf : getM owner f.hs = some h := by rw [← hE, hEr_get, hget]; rfl
    obtain ⟨a, c, rfl, hna⟩ := getM_split hget
    refine Br.f rfl (NilP.mk rfl ?_)
    obtain ⟨s, hw⟩ := FO.open hw
    have hsl := Own.len (hw.take (Own s 3 (intsI h.seats)))
    rw [List.length_map] at hsl
    refine ⟨s, At.own (eqS hw) (by exact ⟨rfl, trivial⟩), Br.d (fun h1 => ?_) (fun h1 => ?_)⟩
    · have e : autoF f owner = (f, [], 7) := by unfold autoF; rw [hgf]; dsimp only; rw [if_pos (by omega)]
      rw [e]
      exact ⟨⟨none, 0, 0⟩, rfl, Own.nil (Sat.flightC hE (back _ _ (FO.close hw)))⟩
    have hse : h.seats = [] := List.length_eq_zero_iff.1 (by omega)
    have e : autoF f owner = ({ f with hs := setM owner { h with seats := (bestT f.rows f.grps (f.own.map (·.1)) h.many).1 } f.hs, own := putAll h.owner (bestT f.rows f.grps (f.own.map (·.1)) h.many).1 f.own },
      labsF f.rows f.grps (bestT f.rows f.grps (f.own.map (·.1)) h.many).1, (bestT f.rows f.grps (f.own.map (·.1)) h.many).2) := by unfold autoF; rw [hgf]; dsimp only; rw [if_neg (by omega)]
    rw [e]
    refine drw_rule hw fun w hw => ?_
    refine NilP.mk rfl ⟨f.rows, sg, At.own selfS (by exact ⟨rfl, rfl, trivial⟩), NilP.mk rfl ⟨some om, At.own selfS (by exact ⟨rfl, trivial⟩), NilP.mk rfl ⟨h.many, At.own selfS (by exact ⟨rfl, trivial⟩), ?_⟩⟩⟩
    have hown : (oVals f.own).map (·.1) = f.own.map (·.1) := by simp [oVals, Function.comp_def]
    refine collectO_rule (es := oVals f.own) (by rw [hown]; exact hu) (by rw [hown]; exact hk) (by rw [List.length_map]; exact hol) (hw.take (MapAt om (oVals f.own)))
      (fun w' h5 => ((((h5.take (MapAt hm (hPtrs (a ++ (owner, b, h) :: c)))).take (pts p (fCells f sg sl ss hm om))).take (HoldsAt (a ++ c))).take (Own s 3 (intsI h.seats))).take (pts b (hCells h s)) |>.perm (by
        refine List.Perm.cons _ (List.Perm.cons _ (List.Perm.cons _ (List.Perm.cons _ (List.Perm.refl _))))))
      fun tk ks w hks hw => ?_
    rw [hown] at hks
    obtain ⟨R2, hro, hmono, hw2, back2⟩ := Own.lend hw (by rw [List.length_map]; have := hks.length_eq; rw [List.length_map] at this; omega)
    refine (best_spec (taken := ks) (hmono _ _ rgo) hro hw2).use ?_
    clear hw hw2
    rintro _ w ⟨t, rfl, hw⟩
    have hw := (back2 hw).drop
    rw [bestT_perm hks] at hw ⊢
    have hri := best_rise (n := f.rows) (g := f.grps) (taken := f.own.map (·.1)) (many := h.many)
    have hln := best_len (n := f.rows) (g := f.grps) (taken := f.own.map (·.1)) (many := h.many)
    generalize bestT f.rows f.grps (f.own.map (·.1)) h.many = r at *
    refine ⟨_, _, rfl, ?_, ?_⟩
    · exact ((((hw.drop.take (MapAt hm (hPtrs (a ++ (owner, b, h) :: c)))).take (pts p (fCells f sg sl ss hm om))).take (HoldsAt (a ++ c))).take (Own s 3 (intsI h.seats))).take (pts b (hCells h s)) |>.perm (by
        refine List.Perm.cons _ (List.Perm.cons _ (List.Perm.cons _ (List.Perm.cons _ (List.Perm.refl _)))))
    obtain ⟨R3, e3, ht, hw, back3⟩ := Reads.out hw
    have hto : RoI R3 t r.1 := ht.ro (by rw [List.length_map]; omega)
    have htl := hto.len
    have hw : Sat R3 (FO p hm om sg sl ss (a ++ (owner, b, h) :: c) f Hs) w := FO.close (((((hw.take (MapAt hm (hPtrs (a ++ (owner, b, h) :: c)))).take (pts p (fCells f sg sl ss hm om))).take (HoldsAt (a ++ c))).take (Own s 3 (intsI h.seats))).take (pts b (hCells h s)) |>.perm (by
        refine List.Perm.cons _ (List.Perm.cons _ (List.Perm.cons _ (List.Perm.cons _ (List.Perm.refl _))))))
    refine ⟨fun i w => ∃ j : Nat, i = j ∧ j ≤ r.1.length ∧ Sat R3 (FO p hm om sg sl ss (a ++ (owner, b, { h with seats := r.1.take j }) :: c) { f with own := putAll h.owner (r.1.take j) f.own } Hs) w, fun i _ => r.1.length - i.toNat, ⟨0, rfl, by omega, ?_⟩, ?_⟩
    · have eh : ({ h with seats := r.1.take 0 } : Hold) = h := by rw [List.take_zero, ← hse]
      rw [eh]; exact hw
    clear hw
    rintro _ _ w ⟨j, rfl, hj, hw⟩
    refine Br.d (fun h2 => ?_) (fun h2 => ?_)
    · have hj2 : j < r.1.length := by omega
      refine Ro.ix hto (eqS hw) j rfl hj2 ?_
      refine (tell_spec (h := { h with seats := r.1.take j }) (rise_take hri j) (by simp only [List.length_take]; omega) hw).use ?_
      rintro _ w ⟨rfl, hw⟩
      rw [wrap64 (by omega) (by omega)]
      refine ⟨rfl, ⟨j + 1, by omega, by omega, ?_⟩, by dsimp only; omega⟩
      have eh : Hold.put { h with seats := r.1.take j } r.1[j] = { h with seats := r.1.take (j + 1) } := by unfold Hold.put; rw [rise_ins hri hj2]
      have eo : putM r.1[j] h.owner (putAll h.owner (r.1.take j) f.own) = putAll h.owner (r.1.take (j + 1)) f.own := by
        unfold putAll
        rw [List.take_add_one, List.getElem?_eq_getElem hj2, Option.toList_some, List.foldl_append]; rfl
      rw [eh] at hw
      rw [← eo]
      exact hw
    · rw [List.take_of_length_le (by omega)] at hw
      refine (labels_spec (f := f) (hm := hm) (om := om) (sg := sg) (sl := sl) (ss := ss) (e3.ro rgo) hto (by omega) hw).use ?_
      rintro _ w ⟨t2, rfl, hw⟩
      refine ⟨t2, rfl, t2, rfl, ?_⟩
      have hw := (back3 _ _ hw).drop
      have hw := back _ _ hw
      refine Sat.cons (fun R5 h5 => ?_) (hw.take (Own t2 9 ((labsF f.rows f.grps r.1).map Value.string)))
      refine Sat.flight.2 ⟨hm, om, sg, sl, ss, a ++ (owner, b, { h with seats := r.1 }) :: c, ?_, h5⟩
      show _ = setM owner _ f.hs
      rw [← hE, hEr_app, hEr_app, setM_app (by rw [hEr_get, hna]; rfl) (int_rfl owner)]
end Go.Proofs.YtaacfjdknlglhaaGreatDoor
/- Reference 15: putting a seat; whether two answers are the same. Condition: bounds. -/
namespace Go.Proofs.YtaacfjdknlglhaaGreatDoor
set_option linter.unusedVariables false
open Go Go.VC

variable {R : Cx} {Hs Rest : List HP} {w : World}

theorem sameI_spec {s t : Sl} {a b : List Int} (hs : RoI R s a) (ht : RoI R t b) (hw : Sat R Hs w) :
    Gets Tryz.prog 44 #[.slice s.a s.len s.cap, .slice t.a t.len t.cap] w fun v w' => v = .bool (decide (a = b)) ∧ Sat R Hs w' := by
  have hsl := hs.len
  have htl := ht.len
  have hbd := hs.bound
  apply call44
  refine Br.ne (fun h => ⟨?_, hw⟩) (fun h => ?_)
  · rw [decide_eq_false fun e => h (by rw [hsl, htl, e])]
  have hl : a.length = b.length := by omega
  refine ⟨fun i w => ∃ j : Nat, i = j ∧ j ≤ a.length ∧ a.take j = b.take j ∧ Sat R Hs w, fun i _ => a.length - i.toNat, ⟨0, rfl, by omega, by simp, hw⟩, ?_⟩
  clear hw
  rintro _ _ w ⟨j, rfl, hj, hn, hw⟩
  refine Br.d (fun h => ?_) (fun h => ?_)
  · have hj2 : j < a.length := by omega
    have hj3 : j < b.length := by omega
    refine drw_rule hw fun w hw => ?_
    refine hs.idx selfS hj2 (ht.idx selfS hj3 ?_)
    refine Br.ne (fun h => ⟨?_, hw⟩) (fun h => ?_)
    · rw [decide_eq_false]; rintro rfl; exact h rfl
    · rw [wrap64 (by omega) (by omega)]
      refine ⟨⟨j + 1, by omega, by omega, ?_, hw⟩, by dsimp only; omega⟩
      rw [List.take_add_one, List.take_add_one, List.getElem?_eq_getElem hj2, List.getElem?_eq_getElem hj3, hn, h]
  · rw [List.take_of_length_le (by omega), List.take_of_length_le (by omega)] at hn
    rw [decide_eq_true hn]; exact ⟨rfl, hw⟩

abbrev strs (l : List ByteArray) : List Value := l.map Value.string
theorem sameT_spec {s t : Sl} {a b : List ByteArray} (hs : Ro R s (strs a)) (ht : Ro R t (strs b)) (hw : Sat R Hs w) :
    Gets Tryz.prog 21 #[.slice s.a s.len s.cap, .slice t.a t.len t.cap] w fun v w' => v = .bool (decide (a = b)) ∧ Sat R Hs w' := by
  have hsl := hs.len
  have htl := ht.len
  have hbd := hs.bound
  rw [List.length_map] at hsl htl hbd
  apply call21
  refine Br.ne (fun h => ⟨?_, hw⟩) (fun h => ?_)
  · rw [decide_eq_false fun e => h (by rw [hsl, htl, e])]
  have hl : a.length = b.length := by omega
  refine ⟨fun i w => ∃ j : Nat, i = j ∧ j ≤ a.length ∧ a.take j = b.take j ∧ Sat R Hs w, fun i _ => a.length - i.toNat, ⟨0, rfl, by omega, by simp, hw⟩, ?_⟩
  clear hw
  rintro _ _ w ⟨j, rfl, hj, hn, hw⟩
  refine Br.d (fun h => ?_) (fun h => ?_)
  · have hj2 : j < a.length := by omega
    have hj3 : j < b.length := by omega
    refine drw_rule hw fun w hw => ?_
    refine hs.idxStr selfS hj2 (ht.idxStr selfS hj3 ?_)
    refine Br.sne (fun h => ⟨?_, hw⟩) (fun h => ?_)
    · rw [decide_eq_false]; rintro rfl; exact h rfl
    · rw [wrap64 (by omega) (by omega)]
      refine ⟨⟨j + 1, by omega, by omega, ?_, hw⟩, by dsimp only; omega⟩
      rw [List.take_add_one, List.take_add_one, List.getElem?_eq_getElem hj2, List.getElem?_eq_getElem hj3, hn, h]
  · rw [List.take_of_length_le (by omega), List.take_of_length_le (by omega)] at hn
    rw [decide_eq_true hn]; exact ⟨rfl, hw⟩

/-! ### A seat, put where it belongs -/
theorem insS_mid {n x : Int} : ∀ {A : List Int}, (∀ y ∈ A, y < n) → n < x → insS n (A ++ [x]) = A ++ [n, x]
  | [], _, h => by
    show insS n [x] = _
    unfold insS
    rw [if_neg (by omega)]; rfl
  | y :: A, hA, h => by
    show insS n (y :: (A ++ [x])) = _
    unfold insS
    rw [if_pos (hA y List.mem_cons_self), insS_mid (fun z hz => hA z (List.mem_cons_of_mem _ hz)) h]; rfl
theorem insS_more {n x : Int} : ∀ {A : List Int}, (∃ y ∈ A, ¬ y < n) → insS n (A ++ [x]) = insS n A ++ [x]
  | [], h => by obtain ⟨y, hy, _⟩ := h; cases hy
  | y :: A, h => by
    show insS n (y :: (A ++ [x])) = insS n (y :: A) ++ [x]
    unfold insS
    by_cases hy : y < n
    · rw [if_pos hy, if_pos hy, insS_more]
      · rfl
      · obtain ⟨z, hz, hz2⟩ := h
        rcases List.mem_cons.1 hz with rfl | hz
        · exact absurd hy hz2
        · exact ⟨z, hz, hz2⟩
    · rw [if_neg hy, if_neg hy]; rfl
theorem insS_len (n : Int) : ∀ l : List Int, (insS n l).length = l.length + 1
  | [] => rfl
  | x :: l => by
    unfold insS
    split
    · simp only [List.length_cons, insS_len n l]
    · rfl

theorem rput_spec {s : Sl} {l : List Int} {n : Int} (hs : RoI R s l) (hl : l.length ≤ 1000000) (hno : n ∉ l) (hw : Sat R Hs w) :
    Gets Tryz.prog 99 #[.slice s.a s.len s.cap, .int .i64 n] w fun v w' => ∃ t : Sl, v = .slice t.a t.len t.cap ∧ Sat R (Own t 3 (intsI (insS n l)) :: Hs) w' := by
  have hsl := hs.len
  apply call99
  refine ⟨fun out dn i w => ∃ j : Nat, i = j ∧ j ≤ l.length ∧ (if dn then (∃ y ∈ l.take j, ¬ y < n) ∧ Sat R (Own out 3 (intsI (insS n (l.take j))) :: Hs) w else (∀ y ∈ l.take j, y < n) ∧ Sat R (Own out 3 (intsI (l.take j)) :: Hs) w),
    fun _ _ i _ => l.length - i.toNat, ⟨0, rfl, by omega, by rw [if_neg (by simp)]; exact ⟨by simp, Own.nil hw⟩⟩, ?_⟩
  clear hw
  rintro _ out dn _ w ⟨j, rfl, hj, hst⟩
  refine Br.d (fun h => ?_) (fun h => ?_)
  · have hj2 : j < l.length := by omega
    have htk : l.take (j + 1) = l.take j ++ [l[j]] := by rw [List.take_add_one, List.getElem?_eq_getElem hj2]; rfl
    have htl : (l.take j).length = j := by rw [List.length_take]; omega
    have hne : l[j] ≠ n := fun e => hno (by rw [← e]; exact List.getElem_mem _)
    rw [wrap64 (by omega) (by omega)]
    cases dn with
    | false =>
      rw [if_neg (by simp)] at hst
      obtain ⟨hlt, hw⟩ := hst
      refine Br.t rfl ?_
      refine Ro.ix hs (eqS hw) j rfl hj2 ?_
      refine Br.d (fun h2 => ?_) (fun h2 => ?_)
      · refine pushI_rule elI8 hw (by omega) fun t w hw => ?_
        refine Ro.ix hs (eqS hw) j rfl hj2 ?_
        refine pushI_rule elI8 hw (by rw [List.length_append, htl]; simp; omega) fun t w hw => ?_
        refine ⟨⟨j + 1, by omega, by omega, ?_⟩, by dsimp only; omega⟩
        rw [if_pos rfl, htk, insS_mid hlt (by omega)]
        refine ⟨⟨l[j], List.mem_append_right _ (List.mem_singleton.2 rfl), by omega⟩, ?_⟩
        rw [List.append_assoc] at hw; exact hw
      · refine Ro.ix hs (eqS hw) j rfl hj2 ?_
        refine pushI_rule elI8 hw (by omega) fun t w hw => ?_
        refine ⟨⟨j + 1, by omega, by omega, ?_⟩, by dsimp only; omega⟩
        rw [if_neg (by simp), htk]
        refine ⟨fun y hy => ?_, hw⟩
        rcases List.mem_append.1 hy with hy | hy
        · exact hlt y hy
        · rw [List.mem_singleton.1 hy]; omega
    | true =>
      rw [if_pos rfl] at hst
      obtain ⟨hex, hw⟩ := hst
      refine Br.f rfl ?_
      refine Ro.ix hs (eqS hw) j rfl hj2 ?_
      refine pushI_rule elI8 hw (by rw [insS_len, htl]; omega) fun t w hw => ?_
      refine ⟨⟨j + 1, by omega, by omega, ?_⟩, by dsimp only; omega⟩
      rw [if_pos rfl, htk, insS_more hex]
      obtain ⟨y, hy, hy2⟩ := hex
      exact ⟨⟨y, List.mem_append_left _ hy, hy2⟩, hw⟩
  · rw [List.take_of_length_le (show l.length ≤ j by omega)] at hst
    cases dn with
    | false =>
      rw [if_neg (by simp)] at hst
      refine Br.t rfl ?_
      refine pushI_rule elI8 hst.2 (by omega) fun t w hw => ?_
      rw [insS_end hst.1]
      exact ⟨t, rfl, hw⟩
    | true =>
      rw [if_pos rfl] at hst
      exact Br.f rfl ⟨out, rfl, hst.2⟩
end Go.Proofs.YtaacfjdknlglhaaGreatDoor
/- Reference 02 at this seat: numbers as bytes, a reader. Condition: bounds on lengths. -/
namespace Go.Proofs.YtaacfjdknlglhaaGreatDoor
set_option linter.unusedVariables false
open Go Go.VC

variable {R : Cx} {Hs Rest : List HP} {w : World}

/-! ### Numbers, bytes -/
theorem rnumber_spec {n : Nat} (hn : n < 18446744073709551616) (hw : Sat R Hs w) :
    Gets Tryz.prog 119 #[.int .u64 n] w fun v w' => ∃ t : Sl, v = .slice t.a t.len t.cap ∧ Sat R (Own t 5 (b8 (numB n)) :: Hs) w' := by
  apply call119
  have h8 := dig_len8 hn
  refine ⟨fun x out w => ∃ (m : Nat) (ds : List Int), x = m ∧ m ≤ n ∧ dig m ++ ds = dig n ∧ Sat R (Own out 5 (b8 ds) :: Hs) w, fun x _ _ => x.toNat, ⟨n, [], rfl, by omega, by simp, Own.nil hw⟩, ?_⟩
  clear hw
  rintro _ _ out w ⟨m, ds, rfl, hm, he, hw⟩
  have hdl : ds.length ≤ 8 := by rw [← he, List.length_append] at h8; omega
  refine Br.d (fun h => ?_) (fun h => ?_)
  · have e1 : IntKind.u8.wrap ((m : Int).tmod 256) = ((m % 256 : Nat) : Int) := by
      rw [show (m : Int).tmod 256 = ((m % 256 : Nat) : Int) from (Int.ofNat_tmod m 256).symm, wrapU8 (by omega) (by omega)]
    have e2 : IntKind.u64.wrap ((m : Int).tdiv 256) = ((m / 256 : Nat) : Int) := by
      rw [show (m : Int).tdiv 256 = ((m / 256 : Nat) : Int) from (Int.ofNat_tdiv m 256).symm, wrapU64 (by omega) (by omega)]
    rw [e1, e2]
    refine new_rule hw fun b w hw => ?_
    have hw : Sat R (Own ⟨some ⟨b, 0, none⟩, 1, 1⟩ 5 (b8 [((m % 256 : Nat) : Int)]) :: Own out 5 (b8 ds) :: Hs) w := own_lit hw
    refine appendOO elB8 (s := ⟨some ⟨b, 0, none⟩, 1, 1⟩) (n := 9) Tryz.underlying22 hw (by simp; omega) (by omega) (by omega) fun s' w hw => ?_
    refine ⟨⟨m / 256, [((m % 256 : Nat) : Int)] ++ ds, rfl, by omega, ?_, hw.cons fun _ h => h.drop⟩, by dsimp only; omega⟩
    rw [← List.append_assoc, ← dig_pos (by omega)]
    exact he
  · have hm0 : m = 0 := by omega
    subst hm0
    rw [dig_zero, List.nil_append] at he
    have hol : out.len = ds.length := by have := Own.len hw; simpa using this
    have e1 : IntKind.u8.wrap (out.len : Int) = ((dig n).length : Int) := by rw [wrapU8 (by omega) (by omega), hol, he]
    rw [e1]
    refine new_rule hw fun b w hw => ?_
    have hw : Sat R (Own ⟨some ⟨b, 0, none⟩, 1, 1⟩ 5 (b8 [((dig n).length : Int)]) :: Own out 5 (b8 ds) :: Hs) w := own_lit hw
    refine appendOO elB8 (s := ⟨some ⟨b, 0, none⟩, 1, 1⟩) (n := 9) Tryz.underlying22 hw (by simp; omega) (by omega) (by omega) fun s' w hw => ?_
    have e2 : numB n = [((dig n).length : Int)] ++ ds := by rw [he]; rfl
    rw [e2]
    exact ⟨s', rfl, hw.cons fun _ h => h.drop⟩

/-! ### A reader -/
abbrev rrCells (s : Sl) (n : Nat) (bad : Bool) : Obj := .cells [.slice s.a s.len s.cap, .int .i64 n, .bool bad].toArray 84 (0, 0)
/-- The reader r over bs, of which rd is left. -/
def RRdAt (r : Nat) (s : Sl) (bs : List Int) (rd : Rd) : HP := exs fun n : Nat => Star [pur (n ≤ bs.length ∧ bs.drop n = rd.bs), pts r (rrCells s n rd.bad)]
theorem Sat.rrd {r : Nat} {s : Sl} {bs : List Int} {rd : Rd} : Sat R (RRdAt r s bs rd :: Hs) w ↔ ∃ n : Nat, (n ≤ bs.length ∧ bs.drop n = rd.bs) ∧ Sat R (pts r (rrCells s n rd.bad) :: Hs) w := by
  unfold RRdAt
  rw [Sat.exs]
  constructor
  · rintro ⟨n, h⟩
    have h := Sat.star.1 h
    have h : Sat R (pur _ :: pts r _ :: Hs) w := h
    rw [Sat.pur] at h
    exact ⟨n, h⟩
  · rintro ⟨n, h⟩
    exact ⟨n, Sat.star.2 (by show Sat R (pur _ :: pts r _ :: Hs) w; rw [Sat.pur]; exact h)⟩

theorem p256 {a b : Nat} (h : a ≤ b) : (256 : Int) ^ a ≤ 256 ^ b := by
  rw [show (256 : Int) = ((256 : Nat) : Int) from rfl, ← Int.natCast_pow, ← Int.natCast_pow]
  exact Int.ofNat_le.2 (Nat.pow_le_pow_right (by omega) h)
def nextR (rd : Rd) : Int × Bool × Int := if rd.bad then (0, false, 0) else match parse rd.bs with | some (n, neg, k) => (n, neg, (k : Int)) | none => (0, false, 0)

theorem rnext_spec {r : Nat} {s : Sl} {bs : List Int} {n : Nat} {bad : Bool} (hl : bs.length ≤ 1099511627776) (hb : ∀ x ∈ bs, 0 ≤ x ∧ x < 256) (hs : SlR R.m s (b8 bs)) (hn : n ≤ bs.length) (hw : Sat R (pts r (rrCells s n bad) :: Hs) w) :
    Gets Tryz.prog 90 #[.pointer (some ⟨r, 0, none⟩)] w fun v w' => v = .tuple #[.int .u64 (nextR ⟨bs.drop n, bad⟩).1, .bool (nextR ⟨bs.drop n, bad⟩).2.1, .int .i64 (nextR ⟨bs.drop n, bad⟩).2.2] ∧ Sat R (pts r (rrCells s n bad) :: Hs) w' := by
  have hlen : s.len = bs.length := by have := hs.len; simpa using this
  apply call90
  have no : nextR ⟨bs.drop n, bad⟩ = (0, false, 0) → ∀ {w}, Sat R (pts r (rrCells s n bad) :: Hs) w → (Value.tuple #[.int .u64 0, .bool false, .int .i64 0] = .tuple #[.int .u64 (nextR ⟨bs.drop n, bad⟩).1, .bool (nextR ⟨bs.drop n, bad⟩).2.1, .int .i64 (nextR ⟨bs.drop n, bad⟩).2.2] ∧ Sat R (pts r (rrCells s n bad) :: Hs) w) := fun e {w} hw => by
    rw [e]; exact ⟨rfl, hw⟩
  refine ⟨fun w => (bad = false ∧ n < bs.length) ∧ Sat R (pts r (rrCells s n bad) :: Hs) w, drw_rule hw fun w hw => ?_, ?_⟩
  · refine NilP.mk rfl ⟨bad, At.own selfS (by exact ⟨rfl, trivial⟩), Br.mk (fun h => no (by unfold nextR; rw [if_pos h]) hw) (fun h => ?_)⟩
    refine NilP.mk rfl ⟨n, At.own selfS (by exact ⟨rfl, trivial⟩), NilP.mk rfl ⟨s, At.own selfS (by exact ⟨rfl, trivial⟩), ?_⟩⟩
    rw [hlen]
    refine Br.d (fun h2 => no ?_ hw) (fun h2 => ⟨⟨h, by omega⟩, hw⟩)
    unfold nextR
    simp only
    rw [List.drop_eq_nil_of_le (by omega)]
    split <;> rfl
  clear hw
  rintro _ w ⟨⟨hbad, hlt⟩, hw⟩
  have hc := hb bs[n] (List.getElem_mem _)
  have hd : bs.drop n = bs[n] :: bs.drop (n + 1) := List.drop_eq_getElem_cons hlt
  have e0 : IntKind.i64.wrap bs[n] = bs[n] := wrap64 (by omega) (by omega)
  have nx : nextR ⟨bs.drop n, bad⟩ = match parse (bs[n] :: bs.drop (n + 1)) with | some (n, neg, k) => (n, neg, (k : Int)) | none => (0, false, 0) := by
    unfold nextR; rw [hbad, hd]; rfl
  refine drw_rule hw fun w hw => ?_
  refine NilP.mk rfl ⟨s, At.own selfS (by exact ⟨rfl, trivial⟩), NilP.mk rfl ⟨n, At.own selfS (by exact ⟨rfl, trivial⟩), hs.ix selfS n rfl hlt ?_⟩⟩
  rw [e0]
  have hkn : 0 ≤ (if 16 ≤ bs[n] then bs[n] - 16 else bs[n]) := by split <;> omega
  obtain ⟨k, hk⟩ := Int.eq_ofNat_of_zero_le hkn
  have hk2 : (if 16 ≤ bs[n] then bs[n] - 16 else bs[n]).toNat = k := by rw [hk]; rfl
  refine ⟨fun x w => x = (k : Int) ∧ Sat R (pts r (rrCells s n bad) :: Hs) w, Br.d (fun h => ⟨?_, hw⟩) (fun h => ⟨?_, hw⟩), ?_⟩
  · rw [wrap64 (by omega) (by omega), ← hk, if_pos (by omega)]
  · rw [← hk, if_neg (by omega)]
  clear hw
  rintro _ _ w ⟨rfl, hw⟩
  have dl : (bs.drop (n + 1)).length = bs.length - (n + 1) := List.length_drop
  have pno : ¬ (bs[n] < 32 ∧ k ≤ 8 ∧ k ≤ (bs.drop (n + 1)).length ∧ (k = 0 → bs[n] = 0) ∧ (k ≠ 0 → (bs.drop (n + 1)).head? ≠ some 0)) → nextR ⟨bs.drop n, bad⟩ = (0, false, 0) := fun h => by
    rw [nx]; unfold parse; simp only [hk2]; rw [if_neg h]
  have pyes : (bs[n] < 32 ∧ k ≤ 8 ∧ k ≤ (bs.drop (n + 1)).length ∧ (k = 0 → bs[n] = 0) ∧ (k ≠ 0 → (bs.drop (n + 1)).head? ≠ some 0)) → nextR ⟨bs.drop n, bad⟩ = (valI 0 ((bs.drop (n + 1)).take k), decide (16 ≤ bs[n]), ((k + 1 : Nat) : Int)) := fun h => by
    rw [nx]; unfold parse; simp only [hk2]; rw [if_pos h]
  refine ⟨fun w => (bs[n] < 32 ∧ k ≤ 8 ∧ k ≤ (bs.drop (n + 1)).length ∧ (k = 0 → bs[n] = 0) ∧ (k ≠ 0 → (bs.drop (n + 1)).head? ≠ some 0)) ∧ Sat R (pts r (rrCells s n bad) :: Hs) w, drw_rule hw fun w hw => ?_, ?_⟩
  · refine Br.d (fun h => no (pno fun h2 => by omega) hw) (fun h8 => ?_)
    refine NilP.mk rfl ⟨n, At.own selfS (by exact ⟨rfl, trivial⟩), NilP.mk rfl ⟨s, At.own selfS (by exact ⟨rfl, trivial⟩), ?_⟩⟩
    rw [wrap64 (x := (n : Int) + 1) (by omega) (by omega), wrap64 (by omega) (by omega), hlen]
    refine Br.d (fun h => no (pno fun h2 => by omega) hw) (fun hln => ?_)
    have h32 : bs[n] < 32 := by split at hk <;> omega
    have last : (k ≠ 0 ∨ bs[n] = 0) → Br (decide ((k : Int) > 0))
             (NilP (some ⟨r, 0, none⟩) fun a_t70 =>
              ∃ t72 : Sl, (At (Sat R (pts r (rrCells s n bad) :: Hs)) (Addr.add a_t70 0) [.slice t72.a t72.len t72.cap]) ∧
              NilP (some ⟨r, 0, none⟩) fun a_t74 =>
              ∃ t76 : Int, (At (Sat R (pts r (rrCells s n bad) :: Hs)) ⟨a_t74.block, a_t74.off + 1, none⟩ [.int .i64 t76]) ∧
              Rng (IntKind.i64.wrap (t76 + 1)) t72.len (NilP t72.a fun a_t78 =>
              ∃ t79 : Int, (At (Sat R (pts r (rrCells s n bad) :: Hs)) (Addr.add a_t78 ((IntKind.i64.wrap (t76 + 1)).toNat)) [.int .u8 t79]) ∧
              Br (t79 == 0)
               (Value.tuple #[.int .u64 0, .bool false, .int .i64 0] = .tuple #[.int .u64 (nextR ⟨bs.drop n, bad⟩).1, .bool (nextR ⟨bs.drop n, bad⟩).2.1, .int .i64 (nextR ⟨bs.drop n, bad⟩).2.2] ∧ Sat R (pts r (rrCells s n bad) :: Hs) w)
               ((bs[n] < 32 ∧ k ≤ 8 ∧ k ≤ (bs.drop (n + 1)).length ∧ (k = 0 → bs[n] = 0) ∧ (k ≠ 0 → (bs.drop (n + 1)).head? ≠ some 0)) ∧ Sat R (pts r (rrCells s n bad) :: Hs) w)))
             ((bs[n] < 32 ∧ k ≤ 8 ∧ k ≤ (bs.drop (n + 1)).length ∧ (k = 0 → bs[n] = 0) ∧ (k ≠ 0 → (bs.drop (n + 1)).head? ≠ some 0)) ∧ Sat R (pts r (rrCells s n bad) :: Hs) w) := fun hz => by
      refine Br.d (fun h => ?_) (fun h => ⟨⟨h32, by omega, by omega, by omega, fun h2 => by omega⟩, hw⟩)
      refine NilP.mk rfl ⟨s, At.own selfS (by exact ⟨rfl, trivial⟩), NilP.mk rfl ⟨n, At.own selfS (by exact ⟨rfl, trivial⟩), ?_⟩⟩
      rw [wrap64 (by omega) (by omega)]
      have hn1 : n + 1 < bs.length := by omega
      have hh : (bs.drop (n + 1)).head? = some bs[n + 1] := by rw [List.drop_eq_getElem_cons hn1]; rfl
      refine hs.ix selfS (n + 1) (by omega) hn1 ?_
      refine Br.e (fun h0 => no (pno fun h2 => ?_) hw) (fun h0 => ⟨⟨h32, by omega, by omega, by omega, fun h2 => ?_⟩, hw⟩)
      · exact h2.2.2.2.2 (by omega) (by rw [hh, h0])
      · rw [hh]; intro h3; exact h0 (Option.some.inj h3)
    refine Br.d (fun h16 => ?_) (fun h16 => ?_)
    · refine Br.e (fun h0 => no (pno fun h2 => ?_) hw) (fun h0 => last (.inl (by omega)))
      have := h2.2.2.2.1 (by omega)
      omega
    · refine last ?_
      rw [if_neg (by omega)] at hk
      by_cases hk0 : k = 0
      · exact .inr (by omega)
      · exact .inl hk0
  clear hw
  rintro _ w ⟨hp, hw⟩
  have e := pyes hp
  rw [e]
  obtain ⟨h32, hk8, hkl, _, _⟩ := hp
  have hbd : ∀ j, ∀ x ∈ (bs.drop (n + 1)).take j, 0 ≤ x ∧ x < 256 := fun j x hx => hb x (List.mem_of_mem_drop (List.mem_of_mem_take hx))
  have vb : ∀ j, j ≤ 8 → 0 ≤ valI 0 ((bs.drop (n + 1)).take j) ∧ valI 0 ((bs.drop (n + 1)).take j) < 256 ^ j := fun j hj => by
    refine ⟨valI_nn (by omega) (hbd j), ?_⟩
    have h1 := valI_lt (acc := 0) (by omega) (hbd j)
    have h2 : ((bs.drop (n + 1)).take j).length ≤ j := by rw [List.length_take]; omega
    have h3 : (256 : Int) ^ ((bs.drop (n + 1)).take j).length ≤ 256 ^ j := p256 h2
    rw [show (0 : Int) + 1 = 1 from rfl, Int.one_mul] at h1
    omega
  refine ⟨fun x i w => ∃ j : Nat, i = j ∧ j ≤ k ∧ x = valI 0 ((bs.drop (n + 1)).take j) ∧ Sat R (pts r (rrCells s n bad) :: Hs) w, fun _ i _ => k - i.toNat, ⟨0, rfl, by omega, rfl, hw⟩, ?_⟩
  clear hw
  rintro _ _ _ w ⟨j, rfl, hj, rfl, hw⟩
  refine Br.d (fun h => drw_rule hw fun w hw => ?_) (fun h => ?_)
  · refine NilP.mk rfl ⟨s, At.own selfS (by exact ⟨rfl, trivial⟩), NilP.mk rfl ⟨n, At.own selfS (by exact ⟨rfl, trivial⟩), ?_⟩⟩
    rw [wrap64 (x := (n : Int) + 1) (by omega) (by omega), wrap64 (x := (n : Int) + 1 + j) (by omega) (by omega)]
    have hnj : n + 1 + j < bs.length := by omega
    refine hs.ix selfS (n + 1 + j) (by omega) hnj ?_
    have hx := hb bs[n + 1 + j] (List.getElem_mem _)
    have et : (bs.drop (n + 1)).take (j + 1) = (bs.drop (n + 1)).take j ++ [bs[n + 1 + j]] := by
      rw [List.take_add_one, List.getElem?_drop, List.getElem?_eq_getElem hnj]; rfl
    have hv := vb j (by omega)
    have hv2 := vb (j + 1) (by omega)
    rw [et, valI_snoc] at hv2
    have h7 : (256 : Int) ^ j ≤ 256 ^ 7 := p256 (by omega)
    have hv3 := hv.2
    have e7 : (256 : Int) ^ 7 = 72057594037927936 := by decide
    rw [wrapU64 (x := bs[n + 1 + j]) (by omega) (by omega), wrapU64 (x := valI 0 ((bs.drop (n + 1)).take j) * 256) (by omega) (by omega), wrapU64 (by omega) (by omega), wrap64 (by omega) (by omega)]
    exact ⟨⟨j + 1, by omega, by omega, by rw [et, valI_snoc], hw⟩, by dsimp only; omega⟩
  · have : j = k := by omega
    subst this
    rw [wrap64 (by omega) (by omega)]
    refine ⟨?_, hw⟩
    simp


theorem rrnum_spec {r : Nat} {s : Sl} {bs : List Int} {rd : Rd} {most : Int} (hl : bs.length ≤ 1099511627776) (hb : ∀ x ∈ bs, 0 ≤ x ∧ x < 256) (hs : SlR R.m s (b8 bs)) (hw : Sat R (RRdAt r s bs rd :: Hs) w) :
    Gets Tryz.prog 40 #[.pointer (some ⟨r, 0, none⟩), .int .u64 most] w fun v w' => v = .int .u64 (rdNum most rd).1 ∧ Sat R (RRdAt r s bs (rdNum most rd).2 :: Hs) w' := by
  obtain ⟨n, ⟨hn, hd⟩, hw⟩ := Sat.rrd.1 hw
  apply call40
  refine (rnext_spec hl hb hs hn hw).use ?_
  rintro _ w ⟨rfl, hw⟩
  refine ⟨_, _, _, rfl, ?_⟩
  rw [hd]
  have bad : rdNum most rd = (0, ⟨rd.bs, true⟩) → NilP (some ⟨r, 0, none⟩) fun a_t25 =>
      ∃ w_2 : World, ((Instr.storeAt 4 (.pointer ((some ⟨a_t25.block, a_t25.off + 2, none⟩))) (.bool true)).run Tryz.prog w = .ok () w_2) ∧
      (Value.int .u64 0 = .int .u64 (rdNum most rd).1 ∧ Sat R (RRdAt r s bs (rdNum most rd).2 :: Hs) w_2) := fun e => by
    refine NilP.mk rfl ?_
    refine store_rule hw (by kernel_rfl) rfl (by simp [Value.cells]) fun w hw => ?_
    have hw := hw.re (pts r (rrCells s n true))
    rw [e]
    exact ⟨rfl, Sat.rrd.2 ⟨n, ⟨hn, hd⟩, hw⟩⟩
  refine ⟨fun w => (∃ x k, rd.bad = false ∧ parse rd.bs = some (x, false, k) ∧ x ≤ most) ∧ Sat R (pts r (rrCells s n rd.bad) :: Hs) w, ?_, ?_⟩
  · by_cases hbd : rd.bad = true
    · have e : nextR ⟨rd.bs, rd.bad⟩ = (0, false, 0) := by unfold nextR; rw [if_pos hbd]
      rw [e]; dsimp only
      refine Br.mk (fun h => bad ?_) (fun h => by simp at h)
      unfold rdNum; rw [if_pos hbd]; rw [show rd = ⟨rd.bs, rd.bad⟩ from rfl, hbd]
    · have hbd : rd.bad = false := by simpa using hbd
      cases hp : parse rd.bs with
      | none =>
        have e : nextR ⟨rd.bs, rd.bad⟩ = (0, false, 0) := by unfold nextR; simp [hp]
        rw [e]; dsimp only
        refine Br.mk (fun h => bad ?_) (fun h => by simp at h)
        unfold rdNum; rw [if_neg (by rw [hbd]; simp), hp]
      | some p =>
        obtain ⟨x, neg, k⟩ := p
        have e : nextR ⟨rd.bs, rd.bad⟩ = (x, neg, (k : Int)) := by unfold nextR; simp [hp, hbd]
        rw [e]; dsimp only
        have hb2 : ∀ x ∈ rd.bs, 0 ≤ x ∧ x < 256 := fun x hx => hb x (by rw [← hd] at hx; exact List.mem_of_mem_drop hx)
        obtain ⟨_, _, k0, _, _⟩ := parse_bd hb2 hp
        have e2 : rdNum most rd = if neg = false ∧ x ≤ most then (x, ⟨rd.bs.drop k, false⟩) else (0, ⟨rd.bs, true⟩) := by
          unfold rdNum; rw [if_neg (by rw [hbd]; simp), hp]
        refine Br.e (fun h => by omega) (fun _ => Br.mk (fun h => bad ?_) (fun h => Br.d (fun h2 => bad ?_) (fun h2 => ?_)))
        · rw [e2, if_neg (by rintro ⟨h3, _⟩; rw [h3] at h; cases h)]
        · rw [e2, if_neg (by rintro ⟨_, h3⟩; omega)]
        · exact ⟨⟨x, k, hbd, by rw [h], by omega⟩, hw⟩
  clear bad hw
  rintro _ w ⟨⟨x, k, hbd, hp, hx⟩, hw⟩
  have hb2 : ∀ x ∈ rd.bs, 0 ≤ x ∧ x < 256 := fun x hx => hb x (by rw [← hd] at hx; exact List.mem_of_mem_drop hx)
  obtain ⟨_, _, k0, _, k2⟩ := parse_bd hb2 hp
  have e : nextR ⟨rd.bs, rd.bad⟩ = (x, false, (k : Int)) := by unfold nextR; simp [hp, hbd]
  have e2 : rdNum most rd = (x, ⟨rd.bs.drop k, false⟩) := by
    unfold rdNum; rw [if_neg (by rw [hbd]; simp), hp]; dsimp only; rw [if_pos ⟨rfl, hx⟩]
  rw [e, e2]
  dsimp only
  have hlen : rd.bs.length = bs.length - n := by rw [← hd, List.length_drop]
  refine NilP.mk rfl ⟨n, At.own (eqS hw) (by exact ⟨rfl, trivial⟩), NilP.mk rfl ?_⟩
  dsimp only
  rw [wrap64 (by omega) (by omega)]
  refine store_rule hw (by kernel_rfl) rfl (by simp [Value.cells]) fun w hw => ?_
  rw [hbd] at hw
  have hw := hw.re (pts r (rrCells s (n + k) false))
  exact ⟨rfl, Sat.rrd.2 ⟨n + k, ⟨by omega, by rw [← List.drop_drop, hd]⟩, hw⟩⟩


theorem rrwhole_spec {r : Nat} {s : Sl} {bs : List Int} {rd : Rd} (hs : SlR R.m s (b8 bs)) (hw : Sat R (RRdAt r s bs rd :: Hs) w) :
    Gets Tryz.prog 42 #[.pointer (some ⟨r, 0, none⟩)] w fun v w' => v = .bool (rdWhole rd) ∧ Sat R (RRdAt r s bs rd :: Hs) w' := by
  have hsl : s.len = bs.length := by have := hs.len; simpa using this
  obtain ⟨n, ⟨hn, hd⟩, hw⟩ := Sat.rrd.1 hw
  have hlen : rd.bs.length = bs.length - n := by rw [← hd, List.length_drop]
  apply call42
  refine drw_rule hw fun w hw => ?_
  refine NilP.mk rfl ⟨rd.bad, At.own selfS (by exact ⟨rfl, trivial⟩), Br.nb (fun h => ?_) (fun h => ?_)⟩
  · refine NilP.mk rfl ⟨n, At.own selfS (by exact ⟨rfl, trivial⟩), NilP.mk rfl ⟨s, At.own selfS (by exact ⟨rfl, trivial⟩), ?_, Sat.rrd.2 ⟨n, ⟨hn, hd⟩, hw⟩⟩⟩
    unfold rdWhole
    rw [h, hsl]
    congr 1
    rw [Bool.not_false, Bool.true_and, hlen]
    show decide ((n : Int) = (bs.length : Int)) = _
    rw [decide_eq_decide]; omega
  · refine ⟨?_, Sat.rrd.2 ⟨n, ⟨hn, hd⟩, hw⟩⟩
    unfold rdWhole
    rw [h]; rfl

/-! ### Records -/

end Go.Proofs.YtaacfjdknlglhaaGreatDoor
/- Numbers, one behind the other: Encode's inner function; reference 15's numbers. Condition: bounds on lengths. -/
namespace Go.Proofs.YtaacfjdknlglhaaGreatDoor
set_option linter.unusedVariables false
open Go Go.VC

variable {R : Cx} {Hs Rest : List HP} {w : World}

def numsB (l : List Int) : List Int := (l.map fun x => numB x.toNat).flatten
theorem numsB_take {l : List Int} {k : Nat} (hk : k < l.length) : numsB (l.take (k + 1)) = numsB (l.take k) ++ numB l[k].toNat := by
  unfold numsB
  rw [List.take_add_one, List.getElem?_eq_getElem hk, List.map_append, List.flatten_append]
  simp only [Option.toList_some, List.map_cons, List.map_nil, List.flatten_cons, List.flatten_nil, List.append_nil]
theorem numsB_len : ∀ {l : List Int}, (∀ x ∈ l, 0 ≤ x ∧ x < 18446744073709551616) → (numsB l).length ≤ 9 * l.length
  | [], _ => by simp [numsB]
  | x :: l, h => by
    have h1 := h x (List.mem_cons_self ..)
    have := numB_len (n := x.toNat) (by omega)
    have h2 := numsB_len (l := l) fun y hy => h y (List.mem_cons_of_mem _ hy)
    unfold numsB at h2 ⊢
    rw [List.map_cons, List.flatten_cons, List.length_append, List.length_cons]
    omega
theorem numsB_bd : ∀ {l : List Int}, (∀ x ∈ l, 0 ≤ x ∧ x < 18446744073709551616) → ∀ y ∈ numsB l, 0 ≤ y ∧ y < 256
  | [], _ => by simp [numsB]
  | x :: l, h => fun y hy => by
    have h1 := h x (List.mem_cons_self ..)
    unfold numsB at hy
    rw [List.map_cons, List.flatten_cons, List.mem_append] at hy
    rcases hy with hy | hy
    · exact numB_bd (n := x.toNat) (by omega) y hy
    · exact numsB_bd (fun y hy => h y (List.mem_cons_of_mem _ hy)) y hy
theorem numsB_app (a b : List Int) : numsB (a ++ b) = numsB a ++ numsB b := by simp [numsB]

/-- A block with bytes of one's own. -/
def OutB (p : Nat) (bs : List Int) : HP := exs fun s : Sl => Star [lp p s, Own s 5 (b8 bs)]
theorem Sat.outB {p : Nat} {bs : List Int} : Sat R (OutB p bs :: Hs) w ↔ ∃ s : Sl, Sat R (lp p s :: Own s 5 (b8 bs) :: Hs) w := by
  unfold OutB
  rw [Sat.exs]
  exact ⟨fun ⟨s, h⟩ => ⟨s, Sat.star.1 h⟩, fun ⟨s, h⟩ => ⟨s, Sat.star.2 h⟩⟩

/-- 'for each number: its code, behind out': the numbers, and how much there is. -/
theorem put_law {f : FuncId} {p : Nat} {s : Sl} {xs bs : List Int} (hxs : ∀ x ∈ xs, 0 ≤ x ∧ x < 9223372036854775808) (hl : bs.length + 9 * xs.length ≤ 1099511627776) (hs : RoI R s xs) (hw : Sat R (OutB p bs :: Hs) w)
    (hf : ∀ {K : Value → World → Prop} {w : World}, B71 s (some ⟨p, 0, none⟩) K w → Gets Tryz.prog f #[.slice s.a s.len s.cap, .pointer (some ⟨p, 0, none⟩)] w K) :
    Gets Tryz.prog f #[.slice s.a s.len s.cap, .pointer (some ⟨p, 0, none⟩)] w fun v w' => v = .tuple #[] ∧ Sat R (OutB p (bs ++ numsB xs) :: Hs) w' := by
  have hlen := hs.len
  apply hf
  refine ⟨fun i w => ∃ k : Nat, i = k ∧ k ≤ xs.length ∧ Sat R (OutB p (bs ++ numsB (xs.take k)) :: Hs) w, fun i _ => xs.length - i.toNat, ⟨0, rfl, by omega, by simpa [numsB] using hw⟩, ?_⟩
  clear hw
  rintro _ _ w ⟨k, rfl, hk, hw⟩
  refine Br.d (fun h => ?_) (fun h => ?_)
  · have hkx : k < xs.length := by omega
    have hx := hxs xs[k] (List.getElem_mem _)
    have hxt : ∀ x ∈ xs.take k, 0 ≤ x ∧ x < 18446744073709551616 := fun x hx => by have := hxs x (List.mem_of_mem_take hx); omega
    have hnl := numsB_len hxt
    rw [List.length_take] at hnl
    refine hs.idx (eqS hw) hkx ?_
    obtain ⟨s0, hw⟩ := Sat.outB.1 hw
    refine drw_ruleT hw fun w hw => ?_
    refine NilP.mk rfl ⟨s0, At.own selfS (by exact ⟨rfl, trivial⟩), ?_⟩
    obtain ⟨n, hn⟩ := Int.eq_ofNat_of_zero_le hx.1
    rw [hn, wrapU64 (by omega) (by omega)]
    refine (number_spec (by omega) hw).use ?_
    rintro _ w ⟨t, rfl, hw⟩
    refine ⟨t, rfl, hw.absorb, ?_⟩
    have hw : Sat R (Own s0 5 (b8 (bs ++ numsB (xs.take k))) :: Own t 5 (b8 (numB n)) :: lp p s0 :: VC.tru :: Hs) w := hw.arr
    have hnb := numB_len (n := n) (by omega)
    refine appendOO elB8 (s := s0) (n := 1099511627790) Tryz.underlying22 hw (by rw [List.length_append]; omega) (by omega) (by omega) fun s2 w hw => ?_
    have hw : Sat R (lp p s0 :: Own s2 5 (b8 (bs ++ numsB (xs.take k) ++ numB n)) :: Hs) w := by
      have h : Sat R (Own t 5 (b8 (numB n)) :: VC.tru :: lp p s0 :: Own s2 5 (b8 (bs ++ numsB (xs.take k) ++ numB n)) :: Hs) w := hw.arr
      exact h.drop.drop
    refine store_rule hw (by kernel_rfl) rfl (by simp [Value.cells]) fun w hw => ?_
    have hw := hw.re (lp p s2)
    rw [wrap64 (by omega) (by omega)]
    refine ⟨⟨k + 1, by omega, by omega, Sat.outB.2 ⟨s2, ?_⟩⟩, by dsimp only; omega⟩
    rw [numsB_take hkx, hn, Int.toNat_natCast, ← List.append_assoc]
    exact hw
  · have : k = xs.length := by omega
    subst this
    rw [List.take_length] at hw
    exact ⟨rfl, hw⟩

theorem eput_spec {p : Nat} {s : Sl} {xs bs : List Int} (hxs : ∀ x ∈ xs, 0 ≤ x ∧ x < 9223372036854775808) (hl : bs.length + 9 * xs.length ≤ 1099511627776) (hs : RoI R s xs) (hw : Sat R (OutB p bs :: Hs) w) :
    Gets Tryz.prog 71 #[.slice s.a s.len s.cap, .pointer (some ⟨p, 0, none⟩)] w fun v w' => v = .tuple #[] ∧ Sat R (OutB p (bs ++ numsB xs) :: Hs) w' :=
  put_law hxs hl hs hw fun h => call71 _ _ _ _ h

theorem rnumbers_spec {s : Sl} {xs : List Int} (hxs : ∀ x ∈ xs, 0 ≤ x ∧ x < 9223372036854775808) (hl : 9 * xs.length ≤ 1099511627776) (hs : RoI R s xs) (hw : Sat R Hs w) :
    Gets Tryz.prog 94 #[.slice s.a s.len s.cap] w fun v w' => ∃ t : Sl, v = .slice t.a t.len t.cap ∧ Sat R (Own t 5 (b8 (numsB xs)) :: Hs) w' := by
  have hlen := hs.len
  apply call94
  refine ⟨fun out i w => ∃ k : Nat, i = k ∧ k ≤ xs.length ∧ Sat R (Own out 5 (b8 (numsB (xs.take k))) :: Hs) w, fun _ i _ => xs.length - i.toNat, ⟨0, rfl, by omega, Own.nil hw⟩, ?_⟩
  clear hw
  rintro _ out _ w ⟨k, rfl, hk, hw⟩
  refine Br.d (fun h => ?_) (fun h => ?_)
  · have hkx : k < xs.length := by omega
    have hx := hxs xs[k] (List.getElem_mem _)
    have hxt : ∀ x ∈ xs.take k, 0 ≤ x ∧ x < 18446744073709551616 := fun x hx => by have := hxs x (List.mem_of_mem_take hx); omega
    have hnl := numsB_len hxt
    rw [List.length_take] at hnl
    refine Ro.ix hs (eqS hw) k rfl hkx ?_
    obtain ⟨n, hn⟩ := Int.eq_ofNat_of_zero_le hx.1
    rw [hn, wrapU64 (by omega) (by omega)]
    refine (rnumber_spec (by omega) hw).use ?_
    rintro _ w ⟨t, rfl, hw⟩
    refine ⟨t, rfl, ?_⟩
    have hnb := numB_len (n := n) (by omega)
    refine appendOO elB8 (s := out) (n := 1099511627790) Tryz.underlying22 hw.swap (by omega) (by omega) (by omega) fun s2 w hw => ?_
    rw [wrap64 (by omega) (by omega)]
    refine ⟨⟨k + 1, by omega, by omega, ?_⟩, by dsimp only; omega⟩
    rw [numsB_take hkx, hn, Int.toNat_natCast]
    exact hw.swap.drop
  · rw [List.take_of_length_le (by omega)] at hw
    exact ⟨out, rfl, hw⟩

end Go.Proofs.YtaacfjdknlglhaaGreatDoor
/- Lists of holds in memory. Condition: none. -/
namespace Go.Proofs.YtaacfjdknlglhaaGreatDoor
set_option linter.unusedVariables false
open Go Go.VC

variable {R : Cx} {Hs Rest : List HP} {w : World}

def rowH (h : Hold) (t : Sl) : List Value := [.int .i64 h.owner, .int .i64 h.cls, .int .i64 h.many, .slice t.a t.len t.cap]
def rowsH (L : List Hold) (ts : List Sl) : List (List Value) := (L.zip ts).map fun x => rowH x.1 x.2
def seatsH (L : List Hold) (ts : List Sl) : List HP := (L.zip ts).map fun x => Reads x.2 (intsI x.1.seats)
/-- A list of holds of one's own; the seats only to be read. -/
def HoldsL (s : Sl) (L : List Hold) : HP := exs fun ts : List Sl => Star (pur (ts.length = L.length) :: OwnN 4 s 51 (rowsH L ts) :: seatsH L ts)
theorem Sat.holdsL {s : Sl} {L : List Hold} : Sat R (HoldsL s L :: Hs) w ↔ ∃ ts : List Sl, ts.length = L.length ∧ Sat R (OwnN 4 s 51 (rowsH L ts) :: (seatsH L ts ++ Hs)) w := by
  unfold HoldsL
  rw [Sat.exs]
  constructor
  · rintro ⟨ts, h⟩
    obtain ⟨h1, h2⟩ := Sat.pur.1 (Sat.star.1 h)
    exact ⟨ts, h1, h2⟩
  · rintro ⟨ts, h1, h2⟩
    exact ⟨ts, Sat.star.2 (Sat.pur.2 ⟨h1, h2⟩)⟩

/-- A list of holds that is only read. -/
structure HsR (R : Cx) (s : Sl) (L : List Hold) (ts : List Sl) : Prop where
  len : ts.length = L.length
  rows : RoN 4 R s (rowsH L ts)
  seats : ∀ i (h : i < L.length) (h' : i < ts.length), SlR R.m ts[i] (intsI L[i].seats)

theorem seats_leak : ∀ {L : List Hold} {ts : List Sl} {R : Cx}, ts.length = L.length → Sat R (seatsH L ts ++ Hs) w → ∃ R' : Cx, R.Ext R' ∧ (∀ i (h : i < L.length) (h' : i < ts.length), SlR R'.m ts[i] (intsI L[i].seats)) ∧ Sat R' Hs w
  | [], _, R, _, hw => ⟨R, Cx.Ext.refl, fun i h => by simp at h, by simpa [seatsH] using hw⟩
  | h :: L, [], R, hl, _ => by simp at hl
  | h :: L, t :: ts, R, hl, hw => by
    have hw : Sat R (Reads t (intsI h.seats) :: (seatsH L ts ++ Hs)) w := hw
    obtain ⟨R1, e1, s1, hw⟩ := Reads.leak hw
    obtain ⟨R2, e2, s2, hw⟩ := seats_leak (by simpa using hl) hw
    refine ⟨R2, e1.trans e2, fun i h h' => ?_, hw⟩
    rcases i with _ | i
    · exact e2.slR s1
    · exact s2 i (by simpa using h) (by simpa using h')
/-- For good. -/
theorem HoldsL.leak {s : Sl} {L : List Hold} (hw : Sat R (HoldsL s L :: Hs) w) : ∃ (R' : Cx) (ts : List Sl), R.Ext R' ∧ HsR R' s L ts ∧ Sat R' Hs w := by
  obtain ⟨ts, hl, hw⟩ := Sat.holdsL.1 hw
  obtain ⟨R1, e1, hr, hw⟩ := OwnN.leak hw
  obtain ⟨R2, e2, hs, hw⟩ := seats_leak hl hw
  exact ⟨R2, ts, e1.trans e2, ⟨hl, e2.roN hr, hs⟩, hw⟩
end Go.Proofs.YtaacfjdknlglhaaGreatDoor
/- Whether two lists of holds are the same: reference 15. Condition: none. -/
namespace Go.Proofs.YtaacfjdknlglhaaGreatDoor
set_option linter.unusedVariables false
open Go Go.VC

variable {R : Cx} {Hs Rest : List HP} {w : World}

theorem rowsH_len {L : List Hold} {ts : List Sl} (h : ts.length = L.length) : (rowsH L ts).length = L.length := by simp [rowsH, h]
theorem rowsH_at {L : List Hold} {ts : List Sl} {k : Nat} (h : k < L.length) (h' : k < ts.length) (h2 : k < (rowsH L ts).length) : (rowsH L ts)[k] = rowH L[k] ts[k] := by simp [rowsH]

/-- A field of a hold. -/
theorem HsR.fld {s : Sl} {L : List Hold} {ts : List Sl} {S : World → Prop} {k j : Nat} {v : Value} (hr : HsR R s L ts) (hS : ∀ w, S w → Sat R Hs w) (hk : k < L.length) (hk' : k < ts.length) (hv : (rowH L[k] ts[k])[j]? = some v) {F : Addr → Prop}
    (f : ∀ a : Addr, a.spot = none → At S ⟨(a.add (mulS k 4)).block, (a.add (mulS k 4)).off + j, none⟩ [v] → F a) : Rng (k : Int) s.len (NilP s.a F) := by
  have hl := rowsH_len hr.len
  refine (hr.rows.reads hS).rng (k := k) (by omega) fun b off ha hat => f _ rfl ?_
  rw [elt_addr]
  refine hat j [v] ?_
  rw [rowsH_at hk hk']
  obtain ⟨hlt, he⟩ := List.getElem?_eq_some_iff.1 hv
  rw [List.drop_eq_getElem_cons hlt, he]
  exact ⟨rfl, trivial⟩

theorem add_zero_fld (a : Addr) (k : Nat) (h : a.spot = none) : Addr.add (Addr.add a (mulS k 4)) 0 = ⟨(a.add (mulS k 4)).block, (a.add (mulS k 4)).off + 0, none⟩ := by
  obtain ⟨b, o, s⟩ := a
  dsimp only at h
  subst h
  rw [add_off, add_off]
def holdEq (a b : Hold) : Prop := a.owner = b.owner ∧ a.cls = b.cls ∧ a.many = b.many ∧ a.seats = b.seats
theorem hold_ext {a b : Hold} (h : holdEq a b) : a = b := by
  obtain ⟨h1, h2, h3, h4⟩ := h
  cases a; cases b; simp_all

instance : DecidableEq Hold := fun a b => decidable_of_iff (a.owner = b.owner ∧ a.cls = b.cls ∧ a.many = b.many ∧ a.seats = b.seats) ⟨hold_ext, fun h => by subst h; exact ⟨rfl, rfl, rfl, rfl⟩⟩

theorem sameH_spec {s t : Sl} {a b : List Hold} {ts us : List Sl} (hs : HsR R s a ts) (ht : HsR R t b us) (hla : a.length ≤ 1000000) (hsl : ∀ h ∈ a, h.seats.length ≤ 1000000) (hsl2 : ∀ h ∈ b, h.seats.length ≤ 1000000) (hw : Sat R Hs w) :
    Gets Tryz.prog 28 #[.slice s.a s.len s.cap, .slice t.a t.len t.cap] w fun v w' => v = .bool (decide (a = b)) ∧ Sat R Hs w' := by
  have hl1 := hs.rows.len
  have hl2 := ht.rows.len
  rw [rowsH_len hs.len] at hl1
  rw [rowsH_len ht.len] at hl2
  apply call28
  refine Br.ne (fun h => ⟨?_, hw⟩) (fun h => ?_)
  · rw [decide_eq_false fun e => h (by rw [hl1, hl2, e])]
  have hl : a.length = b.length := by omega
  refine ⟨fun i w => ∃ j : Nat, i = j ∧ j ≤ a.length ∧ a.take j = b.take j ∧ Sat R Hs w, fun i _ => a.length - i.toNat, ⟨0, rfl, by omega, by simp, hw⟩, ?_⟩
  clear hw
  rintro _ _ w ⟨j, rfl, hj, hn, hw⟩
  refine Br.d (fun h => ?_) (fun h => ?_)
  · have j1 : j < a.length := by omega
    have j2 : j < b.length := by omega
    have j3 : j < ts.length := by rw [hs.len]; omega
    have j4 : j < us.length := by rw [ht.len]; omega
    have no : ¬ holdEq a[j] b[j] → ∀ w, Sat R Hs w → Value.bool false = .bool (decide (a = b)) ∧ Sat R Hs w := fun hno w hw => by
      refine ⟨?_, hw⟩
      rw [decide_eq_false]
      rintro rfl
      exact hno ⟨rfl, rfl, rfl, rfl⟩
    have ra := (hs.seats j j1 j3).ro (by rw [List.length_map]; have := hsl a[j] (List.getElem_mem _); omega)
    have rb := (ht.seats j j2 j4).ro (by rw [List.length_map]; have := hsl2 b[j] (List.getElem_mem _); omega)
    refine drw_rule hw fun w hw => ?_
    refine hs.fld (j := 3) selfS j1 j3 rfl fun x nx hx => ⟨ts[j], hx, ht.fld (j := 3) selfS j2 j4 rfl fun y ny hy => ⟨us[j], hy, ?_⟩⟩
    refine (sameI_spec ra rb hw).use ?_
    rintro _ w ⟨rfl, hw⟩
    refine ⟨_, rfl, drw_rule hw fun w hw => ?_⟩
    refine hs.fld (j := 0) selfS j1 j3 rfl fun x nx hx => ⟨a[j].owner, by rw [add_zero_fld _ _ nx]; exact hx, ht.fld (j := 0) selfS j2 j4 rfl fun y ny hy => ⟨b[j].owner, by rw [add_zero_fld _ _ ny]; exact hy, ?_⟩⟩
    refine Br.ne (fun h => no (fun h2 => h h2.1) _ hw) (fun h1 => ?_)
    refine hs.fld (j := 1) selfS j1 j3 rfl fun x nx hx => ⟨a[j].cls, hx, ht.fld (j := 1) selfS j2 j4 rfl fun y ny hy => ⟨b[j].cls, hy, ?_⟩⟩
    refine Br.ne (fun h => no (fun h2 => h h2.2.1) _ hw) (fun h2 => ?_)
    refine hs.fld (j := 2) selfS j1 j3 rfl fun x nx hx => ⟨a[j].many, hx, ht.fld (j := 2) selfS j2 j4 rfl fun y ny hy => ⟨b[j].many, hy, ?_⟩⟩
    refine Br.ne (fun h => no (fun h2 => h h2.2.2.1) _ hw) (fun h3 => ?_)
    refine Br.nd (fun h => no (fun h2 => h h2.2.2.2) _ hw) (fun h4 => ?_)
    rw [wrap64 (by omega) (by omega)]
    refine ⟨⟨j + 1, by omega, by omega, ?_, hw⟩, by dsimp only; omega⟩
    rw [List.take_add_one, List.take_add_one, List.getElem?_eq_getElem j1, List.getElem?_eq_getElem j2, hn, hold_ext ⟨h1, h2, h3, h4⟩]
  · rw [List.take_of_length_le (by omega), List.take_of_length_le (by omega)] at hn
    rw [decide_eq_true hn]; exact ⟨rfl, hw⟩
end Go.Proofs.YtaacfjdknlglhaaGreatDoor
/- Reference 15's flight in memory; place. Condition: none. -/
namespace Go.Proofs.YtaacfjdknlglhaaGreatDoor
set_option linter.unusedVariables false
open Go Go.VC

variable {R : Cx} {Hs Rest : List HP} {w : World}

structure RF where
  num : Int
  rows : Int
  grps : List Int
  lims : List Int
  L : List Hold

abbrev rCells (r : RF) (sg sl s : Sl) : Obj := .cells [.int .i64 r.num, .int .i64 r.rows, .slice sg.a sg.len sg.cap, .slice sl.a sl.len sl.cap, .slice s.a s.len s.cap].toArray 48 (0, 0)

def placeF (owner : Int) : List Hold → Nat → Int
  | [], _ => -1
  | h :: L, k => if h.owner = owner then (k : Int) else placeF owner L (k + 1)
theorem placeF_cons (owner : Int) (h : Hold) (L : List Hold) (k : Nat) : placeF owner (h :: L) k = if h.owner = owner then (k : Int) else placeF owner L (k + 1) := rfl

/-- A field of a hold of one's own. -/
theorem ownH_fld {s : Sl} {T : TypeId} {L : List Hold} {ts : List Sl} {S : World → Prop} {k j : Nat} {v : Value} (hl : ts.length = L.length) [t : Take (OwnN 4 s T (rowsH L ts)) Hs Rest] (hw : Sat R Hs w) (hS : ∀ w, S w → Sat R Hs w) (hk : k < L.length) (hk' : k < ts.length) (hv : (rowH L[k] ts[k])[j]? = some v) {F : Addr → Prop}
    (f : ∀ a : Addr, a.spot = none → At S ⟨(a.add (mulS k 4)).block, (a.add (mulS k 4)).off + j, none⟩ [v] → F a) : Rng (k : Int) s.len (NilP s.a F) := by
  have hl2 := rowsH_len hl
  refine (OwnN.readsM (t := t) hw hS).rng (k := k) (by omega) fun b off ha hat => f _ rfl ?_
  rw [elt_addr]
  refine hat j [v] ?_
  rw [rowsH_at hk hk']
  obtain ⟨hlt, he⟩ := List.getElem?_eq_some_iff.1 hv
  rw [List.drop_eq_getElem_cons hlt, he]
  exact ⟨rfl, trivial⟩

theorem place_spec {p : Nat} {r : RF} {sg sl s : Sl} {ts : List Sl} {T : TypeId} {owner : Int} (hl : ts.length = r.L.length) (hll : r.L.length ≤ 1000000) (hw : Sat R (pts p (rCells r sg sl s) :: OwnN 4 s T (rowsH r.L ts) :: Hs) w) :
    Gets Tryz.prog 67 #[.pointer (some ⟨p, 0, none⟩), .int .i64 owner] w fun v w' => v = .int .i64 (placeF owner r.L 0) ∧ Sat R (pts p (rCells r sg sl s) :: OwnN 4 s T (rowsH r.L ts) :: Hs) w' := by
  have hsl := OwnN.len hw.swap
  rw [rowsH_len hl] at hsl
  apply call67
  refine ⟨fun i w => ∃ j : Nat, i = j ∧ j ≤ r.L.length ∧ placeF owner (r.L.drop j) j = placeF owner r.L 0 ∧ Sat R (pts p (rCells r sg sl s) :: OwnN 4 s T (rowsH r.L ts) :: Hs) w, fun i _ => r.L.length - i.toNat, ⟨0, rfl, by omega, rfl, hw⟩, ?_⟩
  clear hw
  rintro _ _ w ⟨j, rfl, hj, hn, hw⟩
  refine NilP.mk rfl ⟨s, At.own (eqS hw) (by exact ⟨rfl, trivial⟩), Br.d (fun h => ?_) (fun h => ?_)⟩
  · have j1 : j < r.L.length := by omega
    rw [List.drop_eq_getElem_cons j1, placeF_cons] at hn
    refine NilP.mk rfl ⟨s, At.own (eqS hw) (by exact ⟨rfl, trivial⟩), ?_⟩
    refine ownH_fld (T := T) (j := 0) hl hw (eqS hw) j1 (by omega) rfl fun x nx hx => ⟨r.L[j].owner, by rw [add_zero_fld _ _ nx]; exact hx, ?_⟩
    refine Br.e (fun h2 => ⟨?_, hw⟩) (fun h2 => ?_)
    · rw [if_pos h2] at hn; rw [hn]
    · rw [if_neg h2] at hn
      rw [wrap64 (by omega) (by omega)]
      exact ⟨⟨j + 1, by omega, by omega, hn, hw⟩, by dsimp only; omega⟩
  · rw [List.drop_eq_nil_of_le (by omega)] at hn
    exact ⟨by rw [← hn]; rfl, hw⟩
end Go.Proofs.YtaacfjdknlglhaaGreatDoor
/- A flight, plain: the document's steps; how the program's go with them. No program in sight. Condition: none. -/
namespace Go.Proofs.YtaacfjdknlglhaaGreatDoor
set_option linter.unusedVariables false
open Go Go.VC

/-! ### Sold, told -/
def cntL (k : Int) : List Hold → Int
  | [] => 0
  | h :: L => (if h.cls = k then h.many else 0) + cntL k L
def soldL (n : Nat) (L : List Hold) : List Int := (List.range n).map fun (k : Nat) => cntL (k : Int) L
def takenL (L : List Hold) : List Int := L.flatMap Hold.seats
theorem cntL_cons (k : Int) (h : Hold) (L : List Hold) : cntL k (h :: L) = (if h.cls = k then h.many else 0) + cntL k L := rfl
theorem cntL_app (k : Int) : ∀ A B : List Hold, cntL k (A ++ B) = cntL k A + cntL k B
  | [], B => by simp [cntL]
  | h :: A, B => by simp only [List.cons_append, cntL, cntL_app k A B]; omega
theorem cntL_perm {k : Int} {A B : List Hold} (h : A.Perm B) : cntL k A = cntL k B := by
  induction h with
  | nil => rfl
  | cons x _ ih => simp only [cntL, ih]
  | swap x y l => simp only [cntL]; exact Int.add_left_comm _ _ _
  | trans _ _ a b => exact a.trans b
theorem soldL_perm {n : Nat} {A B : List Hold} (h : A.Perm B) : soldL n A = soldL n B := by
  unfold soldL
  exact List.map_congr_left fun k _ => cntL_perm h
theorem soldL_len (n : Nat) (L : List Hold) : (soldL n L).length = n := by simp [soldL]
theorem soldL_get {n k : Nat} {L : List Hold} (h : k < (soldL n L).length) : (soldL n L)[k] = cntL (k : Int) L := by simp [soldL]
theorem soldL_getD {n k : Nat} {L : List Hold} (h : k < n) : (soldL n L).getD k 0 = cntL (k : Int) L := by
  rw [List.getD_eq_getElem?_getD, List.getElem?_eq_getElem (by rw [soldL_len]; exact h), soldL_get]; rfl
theorem soldL_set {n : Nat} {L L' : List Hold} {c : Int} {x : Int} (h0 : 0 ≤ c) (h1 : c < n) (hc : cntL c L' = x) (ho : ∀ k : Nat, (k : Int) ≠ c → cntL (k : Int) L' = cntL (k : Int) L) : (soldL n L).set c.toNat x = soldL n L' := by
  apply List.ext_getElem
  · simp [soldL]
  · intro i h2 h3
    rw [List.getElem_set]
    split
    · rename_i e
      rw [soldL_get]
      rw [← hc]
      congr 1
      omega
    · rename_i e
      rw [soldL_get, soldL_get]
      exact (ho i (by omega)).symm
theorem soldL_put {n : Nat} {h : Hold} {L L' : List Hold} (p : L'.Perm (h :: L)) (h0 : 0 ≤ h.cls) (h1 : h.cls < n) : (soldL n L).set h.cls.toNat ((soldL n L).getD h.cls.toNat 0 + h.many) = soldL n L' := by
  refine soldL_set h0 h1 ?_ fun k hk => ?_
  · rw [soldL_getD (by omega), cntL_perm p, show ((h.cls.toNat : Nat) : Int) = h.cls by omega]
    rw [cntL_cons, if_pos rfl]; omega
  · rw [cntL_perm p]
    show (if h.cls = (k : Int) then h.many else 0) + cntL (k : Int) L = _
    rw [if_neg (fun e => hk e.symm)]; omega
theorem soldL_out {n : Nat} {h : Hold} {L L' : List Hold} (p : L'.Perm (h :: L)) (h0 : 0 ≤ h.cls) (h1 : h.cls < n) : (soldL n L').set h.cls.toNat ((soldL n L').getD h.cls.toNat 0 - h.many) = soldL n L := by
  refine soldL_set h0 h1 ?_ fun k hk => ?_
  · rw [soldL_getD (by omega), cntL_perm p, show ((h.cls.toNat : Nat) : Int) = h.cls by omega]
    show _ = (if h.cls = h.cls then h.many else 0) + cntL h.cls L - h.many
    rw [if_pos rfl]; omega
  · rw [cntL_perm p]
    show _ = (if h.cls = (k : Int) then h.many else 0) + cntL (k : Int) L
    rw [if_neg (fun e => hk e.symm)]; omega

/-! ### One owner's -/
def getO (o : Int) : List Hold → Option Hold
  | [] => none
  | h :: L => if h.owner = o then some h else getO o L
def setO (o : Int) (h' : Hold) : List Hold → List Hold
  | [] => []
  | h :: L => if h.owner = o then h' :: L else h :: setO o h' L
def delO (o : Int) : List Hold → List Hold
  | [] => []
  | h :: L => if h.owner = o then L else h :: delO o L
def insH (h : Hold) : List Hold → List Hold
  | [] => [h]
  | x :: L => if x.owner < h.owner then x :: insH h L else h :: x :: L
theorem getO_cons (o : Int) (h : Hold) (L : List Hold) : getO o (h :: L) = if h.owner = o then some h else getO o L := rfl
theorem getO_none {o : Int} : ∀ {L : List Hold}, getO o L = none ↔ ∀ h ∈ L, h.owner ≠ o
  | [] => by simp [getO]
  | h :: L => by
    rw [getO_cons]
    constructor
    · intro e x hx
      split at e
      · cases e
      · rename_i hne
        rcases List.mem_cons.1 hx with rfl | hx
        · exact hne
        · exact getO_none.1 e x hx
    · intro e
      rw [if_neg (e h List.mem_cons_self)]
      exact getO_none.2 fun x hx => e x (List.mem_cons_of_mem _ hx)
theorem getO_split {o : Int} {h : Hold} : ∀ {L : List Hold}, getO o L = some h → ∃ A C, L = A ++ h :: C ∧ getO o A = none ∧ h.owner = o
  | [], e => by cases e
  | x :: L, e => by
    rw [getO_cons] at e
    split at e
    · rename_i hx; cases e; exact ⟨[], L, rfl, rfl, hx⟩
    · rename_i hx
      obtain ⟨A, C, rfl, hA, ho⟩ := getO_split e
      exact ⟨x :: A, C, rfl, by rw [getO_cons, if_neg hx]; exact hA, ho⟩
theorem getO_app {o : Int} {h : Hold} {C : List Hold} (ho : h.owner = o) : ∀ {A : List Hold}, getO o A = none → getO o (A ++ h :: C) = some h
  | [], _ => by show getO o (h :: C) = _; rw [getO_cons, if_pos ho]
  | x :: A, e => by
    rw [getO_cons] at e
    split at e
    · cases e
    · rename_i hx
      show getO o (x :: (A ++ h :: C)) = _
      rw [getO_cons, if_neg hx]; exact getO_app ho e
theorem setO_app {o : Int} {h h' : Hold} {C : List Hold} (ho : h.owner = o) : ∀ {A : List Hold}, getO o A = none → setO o h' (A ++ h :: C) = A ++ h' :: C
  | [], _ => by show setO o h' (h :: C) = _; unfold setO; rw [if_pos ho]; rfl
  | x :: A, e => by
    rw [getO_cons] at e
    split at e
    · cases e
    · rename_i hx
      show setO o h' (x :: (A ++ h :: C)) = _
      unfold setO
      rw [if_neg hx, setO_app ho e]; rfl
theorem delO_app {o : Int} {h : Hold} {C : List Hold} (ho : h.owner = o) : ∀ {A : List Hold}, getO o A = none → delO o (A ++ h :: C) = A ++ C
  | [], _ => by show delO o (h :: C) = _; unfold delO; rw [if_pos ho]; rfl
  | x :: A, e => by
    rw [getO_cons] at e
    split at e
    · cases e
    · rename_i hx
      show delO o (x :: (A ++ h :: C)) = _
      unfold delO
      rw [if_neg hx, delO_app ho e]; rfl
theorem placeF_split {o : Int} {h : Hold} {C : List Hold} (ho : h.owner = o) : ∀ {A : List Hold} (k : Nat), getO o A = none → placeF o (A ++ h :: C) k = ((k + A.length : Nat) : Int)
  | [], k, _ => by show placeF o (h :: C) k = _; rw [placeF_cons, if_pos ho]; simp
  | x :: A, k, e => by
    rw [getO_cons] at e
    split at e
    · cases e
    · rename_i hx
      show placeF o (x :: (A ++ h :: C)) k = _
      rw [placeF_cons, if_neg hx, placeF_split ho (k + 1) e, List.length_cons]
      congr 1; omega
theorem placeF_none {o : Int} : ∀ {L : List Hold} (k : Nat), getO o L = none → placeF o L k = -1
  | [], _, _ => rfl
  | x :: L, k, e => by
    rw [getO_cons] at e
    split at e
    · cases e
    · rename_i hx; rw [placeF_cons, if_neg hx]; exact placeF_none (k + 1) e
theorem insH_perm (h : Hold) : ∀ L : List Hold, (insH h L).Perm (h :: L)
  | [] => List.Perm.refl _
  | x :: L => by
    unfold insH
    split
    · exact ((insH_perm h L).cons x).trans (List.Perm.swap _ _ _)
    · exact List.Perm.refl _

/-- Owners rise. -/
def OwR (L : List Hold) : Prop := L.Pairwise fun a b => a.owner < b.owner
theorem OwR.ne {L : List Hold} (h : OwR L) : L.Pairwise fun a b => a.owner ≠ b.owner := h.imp fun h e => by omega
theorem getO_iff {o : Int} {h : Hold} : ∀ {L : List Hold}, (L.Pairwise fun a b => a.owner ≠ b.owner) → (getO o L = some h ↔ h ∈ L ∧ h.owner = o)
  | [], _ => by simp [getO]
  | x :: L, hp => by
    obtain ⟨h1, h2⟩ := List.pairwise_cons.1 hp
    rw [getO_cons]
    split
    · rename_i hx
      constructor
      · intro e; cases e; exact ⟨List.mem_cons_self, hx⟩
      · rintro ⟨hm, ho⟩
        rcases List.mem_cons.1 hm with rfl | hm
        · rfl
        · exact absurd (hx.trans ho.symm) (h1 h hm)
    · rename_i hx
      rw [getO_iff h2]
      constructor
      · rintro ⟨a, b⟩; exact ⟨List.mem_cons_of_mem _ a, b⟩
      · rintro ⟨hm, ho⟩
        rcases List.mem_cons.1 hm with rfl | hm
        · exact absurd ho hx
        · exact ⟨hm, ho⟩
theorem getO_perm {o : Int} {A B : List Hold} (p : A.Perm B) (h : A.Pairwise fun a b => a.owner ≠ b.owner) : getO o A = getO o B := by
  have h' : B.Pairwise fun a b => a.owner ≠ b.owner := (p.pairwise_iff fun h => h.symm).1 h
  apply Option.ext
  intro x
  rw [getO_iff h, getO_iff h', p.mem_iff]
theorem insH_rise {h : Hold} : ∀ {L : List Hold}, OwR L → getO h.owner L = none → OwR (insH h L)
  | [], _, _ => by simp [OwR, insH]
  | x :: L, hp, hn => by
    obtain ⟨h1, h2⟩ := List.pairwise_cons.1 hp
    rw [getO_cons] at hn
    split at hn
    · cases hn
    rename_i hx
    unfold insH
    split
    · rename_i hlt
      refine List.pairwise_cons.2 ⟨fun y hy => ?_, insH_rise h2 hn⟩
      rcases List.mem_cons.1 ((insH_perm h L).mem_iff.1 hy) with rfl | hy
      · exact hlt
      · exact h1 y hy
    · rename_i hlt
      refine List.pairwise_cons.2 ⟨fun y hy => ?_, hp⟩
      rcases List.mem_cons.1 hy with rfl | hy
      · omega
      · have := h1 y hy; omega
theorem owR_mid {A C : List Hold} {h h' : Hold} (ho : h'.owner = h.owner) (hp : OwR (A ++ h :: C)) : OwR (A ++ h' :: C) := by
  unfold OwR at *
  rw [List.pairwise_append, List.pairwise_cons] at *
  refine ⟨hp.1, ⟨fun y hy => by rw [ho]; exact hp.2.1.1 y hy, hp.2.1.2⟩, fun a ha b hb => ?_⟩
  rcases List.mem_cons.1 hb with rfl | hb
  · rw [ho]; exact hp.2.2 a ha h List.mem_cons_self
  · exact hp.2.2 a ha b (List.mem_cons_of_mem _ hb)
theorem owR_cut {A C : List Hold} {h : Hold} (hp : OwR (A ++ h :: C)) : OwR (A ++ C) := by
  unfold OwR at *
  rw [List.pairwise_append, List.pairwise_cons] at hp
  rw [List.pairwise_append]
  exact ⟨hp.1, hp.2.1.2, fun a ha b hb => hp.2.2 a ha b (List.mem_cons_of_mem _ hb)⟩

/-! ### The document's steps -/
def RF.sold (r : RF) : List Int := soldL r.lims.length r.L
def rtakeF (r : RF) (owner cls many : Int) : RF × Int :=
  if owner < 1 ∨ owner > 28629151 then (r, 1) else if (getO owner r.L).isSome then (r, 7)
  else if (sellT r.lims r.sold cls many).2 = 0 then ({ r with L := insH ⟨owner, cls, many, []⟩ r.L }, 0) else (r, (sellT r.lims r.sold cls many).2)
def rgiveF (r : RF) (owner : Int) : RF × Int :=
  match getO owner r.L with
  | none => (r, 2)
  | some _ => ({ r with L := delO owner r.L }, 0)
def rseatF (r : RF) (owner : Int) (lab : ByteArray) : RF × Int :=
  match getO owner r.L with
  | none => (r, 2)
  | some h => if (findT r.rows r.grps lab).2 ≠ 0 then (r, 2) else if (h.seats.length : Int) ≥ h.many then (r, 7)
    else if (findT r.rows r.grps lab).1 ∈ takenL r.L then (r, 3)
    else ({ r with L := setO owner (h.put (findT r.rows r.grps lab).1) r.L }, 0)
def runseatF (r : RF) (owner : Int) (lab : ByteArray) : RF × Int :=
  match getO owner r.L with
  | none => (r, 2)
  | some h => if (findT r.rows r.grps lab).2 ≠ 0 then (r, 2) else if (findT r.rows r.grps lab).1 ∈ h.seats then ({ r with L := setO owner (h.cut (findT r.rows r.grps lab).1) r.L }, 0) else (r, 2)
def rautoF (r : RF) (owner : Int) : RF × List ByteArray × Int :=
  match getO owner r.L with
  | none => (r, [], 2)
  | some h => if h.seats.length > 0 then (r, [], 7)
    else if (bestT r.rows r.grps (takenL r.L) h.many).2 = 0 then ({ r with L := setO owner { h with seats := (bestT r.rows r.grps (takenL r.L) h.many).1 } r.L }, labsF r.rows r.grps (bestT r.rows r.grps (takenL r.L) h.many).1, 0)
    else (r, [], (bestT r.rows r.grps (takenL r.L) h.many).2)
def rlabelsF (r : RF) (owner : Int) : List ByteArray := match getO owner r.L with | none => [] | some h => labsF r.rows r.grps h.seats
def rleftsF (r : RF) : List Int := (List.range r.lims.length).map fun (k : Nat) => (leftT r.lims r.sold k).1

/-! ### What holds of a flight -/
structure HoldOk (n : Nat) (N : Int) (h : Hold) : Prop where
  owner : 1 ≤ h.owner ∧ h.owner ≤ 28629151
  cls : 0 ≤ h.cls ∧ h.cls < n
  many : 1 ≤ h.many
  rise : Rise h.seats
  few : (h.seats.length : Int) ≤ h.many
  seats : ∀ x ∈ h.seats, 0 ≤ x ∧ x < N
structure Good (r : RF) : Prop where
  num : 1 ≤ r.num ∧ r.num ≤ 9999
  lay : layOk r.rows r.grps = true
  nest : nestOk r.lims r.sold = true
  l0 : r.lims.getD 0 0 = layN r.rows r.grps
  rise : OwR r.L
  each : ∀ h ∈ r.L, HoldOk r.lims.length (layN r.rows r.grps) h
  apart : r.L.Pairwise fun a b => ∀ x ∈ a.seats, x ∉ b.seats

/-- The program's flight goes with the document's. -/
structure Tie (f : PF) (r : RF) : Prop where
  num : f.num = r.num
  rows : f.rows = r.rows
  grps : f.grps = r.grps
  lims : f.lims = r.lims
  sold : f.sold = r.sold
  hs : (f.hs.map (·.2)).Perm r.L
  key : ∀ e ∈ f.hs, e.2.owner = e.1
  own : ∀ n o, getM n f.own = some o ↔ ∃ h ∈ r.L, h.owner = o ∧ n ∈ h.seats
  nod : (f.own.map (·.1)).Nodup

theorem tie_get1 {o : Int} : ∀ {hs : List (Int × Hold)}, (∀ e ∈ hs, e.2.owner = e.1) → getM o hs = getO o (hs.map (·.2))
  | [], _ => rfl
  | e :: hs, h => by
    have h1 := h e List.mem_cons_self
    have ih := tie_get1 (o := o) fun x hx => h x (List.mem_cons_of_mem _ hx)
    rw [List.map_cons, getO_cons, h1, ← ih]
    show (if o == e.1 then some e.2 else getM o hs) = _
    by_cases he : e.1 = o
    · rw [if_pos he, if_pos (by rw [he]; exact beq_self_eq_true o)]
    · rw [if_neg he, if_neg (by rw [beq_iff_eq]; exact fun e' => he e'.symm)]
variable {f : PF} {r : RF}
theorem Tie.ne (t : Tie f r) (g : OwR r.L) : (f.hs.map (·.2)).Pairwise fun a b => a.owner ≠ b.owner := (t.hs.pairwise_iff fun h => h.symm).2 g.ne
theorem Tie.get (t : Tie f r) (g : OwR r.L) (o : Int) : getM o f.hs = getO o r.L := by
  rw [tie_get1 t.key, getO_perm t.hs (t.ne g)]
theorem Tie.taken (t : Tie f r) (n : Int) : (getM n f.own).isSome = true ↔ n ∈ takenL r.L := by
  unfold takenL
  rw [List.mem_flatMap, Option.isSome_iff_exists]
  constructor
  · rintro ⟨o, h⟩
    obtain ⟨x, hx, _, hn⟩ := (t.own n o).1 h
    exact ⟨x, hx, hn⟩
  · rintro ⟨x, hx, hn⟩
    exact ⟨x.owner, (t.own n x.owner).2 ⟨x, hx, rfl, hn⟩⟩
end Go.Proofs.YtaacfjdknlglhaaGreatDoor
/- A flight: Holds. Condition: bounds on lengths. -/
namespace Go.Proofs.YtaacfjdknlglhaaGreatDoor
set_option linter.unusedVariables false
open Go Go.VC

variable {R : Cx} {Hs Rest : List HP} {w : World}

def hold0 : Hold := ⟨0, 0, 0, []⟩
def holdOf (f : PF) (k : Int) : Hold := (getM k f.hs).getD hold0
def holdsF (f : PF) : List Hold := (sortI (f.hs.map (·.1))).map (holdOf f)

theorem elH : ElN Tryz.prog 46 46 51 4 48 := ⟨Tryz.underlying46, ⟨_, Tryz.underlying46⟩, by kernel_rfl⟩
theorem HoldsL.nil (hw : Sat R Hs w) : Sat R (HoldsL ⟨none, 0, 0⟩ [] :: Hs) w := Sat.holdsL.2 ⟨[], rfl, OwnN.nil hw⟩
theorem rowsH_snoc {L : List Hold} {ts : List Sl} (hl : ts.length = L.length) (h : Hold) (t : Sl) : rowsH (L ++ [h]) (ts ++ [t]) = rowsH L ts ++ [rowH h t] := by
  unfold rowsH
  rw [List.zip_append hl.symm, List.map_append]; rfl
theorem seatsH_snoc {L : List Hold} {ts : List Sl} (hl : ts.length = L.length) (h : Hold) (t : Sl) : seatsH (L ++ [h]) (ts ++ [t]) = seatsH L ts ++ [Reads t (intsI h.seats)] := by
  unfold seatsH
  rw [List.zip_append hl.symm, List.map_append]; rfl
theorem HoldsL.snoc {s : Sl} {L : List Hold} {ts : List Sl} {h : Hold} {t : Sl} (hl : ts.length = L.length) (hw : Sat R (OwnN 4 s 51 (rowsH L ts ++ [rowH h t]) :: Reads t (intsI h.seats) :: (seatsH L ts ++ Hs)) w) : Sat R (HoldsL s (L ++ [h]) :: Hs) w := by
  refine Sat.holdsL.2 ⟨ts ++ [t], by simp [hl], ?_⟩
  rw [rowsH_snoc hl, seatsH_snoc hl, List.append_assoc]
  exact hw.cons fun _ h5 => h5.perm List.perm_middle.symm

theorem holds_fspec {p : Nat} {f : PF} (hu : (f.hs.map (·.1)).Nodup) (hn : ∀ k ∈ f.hs.map (·.1), -1000000000 ≤ k ∧ k ≤ 1000000000) (hlen : f.hs.length ≤ 100000) (hR : ∀ e ∈ f.hs, e.2.seats.length ≤ 1000000) (hw : Sat R (FlightAt p f :: Hs) w) :
    Gets Tryz.prog 16 #[.pointer (some ⟨p, 0, none⟩)] w fun v w' => ∃ t : Sl, v = .slice t.a t.len t.cap ∧ Sat R (HoldsL t (holdsF f) :: FlightAt p f :: Hs) w' := by
  obtain ⟨hm, om, sg, sl, ss, E, R', hE, _, _, _, _, hw, back⟩ := Sat.flightO hw
  have hk1 : (hPtrs E).map (·.1) = f.hs.map (·.1) := by rw [← hE]; simp [hPtrs, hEr, Function.comp_def]
  have hel : (hPtrs E).length = f.hs.length := by rw [← hE]; simp [hPtrs, hEr]
  apply call16
  refine NilP.mk rfl ⟨some hm, At.own (eqS hw) (by exact ⟨rfl, trivial⟩), ?_⟩
  refine sortedH_rule (es := hPtrs E) (by rw [hk1]; exact hu) (by rw [hk1]; exact hn) (by omega) (hw.take (MapAt hm (hPtrs E))) fun sk w hw => ?_
  rw [hk1] at hw
  have hksl : (sortI (f.hs.map (·.1))).length = f.hs.length := by unfold sortI; rw [List.length_mergeSort, List.length_map]
  have hmem : ∀ k ∈ sortI (f.hs.map (·.1)), k ∈ f.hs.map (·.1) := fun k hk => List.mem_mergeSort.1 hk
  unfold holdsF
  generalize sortI (f.hs.map (·.1)) = ks at *
  obtain ⟨R2, e2, hks, hw⟩ := Own.leak hw
  have hkl := hks.len
  rw [List.length_map] at hkl
  have hro : RoI R2 sk ks := hks.ro (by rw [List.length_map]; omega)
  have hw : Sat R2 (FO p hm om sg sl ss E f Hs) w := hw.arr
  refine ⟨fun out i w => ∃ j : Nat, i = j ∧ j ≤ ks.length ∧ Sat R2 (HoldsL out ((ks.take j).map (holdOf f)) :: FO p hm om sg sl ss E f Hs) w, fun _ i _ => ks.length - i.toNat, ⟨0, rfl, by omega, HoldsL.nil hw⟩, ?_⟩
  clear hw
  rintro _ out _ w ⟨j, rfl, hj, hw⟩
  refine Br.d (fun h => ?_) (fun h => ?_)
  · have hj2 : j < ks.length := by omega
    refine Ro.ix hro (eqS hw) j rfl hj2 ?_
    have hkin : (getM ks[j] E).isSome = true := by
      have h1 := hmem ks[j] (List.getElem_mem _)
      rw [← hE, hEr, List.map_map] at h1
      obtain ⟨e, he, hek⟩ := List.mem_map.1 h1
      have key : ∀ (l : List HE), e ∈ l → (getM ks[j] l).isSome = true := fun l => by
        induction l with
        | nil => intro h; cases h
        | cons x l ih =>
          intro h
          show (if ks[j] == x.1 then some x.2 else getM ks[j] l).isSome = true
          split
          · rfl
          · rename_i hx
            rcases List.mem_cons.1 h with rfl | h
            · exact absurd (beq_iff_eq.2 hek.symm) hx
            · exact ih h
      exact key E he
    obtain ⟨⟨b, h⟩, hget⟩ := Option.isSome_iff_exists.1 hkin
    have hof : holdOf f ks[j] = h := by unfold holdOf; rw [← hE, hEr_get, hget]; rfl
    have htk : (ks.take (j + 1)).map (holdOf f) = (ks.take j).map (holdOf f) ++ [h] := by
      rw [List.take_add_one, List.getElem?_eq_getElem hj2, Option.toList_some, List.map_append, List.map_singleton, hof]
    have hLl : ((ks.take j).map (holdOf f)).length = j := by rw [List.length_map, List.length_take]; omega
    generalize (ks.take j).map (holdOf f) = L at *
    generalize ks[j] = k at *
    obtain ⟨a, c, rfl, hna⟩ := getM_split hget
    have hl : h.seats.length ≤ 1000000 := hR (k, h) (by rw [← hE, hEr_app]; simp)
    refine NilP.mk rfl ⟨some hm, At.own (eqS hw) (by exact ⟨rfl, trivial⟩), some ⟨b, 0, none⟩, fun w' e => ?_, NilP.mk rfl ?_⟩
    · rw [show w' = w from e, hold_look (hw.take (MapAt hm (hPtrs (a ++ (k, b, h) :: c)))) k false, hget]; rfl
    have hw : Sat R2 (FO p hm om sg sl ss (a ++ (k, b, h) :: c) f (HoldsL out L :: Hs)) w := hw.arr
    obtain ⟨s, hw⟩ := FO.open hw
    refine ⟨h.owner, h.cls, h.many, s, At.own (eqS hw) (by exact ⟨rfl, rfl, rfl, rfl, trivial⟩), ?_⟩
    refine new_rule hw fun bh w hw => ?_
    have hw : Sat R2 (pts bh (hCells ⟨0, 0, 0, []⟩ ⟨none, 0, 0⟩) :: FO1 p hm om b sg sl ss s (a ++ (k, b, h) :: c) (a ++ c) f h f.own (HoldsL out L :: Hs)) w := hw
    refine store_rule hw (by kernel_rfl) rfl (by simp [Value.cells]) fun w hw => ?_
    have hw := hw.re (pts bh (hCells h s))
    refine ⟨s, At.own (eqS hw) (by exact ⟨rfl, trivial⟩), ?_⟩
    obtain ⟨R3, hro3, _, hw3, back3⟩ := Own.lend (hw.take (Own s 3 (intsI h.seats))) (by rw [List.length_map]; omega)
    refine (cloneI_spec hro3 (by omega) hw3).use ?_
    clear hw hw3
    rintro _ w ⟨t, rfl, hw⟩
    have hw := back3 hw
    refine ⟨t, rfl, ?_⟩
    have hw : Sat R2 (pts bh (hCells h s) :: Own t 3 (intsI h.seats) :: FO1 p hm om b sg sl ss s (a ++ (k, b, h) :: c) (a ++ c) f h f.own (HoldsL out L :: Hs)) w := hw.arr
    refine store_rule hw (by kernel_rfl) rfl (by simp [Value.cells]) fun w hw => ?_
    have hw := hw.re (pts bh (hCells h t))
    refine ⟨h.owner, h.cls, h.many, t, At.own (eqS hw) (by exact ⟨rfl, rfl, rfl, rfl, trivial⟩), ?_⟩
    obtain ⟨ts, hts, hw⟩ := Sat.holdsL.1 (hw.take (HoldsL out L))
    have hrl := rowsH_len hts
    refine pushN_rule (x := rowH h t) elH hw rfl rfl (by omega) (by omega) fun o2 w hw => ?_
    rw [wrap64 (by omega) (by omega)]
    refine ⟨⟨j + 1, by omega, by omega, ?_⟩, by dsimp only; omega⟩
    rw [htk]
    have hw : Sat R2 (OwnN 4 o2 51 (rowsH L ts ++ [rowH h t]) :: (seatsH L ts ++ (Own t 3 (intsI h.seats) :: pts bh (hCells h t) :: FO1 p hm om b sg sl ss s (a ++ (k, b, h) :: c) (a ++ c) f h f.own Hs))) w :=
      hw.cons fun _ h5 => h5.perm (List.Perm.append_left _ (Arr.perm (Hs := _) (Hs' := Own t 3 (intsI h.seats) :: pts bh (hCells h t) :: FO1 p hm om b sg sl ss s (a ++ (k, b, h) :: c) (a ++ c) f h f.own Hs)))
    have hw : Sat R2 (OwnN 4 o2 51 (rowsH L ts ++ [rowH h t]) :: Reads t (intsI h.seats) :: (seatsH L ts ++ (pts bh (hCells h t) :: FO1 p hm om b sg sl ss s (a ++ (k, b, h) :: c) (a ++ c) f h f.own Hs))) w :=
      hw.cons fun _ h5 => Own.reads (h5.perm List.perm_middle)
    have hw := HoldsL.snoc hts hw
    exact hw.cons fun _ h5 => FO.close (f := f) h5.drop
  · rw [List.take_of_length_le (by omega)] at hw
    refine ⟨out, rfl, ?_⟩
    have hw := e2.back hw
    have hw := back _ _ hw
    exact Sat.cons (fun _ h5 => Sat.flightC hE h5) (hw.take (HoldsL out (ks.map (holdOf f))))
end Go.Proofs.YtaacfjdknlglhaaGreatDoor
/- A flight's bytes. Condition: bounds on lengths. -/
namespace Go.Proofs.YtaacfjdknlglhaaGreatDoor
set_option linter.unusedVariables false
open Go Go.VC

variable {R : Cx} {Hs Rest : List HP} {w : World}

theorem _root_.Go.VC.Sat.allTru {Hs : List HP} : ∀ {R : Cx}, Sat R Hs w → Sat R [VC.tru] w := by
  induction Hs with
  | nil => exact fun h => h.tru
  | cons A Hs ih => exact fun h => Sat.absorb (h.cons fun _ h => ih h)
theorem _root_.Go.VC.Sat.restTru2 {A : HP} (h : Sat R (A :: Hs) w) : Sat R [A, VC.tru] w := h.cons fun _ h => h.allTru
theorem _root_.Go.VC.MapAt.len {P : Program} {α : Type} [BEq α] [KeyK α] {m : Nat} {es : List (α × Value)} {T ty : TypeId} (hT : P.underlying T = some (.map (P.mapKeyOf T) (P.mapElemOf T))) (hw : Sat R (MapAt m es :: Hs) w) :
    (Builtin.len_ #[T] ty #[.map (some m)]).run P w = .ok (.int .i64 es.length) w := by
  obtain ⟨l, c, hs, hst, hp⟩ := MapAt.iff.1 hw
  rw [run_len_map w T ty m _ c hT hp.at]
  subst hs
  simp [goInt, strip]

def listB (l : List Int) : List Int := numsB [(l.length : Int)] ++ numsB l
def holdB (h : Hold) : List Int := numsB [h.owner, h.cls, h.many] ++ listB h.seats
def holdsB (L : List Hold) : List Int := (L.map holdB).flatten
def encB (num rows : Int) (grps lims : List Int) (L : List Hold) : List Int := numsB [num, rows] ++ listB grps ++ listB lims ++ numsB [(L.length : Int)] ++ holdsB L

abbrev small (l : List Int) : Prop := ∀ x ∈ l, 0 ≤ x ∧ x < 9223372036854775808
theorem small_u {l : List Int} (h : small l) : ∀ x ∈ l, 0 ≤ x ∧ x < 18446744073709551616 := fun x hx => by have := h x hx; omega
theorem listB_len {l : List Int} (h : small l) (hl : l.length < 9223372036854775808) : (listB l).length ≤ 9 * l.length + 9 := by
  unfold listB
  have h1 := numsB_len (small_u h)
  have h2 : (numsB [(l.length : Int)]).length ≤ 9 := numsB_len (by intro y hy; simp at hy; omega)
  rw [List.length_append]; omega
theorem listB_bd {l : List Int} (h : small l) (hl : l.length < 9223372036854775808) : ∀ y ∈ listB l, 0 ≤ y ∧ y < 256 := by
  unfold listB
  intro y hy
  rcases List.mem_append.1 hy with hy | hy
  · exact numsB_bd (by intro y hy; simp at hy; omega) y hy
  · exact numsB_bd (small_u h) y hy
structure HSmall (h : Hold) : Prop where
  o : 0 ≤ h.owner ∧ h.owner < 9223372036854775808
  c : 0 ≤ h.cls ∧ h.cls < 9223372036854775808
  m : 0 ≤ h.many ∧ h.many < 9223372036854775808
  s : small h.seats
  n : h.seats.length ≤ 1000
theorem HSmall.three {h : Hold} (a : HSmall h) : small [h.owner, h.cls, h.many] := by
  intro x hx
  rcases List.mem_cons.1 hx with rfl | hx
  · exact a.o
  rcases List.mem_cons.1 hx with rfl | hx
  · exact a.c
  rw [List.mem_singleton.1 hx]; exact a.m
theorem holdB_len {h : Hold} (a : HSmall h) : (holdB h).length ≤ 9036 := by
  unfold holdB
  have h1 : (numsB [h.owner, h.cls, h.many]).length ≤ 27 := numsB_len (small_u a.three)
  have h2 := listB_len a.s (by have := a.n; omega)
  have := a.n
  rw [List.length_append]; omega
theorem holdB_bd {h : Hold} (a : HSmall h) : ∀ y ∈ holdB h, 0 ≤ y ∧ y < 256 := by
  unfold holdB
  intro y hy
  rcases List.mem_append.1 hy with hy | hy
  · exact numsB_bd (small_u a.three) y hy
  · exact listB_bd a.s (by have := a.n; omega) y hy
theorem holdsB_len : ∀ {L : List Hold}, (∀ h ∈ L, HSmall h) → (holdsB L).length ≤ 9036 * L.length
  | [], _ => Nat.le_refl _
  | h :: L, a => by
    have h1 := holdB_len (a h List.mem_cons_self)
    have h2 := holdsB_len fun x hx => a x (List.mem_cons_of_mem _ hx)
    show (holdB h ++ holdsB L).length ≤ _
    rw [List.length_append, List.length_cons]; omega
theorem holdsB_bd : ∀ {L : List Hold}, (∀ h ∈ L, HSmall h) → ∀ y ∈ holdsB L, 0 ≤ y ∧ y < 256
  | [], _ => fun y hy => by cases hy
  | h :: L, a => by
    intro y hy
    have hy : y ∈ holdB h ++ holdsB L := hy
    rcases List.mem_append.1 hy with hy | hy
    · exact holdB_bd (a h List.mem_cons_self) y hy
    · exact holdsB_bd (fun x hx => a x (List.mem_cons_of_mem _ hx)) y hy
theorem holdsB_take {L : List Hold} {j : Nat} (h : j < L.length) : holdsB (L.take (j + 1)) = holdsB (L.take j) ++ holdB L[j] := by
  unfold holdsB
  rw [List.take_add_one, List.getElem?_eq_getElem h, List.map_append, List.flatten_append]
  simp only [Option.toList_some, List.map_cons, List.map_nil, List.flatten_cons, List.flatten_nil, List.append_nil]

abbrev putV (pb : Nat) : Value := .func (.func 71) #[] #[.pointer (some ⟨pb, 0, none⟩)]
abbrev putC (bp pb : Nat) : HP := pts bp (.cells [putV pb].toArray 106 (0, 0))
/-- 'put(..)', of a few numbers. -/
theorem put_few {bn pb : Nat} {bs xs : List Int} {n : Nat} (hn : n = xs.length) (hxs : small xs) (hl : bs.length + 9 * xs.length ≤ 1099511627776) (hw : Sat R (pts bn (.cells (xs.map (Value.int .i64)).toArray 3 (0, 0)) :: OutB pb bs :: Hs) w) :
    CalW Tryz.prog cl (putV pb) [.slice (some ⟨bn, 0, none⟩) n n] w fun e w' => e = .returned (.tuple #[]) ∧ Sat R (OutB pb (bs ++ numsB xs) :: Hs) w' := by
  refine CalW.mk (by kernel_rfl) ?_
  have hw := own_lit (n := n) hw (by rw [List.length_map]; exact hn)
  obtain ⟨R1, hr1, keep1, hw, back1⟩ := Own.lendI hw (by omega)
  refine (eput_spec (s := ⟨some ⟨bn, 0, none⟩, n, n⟩) hxs hl hr1 hw).use ?_
  rintro _ w ⟨rfl, hw⟩
  exact ⟨rfl, (back1 hw).drop⟩

theorem elist_spec {bp pb : Nat} {s : Sl} {xs bs : List Int} (hxs : small xs) (hl : bs.length + 9 * xs.length ≤ 1000000000) (hs : RoI R s xs) (hw : Sat R (putC bp pb :: OutB pb bs :: Hs) w) :
    Gets Tryz.prog 73 #[.slice s.a s.len s.cap, .pointer (some ⟨bp, 0, none⟩)] w fun v w' => v = .tuple #[] ∧ Sat R (putC bp pb :: OutB pb (bs ++ listB xs) :: Hs) w' := by
  have hsl := hs.len
  have h1 : (numsB [(xs.length : Int)]).length ≤ 9 := numsB_len (by intro y hy; simp at hy; omega)
  apply call73
  refine NilP.mk rfl ⟨putV pb, At.own (eqS hw) (by exact ⟨rfl, trivial⟩), ?_⟩
  rw [hsl]
  refine new_rule hw fun bn w hw => ?_
  have hw : Sat R (pts bn (.cells ([(xs.length : Int)].map (Value.int .i64)).toArray 3 (0, 0)) :: OutB pb bs :: putC bp pb :: Hs) w := hw.cons fun _ h => h.swap
  refine (put_few (n := 1) (by rfl) (by intro y hy; simp at hy; omega) (by simp; omega) hw).mono ?_
  rintro _ w ⟨rfl, hw⟩
  refine ⟨rfl, NilP.mk rfl ⟨putV pb, At.own (eqS hw) (by exact ⟨rfl, trivial⟩), CalW.mk (by kernel_rfl) ?_⟩⟩
  rw [← hsl]
  refine (eput_spec hxs (by rw [List.length_append]; omega) hs hw).use ?_
  rintro _ w ⟨rfl, hw⟩
  refine ⟨rfl, rfl, ?_⟩
  rw [List.append_assoc] at hw
  exact hw.swap
end Go.Proofs.YtaacfjdknlglhaaGreatDoor
/- Reference 15's flight in memory: opened, closed; place, Sold, taken, Left, Labels. Condition: bounds. -/
namespace Go.Proofs.YtaacfjdknlglhaaGreatDoor
set_option linter.unusedVariables false
open Go Go.VC

variable {R R' : Cx} {Hs Rest : List HP} {w : World}

/-! ### Memory -/
def SeatsAt (L : List Hold) (ts : List Sl) : HP := Star (seatsH L ts)
structure RX where
  sg : Sl
  sl : Sl
  s : Sl
  ts : List Sl
def RFAt (q : Nat) (r : RF) : HP := exs fun x : RX =>
  Star [pur (x.ts.length = r.L.length), Reads x.sg (intsI r.grps), Reads x.sl (intsI r.lims), pts q (rCells r x.sg x.sl x.s), OwnN 4 x.s 51 (rowsH r.L x.ts), SeatsAt r.L x.ts]
/-- Its parts. -/
abbrev RO (q : Nat) (r : RF) (sg sl s : Sl) (ts : List Sl) (Hs : List HP) : List HP := Reads sg (intsI r.grps) :: Reads sl (intsI r.lims) :: pts q (rCells r sg sl s) :: OwnN 4 s 51 (rowsH r.L ts) :: SeatsAt r.L ts :: Hs
theorem Sat.rf {q : Nat} {r : RF} : Sat R (RFAt q r :: Hs) w ↔ ∃ sg sl s ts, ts.length = r.L.length ∧ Sat R (RO q r sg sl s ts Hs) w := by
  unfold RFAt
  rw [Sat.exs]
  constructor
  · rintro ⟨⟨sg, sl, s, ts⟩, h⟩
    obtain ⟨h1, h2⟩ := Sat.pur.1 (Sat.star.1 h)
    exact ⟨sg, sl, s, ts, h1, h2⟩
  · rintro ⟨sg, sl, s, ts, h1, h2⟩
    exact ⟨⟨sg, sl, s, ts⟩, Sat.star.2 (Sat.pur.2 ⟨h1, h2⟩)⟩

theorem seats_out : ∀ {L : List Hold} {ts : List Sl} {R : Cx}, ts.length = L.length → Sat R (seatsH L ts ++ Hs) w → ∃ R' : Cx, R.Ext R' ∧ (∀ i (h : i < L.length) (h' : i < ts.length), SlR R'.m ts[i] (intsI L[i].seats)) ∧ Sat R' Hs w ∧ ∀ Hs' w', Sat R' Hs' w' → Sat R (seatsH L ts ++ Hs') w'
  | [], _, R, _, hw => ⟨R, Cx.Ext.refl, fun i h => by simp at h, by simpa [seatsH] using hw, fun Hs' w' h => by simpa [seatsH] using h⟩
  | h :: L, [], R, hl, _ => by simp at hl
  | h :: L, t :: ts, R, hl, hw => by
    have hw : Sat R (Reads t (intsI h.seats) :: (seatsH L ts ++ Hs)) w := hw
    obtain ⟨R1, e1, s1, hw, b1⟩ := Reads.out hw
    obtain ⟨R2, e2, s2, hw, b2⟩ := seats_out (by simpa using hl) hw
    refine ⟨R2, e1.trans e2, fun i h h' => ?_, hw, fun Hs' w' h => b1 _ _ (b2 _ _ h)⟩
    rcases i with _ | i
    · exact e2.slR s1
    · exact s2 i (by simpa using h) (by simpa using h')

/-- All of it to be read. -/
structure RfR (R : Cx) (r : RF) (sg sl s : Sl) (ts : List Sl) : Prop where
  grps : SlR R.m sg (intsI r.grps)
  lims : SlR R.m sl (intsI r.lims)
  hs : HsR R s r.L ts
  cap : s.len ≤ s.cap
theorem RfR.ext {r : RF} {sg sl s : Sl} {ts : List Sl} (h : RfR R r sg sl s ts) (e : R.Ext R') : RfR R' r sg sl s ts :=
  ⟨e.slR h.grps, e.slR h.lims, ⟨h.hs.len, e.roN h.hs.rows, fun i a b => e.slR (h.hs.seats i a b)⟩, h.cap⟩
theorem RfR.len {r : RF} {sg sl s : Sl} {ts : List Sl} (h : RfR R r sg sl s ts) : s.len = r.L.length := by
  have := h.hs.rows.len
  rwa [rowsH_len h.hs.len] at this
theorem RO.out {q : Nat} {r : RF} {sg sl s : Sl} {ts : List Sl} (hl : ts.length = r.L.length) (hw : Sat R (RO q r sg sl s ts Hs) w) : ∃ R', R.Ext R' ∧ RfR R' r sg sl s ts ∧ Sat R' (pts q (rCells r sg sl s) :: Hs) w ∧ ∀ Hs' w', Sat R' (pts q (rCells r sg sl s) :: Hs') w' → Sat R (RO q r sg sl s ts Hs') w' := by
  obtain ⟨R1, e1, g1, hw, b1⟩ := Reads.out hw
  obtain ⟨R2, e2, g2, hw, b2⟩ := Reads.out hw
  have hw : Sat R2 (OwnN 4 s 51 (rowsH r.L ts) :: SeatsAt r.L ts :: pts q (rCells r sg sl s) :: Hs) w := hw.arr
  have hc := OwnN.cap (by omega) hw
  obtain ⟨R3, g3, ⟨x, hx⟩, hw, b3⟩ := OwnN.lend hw
  have e3 : R2.Ext R3 := by rw [hx]; exact Cx.Ext.add
  obtain ⟨R4, e4, g4, hw, b4⟩ := seats_out hl (Sat.star.1 hw)
  refine ⟨R4, e1.trans (e2.trans (e3.trans e4)), ⟨e4.slR (e3.slR (e2.slR g1)), e4.slR (e3.slR g2), ⟨hl, e4.roN g3, g4⟩, hc⟩, hw, fun Hs' w' h => b1 _ _ (b2 _ _ ?_)⟩
  have h1 : Sat R2 (OwnN 4 s 51 (rowsH r.L ts) :: SeatsAt r.L ts :: pts q (rCells r sg sl s) :: Hs') w' := b3 (Sat.star.2 (b4 _ _ h))
  exact h1.arr
theorem Sat.rfO {q : Nat} {r : RF} (hw : Sat R (RFAt q r :: Hs) w) : ∃ sg sl s ts R', R.Ext R' ∧ RfR R' r sg sl s ts ∧ Sat R' (pts q (rCells r sg sl s) :: Hs) w ∧
    (∀ Hs' w', Sat R' (pts q (rCells r sg sl s) :: Hs') w' → Sat R (RO q r sg sl s ts Hs') w') ∧ ts.length = r.L.length := by
  obtain ⟨sg, sl, s, ts, hl, hw⟩ := Sat.rf.1 hw
  obtain ⟨R', e, h, hw, b⟩ := RO.out hl hw
  exact ⟨sg, sl, s, ts, R', e, h, hw, b, hl⟩

/-! ### Reading -/
theorem rplace_spec {q : Nat} {r : RF} {sg sl s : Sl} {ts : List Sl} {owner : Int} (h : RfR R r sg sl s ts) (hll : r.L.length ≤ 1000000) (hw : Sat R (pts q (rCells r sg sl s) :: Hs) w) :
    Gets Tryz.prog 67 #[.pointer (some ⟨q, 0, none⟩), .int .i64 owner] w fun v w' => v = .int .i64 (placeF owner r.L 0) ∧ Sat R (pts q (rCells r sg sl s) :: Hs) w' := by
  have hsl := h.len
  have hl := h.hs.len
  apply call67
  refine ⟨fun i w => ∃ j : Nat, i = j ∧ j ≤ r.L.length ∧ placeF owner (r.L.drop j) j = placeF owner r.L 0 ∧ Sat R (pts q (rCells r sg sl s) :: Hs) w, fun i _ => r.L.length - i.toNat, ⟨0, rfl, by omega, rfl, hw⟩, ?_⟩
  clear hw
  rintro _ _ w ⟨j, rfl, hj, hn, hw⟩
  refine NilP.mk rfl ⟨s, At.own (eqS hw) (by exact ⟨rfl, trivial⟩), Br.d (fun h1 => ?_) (fun h1 => ?_)⟩
  · have j1 : j < r.L.length := by omega
    rw [List.drop_eq_getElem_cons j1, placeF_cons] at hn
    refine NilP.mk rfl ⟨s, At.own (eqS hw) (by exact ⟨rfl, trivial⟩), ?_⟩
    refine h.hs.fld (j := 0) (eqS hw) j1 (by omega) rfl fun x nx hx => ⟨r.L[j].owner, by rw [add_zero_fld _ _ nx]; exact hx, ?_⟩
    refine Br.e (fun h2 => ⟨?_, hw⟩) (fun h2 => ?_)
    · rw [if_pos h2] at hn; rw [hn]
    · rw [if_neg h2] at hn
      rw [wrap64 (by omega) (by omega)]
      exact ⟨⟨j + 1, by omega, by omega, hn, hw⟩, by dsimp only; omega⟩
  · rw [List.drop_eq_nil_of_le (by omega)] at hn
    exact ⟨by rw [← hn]; rfl, hw⟩

structure HCls (n : Nat) (h : Hold) : Prop where
  c : 0 ≤ h.cls ∧ h.cls < n
  m : 0 ≤ h.many ∧ h.many ≤ 10000
theorem cntL_le {k : Int} {n : Nat} : ∀ {L : List Hold}, (∀ h ∈ L, HCls n h) → 0 ≤ cntL k L ∧ cntL k L ≤ 10000 * L.length
  | [], _ => ⟨Int.le_refl _, Int.le_refl _⟩
  | h :: L, a => by
    obtain ⟨i1, i2⟩ := cntL_le (k := k) fun x hx => a x (List.mem_cons_of_mem _ hx)
    have := (a h List.mem_cons_self).m
    rw [cntL_cons, List.length_cons]
    split <;> omega
theorem zer_nums {n : Nat} {K : Sl → World → Prop} (hn : n ≤ 1000) (hw : Sat R Hs w) (k : ∀ s w', Sat R (Own s 3 (intsI (soldL n [])) :: Hs) w' → K s w') :
    ∃ w', ∃ t : Sl, (Instr.makeSlice 33 (.int .i64 (n : Int)) (.int .i64 (n : Int))).run Tryz.prog w = .ok (.slice t.a t.len t.cap) w' ∧ K t w' :=
  make_rule (bytes := 8) (z := .int .i64 0) Tryz.underlying33 (by kernel_rfl) Tryz.zeroValue3 rfl (by omega) (by omega) hw fun s w hw => k s w (by
    have e : intsI (soldL n []) = List.replicate n (.int .i64 0) := by
      apply List.ext_getElem
      · simp [soldL]
      · intro i h1 h2; simp [soldL, cntL]
    rw [e]; exact hw)
theorem rsold_spec {q : Nat} {r : RF} {sg sl s : Sl} {ts : List Sl} (h : RfR R r sg sl s ts) (hll : r.L.length ≤ 1000000) (hlm : r.lims.length ≤ 1000) (hc : ∀ x ∈ r.L, HCls r.lims.length x) (hw : Sat R (pts q (rCells r sg sl s) :: Hs) w) :
    Gets Tryz.prog 47 #[.pointer (some ⟨q, 0, none⟩)] w fun v w' => ∃ t : Sl, v = .slice t.a t.len t.cap ∧ Sat R (Own t 3 (intsI r.sold) :: pts q (rCells r sg sl s) :: Hs) w' := by
  have hsl := h.len
  have hl := h.hs.len
  have hlen : sl.len = r.lims.length := by have := h.lims.len; rwa [List.length_map] at this
  apply call47
  refine NilP.mk rfl ⟨sl, At.own (eqS hw) (by exact ⟨rfl, trivial⟩), ?_⟩
  rw [hlen]
  refine zer_nums hlm hw fun t w hw => ?_
  refine ⟨fun i w => ∃ j : Nat, i = j ∧ j ≤ r.L.length ∧ Sat R (Own t 3 (intsI (soldL r.lims.length (r.L.take j))) :: pts q (rCells r sg sl s) :: Hs) w, fun i _ => r.L.length - i.toNat, ⟨0, rfl, by omega, hw⟩, ?_⟩
  clear hw
  rintro _ _ w ⟨j, rfl, hj, hw⟩
  refine NilP.mk rfl ⟨s, At.own (eqS hw) (by exact ⟨rfl, trivial⟩), Br.d (fun h1 => ?_) (fun h1 => ?_)⟩
  · have j1 : j < r.L.length := by omega
    have hx := hc r.L[j] (List.getElem_mem _)
    obtain ⟨c, hce⟩ := Int.eq_ofNat_of_zero_le hx.c.1
    have hcl : c < r.lims.length := by have := hx.c; omega
    have hcb := cntL_le (k := (c : Int)) (n := r.lims.length) (L := r.L.take j) fun x hx => hc x (List.mem_of_mem_take hx)
    rw [List.length_take, Nat.min_eq_left hj] at hcb
    have hsll := soldL_len r.lims.length (r.L.take j)
    have hcv : (soldL r.lims.length (r.L.take j))[c]'(by rw [hsll]; exact hcl) = cntL (c : Int) (r.L.take j) := soldL_get _
    have hput : (soldL r.lims.length (r.L.take j)).set c (cntL (c : Int) (r.L.take j) + r.L[j].many) = soldL r.lims.length (r.L.take (j + 1)) := by
      have h5 := soldL_put (h := r.L[j]) (L := r.L.take j) (L' := r.L.take (j + 1)) (by
        rw [List.take_add_one, List.getElem?_eq_getElem j1]
        exact List.perm_append_comm) hx.c.1 hx.c.2
      rw [hce, Int.toNat_natCast, soldL_getD hcl] at h5
      exact h5
    have hrow : ∀ {S : World → Prop} {Hs : List HP} {i : Nat} {v : Value}, (∀ w, S w → Sat R Hs w) → (rowH r.L[j] (ts[j]'(by omega)))[i]? = some v → ∀ {F : Addr → Prop}, (∀ a : Addr, a.spot = none → At S ⟨(a.add (mulS j 4)).block, (a.add (mulS j 4)).off + i, none⟩ [v] → F a) → Rng (j : Int) s.len (NilP s.a F) := fun {S Hs i v} hS hv {F} f => h.hs.fld hS j1 (by omega) hv f
    refine drw_rule hw fun w hw => ?_
    refine NilP.mk rfl ⟨s, At.own selfS (by exact ⟨rfl, trivial⟩), hrow (i := 1) selfS rfl fun a1 _ h1 => ⟨r.L[j].cls, h1, NilP.mk rfl ⟨s, At.own selfS (by exact ⟨rfl, trivial⟩), hrow (i := 1) selfS rfl fun a2 _ h2 => ⟨r.L[j].cls, h2, ?_⟩⟩⟩⟩
    rw [hce]
    refine Own.ix hw selfS c rfl (by rw [hsll]; omega) ?_
    refine NilP.mk rfl ⟨s, At.own selfS (by exact ⟨rfl, trivial⟩), hrow (i := 2) selfS rfl fun a3 _ h3 => ⟨r.L[j].many, h3, ?_⟩⟩
    rw [hcv, wrap64 (by have := hx.m; omega) (by have := hx.m; omega)]
    refine Own.store (by kernel_rfl) hw (by rw [hsll]; omega) fun w hw => ?_
    rw [hput] at hw
    rw [wrap64 (by omega) (by omega)]
    exact ⟨⟨j + 1, by omega, by omega, hw⟩, by dsimp only; omega⟩
  · rw [List.take_of_length_le (by omega)] at hw
    exact ⟨t, rfl, hw⟩

theorem takenL_take {L : List Hold} {j : Nat} (h : j < L.length) : takenL (L.take (j + 1)) = takenL (L.take j) ++ L[j].seats := by
  unfold takenL
  rw [List.take_add_one, List.getElem?_eq_getElem h, List.flatMap_append]
  simp only [Option.toList_some, List.flatMap_cons, List.flatMap_nil, List.append_nil]
theorem takenL_len : ∀ {L : List Hold}, (∀ h ∈ L, h.seats.length ≤ 1000) → (takenL L).length ≤ 1000 * L.length
  | [], _ => Nat.le_refl _
  | h :: L, a => by
    have h1 := a h List.mem_cons_self
    have h2 := takenL_len fun x hx => a x (List.mem_cons_of_mem _ hx)
    show (h.seats ++ takenL L).length ≤ _
    rw [List.length_append, List.length_cons]; omega
theorem rtaken_spec {q : Nat} {r : RF} {sg sl s : Sl} {ts : List Sl} (h : RfR R r sg sl s ts) (hll : r.L.length ≤ 1000000) (hc : ∀ x ∈ r.L, x.seats.length ≤ 1000) (hw : Sat R (pts q (rCells r sg sl s) :: Hs) w) :
    Gets Tryz.prog 69 #[.pointer (some ⟨q, 0, none⟩)] w fun v w' => ∃ t : Sl, v = .slice t.a t.len t.cap ∧ Sat R (Own t 3 (intsI (takenL r.L)) :: pts q (rCells r sg sl s) :: Hs) w' := by
  have hsl := h.len
  have hl := h.hs.len
  apply call69
  refine ⟨fun out i w => ∃ j : Nat, i = j ∧ j ≤ r.L.length ∧ Sat R (Own out 3 (intsI (takenL (r.L.take j))) :: pts q (rCells r sg sl s) :: Hs) w, fun _ i _ => r.L.length - i.toNat, ⟨0, rfl, by omega, Own.nil hw⟩, ?_⟩
  clear hw
  rintro _ out _ w ⟨j, rfl, hj, hw⟩
  refine NilP.mk rfl ⟨s, At.own (eqS hw) (by exact ⟨rfl, trivial⟩), Br.d (fun h1 => ?_) (fun h1 => ?_)⟩
  · have j1 : j < r.L.length := by omega
    have j2 : j < ts.length := by omega
    have hx := hc r.L[j] (List.getElem_mem _)
    have htk := takenL_len (L := r.L.take j) fun x hx => hc x (List.mem_of_mem_take hx)
    rw [List.length_take, Nat.min_eq_left hj] at htk
    refine NilP.mk rfl ⟨s, At.own (eqS hw) (by exact ⟨rfl, trivial⟩), h.hs.fld (j := 3) (eqS hw) j1 j2 rfl fun a _ ha => ⟨ts[j], ha, ?_⟩⟩
    refine appendRI elI8 (n := 2000000000) Tryz.underlying33 hw ((h.hs.seats j j1 j2).ro (by rw [List.length_map]; omega)) (by omega) (by omega) (by omega) fun s' w hw => ?_
    rw [← takenL_take j1] at hw
    rw [wrap64 (by omega) (by omega)]
    exact ⟨⟨j + 1, by omega, by omega, hw⟩, by dsimp only; omega⟩
  · rw [List.take_of_length_le (by omega)] at hw
    exact ⟨out, rfl, hw⟩

theorem rleft_fspec {q : Nat} {r : RF} (hll : r.L.length ≤ 1000000) (hlm : r.lims.length ≤ 1000) (hc : ∀ x ∈ r.L, HCls r.lims.length x) (hw : Sat R (RFAt q r :: Hs) w) :
    Gets Tryz.prog 45 #[.pointer (some ⟨q, 0, none⟩)] w fun v w' => ∃ t : Sl, v = .slice t.a t.len t.cap ∧ Sat R (Own t 3 (intsI (rleftsF r)) :: RFAt q r :: Hs) w' := by
  obtain ⟨sg, sl, s, ts, R', e, h, hw, back, hl⟩ := Sat.rfO hw
  have hlen : sl.len = r.lims.length := by have := h.lims.len; rwa [List.length_map] at this
  apply call45
  refine ⟨fun out i w => ∃ j : Nat, i = j ∧ j ≤ r.lims.length ∧ Sat R' (Own out 3 (intsI ((List.range j).map fun (k : Nat) => (leftT r.lims r.sold k).1)) :: pts q (rCells r sg sl s) :: Hs) w, fun _ i _ => r.lims.length - i.toNat, ⟨0, rfl, by omega, Own.nil hw⟩, ?_⟩
  clear hw
  rintro _ out _ w ⟨j, rfl, hj, hw⟩
  refine NilP.mk rfl ⟨sl, At.own (eqS hw) (by exact ⟨rfl, trivial⟩), Br.d (fun h1 => ?_) (fun h1 => ?_)⟩
  · have j1 : j < r.lims.length := by omega
    refine drw_rule hw fun w hw => ?_
    refine NilP.mk rfl ⟨sl, At.own selfS (by exact ⟨rfl, trivial⟩), ?_⟩
    refine (rsold_spec h hll hlm hc hw.swap).use ?_
    clear hw
    rintro _ w ⟨t, rfl, hw⟩
    refine ⟨t, rfl, hw.drop.swap, ?_⟩
    obtain ⟨R2, hro, keep, hw, back2⟩ := Own.lendI hw (by show (soldL _ _).length ≤ _; rw [soldL_len]; omega)
    refine (rleft_spec (keep _ _ (h.lims.ro (by rw [List.length_map]; omega))) hro hw).use ?_
    clear hw
    rintro _ w ⟨rfl, hw⟩
    refine ⟨_, _, rfl, ?_⟩
    have hw := (back2 hw).drop.swap
    refine pushI_rule elI8 hw (by simp; omega) fun s' w hw => ?_
    rw [wrap64 (by omega) (by omega)]
    refine ⟨⟨j + 1, by omega, by omega, ?_⟩, by dsimp only; omega⟩
    rw [List.range_succ, List.map_append]
    exact hw
  · obtain rfl : j = r.lims.length := by omega
    refine ⟨out, rfl, ?_⟩
    have hw := back _ _ hw.swap
    have hw : Sat R (RO q r sg sl s ts (Own out 3 (intsI (rleftsF r)) :: Hs)) w := hw
    exact (Sat.rf.2 ⟨sg, sl, s, ts, hl, hw⟩ : Sat R (RFAt q r :: Own out 3 (intsI (rleftsF r)) :: Hs) w).swap

theorem rlabels_fspec {q : Nat} {r : RF} {owner : Int} (hll : r.L.length ≤ 1000000) (hg : r.grps.length ≤ 1000) (hc : ∀ x ∈ r.L, x.seats.length ≤ 1000) (hw : Sat R (RFAt q r :: Hs) w) :
    Gets Tryz.prog 48 #[.pointer (some ⟨q, 0, none⟩), .int .i64 owner] w fun v w' => ∃ t : Sl, v = .slice t.a t.len t.cap ∧ Sat R (Own t 9 ((rlabelsF r owner).map Value.string) :: RFAt q r :: Hs) w' := by
  obtain ⟨sg, sl, s, ts, R', e, h, hw, back, hl⟩ := Sat.rfO hw
  have close : ∀ {out : Sl} {l : List ByteArray} {w}, Sat R' (Own out 9 (l.map Value.string) :: pts q (rCells r sg sl s) :: Hs) w → Sat R (Own out 9 (l.map Value.string) :: RFAt q r :: Hs) w := fun {out l w} hw =>
    (Sat.rf.2 ⟨sg, sl, s, ts, hl, back _ _ hw.swap⟩ : Sat R (RFAt q r :: Own out 9 (l.map Value.string) :: Hs) w).swap
  apply call48
  refine (rplace_spec h hll hw).use ?_
  clear hw
  rintro _ w ⟨rfl, hw⟩
  refine ⟨_, rfl, ?_⟩
  cases hg0 : getO owner r.L with
  | none =>
    rw [placeF_none 0 hg0]
    have el : rlabelsF r owner = [] := by unfold rlabelsF; rw [hg0]
    rw [el]
    refine ⟨fun out i w => i = 0 ∧ out = ⟨none, 0, 0⟩ ∧ Sat R' (pts q (rCells r sg sl s) :: Hs) w, fun _ _ _ => 0, ⟨rfl, rfl, hw⟩, ?_⟩
    rintro _ _ _ w ⟨rfl, rfl, hw⟩
    refine ⟨fun _ => False, Br.f rfl ⟨_, rfl, close (l := []) (Own.nil hw)⟩, ?_⟩
    rintro _ w hf
    exact absurd hf id
  | some hd =>
    obtain ⟨A, C, hL, hA, hown⟩ := getO_split hg0
    have hpl : placeF owner r.L 0 = (A.length : Int) := by rw [hL, placeF_split hown 0 hA, Nat.zero_add]
    have i1 : A.length < r.L.length := by rw [hL]; simp
    have i2 : A.length < ts.length := by omega
    have hgi : r.L[A.length] = hd := by simp [hL]
    have hsd := h.hs.seats A.length i1 i2
    rw [hgi] at hsd
    have hx := hc hd (by rw [hL]; simp)
    have hro : RoI R' ts[A.length] hd.seats := hsd.ro (by rw [List.length_map]; omega)
    have hrl := hro.len
    have el : rlabelsF r owner = labsF r.rows r.grps hd.seats := by unfold rlabelsF; rw [hg0]
    have hrow : ∀ {S : World → Prop} {Hs : List HP} {i : Nat} {v : Value}, (∀ w, S w → Sat R' Hs w) → (rowH hd ts[A.length])[i]? = some v → ∀ {F : Addr → Prop}, (∀ a : Addr, a.spot = none → At S ⟨(a.add (mulS A.length 4)).block, (a.add (mulS A.length 4)).off + i, none⟩ [v] → F a) → Rng (A.length : Int) s.len (NilP s.a F) := fun {S Hs i v} hS hv {F} f => h.hs.fld hS i1 i2 (by rw [hgi]; exact hv) f
    rw [hpl, el]
    refine ⟨fun out i w => ∃ j : Nat, i = j ∧ j ≤ hd.seats.length ∧ Sat R' (Own out 9 ((labsF r.rows r.grps (hd.seats.take j)).map Value.string) :: pts q (rCells r sg sl s) :: Hs) w, fun _ i _ => hd.seats.length - i.toNat, ⟨0, rfl, by omega, Own.nil hw⟩, ?_⟩
    clear hw
    rintro _ out _ w ⟨j, rfl, hj, hw⟩
    refine ⟨fun w => j < hd.seats.length ∧ Sat R' (Own out 9 ((labsF r.rows r.grps (hd.seats.take j)).map Value.string) :: pts q (rCells r sg sl s) :: Hs) w, ?_, ?_⟩
    · refine Br.t (by simp) (NilP.mk rfl ⟨s, At.own (eqS hw) (by exact ⟨rfl, trivial⟩), hrow (i := 3) (eqS hw) rfl fun a _ ha => ⟨ts[A.length], ha, Br.d (fun h1 => ⟨by omega, hw⟩) (fun h1 => ?_)⟩⟩)
      rw [List.take_of_length_le (by omega)] at hw
      exact ⟨_, rfl, close hw⟩
    clear hw
    rintro _ w ⟨hj2, hw⟩
    refine drw_rule hw fun w hw => ?_
    refine NilP.mk rfl ⟨r.rows, sg, At.own selfS (by exact ⟨rfl, rfl, trivial⟩), NilP.mk rfl ⟨s, At.own selfS (by exact ⟨rfl, trivial⟩), hrow (i := 3) selfS rfl fun a _ ha => ⟨ts[A.length], ha, ?_⟩⟩⟩
    refine Ro.ix hro selfS j rfl hj2 ?_
    refine (rlabel_spec (h.grps.ro (by rw [List.length_map]; omega)) hw).use ?_
    clear hw
    rintro _ w ⟨rfl, hw⟩
    have hlab : (labsF r.rows r.grps (hd.seats.take j)).length = j := by unfold labsF; rw [List.length_map, List.length_take]; omega
    refine ⟨_, _, rfl, hw, ?_⟩
    refine push_rule elStr hw (oneAll_str _) rfl (by rw [List.length_map, hlab]; omega) (by rw [List.length_map, hlab]; omega) fun t w hw => ?_
    rw [wrap64 (by omega) (by omega)]
    refine ⟨⟨j + 1, by omega, by omega, ?_⟩, by dsimp only; omega⟩
    have e : (labsF r.rows r.grps (hd.seats.take (j + 1))).map Value.string = (labsF r.rows r.grps (hd.seats.take j)).map Value.string ++ [.string (labT r.rows r.grps hd.seats[j]).1] := by
      unfold labsF
      rw [List.take_add_one, List.getElem?_eq_getElem hj2, Option.toList_some, List.map_append, List.map_append]
      rfl
    rw [e]; exact hw
end Go.Proofs.YtaacfjdknlglhaaGreatDoor
